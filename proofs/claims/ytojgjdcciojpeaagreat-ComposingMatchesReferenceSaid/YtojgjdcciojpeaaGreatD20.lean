/-
  A part of the walks of this seat: each theorem says what a function of the program gives. No condition beyond its own premises.
-/
import Derived.Test.YtojgjdcciojpeaaGreatD19
set_option linter.unusedSimpArgs false
set_option linter.unusedVariables false
namespace Go.Proofs.YtojgjdcciojpeaaGreat
open Go Go.PS
set_option maxRecDepth 100000
set_option maxHeartbeats 4000000
theorem slots22 (F : Ev → List (List Ch) × Int) (b : Brd) (tz : Nat) (tp : List D) (l : List Ev) (hl : l.length ≤ 100000) (hF : ∀ e ∈ l, PCall Tryz.prog 20 [b.d, .sl tz tp, e.d] (rD (F e))) (hb : ∀ e ∈ l, (F e).1.length ≤ 100000) :
    PCall Tryz.prog 22 [b.d, .sl tz tp, .sl 6 (l.map Ev.d)] (r3A (slotsF F l 0 [])) := by
  refine enterP tabOk Tryz.func22 48 [0, 1, 2, 3, 6, 7, 8, 9, 10, 15, 29, 38] [.cell 6 50] rfl (r := [_]) rfl (h := ?_); intro E hK; simp only [go_sem]
  refine wgoF (@Brd.d.eq_1) ?_
  (apply Run.full 7 1007 64 1; (case hi => simp only [go_sem]; rfl); (case ht => simp only [go_sem]); (case hmn => first | exact Or.inl (by decide) | exact Or.inr rfl); (case hs => simp only [go_sem]; rfl))
  refine wlp (Run.loopC (ι := { x : Nat × List (List Ch) // x.1 ≤ l.length ∧ x.2.length ≤ 40 ∧ slotsF F (l.drop x.1) x.1 x.2 = slotsF F l 0 [] }) (U := fun x => [(7, .own 1 (x.1.2.map slD) (.tok 1007)), (8, .d (.int .i64 x.1.1))]) (O := fun i => []) (K := fun _ => [(1007, .live 64 1)]) (μ := fun x => l.length - x.1.1) (i0 := ⟨(0, []), by omega, by simp, rfl⟩)) ?_
  rintro ⟨⟨i, acc⟩, hi, ha, hp⟩ ih
  dsimp only at hi ha hp
  by_cases hlt : i < l.length
  · have h1 : (i : Int) < l.length := by omega
    have hget := ev_get hlt
    have hc := hF _ (getD_memE hlt)
    have hbb := hb _ (getD_memE hlt)
    rw [slots_drop F hlt] at hp
    generalize F (l.getD i default) = r at hc hbb hp
    obtain ⟨s, x⟩ := r
    dsimp only at hbb hp
    by_cases hx : x = 0
    · subst hx
      rw [if_neg (by simp)] at hp
      by_cases hbig : 40 < acc.length + s.length
      · rw [if_pos hbig] at hp
        have hp2 := hp.symm
        have c1 : (40 : Int) < (acc.length : Int) + (s.length : Int) := by omega
        have e1 := mlen acc
        have e2 := mlen s
        simp only [go_sem]
        refine wgoF (And.intro (@h1) (@hget)) ?_
        refine wcallF (hc) (And.intro (@Ev.d.eq_1) (@Brd.d.eq_1)) ?_
        refine wgoF (And.intro (@rD.eq_1) (And.intro (@slsD.eq_1) (And.intro (@e1) (And.intro (@e2) (@c1))))) ?_
        exact wretF (And.intro (@r3A.eq_1) (And.intro (@hp2) (@slsD.eq_1)))
      · rw [if_neg hbig] at hp
        have c1 : ¬ (40 : Int) < (acc.length : Int) + (s.length : Int) := by omega
        have e1 := mlen acc
        have e2 := mlen s
        have e3 := mapp acc s
        simp only [go_sem]
        refine wgoF (And.intro (@h1) (@hget)) ?_
        refine wcallF (hc) (And.intro (@Ev.d.eq_1) (@Brd.d.eq_1)) ?_
        refine wgoF (And.intro (@rD.eq_1) (And.intro (@slsD.eq_1) (And.intro (@e1) (And.intro (@e2) (@c1))))) ?_
        (apply Run.retok 43 1007; (case hk => simp only [go_sem]; rfl); (case ht => simp only [go_sem]; rfl); (case ht' => simp only [go_sem]); (case hs => simp only [go_sem]; rfl))
        exact wnxt (ih ⟨(i + 1, acc ++ s), by omega, by simp; omega, hp⟩)
    · have hx2 : decide (x = 0) = false := decide_eq_false hx
      rw [if_pos hx] at hp
      have hp2 := hp.symm
      simp only [go_sem]
      refine wgoF (And.intro (@h1) (@hget)) ?_
      refine wcallF (hc) (And.intro (@Ev.d.eq_1) (@Brd.d.eq_1)) ?_
      refine wgoF (And.intro (@rD.eq_1) (And.intro (@slsD.eq_1) (@hx2))) ?_
      exact wretF (And.intro (@r3A.eq_1) (And.intro (@hp2) (@slsD.eq_1)))
  · have h1 : ¬ (i : Int) < l.length := by omega
    obtain rfl : i = l.length := by omega
    have hp2 : slotsF F l 0 [] = (acc, (l.length : Int), 0) := by rw [← hp, List.drop_length]; rfl
    simp only [go_sem]
    refine wgoF (@h1) ?_
    exact wretF (And.intro (@r3A.eq_1) (And.intro (@hp2) (@slsD.eq_1)))
theorem cost24 (l : List (List Ch)) (inp : List UInt8) (hl : l.length ≤ 100000) (hb : cheapL l) : PCall Tryz.prog 24 [slsD l, .str inp] (choR (costF l inp)) := by
  have e1 := mlen l
  by_cases hne : inp.length = l.length
  · have h0 : decide ((inp.length : Int) = (l.length : Int)) = true := decide_eq_true (by omega)
    have hF : costF l inp = costTo l inp l.length := if_pos hne
    refine enterP tabOk Tryz.func24 61 [0, 1, 4, 5, 6, 7, 8, 13, 17, 40, 49] [.tmp 4, .tmp 5] rfl (r := [_, _]) rfl (h := ?_); intro E hK; simp only [go_sem]
    refine wgoF (And.intro (@slsD.eq_1) (And.intro (@h0) (@e1))) ?_
    refine wlp (Run.loopC (ι := { x : Nat × Int // x.1 ≤ l.length ∧ costTo l inp x.1 = some x.2 }) (U := fun x => [(6, .d (.int .i64 x.1.2)), (7, .d (.int .i64 x.1.1))]) (O := fun i => []) (K := fun _ => []) (μ := fun x => l.length - x.1.1) (i0 := ⟨(0, 0), by omega, rfl⟩)) ?_
    rintro ⟨⟨i, v⟩, hi, hp⟩ ih0
    dsimp only at hi hp
    by_cases hlt : i < l.length
    · have h1 : (i : Int) < l.length := by omega
      have h1b : (i : Int) < inp.length := by omega
      have hget := sl_get hlt
      have e : l.getD i [] = l[i] := by simp [hlt]
      have hm := hb _ (List.getElem_mem hlt)
      rw [← e] at hm
      have hbd := cost_bd hb inp i v hi hp
      have hsn : findC (l.getD i []) ((inp.getD i 0).toNat : Int) = none → costF l inp = none := fun hf => by
        have hs : costTo l inp (i + 1) = none := by rw [costTo, hp, hf]
        rw [hF]; exact cost_none hs _ hlt
      have hss : ∀ b, findC (l.getD i []) ((inp.getD i 0).toNat : Int) = some b → costTo l inp (i + 1) = some (v + b) := fun b hf => by rw [costTo, hp, hf]
      have hfb : ∀ b, findC (l.getD i []) ((inp.getD i 0).toNat : Int) = some b → 0 ≤ b ∧ b ≤ 1000 := fun b hf => find_bd hm.2 hf
      generalize hck : ((inp.getD i 0).toNat : Int) = ck at hsn hss hfb
      generalize l.getD i [] = s at hget hm hsn hss hfb
      have hsl := hm.1
      simp only [go_sem]
      refine wgoF (@h1) ?_
      refine wlp (Run.loopC (ι := { k : Nat // k ≤ s.length ∧ findC (s.drop k) ck = findC s ck }) (U := fun k => [(8, .d (.int .i64 k.1))]) (O := fun i => []) (K := fun _ => []) (μ := fun k => s.length - k.1) (i0 := ⟨0, by omega, rfl⟩)) ?_
      rintro ⟨k, hk, hkp⟩ ih
      by_cases hkt : k < s.length
      · have h2 : (k : Int) < s.length := by omega
        have h2n : ¬ (k : Int) = s.length := by omega
        have hgk := ch_get hkt
        rw [find_drop hkt] at hkp
        by_cases q : (s.getD k default).k = ck
        · rw [if_pos q] at hkp
          have hs2 := hss _ hkp.symm
          obtain ⟨bb1, bb2⟩ := hfb _ hkp.symm
          have q2 : decide ((s.getD k default).k = ck) = true := decide_eq_true q
          generalize s.getD k default = c at hgk hs2 bb1 bb2 q2
          simp only [go_sem]
          refine wgoF (And.intro (@h1) (And.intro (@h1b) (And.intro (@h2) (And.intro (@h2n) (And.intro (@hget) (And.intro (@hgk) (And.intro (@hck) (@q2)))))))) ?_
          exact wnxt (ih0 ⟨(i + 1, v + c.c), by omega, hs2⟩)
        · rw [if_neg q] at hkp
          have q2 : decide ((s.getD k default).k = ck) = false := decide_eq_false q
          generalize s.getD k default = c at hgk q2
          simp only [go_sem]
          refine wgoF (And.intro (@h1) (And.intro (@h1b) (And.intro (@h2) (And.intro (@hget) (And.intro (@hgk) (And.intro (@hck) (@q2))))))) ?_
          exact wnxt (ih ⟨k + 1, by omega, hkp⟩)
      · have h2 : ¬ (k : Int) < s.length := by omega
        have h2n : decide ((k : Int) = (s.length : Int)) = true := decide_eq_true (by omega)
        have hr := hsn (by rw [← hkp, List.drop_eq_nil_of_le (by omega)]; rfl)
        simp only [go_sem]
        refine wgoF (And.intro (@h1) (And.intro (@h2) (And.intro (@h2n) (@hget)))) ?_
        exact wretF (And.intro (@choR.eq_1) (@hr))
    · have h1 : ¬ (i : Int) < l.length := by omega
      obtain rfl : i = l.length := by omega
      have hr : costF l inp = some v := by rw [hF, hp]
      simp only [go_sem]
      refine wgoF (@h1) ?_
      exact wretF (And.intro (@choR.eq_1) (@hr))
  · have h0 : decide ((inp.length : Int) = (l.length : Int)) = false := decide_eq_false (by omega)
    have hF : costF l inp = none := if_neg hne
    refine enterP tabOk Tryz.func24 61 [0, 1, 4, 5, 6, 7, 8, 13, 17, 40, 49] [.tmp 4, .tmp 5] rfl (r := [_, _]) rfl (h := ?_); intro E hK; simp only [go_sem]
    refine wgoF (And.intro (@slsD.eq_1) (And.intro (@h0) (@e1))) ?_
    exact wretF (And.intro (@choR.eq_1) (@hF))
/-- A slot that is right. -/
def slotOk (s : List Ch) : Prop := 1 ≤ s.length ∧ s.length ≤ 8 ∧ (∀ c ∈ s, 97 ≤ c.k ∧ c.k ≤ 122 ∧ 0 ≤ c.c ∧ c.c ≤ 1000) ∧ s.Pairwise (fun a b => a.k < b.k)
theorem valid28 (l : List (List Ch)) (hl : l.length ≤ 40) (hv : ∀ s ∈ l, slotOk s) : PCall Tryz.prog 28 [slsD l] (.bool true) := by
  have e1 := mlen l
  have h40 : (l.length : Int) ≤ 40 := by omega
  refine enterP tabOk Tryz.func28 81 [0, 2, 3, 4, 5, 9, 25, 32, 77] [.tmp 2] rfl (r := [_]) rfl (h := ?_); intro E hK; simp only [go_sem]
  refine wgoF (@slsD.eq_1) ?_
  refine wlp (Run.loopC (ι := { i : Nat // i ≤ l.length }) (U := fun i => [(3, .d (.int .i64 i.1))]) (O := fun i => []) (K := fun _ => []) (μ := fun i => l.length - i.1) (i0 := ⟨0, by omega⟩)) ?_
  rintro ⟨i, hi⟩ ih0
  by_cases hlt : i < l.length
  · have h1 : (i : Int) < l.length := by omega
    have hget := sl_get hlt
    have e : l.getD i [] = l[i] := by simp [hlt]
    have hm := hv _ (List.getElem_mem hlt)
    rw [← e] at hm
    generalize l.getD i [] = s at hget hm
    obtain ⟨m1, m2, m3, m4⟩ := hm
    have c1 : ¬ (s.length : Int) < 1 := by omega
    have c2 : ¬ (8 : Int) < s.length := by omega
    simp only [go_sem]
    refine wgoF (And.intro (@h1) (And.intro (@e1) (And.intro (@hget) (And.intro (@c1) (@c2))))) ?_
    refine wlp (Run.loopC (ι := { k : Nat // k ≤ s.length }) (U := fun k => [(4, .d (.int .i64 k.1))]) (O := fun i => []) (K := fun _ => []) (μ := fun k => s.length - k.1) (i0 := ⟨0, by omega⟩)) ?_
    rintro ⟨k, hk⟩ ih
    by_cases hkt : k < s.length
    · have h2 : (k : Int) < s.length := by omega
      have hgk := ch_get hkt
      have ek : s.getD k default = s[k] := by simp [hkt]
      have hc := m3 _ (List.getElem_mem hkt)
      rw [← ek] at hc
      cases k with
      | zero =>
        have z1 : ¬ (0 : Int) < ((0 : Nat) : Int) := by omega
        have z3 : ¬ (0 : Int) < 0 := by omega
        have z4 : (0 : Int) < s.length := by omega
        generalize s.getD 0 default = c at hgk hc
        obtain ⟨n1, n2, n3, n4⟩ := hc
        have d1 : ¬ c.k < 97 := by omega
        have d2 : ¬ 122 < c.k := by omega
        have d3 : ¬ c.c < 0 := by omega
        have d4 : ¬ 1000 < c.c := by omega
        simp only [go_sem]
        refine wgoF (And.intro (@h1) (And.intro (@h2) (And.intro (@e1) (And.intro (@hget) (And.intro (@hgk) (And.intro (@d1) (And.intro (@d2) (And.intro (@d3) (And.intro (@d4) (And.intro (@z1) (And.intro (@z3) (@z4)))))))))))) ?_
        exact wnxt (ih ⟨0 + 1, by omega⟩)
      | succ j =>
        have z1 : (0 : Int) < ((j + 1 : Nat) : Int) := by omega
        have z2 : (((j + 1 : Nat) : Int) - 1).toNat = j := by omega
        have hj : j < s.length := by omega
        have hgj := ch_get hj
        have ej : s.getD j default = s[j] := by simp [hj]
        have hlt2 : (s.getD j default).k < (s.getD (j + 1) default).k := by
          rw [ej, ek]; exact List.pairwise_iff_getElem.1 m4 j (j + 1) hj hkt (by omega)
        generalize s.getD (j + 1) default = c at hgk hc hlt2
        generalize s.getD j default = d at hgj hlt2
        obtain ⟨n1, n2, n3, n4⟩ := hc
        have d1 : ¬ c.k < 97 := by omega
        have d2 : ¬ 122 < c.k := by omega
        have d3 : ¬ c.c < 0 := by omega
        have d4 : ¬ 1000 < c.c := by omega
        have d5 : ¬ c.k ≤ d.k := by omega
        simp only [go_sem]
        refine wgoF (And.intro (@h1) (And.intro (@h2) (And.intro (@e1) (And.intro (@hget) (And.intro (@hgk) (And.intro (@hgj) (And.intro (@d1) (And.intro (@d2) (And.intro (@d3) (And.intro (@d4) (And.intro (@d5) (And.intro (@z1) (@z2))))))))))))) ?_
        exact wnxt (ih ⟨j + 1 + 1, by omega⟩)
    · have h2 : ¬ (k : Int) < s.length := by omega
      simp only [go_sem]
      refine wgoF (And.intro (@h1) (And.intro (@h2) (And.intro (@e1) (@hget)))) ?_
      exact wnxt (ih0 ⟨i + 1, by omega⟩)
  · have h1 : ¬ (i : Int) < l.length := by omega
    simp only [go_sem]
    refine wgoF (And.intro (@h1) (And.intro (@e1) (@h40))) ?_
    exact wret
/-- The letters that numbers choose. -/
def pickI (l : List (List Ch)) (w : List Int) (i : Nat) : Nat := if i < w.length then (w.getD i 0 % ((l.getD i []).length : Int)).toNat else 0
def inpTo (l : List (List Ch)) (w : List Int) (n : Nat) : List UInt8 := (List.range n).map fun i => UInt8.ofNat ((l.getD i []).getD (pickI l w i) default).k.toNat
def inpF (l : List (List Ch)) (w : List Int) : List UInt8 := inpTo l w l.length
theorem inpTo_succ (l : List (List Ch)) (w : List Int) (i : Nat) : inpTo l w (i + 1) = inpTo l w i ++ [UInt8.ofNat ((l.getD i []).getD (pickI l w i) default).k.toNat] := by
  unfold inpTo; rw [List.range_succ, List.map_append]; rfl
theorem inpTo_len (l : List (List Ch)) (w : List Int) (i : Nat) : (inpTo l w i).length = i := by simp [inpTo]
theorem input29 (l : List (List Ch)) (w : List Int) (hl : l.length ≤ 40) (hv : ∀ s ∈ l, slotOk s) (hw : u8s w) : PCall Tryz.prog 29 [slsD l, .sl 1 (w.map (D.int .u8))] (.str (inpF l w)) := by
  have e1 := mlen l
  have hwl := hw.2
  have z0 : inpTo l w 0 = [] := rfl
  refine enterP tabOk Tryz.func29 42 [0, 1, 4, 5, 6, 7, 11, 17] [.tmp 4] rfl (r := [_]) rfl (h := ?_); intro E hK; simp only [go_sem]
  refine wgoF (@slsD.eq_1) ?_
  refine wlpF (Run.loopC (ι := { i : Nat // i ≤ l.length }) (U := fun i => [(5, .d (.str (inpTo l w i.1))), (6, .d (.int .i64 i.1))]) (O := fun i => []) (K := fun _ => []) (μ := fun i => l.length - i.1) (i0 := ⟨0, by omega⟩)) (@z0) ?_
  rintro ⟨i, hi⟩ ih
  have hil := inpTo_len l w i
  by_cases hlt : i < l.length
  · have h1 : (i : Int) < l.length := by omega
    have hget := sl_get hlt
    have e : l.getD i [] = l[i] := by simp [hlt]
    have hm := hv _ (List.getElem_mem hlt)
    rw [← e] at hm
    have hst := inpTo_succ l w i
    generalize hoi : inpTo l w i = o at hst hil
    by_cases hwi : i < w.length
    · have h2 : (i : Int) < w.length := by omega
      obtain ⟨b1, b2⟩ := u8s_at hw hwi
      have hgw : (List.map (D.int .u8) w).getD i .nilp = .int .u8 (w.getD i 0) := by simp [hwi]
      have hpi : pickI l w i = (w.getD i 0 % ((l.getD i []).length : Int)).toNat := if_pos hwi
      rw [hpi] at hst
      generalize l.getD i [] = s at hget hm hst
      generalize w.getD i 0 = wi at hgw hst b1 b2
      obtain ⟨m1, m2, m3, m4⟩ := hm
      have r1 := Int.emod_nonneg wi (show (s.length : Int) ≠ 0 by omega)
      have r2 := Int.emod_lt_of_pos wi (show 0 < (s.length : Int) by omega)
      have hkt : (wi % (s.length : Int)).toNat < s.length := by omega
      have hgk := ch_get hkt
      have ek : s.getD (wi % (s.length : Int)).toNat default = s[(wi % (s.length : Int)).toNat] := by simp [hkt]
      have hc := m3 _ (List.getElem_mem hkt)
      rw [← ek] at hc
      generalize s.getD (wi % (s.length : Int)).toNat default = c at hgk hc hst
      obtain ⟨n1, n2, n3, n4⟩ := hc
      simp only [go_sem, hoi]
      refine wgoF (And.intro (@h1) (And.intro (@h2) (And.intro (@e1) (And.intro (@hget) (And.intro (@hgw) (And.intro (@hgk) (And.intro (@r1) (@r2)))))))) ?_
      exact wnxtF (ih ⟨i + 1, by omega⟩) (@hst)
    · have h2 : ¬ (i : Int) < w.length := by omega
      have hpi : pickI l w i = 0 := if_neg hwi
      rw [hpi] at hst
      generalize l.getD i [] = s at hget hm hst
      obtain ⟨m1, m2, m3, m4⟩ := hm
      have hkt : 0 < s.length := by omega
      have r2 : (0 : Int) < s.length := by omega
      have hgk := ch_get hkt
      have ek : s.getD 0 default = s[0] := by simp [hkt]
      have hc := m3 _ (List.getElem_mem hkt)
      rw [← ek] at hc
      generalize s.getD 0 default = c at hgk hc hst
      obtain ⟨n1, n2, n3, n4⟩ := hc
      simp only [go_sem, hoi]
      refine wgoF (And.intro (@h1) (And.intro (@h2) (And.intro (@e1) (And.intro (@hget) (And.intro (@hgk) (@r2)))))) ?_
      exact wnxtF (ih ⟨i + 1, by omega⟩) (@hst)
  · have h1 : ¬ (i : Int) < l.length := by omega
    have hf : inpTo l w i = inpF l w := by unfold inpF; rw [show i = l.length by omega]
    simp only [go_sem, hf]
    refine wgoF (And.intro (@h1) (@e1)) ?_
    exact wret
theorem raw_get {l : List Raw} {i : Nat} (h : i < l.length) : (List.map Raw.d l).getD i .nilp = .agg [.int .u8 (l.getD i default).kind, .sl 1 ((l.getD i default).L.map (D.int .u8)), .sl 2 ((l.getD i default).P.map bpD), .int .u8 (l.getD i default).N, .int .u8 (l.getD i default).M] := by simp [h, Raw.d]
def raws (l : List Raw) : Prop := (∀ x ∈ l, x.ok) ∧ l.length ≤ 9223372036854775807
def wriTo (F : Ev → List (List Ch) × Int) (l : List Raw) (n : Nat) : List Ev := ((l.take n).map evF).filter fun e => decide ((F e).2 = 0)
theorem wri_len (F : Ev → List (List Ch) × Int) (l : List Raw) (n : Nat) : (wriTo F l n).length ≤ n := by
  have := List.length_filter_le (fun e => decide ((F e).2 = 0)) ((l.take n).map evF)
  unfold wriTo
  simp only [List.length_map, List.length_take] at this
  omega
theorem wri_in (F : Ev → List (List Ch) × Int) {l : List Raw} {i : Nat} (h : i < l.length) (hb : (F (evF (l.getD i default))).2 = 0) : wriTo F l (i + 1) = wriTo F l i ++ [evF (l.getD i default)] := by
  have e : l.getD i default = l[i] := by simp [h]
  unfold wriTo
  rw [List.take_succ_eq_append_getElem h, List.map_append, List.filter_append, ← e]
  generalize l.getD i default = x at hb
  simp [hb]
theorem wri_out (F : Ev → List (List Ch) × Int) {l : List Raw} {i : Nat} (h : i < l.length) (hb : ¬ (F (evF (l.getD i default))).2 = 0) : wriTo F l (i + 1) = wriTo F l i := by
  have e : l.getD i default = l[i] := by simp [h]
  unfold wriTo
  rw [List.take_succ_eq_append_getElem h, List.map_append, List.filter_append, ← e]
  generalize l.getD i default = x at hb
  simp [hb]
def writesF (F : Ev → List (List Ch) × Int) (l : List Raw) (n : Nat) : List Ev := wriTo F l (min l.length n)
theorem writes27 (F : Ev → List (List Ch) × Int) (b : Brd) (l : List Raw) (n : Nat) (hn : n ≤ 1000) (hl : raws l) (hF : ∀ x ∈ l, PCall Tryz.prog 20 [b.d, .sl 0 [], (evF x).d] (rD (F (evF x)))) :
    PCall Tryz.prog 27 [b.d, .sl 5 (l.map Raw.d), .int .i64 n] (.sl 6 ((writesF F l n).map Ev.d)) := by
  have hll := hl.2
  have z0 : wriTo F l 0 = [] := rfl
  refine enterP tabOk Tryz.func27 42 [0, 1, 2, 3, 6, 7, 8, 9, 11, 21, 36] [.tmp 6] rfl (r := [_]) rfl (h := ?_); intro E hK; simp only [go_sem]
  refine wgoF (@Brd.d.eq_1) ?_
  (apply Run.full 7 1007 26 6; (case hi => simp only [go_sem]; rfl); (case ht => simp only [go_sem]); (case hmn => first | exact Or.inl (by decide) | exact Or.inr rfl); (case hs => simp only [go_sem]; rfl))
  refine wlpF (Run.loopC (ι := { i : Nat // i ≤ l.length ∧ i ≤ n }) (U := fun i => [(7, .own 6 ((wriTo F l i.1).map Ev.d) (.tok 1007)), (8, .d (.int .i64 i.1))]) (O := fun i => []) (K := fun _ => [(1007, .live 26 6)]) (μ := fun i => l.length - i.1) (i0 := ⟨0, by omega, by omega⟩)) (@z0) ?_
  rintro ⟨i, hi, hin⟩ ih
  have hwl := wri_len F l i
  by_cases hlt : i < l.length ∧ i < n
  · obtain ⟨hlt, hln⟩ := hlt
    have h1 : (i : Int) < l.length := by omega
    have h2 : (i : Int) < n := by omega
    have hget := raw_get hlt
    have e : l.getD i default = l[i] := by simp [hlt]
    have hm : l.getD i default ∈ l := by rw [e]; exact List.getElem_mem hlt
    have h18 := event18 _ (hl.1 _ hm)
    have h20 := hF _ hm
    have hin := wri_in F hlt
    have hout := wri_out F hlt
    generalize l.getD i default = x at hget h18 h20 hin hout
    generalize evF x = v at h18 h20 hin hout
    generalize F v = r at h20 hin hout
    obtain ⟨s, y⟩ := r
    by_cases hy : y = 0
    · have hst := hin hy
      subst hy
      simp only [go_sem]
      refine wgoF (And.intro (@h1) (And.intro (@h2) (@hget))) ?_
      refine wcallF (h18) (@Raw.d.eq_1) ?_
      refine wgoF (@Ev.d.eq_1) ?_
      refine wcallF (h20) (And.intro (@Ev.d.eq_1) (@Brd.d.eq_1)) ?_
      refine wgoF (And.intro (@rD.eq_1) (@slsD.eq_1)) ?_
      (apply Run.retok 40 1007; (case hk => simp only [go_sem]; rfl); (case ht => simp only [go_sem]; rfl); (case ht' => simp only [go_sem]); (case hs => simp only [go_sem]; rfl))
      exact wnxtF (ih ⟨i + 1, by omega, by omega⟩) (And.intro (@hst) (@Ev.d.eq_1))
    · have hst := hout hy
      simp only [go_sem]
      refine wgoF (And.intro (@h1) (And.intro (@h2) (@hget))) ?_
      refine wcallF (h18) (@Raw.d.eq_1) ?_
      refine wgoF (@Ev.d.eq_1) ?_
      refine wcallF (h20) (And.intro (@Ev.d.eq_1) (@Brd.d.eq_1)) ?_
      refine wgoF (And.intro (@rD.eq_1) (And.intro (@slsD.eq_1) (@hy))) ?_
      exact wnxtF (ih ⟨i + 1, by omega, by omega⟩) (@hst)
  · have c : (decide ((i : Int) < l.length) && decide ((i : Int) < n)) = false := by
      rw [Bool.and_eq_false_iff]
      by_cases q : i < l.length
      · right; exact decide_eq_false (by omega)
      · left; exact decide_eq_false (by omega)
    have hf : wriTo F l i = writesF F l n := by unfold writesF; rw [show i = min l.length n by omega]
    simp only [go_sem, hf]
    refine wgoF (@c) ?_
    exact wret
end Go.Proofs.YtojgjdcciojpeaaGreat
set_option linter.unusedSimpArgs false
set_option linter.unusedVariables false
namespace Go.Proofs.YtojgjdcciojpeaaGreat
open Go Go.PS
set_option maxRecDepth 100000
set_option maxHeartbeats 4000000
/-! Slots of events on the boards that the reference makes. -/
def mTT : List Tpl := [⟨97, [⟨0, 0⟩, ⟨20, 20⟩]⟩, ⟨98, [⟨20, 0⟩, ⟨0, 20⟩, ⟨20, 40⟩]⟩]
def mBd (A : List Ar) : Bd := ⟨5, A.map Ar.d, 2, mC.map Ck.d⟩
theorem mT_eq : mTT.map Tpl.d = mT := rfl
theorem made_bd (l : List (Int × Int)) : (madeB l).d = bdD (mBd (madeA l)) mTT := rfl
theorem mTT_ok : TOk mTT := by
  intro t ht
  simp only [mTT, List.mem_cons, List.not_mem_nil, or_false] at ht
  rcases ht with rfl | rfl
  · refine ⟨by decide, by decide, ?_, by decide, by decide⟩
    intro p hp
    simp only [List.mem_cons, List.not_mem_nil, or_false] at hp
    rcases hp with rfl | rfl <;> exact ⟨by decide, by decide, by decide, by decide⟩
  · refine ⟨by decide, by decide, ?_, by decide, by decide⟩
    intro p hp
    simp only [List.mem_cons, List.not_mem_nil, or_false] at hp
    rcases hp with rfl | rfl | rfl <;> exact ⟨by decide, by decide, by decide, by decide⟩
theorem mTT_tb : TB 26 mTT := by
  intro t ht
  have h0 := mTT_ok t ht
  simp only [mTT, List.mem_cons, List.not_mem_nil, or_false] at ht
  rcases ht with rfl | rfl
  · exact ⟨by decide, h0.2.2.1, by decide, by decide⟩
  · exact ⟨by decide, h0.2.2.1, by decide, by decide⟩
def strK (p : List Pt) : List Ch := [⟨97, cst p [⟨0, 0⟩, ⟨20, 20⟩]⟩, ⟨98, cst p [⟨20, 0⟩, ⟨0, 20⟩, ⟨20, 40⟩]⟩]
def strkF (p : List Pt) : List Ch × Int := if validB p = false then ([], 220) else (strK p, 0)
theorem costs_mTT (p : List Pt) : costsF p mTT = strK p := rfl
theorem slot_mTT (p : List Pt) : slotF (strK p) = strK p := rfl
theorem str13 (l : List (Int × Int)) (p : List Pt) : PCall Tryz.prog 114 [(madeB l).d, .sl 2 (p.map Pt.d)] (.tup [slD (strkF p).1, .int .i64 (strkF p).2]) := by
  rw [made_bd]
  cases hv : validB p with
  | false =>
    have hr : strkF p = ([], 220) := if_pos hv
    rw [hr]
    exact match13_bad _ _ p (.inl hv)
  | true =>
    have hr : strkF p = (strK p, 0) := if_neg (by rw [hv]; simp)
    rw [hr]
    have h := match13 (mBd (madeA l)) mTT p mTT_ok hv (by simp [mTT]) (by simp [mTT]) (by rw [costs_mTT]; simp [strK])
    rw [costs_mTT, slot_mTT] at h
    exact h
theorem str33 (l : List (Int × Int)) (p : List Pt) (hp : p.length ≤ 1000) : PCall Tryz.prog 33 [(madeB l).d, .sl 2 (p.map Pt.d)] (.tup [slD (strkF p).1, .int .i64 (strkF p).2]) := by
  rw [made_bd]
  cases hv : validB p with
  | false =>
    have hr : strkF p = ([], 220) := if_pos hv
    rw [hr]
    exact ref14_bad _ _ p hp (.inl hv)
  | true =>
    have hr : strkF p = (strK p, 0) := if_neg (by rw [hv]; simp)
    rw [hr]
    have h := ref14 (mBd (madeA l)) mTT p mTT_ok hv (by simp [mTT]) (by simp [mTT])
    rw [ref_eq mTT_tb (by omega), costs_mTT, slot_mTT] at h
    exact h
/-- The areas are right. -/
theorem go_ok : ∀ (l : List (Int × Int)) (i : Nat) (x y : Int), i ≤ 14 → 0 ≤ x → x ≤ 30 * i → 0 ≤ y → y ≤ 22 * i → (∀ e ∈ l, 0 ≤ e.1 ∧ e.1 ≤ 255 ∧ 0 ≤ e.2 ∧ e.2 ≤ 255) →
    (madeGo l i x y).length ≤ 14 - i ∧ (∀ a ∈ madeGo l i x y, a.ok ∧ 97 + (i : Int) ≤ a.k ∧ a.k ≤ 110) ∧ (madeGo l i x y).Pairwise (fun a b => a.k < b.k)
  | [], i, x, y, _, _, _, _, _, _ => by simp [madeGo]
  | e :: r, i, x, y, hi, hx0, hx1, hy0, hy1, hl => by
    unfold madeGo
    by_cases h14 : 14 ≤ i
    · rw [if_pos h14]; simp
    · rw [if_neg h14]
      have he := hl e (by simp)
      have hr : ∀ e ∈ r, 0 ≤ e.1 ∧ e.1 ≤ 255 ∧ 0 ≤ e.2 ∧ e.2 ≤ 255 := fun e h => hl e (List.mem_cons_of_mem _ h)
      have key : ∀ x' y' : Int, 0 ≤ x' → x' ≤ 30 * (i + 1 : Nat) → 0 ≤ y' → y' ≤ 22 * (i + 1 : Nat) →
          (mkA i x y e :: madeGo r (i + 1) x' y').length ≤ 14 - i ∧ (∀ a ∈ mkA i x y e :: madeGo r (i + 1) x' y', a.ok ∧ 97 + (i : Int) ≤ a.k ∧ a.k ≤ 110) ∧ (mkA i x y e :: madeGo r (i + 1) x' y').Pairwise (fun a b => a.k < b.k) := by
        intro x' y' a1 a2 a3 a4
        obtain ⟨q1, q2, q3⟩ := go_ok r (i + 1) x' y' (by omega) a1 a2 a3 a4 hr
        refine ⟨by rw [List.length_cons]; omega, ?_, ?_⟩
        · intro a ha
          rcases List.mem_cons.1 ha with rfl | ha
          · unfold mkA Ar.ok
            dsimp only
            omega
          · have := q2 a ha
            refine ⟨this.1, ?_, this.2.2⟩
            have := this.2.1
            push_cast at this
            omega
        · refine List.pairwise_cons.2 ⟨fun a ha => ?_, q3⟩
          have := (q2 a ha).2.1
          push_cast at this
          show 97 + (i : Int) < a.k
          omega
      by_cases hm : i % 5 = 4
      · rw [if_pos hm]
        exact key 0 (y + 22) (by omega) (by omega) (by omega) (by push_cast; omega)
      · rw [if_neg hm]
        exact key _ y (by omega) (by push_cast; omega) (by omega) (by push_cast; omega)
theorem madeA_ok {l : List (Int × Int)} (hl : bps l) : arOk (madeA l) ∧ ∀ a ∈ madeA l, 97 ≤ a.k ∧ a.k ≤ 110 := by
  obtain ⟨h1, h2, h3⟩ := go_ok l 0 0 0 (by omega) (by omega) (by omega) (by omega) (by omega) hl.1
  refine ⟨⟨by unfold madeA; omega, fun a ha => (h2 a ha).1, h3⟩, fun a ha => ?_⟩
  have := (h2 a ha).2
  omega
theorem mC_ok : ckOk mC := by
  refine ⟨by simp [mC], fun c hc => ?_⟩
  simp only [mC, List.mem_cons, List.not_mem_nil, or_false] at hc
  rcases hc with rfl | rfl <;> exact ⟨by decide, by decide⟩
def slotX (A : List Ar) (T : List Tap) (e : Ev) : List (List Ch) × Int := slotE mC (touchF A T (e.p.getD 0 default)) (strkF e.p) e
theorem slotM {l : List (Int × Int)} (hl : bps l) (tz : Nat) (T : List Tap) (hT : tpOk T) (hz : T ≠ [] → tz = 4) (e : Ev) (he : e.lok) :
    PCall Tryz.prog 19 [(madeB l).d, .sl tz (T.map Tap.d), e.d] (rD (slotX (madeA l) T e)) :=
  slot19 (madeB l) tz _ e he mC_ok _ _ (fun _ _ => touch113 (madeB l) (madeA l) rfl (fun _ => rfl) tz T _ (madeA_ok hl).1 hT hz) (fun _ _ => str13 l e.p)
theorem valid_plen {e : Ev} (h : validE e = true) (h4 : e.kind = 4) : e.p.length ≤ 12 := by
  unfold validE at h
  rw [if_neg (by omega), if_neg (by omega), if_neg (by omega), if_pos h4] at h
  simp only [Bool.and_eq_true, decide_eq_true_eq] at h
  omega
theorem slotR {l : List (Int × Int)} (hl : bps l) (tz : Nat) (T : List Tap) (hT : tpOk T) (hz : T ≠ [] → tz = 4) (e : Ev) (he : e.lok) :
    PCall Tryz.prog 20 [(madeB l).d, .sl tz (T.map Tap.d), e.d] (rD (slotX (madeA l) T e)) :=
  slot20 (madeB l) tz _ e he mC_ok _ _ (fun _ _ => touch31 (madeB l) (madeA l) rfl (fun _ => rfl) tz T _ (madeA_ok hl).1 hT hz) (fun hv h4 => str33 l e.p (by have := valid_plen hv h4; omega))
/-! What slots are like. -/
theorem lets_get {l : List UInt8} (h : lets l = true) : ∀ c ∈ l, 97 ≤ c.toNat ∧ c.toNat ≤ 122 := fun c hc => letB_iff.1 (List.all_eq_true.1 h c hc)
theorem typed_ok {l : List UInt8} (h : lets l = true) : ∀ s ∈ typedF l, slotOk s := by
  intro s hs
  obtain ⟨c, hc, rfl⟩ := List.mem_map.1 hs
  have := lets_get h c hc
  refine ⟨by simp, by simp, fun d hd => ?_, List.pairwise_singleton _ _⟩
  simp only [List.mem_singleton] at hd
  subst hd
  simp only [byteC]
  omega
theorem touch_ok {A : List Ar} (hA : arOk A) (hk : ∀ a ∈ A, 97 ≤ a.k ∧ a.k ≤ 110) (T : List Tap) (p : Pt) (h : (touchF A T p).2 = 0) : slotOk (touchF A T p).1 := by
  unfold touchF at h ⊢
  split at h
  · cases h
  split at h
  · cases h
  rename_i h1 h2
  rw [if_neg h1, if_neg h2]
  dsimp only
  have hs := near_sorted hA T p
  have hr := near_range hA T p
  have hlen := best_len (nearF A T p)
  have hpos := List.length_pos_iff.2 h2
  refine ⟨by omega, by omega, fun c hc => ?_, best_sorted hs hr⟩
  have hm := ((best_mem hs hr c).1 hc).1
  obtain ⟨a, ha, hc2⟩ := List.mem_filterMap.1 hm
  have q := touch_key hc2
  have := hk a ha
  omega
theorem stroke_ok (p : List Pt) (h : (strkF p).2 = 0) : slotOk (strkF p).1 := by
  unfold strkF at h ⊢
  split at h
  · cases h
  rename_i h1
  rw [if_neg h1]
  dsimp only
  refine ⟨by simp [strK], by simp [strK], fun c hc => ?_, ?_⟩
  · simp only [strK, List.mem_cons, List.not_mem_nil, or_false] at hc
    rcases hc with rfl | rfl
    · have := cst_nonneg p [⟨0, 0⟩, ⟨20, 20⟩]
      have := cst_le p [⟨0, 0⟩, ⟨20, 20⟩]
      dsimp only; omega
    · have := cst_nonneg p [⟨20, 0⟩, ⟨0, 20⟩, ⟨20, 40⟩]
      have := cst_le p [⟨20, 0⟩, ⟨0, 20⟩, ⟨20, 40⟩]
      dsimp only; omega
  · unfold strK
    exact List.pairwise_cons.2 ⟨fun b hb => by simp only [List.mem_singleton] at hb; subst hb; show (97 : Int) < 98; decide, List.pairwise_singleton _ _⟩
theorem valid_letsK {e : Ev} (h : validE e = true) (h1 : e.kind = 1) : lets e.keys = true := by
  unfold validE at h
  rw [if_pos h1] at h
  simp only [Bool.and_eq_true, decide_eq_true_eq] at h
  exact h.1.1.1.1.2
theorem chord_ok (keys : List UInt8) : (∀ s ∈ (chordR mC keys).1, slotOk s) ∧ (chordR mC keys).1.length ≤ 1 ∧ ((chordR mC keys).2 = 0 → (chordR mC keys).1.length = 1) ∧ ((chordR mC keys).2 = 0 ∨ (chordR mC keys).2 = 10) ∧ ((chordR mC keys).2 ≠ 0 → (chordR mC keys).1 = []) := by
  unfold chordR
  cases h : mC.find? (fun c => decide (c.keys = keys)) with
  | none => simp
  | some c =>
    have hm := List.mem_of_find?_eq_some h
    refine ⟨fun s hs => ?_, by simp, by simp, .inl rfl, fun h => absurd rfl h⟩
    simp only [List.mem_singleton] at hs
    subst hs
    refine ⟨by simp, by simp, fun d hd => ?_, List.pairwise_singleton _ _⟩
    simp only [List.mem_singleton] at hd
    subst hd
    simp only [mC, List.mem_cons, List.not_mem_nil, or_false] at hm
    rcases hm with hm | hm <;> rw [hm] <;> decide
theorem touch_err (A : List Ar) (T : List Tap) (p : Pt) (hp : p.inB = true) : (touchF A T p).2 = 0 ∨ (touchF A T p).2 = 210 := by
  unfold touchF
  rw [if_neg (by rw [hp]; simp)]
  split
  · right; rfl
  · left; rfl
theorem valid_stroke {e : Ev} (h : validE e = true) (h4 : e.kind = 4) : validB e.p = true := by
  unfold validE at h
  rw [if_neg (by omega), if_neg (by omega), if_neg (by omega), if_pos h4] at h
  simp only [Bool.and_eq_true, decide_eq_true_eq] at h
  obtain ⟨⟨⟨⟨⟨⟨h1, h2⟩, h3⟩, _⟩, _⟩, _⟩, _⟩ := h
  have h3' : e.p.all Pt.inB = true := h3
  unfold validB
  rw [decide_eq_true (show 2 ≤ e.p.length by omega), decide_eq_true (show e.p.length ≤ 12 by omega), h3']; rfl
/-- An event's slots: right ones, or none and an error. -/
theorem slotX_ok {A : List Ar} (hA : arOk A) (hk : ∀ a ∈ A, 97 ≤ a.k ∧ a.k ≤ 110) (T : List Tap) (e : Ev) :
    (∀ s ∈ (slotX A T e).1, slotOk s) ∧ (slotX A T e).1.length ≤ 20 ∧ ((slotX A T e).2 ≠ 0 → (slotX A T e).1 = []) ∧ ((slotX A T e).2 = 0 ∨ (slotX A T e).2 = 10 ∨ (slotX A T e).2 = 210) ∧ ((slotX A T e).2 = 0 → 1 ≤ (slotX A T e).1.length ∧ validE e = true ∧ e.kind ≤ 5 ∧ (e.kind ≠ 5 → (slotX A T e).1.length = 1)) := by
  unfold slotX slotE
  cases hv : validE e with
  | false => rw [if_pos rfl]; simp
  | true =>
    rw [if_neg (by simp)]
    by_cases h1 : e.kind = 1
    · rw [if_pos h1]
      have hl := valid_keys hv h1
      refine ⟨typed_ok (valid_letsK hv h1), ?_, fun h => absurd rfl h, .inl rfl, fun _ => ⟨?_, rfl, by omega, fun _ => ?_⟩⟩ <;> rw [typed_len] <;> omega
    rw [if_neg h1]
    by_cases h2 : e.kind = 2
    · rw [if_pos h2]
      obtain ⟨c1, c2, c3, c4, c5⟩ := chord_ok e.keys
      refine ⟨c1, by omega, c5, ?_, fun h => ⟨by have := c3 h; omega, rfl, by omega, fun _ => c3 h⟩⟩
      rcases c4 with h | h
      · exact .inl h
      · exact .inr (.inl h)
    rw [if_neg h2]
    by_cases h3 : e.kind = 3
    · rw [if_pos h3]
      obtain ⟨q1, q2⟩ := valid_one hv h3
      have hin : (e.p.getD 0 default).inB = true := by
        have e0 : e.p.getD 0 default = e.p[0] := by simp [q1]
        rw [e0]; exact List.all_eq_true.1 q2 _ (List.getElem_mem _)
      rcases touch_err A T _ hin with h | h
      · rw [wrap_ok h]
        refine ⟨fun s hs => ?_, by simp, fun h => absurd rfl h, .inl rfl, fun _ => ⟨by simp, rfl, by omega, fun _ => rfl⟩⟩
        simp only [List.mem_singleton] at hs
        subst hs
        exact touch_ok hA hk T _ h
      · rw [wrap_no (by omega), h]
        simp
    rw [if_neg h3]
    by_cases h4 : e.kind = 4
    · rw [if_pos h4]
      have hr : strkF e.p = (strK e.p, 0) := if_neg (by rw [valid_stroke hv h4]; simp)
      have ho := stroke_ok e.p (by rw [hr])
      rw [hr] at ho
      rw [hr, wrap_ok rfl]
      refine ⟨fun s hs => ?_, by simp, fun h => absurd rfl h, .inl rfl, fun _ => ⟨by simp, rfl, by omega, fun _ => rfl⟩⟩
      simp only [List.mem_singleton] at hs
      subst hs
      exact ho
    rw [if_neg h4]
    by_cases h5 : e.kind = 5
    · rw [if_pos h5]
      obtain ⟨t1, t2, t3⟩ := valid_text hv h5
      refine ⟨typed_ok t3, ?_, fun h => absurd rfl h, .inl rfl, fun _ => ⟨?_, rfl, by omega, fun h => absurd h5 h⟩⟩ <;> rw [typed_len] <;> omega
    rw [if_neg h5]
    simp
end Go.Proofs.YtojgjdcciojpeaaGreat
set_option linter.unusedSimpArgs false
set_option linter.unusedVariables false
namespace Go.Proofs.YtojgjdcciojpeaaGreat
open Go Go.PS
set_option maxRecDepth 100000
set_option maxHeartbeats 4000000
/-! What mixed.Slots leaves. -/
theorem slotsF_cons (F : Ev → List (List Ch) × Int) (e : Ev) (r : List Ev) (i : Nat) (acc : List (List Ch)) : slotsF F (e :: r) i acc = if (F e).2 ≠ 0 then ([], (i : Int), (F e).2) else if 40 < acc.length + (F e).1.length then ([], (i : Int), 2) else slotsF F r (i + 1) (acc ++ (F e).1) := rfl
/-- All slots that it returns are right, and they are not more than 40. -/
theorem slotsF_ok (F : Ev → List (List Ch) × Int) : ∀ (l : List Ev) (i : Nat) (acc : List (List Ch)), (∀ e ∈ l, ∀ s ∈ (F e).1, slotOk s) → (∀ s ∈ acc, slotOk s) → acc.length ≤ 40 →
    (∀ s ∈ (slotsF F l i acc).1, slotOk s) ∧ (slotsF F l i acc).1.length ≤ 40
  | [], i, acc, _, ha, hl => ⟨ha, hl⟩
  | e :: r, i, acc, h, ha, hl => by
    rw [slotsF_cons]
    by_cases h1 : (F e).2 ≠ 0
    · rw [if_pos h1]; simp
    · rw [if_neg h1]
      by_cases h2 : 40 < acc.length + (F e).1.length
      · rw [if_pos h2]; simp
      · rw [if_neg h2]
        refine slotsF_ok F r (i + 1) _ (fun e he => h e (List.mem_cons_of_mem _ he)) (fun s hs => ?_) (by rw [List.length_append]; omega)
        rcases List.mem_append.1 hs with hs | hs
        · exact ha s hs
        · exact h e (by simp) s hs
theorem slotsF_err (F : Ev → List (List Ch) × Int) : ∀ (l : List Ev) (i : Nat) (acc : List (List Ch)), (∀ e ∈ l, (F e).2 = 0 ∨ (F e).2 = 210) →
    (slotsF F l i acc).2.2 = 0 ∨ (((slotsF F l i acc).2.2 = 2 ∨ (slotsF F l i acc).2.2 = 210) ∧ (slotsF F l i acc).1 = [])
  | [], i, acc, _ => .inl rfl
  | e :: r, i, acc, h => by
    rw [slotsF_cons]
    by_cases h1 : (F e).2 ≠ 0
    · rw [if_pos h1]
      right
      refine ⟨.inr ?_, rfl⟩
      rcases h e (by simp) with h | h
      · exact absurd h h1
      · exact h
    · rw [if_neg h1]
      by_cases h2 : 40 < acc.length + (F e).1.length
      · rw [if_pos h2]; exact .inr ⟨.inl rfl, rfl⟩
      · rw [if_neg h2]
        exact slotsF_err F r (i + 1) _ fun e he => h e (List.mem_cons_of_mem _ he)
theorem slotsF_all (F : Ev → List (List Ch) × Int) : ∀ (l : List Ev) (i : Nat) (acc : List (List Ch)), (∀ e ∈ l, (F e).2 = 0 ∧ (F e).1.length ≤ 5) → acc.length + 5 * l.length ≤ 40 →
    slotsF F l i acc = (acc ++ l.flatMap (fun e => (F e).1), ((i + l.length : Nat) : Int), 0)
  | [], i, acc, _, _ => by simp [slotsF]
  | e :: r, i, acc, h, hl => by
    have he := h e (by simp)
    rw [List.length_cons] at hl
    rw [slotsF_cons, if_neg (by simp [he.1]), if_neg (by omega), slotsF_all F r (i + 1) _ (fun e he => h e (List.mem_cons_of_mem _ he)) (by rw [List.length_append]; omega)]
    rw [List.flatMap_cons, List.append_assoc, List.length_cons]
    congr 2
    congr 1
    omega
theorem slotsF_bad (F : Ev → List (List Ch) × Int) (b : Ev) (x : Int) (hb : (F b).2 = x) (hx : x ≠ 0) (q : List Ev) : ∀ (l : List Ev) (i : Nat) (acc : List (List Ch)), (∀ e ∈ l, (F e).2 = 0 ∧ (F e).1.length ≤ 5) → acc.length + 5 * l.length ≤ 40 →
    slotsF F (l ++ b :: q) i acc = ([], ((i + l.length : Nat) : Int), x)
  | [], i, acc, _, _ => by
    show slotsF F (b :: q) i acc = _
    rw [slotsF_cons, if_pos (by rw [hb]; exact hx), hb]; rfl
  | e :: r, i, acc, h, hl => by
    have he := h e (by simp)
    rw [List.length_cons] at hl
    show slotsF F (e :: (r ++ b :: q)) i acc = _
    rw [slotsF_cons, if_neg (by simp [he.1]), if_neg (by omega), slotsF_bad F b x hb hx q r (i + 1) _ (fun e he => h e (List.mem_cons_of_mem _ he)) (by rw [List.length_append]; omega)]
    rw [List.length_cons]
    congr 2
    congr 1
    omega
theorem cheap_ok {l : List (List Ch)} (h : ∀ s ∈ l, slotOk s) : cheapL l := by
  intro s hs
  obtain ⟨h1, h2, h3, h4⟩ := h s hs
  exact ⟨by omega, fun c hc => (h3 c hc).2.2⟩
theorem sok_ok {l : List (List Ch)} (h : ∀ s ∈ l, slotOk s) (hl : l.length ≤ 40) : sok l := ⟨by omega, fun s hs => by
  obtain ⟨h1, h2, h3, h4⟩ := h s hs
  omega⟩
/-! The events. -/
theorem made_small {x : Raw} (hx : x.ok) (k : Int) : (madeE x k).keys.length ≤ 5 ∧ (madeE x k).p.length ≤ 6 ∧ (madeE x k).text.length ≤ 5 := by
  have ht := textA_len x k
  have hp := pts_in hx
  have hc : (chordF x.N x.M).length ≤ 5 := by
    unfold chordF
    rw [chTo_len]
    have := Int.emod_lt_of_pos x.M (show (0 : Int) < 3 by omega)
    omega
  unfold madeE madeK
  generalize 1 + x.kind % 12 = kd
  split
  · simp; omega
  split
  · exact ⟨hc, by simp, by simp⟩
  split
  · simp; omega
  split
  · exact ⟨by simp, hp.2.2, by simp⟩
  split
  · exact ⟨by simp, by simp, ht.1⟩
  split
  · simp
  split
  · simp
  · simp
theorem evF_small {x : Raw} (hx : x.ok) : (evF x).keys.length ≤ 5 ∧ (evF x).p.length ≤ 6 ∧ (evF x).text.length ≤ 5 := by
  unfold evF
  split
  · simp
  split
  · dsimp only
    split <;> simp
  · exact made_small hx 3
theorem small_lok {e : Ev} (h : e.keys.length ≤ 5 ∧ e.p.length ≤ 6 ∧ e.text.length ≤ 5) : e.lok := ⟨by omega, by omega, by omega⟩
theorem evF_lok {x : Raw} (hx : x.ok) : (evF x).lok := small_lok (evF_small hx)
theorem evF_kind (x : Raw) : (evF x).kind = 1 + x.kind % 12 := by
  unfold evF
  split
  · rename_i h; exact h.symm
  split
  · rename_i h; exact h.1.symm
  · exact made_kind x 3
/-- An event's slots are at most 5. -/
theorem slotX_five {A : List Ar} (hA : arOk A) (hk : ∀ a ∈ A, 97 ≤ a.k ∧ a.k ≤ 110) (T : List Tap) {e : Ev} (h5 : e.text.length ≤ 5) (h : (slotX A T e).2 = 0) : (slotX A T e).1.length ≤ 5 := by
  obtain ⟨h1, h2, h3, h4, hh⟩ := slotX_ok hA hk T e
  obtain ⟨q1, q2, q3, q4⟩ := hh h
  by_cases hk5 : e.kind = 5
  · unfold slotX slotE
    rw [if_neg (by rw [q2]; simp), if_neg (by omega), if_neg (by omega), if_neg (by omega), if_neg (by omega), if_pos hk5]
    rw [typed_len]; exact h5
  · rw [q4 hk5]; omega
theorem slotX_T {A : List Ar} (T T' : List Tap) {e : Ev} (h : (slotX A T e).2 = 0) : (slotX A T' e).2 = 0 ∨ (slotX A T' e).2 = 210 := by
  unfold slotX slotE at h ⊢
  cases hv : validE e with
  | false => rw [hv, if_pos rfl] at h; cases h
  | true =>
    rw [hv, if_neg (by simp)] at h
    rw [if_neg (by simp)]
    by_cases h1 : e.kind = 1
    · rw [if_pos h1]; exact .inl rfl
    rw [if_neg h1] at h ⊢
    by_cases h2 : e.kind = 2
    · rw [if_pos h2] at h ⊢; exact .inl h
    rw [if_neg h2] at h ⊢
    by_cases h3 : e.kind = 3
    · rw [if_pos h3]
      obtain ⟨q1, q2⟩ := valid_one hv h3
      have hin : (e.p.getD 0 default).inB = true := by
        have e0 : e.p.getD 0 default = e.p[0] := by simp [q1]
        rw [e0]; exact List.all_eq_true.1 q2 _ (List.getElem_mem _)
      rcases touch_err A T' _ hin with h | h
      · rw [wrap_ok h]; exact .inl rfl
      · rw [wrap_no (by omega), h]; exact .inr rfl
    rw [if_neg h3] at h ⊢
    exact .inl h
theorem wri_ok (F : Ev → List (List Ch) × Int) (l : List Raw) (hl : raws l) (n : Nat) : ∀ e ∈ wriTo F l n, (F e).2 = 0 ∧ ∃ x, x.ok ∧ e = evF x := by
  intro e he
  obtain ⟨h1, h2⟩ := List.mem_filter.1 he
  obtain ⟨x, hx, rfl⟩ := List.mem_map.1 h1
  exact ⟨of_decide_eq_true h2, x, hl.1 x (List.mem_of_mem_take hx), rfl⟩
theorem taps_ok {l : List (Int × Int × Int)} (hl : t3s l) : tpOk (tapsF l) := by
  refine ⟨by unfold tapsF; rw [tapTo_len]; omega, fun t ht => ?_⟩
  obtain ⟨i, hi, rfl⟩ := List.mem_map.1 ht
  have hi2 := List.mem_range.1 hi
  obtain ⟨h1, h2, h3⟩ := t3_at hl (i := i) (by omega)
  unfold tapAt Tap.ok
  dsimp only
  omega
theorem nil_ok : tpOk [] := ⟨by simp, by simp⟩
end Go.Proofs.YtojgjdcciojpeaaGreat
set_option linter.unusedSimpArgs false
set_option linter.unusedVariables false
namespace Go.Proofs.YtojgjdcciojpeaaGreat
open Go Go.PS
set_option maxRecDepth 100000
set_option maxHeartbeats 4000000
theorem script41 (F : Ev → List (List Ch) × Int) (b : Brd) (c : Cp) (h : c.good) (l : List Ev) (hn : l.length ≤ 1000) (hl : ∀ e ∈ l, e.lok) (hF : ∀ e ∈ l, ∀ s ∈ (F e).1, s.length ≤ 100)
    (hD : ∀ c : Cp, c.ok → ∀ e ∈ l, PCall Tryz.prog 38 [c.d, b.d, .sl 0 [], e.d] (rC (doR (F e) c e))) :
    PCall Tryz.prog 41 [c.d, b.d, .sl 6 (l.map Ev.d)] (rC (scrTo F c l l.length)) := by
  have z0 : scrTo F c l 0 = (c, 0) := rfl
  have z1 : (scrTo F c l 0).1 = c := rfl
  have z2 : (scrTo F c l 0).2 = 0 := rfl
  refine enterP tabOk Tryz.func41 34 [0, 1, 2, 3, 4, 6, 7, 8, 10, 11, 12, 13, 14, 15, 16, 27] [.cell 6 81, .tmp 7] rfl (r := [_, _]) rfl (h := ?_); intro E hK; simp only [go_sem]
  refine wgoF (And.intro (@Cp.d.eq_1) (@Brd.d.eq_1)) ?_
  refine wlpF (Run.loopC (ι := { i : Nat // i ≤ l.length }) (U := fun i => [(8, .d (.int .i64 (scrTo F c l i.1).2)), (15, .d (.int .i64 i.1))]) (O := fun i => [(3, some (cpO (scrTo F c l i.1).1))]) (K := fun _ => []) (μ := fun i => l.length - i.1) (i0 := ⟨0, by omega⟩)) (And.intro (@cpO.eq_1) (And.intro (@z1) (@z2))) ?_
  rintro ⟨i, hi⟩ ih
  obtain ⟨g1, g2, g3⟩ := scr_good F h hl hF i hi
  by_cases hlt : i < l.length
  · have h1 : (i : Int) < l.length := by omega
    have hget := ev_get hlt
    have hst := scr_step F c hlt
    have hd := hD (scrTo F c l i).1 g1.1 _ (getD_memE hlt)
    generalize scrTo F c l i = r at g1 g2 g3 hst hd
    unfold stepR at hst
    generalize l.getD i default = e at hget hst hd
    generalize doR (F e) r.1 e = q at hst hd
    obtain ⟨c', x⟩ := q
    obtain ⟨cr, nr⟩ := r
    by_cases hx : x = 0
    · subst hx
      rw [if_pos rfl] at hst
      have s1 : (scrTo F c l (i + 1)).1 = c' := by rw [hst]
      have s2 : (scrTo F c l (i + 1)).2 = nr + 1 := by rw [hst]
      dsimp only at g2 g3
      simp only [go_sem, cpO]
      refine wgoF (And.intro (@h1) (@hget)) ?_
      refine wcallF (hd) (And.intro (@Cp.d.eq_1) (And.intro (@Ev.d.eq_1) (@Brd.d.eq_1))) ?_
      refine wgoF (And.intro (@rC.eq_1) (@Cp.d.eq_1)) ?_
      exact wnxtF (ih ⟨i + 1, by omega⟩) (And.intro (@s1) (And.intro (@s2) (@cpO.eq_1)))
    · rw [if_neg hx] at hst
      have s1 : (scrTo F c l (i + 1)).1 = cr := by rw [hst]
      have s2 : (scrTo F c l (i + 1)).2 = nr := by rw [hst]
      simp only [go_sem, cpO]
      refine wgoF (And.intro (@h1) (@hget)) ?_
      refine wcallF (hd) (And.intro (@Cp.d.eq_1) (And.intro (@Ev.d.eq_1) (@Brd.d.eq_1))) ?_
      refine wgoF (And.intro (@rC.eq_1) (And.intro (@Cp.d.eq_1) (@hx))) ?_
      exact wnxtF (ih ⟨i + 1, by omega⟩) (And.intro (@s1) (And.intro (@s2) (@cpO.eq_1)))
  · have h1 : ¬ (i : Int) < l.length := by omega
    obtain rfl : i = l.length := by omega
    simp only [go_sem, cpO]
    refine wgoF (@h1) ?_
    exact wretF (And.intro (@rC.eq_1) (@Cp.d.eq_1))
/-! Cases. -/
def rws (l : List Rw) : Prop := (∀ x ∈ l, x.ok) ∧ l.length ≤ 9223372036854775807
theorem rw_get {l : List Rw} {i : Nat} (h : i < l.length) : (List.map Rw.d l).getD i .nilp = .agg [.int .u8 (l.getD i default).k, .int .u8 (l.getD i default).a, .int .u8 (l.getD i default).b, .int .u8 (l.getD i default).c] := by simp [h, Rw.d]
def evsR (l : List Rw) (n : Nat) : List Ev := (l.take n).map evR
theorem evsR_snoc {l : List Rw} {i : Nat} (h : i < l.length) : evsR l (i + 1) = evsR l i ++ [evR (l.getD i default)] := by
  have e : l.getD i default = l[i] := by simp [h]
  unfold evsR
  rw [List.take_succ_eq_append_getElem h, List.map_append, e]; rfl
theorem evsR_len {l : List Rw} {n : Nat} : (evsR l n).length ≤ n := by simp [evsR]; omega
theorem evsR_lok (l : List Rw) (n : Nat) : ∀ e ∈ evsR l n, e.lok := by
  intro e he
  obtain ⟨x, _, rfl⟩ := List.mem_map.1 he
  exact evR_lok x
theorem events42 (l : List Rw) (n : Nat) (hn : n ≤ 1000) (hl : rws l) : PCall Tryz.prog 42 [.sl 4 (l.map Rw.d), .int .i64 n] (.sl 6 ((evsR l n).map Ev.d)) := by
  have hll := hl.2
  have z0 : evsR l 0 = [] := rfl
  refine enterP tabOk Tryz.func42 28 [0, 1, 4, 5, 6, 16] [.tmp 4] rfl (r := [_]) rfl (h := ?_); intro E hK; simp only [go_sem]
  refine wgo ?_
  (apply Run.full 5 1005 26 6; (case hi => simp only [go_sem]; rfl); (case ht => simp only [go_sem]); (case hmn => first | exact Or.inl (by decide) | exact Or.inr rfl); (case hs => simp only [go_sem]; rfl))
  refine wlpF (Run.loopC (ι := { i : Nat // i ≤ l.length ∧ i ≤ n }) (U := fun i => [(5, .own 6 ((evsR l i.1).map Ev.d) (.tok 1005)), (6, .d (.int .i64 i.1))]) (O := fun i => []) (K := fun _ => [(1005, .live 26 6)]) (μ := fun i => l.length - i.1) (i0 := ⟨0, by omega, by omega⟩)) (@z0) ?_
  rintro ⟨i, hi, hin⟩ ih
  have hel := evsR_len (l := l) (n := i)
  by_cases hlt : i < l.length ∧ i < n
  · obtain ⟨hlt, hln⟩ := hlt
    have h1 : (i : Int) < l.length := by omega
    have h2 : (i : Int) < n := by omega
    have hget := rw_get hlt
    have ee : l.getD i default = l[i] := by simp [hlt]
    have h37 := event37 _ (by have := hl.1 _ (List.getElem_mem hlt); rw [← ee] at this; exact this)
    have hst := evsR_snoc hlt
    generalize l.getD i default = x at hget h37 hst
    simp only [go_sem]
    refine wgoF (And.intro (@h1) (And.intro (@h2) (@hget))) ?_
    refine wcallF (h37) (@Rw.d.eq_1) ?_
    refine wgoF (@Ev.d.eq_1) ?_
    (apply Run.retok 26 1005; (case hk => simp only [go_sem]; rfl); (case ht => simp only [go_sem]; rfl); (case ht' => simp only [go_sem]); (case hs => simp only [go_sem]; rfl))
    exact wnxtF (ih ⟨i + 1, by omega, by omega⟩) (And.intro (@hst) (@Ev.d.eq_1))
  · have c : (decide ((i : Int) < l.length) && decide ((i : Int) < n)) = false := by
      rw [Bool.and_eq_false_iff]
      by_cases q : i < l.length
      · right; exact decide_eq_false (by omega)
      · left; exact decide_eq_false (by omega)
    have hf : evsR l i = evsR l n := by
      unfold evsR
      by_cases q : i < l.length
      · rw [show i = n by omega]
      · rw [List.take_of_length_le (by omega), List.take_of_length_le (by omega)]
    simp only [go_sem, hf]
    refine wgoF (@c) ?_
    exact wret
structure Cs where
  B : List (Int × Int)
  T : List (Int × Int × Int)
  L : List Rw
def Cs.d (x : Cs) : D := .agg [.sl 2 (x.B.map bpD), .sl 3 (x.T.map t3D), .sl 4 (x.L.map Rw.d)]
def Cs.ok (x : Cs) : Prop := bps x.B ∧ t3s x.T ∧ rws x.L
theorem board36 (x : Cs) (hx : x.ok) : PCall Tryz.prog 36 [x.d] (bdT (madeB x.B) 4 ((tapsF x.T).map Tap.d)) := by
  obtain ⟨h1, h2, h3⟩ := hx
  have m := made16 x.B h1
  have t := taps17 x.T h2
  refine enterP tabOk Tryz.func36 10 [0, 1, 2] [.cell 2 84] rfl (r := [_]) rfl (h := ?_); intro E hK; simp only [go_sem]
  refine wgoF (@Cs.d.eq_1) ?_
  refine wcall (m) ?_
  refine wgoF (@Brd.d.eq_1) ?_
  refine wcall (t) ?_
  refine wgo ?_
  exact wretF (@bdT.eq_1)
end Go.Proofs.YtojgjdcciojpeaaGreat
set_option linter.unusedSimpArgs false
set_option linter.unusedVariables false
namespace Go.Proofs.YtojgjdcciojpeaaGreat
open Go Go.PS
set_option maxRecDepth 100000
set_option maxHeartbeats 4000000
/-! The composition after the events of a case. -/
def begF (F : Ev → List (List Ch) × Int) (l : List Ev) : Cp := (scrTo F emC l l.length).1
theorem begun35 (F : Ev → List (List Ch) × Int) (x : Cs) (hx : x.ok) (n : Nat) (hn : n ≤ 1000) (hF : ∀ e ∈ evsR x.L n, ∀ s ∈ (F e).1, s.length ≤ 100)
    (hD : ∀ c : Cp, c.ok → ∀ e ∈ evsR x.L n, PCall Tryz.prog 39 [c.d, bdT (madeB x.B) 4 ((tapsF x.T).map Tap.d), e.d] (rC (doR (F e) c e))) :
    PCall Tryz.prog 35 [x.d, .int .i64 n] (begF F (evsR x.L n)).d := by
  have hb := board36 x hx
  have h42 := events42 x.L n hn hx.2.2
  have hel := evsR_len (l := x.L) (n := n)
  have hlk := evsR_lok x.L n
  generalize evsR x.L n = l at hF hD h42 hel hlk
  generalize (tapsF x.T).map Tap.d = tp at hb hD
  generalize madeB x.B = bb at hb hD
  have z1 : (scrTo F emC l 0).1 = emC := rfl
  have z2 : emC.ev = [] := rfl
  have z3 : emC.sl = [] := rfl
  have z4 : emC.cu = 0 := rfl
  have z5 : emC.pn = [] := rfl
  have z6 : emC.ch = 0 := rfl
  refine enterP tabOk Tryz.func35 36 [0, 1, 2, 4, 5, 6, 7, 8, 9, 18, 33] [.cell 4 81] rfl (r := [_]) rfl (h := ?_); intro E hK; simp only [go_sem]
  refine wgoF (@Cs.d.eq_1) ?_
  refine wcallF (h42) (@Rw.d.eq_1) ?_
  refine wgo ?_
  refine wlpF (Run.loopC (ι := { i : Nat // i ≤ l.length }) (U := fun i => [(7, .d (.int .i64 i.1))]) (O := fun i => [(5, some (cpO (scrTo F emC l i.1).1))]) (K := fun _ => []) (μ := fun i => l.length - i.1) (i0 := ⟨0, by omega⟩)) (And.intro (@cpO.eq_1) (And.intro (@z1) (And.intro (@z2) (And.intro (@z3) (And.intro (@z4) (And.intro (@z5) (@z6))))))) ?_
  rintro ⟨i, hi⟩ ih
  obtain ⟨g1, g2, g3⟩ := scr_good F em_good hlk hF i hi
  by_cases hlt : i < l.length
  · have h1 : (i : Int) < l.length := by omega
    have hget := ev_get hlt
    have hst := scr_step F emC hlt
    have hd := hD (scrTo F emC l i).1 g1.1 _ (getD_memE hlt)
    generalize scrTo F emC l i = r at g1 g2 g3 hst hd
    unfold stepR at hst
    generalize l.getD i default = e at hget hst hd
    generalize doR (F e) r.1 e = q at hst hd
    obtain ⟨c', x'⟩ := q
    obtain ⟨cr, nr⟩ := r
    by_cases hx' : x' = 0
    · subst hx'
      rw [if_pos rfl] at hst
      have s1 : (scrTo F emC l (i + 1)).1 = c' := by rw [hst]
      simp only [go_sem, cpO]
      refine woneF (And.intro (@h1) (@hget)) ?_
      refine wgoF (And.intro (@h1) (@hget)) ?_
      refine wcallF (hb) (@Cs.d.eq_1) ?_
      refine wgoF (And.intro (@h1) (And.intro (@hget) (@bdT.eq_1))) ?_
      refine wcallF (hd) (And.intro (@Cp.d.eq_1) (And.intro (@Ev.d.eq_1) (@bdT.eq_1))) ?_
      refine wgoF (And.intro (@rC.eq_1) (@Cp.d.eq_1)) ?_
      exact wnxtF (ih ⟨i + 1, by omega⟩) (And.intro (@s1) (@cpO.eq_1))
    · rw [if_neg hx'] at hst
      have s1 : (scrTo F emC l (i + 1)).1 = cr := by rw [hst]
      simp only [go_sem, cpO]
      refine woneF (And.intro (@h1) (@hget)) ?_
      refine wgoF (And.intro (@h1) (@hget)) ?_
      refine wcallF (hb) (@Cs.d.eq_1) ?_
      refine wgoF (And.intro (@h1) (And.intro (@hget) (@bdT.eq_1))) ?_
      refine wcallF (hd) (And.intro (@Cp.d.eq_1) (And.intro (@Ev.d.eq_1) (@bdT.eq_1))) ?_
      refine wgoF (And.intro (@rC.eq_1) (And.intro (@Cp.d.eq_1) (@hx'))) ?_
      exact wnxtF (ih ⟨i + 1, by omega⟩) (And.intro (@s1) (@cpO.eq_1))
  · have h1 : ¬ (i : Int) < l.length := by omega
    obtain rfl : i = l.length := by omega
    simp only [go_sem, cpO]
    refine wgoF (@h1) ?_
    exact wretF (And.intro (@Cp.d.eq_1) (@begF.eq_1))
/-- The letters of the first choices. -/
def firstTo (l : List (List Ch)) (i : Nat) : List UInt8 := ((l.take i).filter (fun s => decide (0 < s.length))).map (fun s => UInt8.ofNat (s.getD 0 default).k.toNat)
theorem key52 (s : List UInt8) : PCall Tryz.prog 52 [.str s] (⟨1, s, [], [], 0, 0⟩ : Ev).d := by
  refine enterP tabOk Tryz.func52 5 [0, 2] [.cell 2 26] rfl (r := [_]) rfl (h := ?_); intro E hK; simp only [go_sem]
  refine wgo ?_
  exact wretF (@Ev.d.eq_1)
end Go.Proofs.YtojgjdcciojpeaaGreat
set_option linter.unusedSimpArgs false
set_option linter.unusedVariables false
namespace Go.Proofs.YtojgjdcciojpeaaGreat
open Go Go.PS
set_option maxRecDepth 100000
set_option maxHeartbeats 4000000
/-! Compositions that are right are found to be right. -/
theorem vslot111 (s : List Ch) (hs : slotOk s) : PCall Tryz.prog 111 [slD s] (.bool true) := by
  obtain ⟨m1, m2, m3, m4⟩ := hs
  have c1 : ¬ (s.length : Int) < 1 := by omega
  have c2 : ¬ (8 : Int) < s.length := by omega
  refine enterP tabOk Tryz.func111 52 [0, 2, 3, 4, 12, 13, 14, 15, 16, 37, 50] [.tmp 2] rfl (r := [_]) rfl (h := ?_); intro E hK; simp only [go_sem]
  refine wgoF (And.intro (@slD.eq_1) (And.intro (@c1) (@c2))) ?_
  refine wlp (Run.loopC (ι := { k : Nat // k ≤ s.length }) (U := fun k => [(15, .d (.int .i64 k.1))]) (O := fun i => []) (K := fun _ => []) (μ := fun k => s.length - k.1) (i0 := ⟨0, by omega⟩)) ?_
  rintro ⟨k, hk⟩ ih
  by_cases hkt : k < s.length
  · have h2 : (k : Int) < s.length := by omega
    have hgk := ch_get hkt
    have ek : s.getD k default = s[k] := by simp [hkt]
    have hc := m3 _ (List.getElem_mem hkt)
    rw [← ek] at hc
    cases k with
    | zero =>
      have z1 : ¬ (0 : Int) < ((0 : Nat) : Int) := by omega
      have z3 : ¬ (0 : Int) < 0 := by omega
      have z4 : (0 : Int) < s.length := by omega
      generalize s.getD 0 default = c at hgk hc
      obtain ⟨n1, n2, n3, n4⟩ := hc
      have d1 : ¬ c.k < 97 := by omega
      have d2 : ¬ 122 < c.k := by omega
      have d3 : ¬ c.c < 0 := by omega
      have d4 : ¬ 1000 < c.c := by omega
      simp only [go_sem]
      refine wgoF (And.intro (@h2) (And.intro (@hgk) (And.intro (@d1) (And.intro (@d2) (And.intro (@d3) (And.intro (@d4) (And.intro (@z1) (And.intro (@z3) (@z4))))))))) ?_
      exact wnxt (ih ⟨0 + 1, by omega⟩)
    | succ j =>
      have z1 : (0 : Int) < ((j + 1 : Nat) : Int) := by omega
      have z2 : (((j + 1 : Nat) : Int) - 1).toNat = j := by omega
      have hj : j < s.length := by omega
      have hgj := ch_get hj
      have ej : s.getD j default = s[j] := by simp [hj]
      have hlt2 : (s.getD j default).k < (s.getD (j + 1) default).k := by
        rw [ej, ek]; exact List.pairwise_iff_getElem.1 m4 j (j + 1) hj hkt (by omega)
      generalize s.getD (j + 1) default = c at hgk hc hlt2
      generalize s.getD j default = d at hgj hlt2
      obtain ⟨n1, n2, n3, n4⟩ := hc
      have d1 : ¬ c.k < 97 := by omega
      have d2 : ¬ 122 < c.k := by omega
      have d3 : ¬ c.c < 0 := by omega
      have d4 : ¬ 1000 < c.c := by omega
      have d5 : ¬ c.k ≤ d.k := by omega
      simp only [go_sem]
      refine wgoF (And.intro (@h2) (And.intro (@hgk) (And.intro (@hgj) (And.intro (@d1) (And.intro (@d2) (And.intro (@d3) (And.intro (@d4) (And.intro (@d5) (And.intro (@z1) (@z2)))))))))) ?_
      exact wnxt (ih ⟨j + 1 + 1, by omega⟩)
  · have h2 : ¬ (k : Int) < s.length := by omega
    simp only [go_sem]
    refine wgoF (@h2) ?_
    exact wret
theorem not110 (s : List Ch) (hs : slotOk s) : PCall Tryz.prog 110 [slD s] (.bool false) := by
  have h := vslot111 s hs
  refine enterP tabOk Tryz.func110 6 [0, 2] [.tmp 2] rfl (r := [_]) rfl (h := ?_); intro E hK; simp only [go_sem]
  refine wgo ?_
  refine wcallF (h) (@slD.eq_1) ?_
  refine wgo ?_
  exact wret
theorem index122 (l : List (List Ch)) (hl : l.length ≤ 40) (hv : ∀ s ∈ l, slotOk s) : PCall Tryz.prog 122 [slsD l, .fn (.func 110) [] []] (.int .i64 (-1)) := by
  have e1 := mlen l
  refine enterP tabOk Tryz.func122 19 [0, 1, 4, 5, 7, 8, 9, 16] [.tmp 4] rfl (r := [_]) rfl (h := ?_); intro E hK; simp only [go_sem]
  refine wgoF (@slsD.eq_1) ?_
  refine wlp (Run.loopC (ι := { i : Nat // i ≤ l.length }) (U := fun i => [(8, .d (.int .i64 i.1))]) (O := fun i => []) (K := fun _ => []) (μ := fun i => l.length - i.1) (i0 := ⟨0, by omega⟩)) ?_
  rintro ⟨i, hi⟩ ih
  by_cases hlt : i < l.length
  · have h1 : (i : Int) < l.length := by omega
    have hget := sl_get hlt
    have e : l.getD i [] = l[i] := by simp [hlt]
    have hc := not110 _ (hv _ (List.getElem_mem hlt))
    rw [← e] at hc
    generalize l.getD i [] = s at hget hc
    simp only [go_sem]
    refine wgoF (And.intro (@h1) (And.intro (@e1) (@hget))) ?_
    refine wcallF (hc) (@slD.eq_1) ?_
    refine wgo ?_
    exact wnxt (ih ⟨i + 1, by omega⟩)
  · have h1 : ¬ (i : Int) < l.length := by omega
    simp only [go_sem]
    refine wgoF (And.intro (@h1) (@e1)) ?_
    exact wret
theorem contains109 (l : List (List Ch)) (hl : l.length ≤ 40) (hv : ∀ s ∈ l, slotOk s) : PCall Tryz.prog 109 [slsD l, .fn (.func 110) [] []] (.bool false) := by
  have h := index122 l hl hv
  refine enterP tabOk Tryz.func109 9 [0, 1, 4] [.tmp 4] rfl (r := [_]) rfl (h := ?_); intro E hK; simp only [go_sem]
  refine wgoF (@slsD.eq_1) ?_
  refine wcallF (h) (@slsD.eq_1) ?_
  refine wgo ?_
  exact wret
theorem lvalid79 (l : List (List Ch)) (hl : l.length ≤ 40) (hv : ∀ s ∈ l, slotOk s) : PCall Tryz.prog 79 [slsD l] (.bool true) := by
  have h := contains109 l hl hv
  have e1 := mlen l
  have h40 : ¬ (40 : Int) < l.length := by omega
  refine enterP tabOk Tryz.func79 9 [0, 2, 5] [.tmp 2] rfl (r := [_]) rfl (h := ?_); intro E hK; simp only [go_sem]
  refine wgoF (And.intro (@slsD.eq_1) (And.intro (@e1) (@h40))) ?_
  refine wcallF (h) (@slsD.eq_1) ?_
  refine wgo ?_
  exact wret
def hasS (e : Ev) : Bool := ((decide (e.kind = 1) || decide (e.kind = 2)) || decide (e.kind = 3)) || decide (e.kind = 4)
theorem has_iff {e : Ev} : hasS e = true ↔ e.kind = 1 ∨ e.kind = 2 ∨ e.kind = 3 ∨ e.kind = 4 := by
  unfold hasS
  simp only [Bool.or_eq_true, decide_eq_true_eq]
  omega
theorem has48 (e : Ev) : PCall Tryz.prog 48 [e.d] (.bool (hasS e)) := by
  unfold hasS
  refine enterP tabOk Tryz.func48 21 [0, 1, 2] [.tmp 2] rfl (r := [_]) rfl (h := ?_); intro E hK; simp only [go_sem]
  refine wgoF (@Ev.d.eq_1) ?_
  exact wret
def Cp.full (c : Cp) : Prop := c.good ∧ (∀ e ∈ c.ev, hasS e = true ∧ validE e = true) ∧ (∀ s ∈ c.sl, slotOk s) ∧ 0 ≤ c.ch ∧ c.ch ≤ 49
theorem typed_full {c : Cp} (h : c.full) (hl : c.ev.length < 40) {e : Ev} (he : e.lok) (h1 : hasS e = true) (h2 : validE e = true) {s : List Ch} (hs : slotOk s) : (typedC c e s).full := by
  refine ⟨typed_good h.1 hl he (by have := hs.2.1; omega), fun x hx => ?_, fun t ht => ?_, by simp [typedC], by simp [typedC]⟩
  · rcases mem_ins hx with rfl | hx
    · exact ⟨h1, h2⟩
    · exact h.2.1 x hx
  · rcases mem_ins ht with rfl | ht
    · exact hs
    · exact h.2.2.1 t ht
theorem byte_slotOk {ch : UInt8} (h : letB ch = true) : slotOk [byteC ch] := by
  have := letB_iff.1 h
  refine ⟨by simp, by simp, fun d hd => ?_, List.pairwise_singleton _ _⟩
  simp only [List.mem_singleton] at hd
  subst hd
  simp only [byteC]
  omega
theorem kE_valid {ch : UInt8} (h : letB ch = true) : hasS (kE ch) = true ∧ validE (kE ch) = true := by
  have hl : lets [ch] = true := by simp [lets, h]
  refine ⟨rfl, ?_⟩
  unfold validE kE
  rw [if_pos rfl, hl]
  simp
  exact ⟨⟨⟨rfl, rfl⟩, rfl⟩, rfl⟩
theorem pas_full {c : Cp} (h : c.full) {t : List UInt8} (ht : ∀ x ∈ t, letB x = true) (hl : c.ev.length + t.length ≤ 40) : ∀ i, i ≤ t.length → (pasTo c t i).full
  | 0, _ => h
  | i + 1, hi => by
    have h1 := pas_full h ht hl i (by omega)
    have h2 := (pas_ok h.1.1 hl i (by omega)).2
    rw [pas_step c (by omega)]
    have e : t.getD i 0 = t[i] := by simp [show i < t.length by omega]
    have hm := ht _ (List.getElem_mem (show i < t.length by omega))
    rw [← e] at hm
    exact typed_full h1 (by omega) (kE_lok _) (kE_valid hm).1 (kE_valid hm).2 (byte_slotOk hm)
theorem erased_full {c : Cp} (h : c.full) (h0 : 1 ≤ c.cu) : (erasedC c).full :=
  ⟨erased_good h.1 h0, fun x hx => h.2.1 x (mem_del hx), fun s hs => h.2.2.1 s (mem_del hs), by simp [erasedC], by simp [erasedC]⟩
theorem em_full : emC.full := ⟨em_good, by simp [emC], by simp [emC], by simp [emC], by simp [emC]⟩
theorem valid_choose {e : Ev} (h : validE e = true) (hk : e.kind = 10) : 0 ≤ e.n ∧ e.n ≤ 49 := by
  unfold validE at h
  rw [if_neg (by omega), if_neg (by omega), if_neg (by omega), if_neg (by omega), if_neg (by omega), if_neg (by omega), if_pos hk] at h
  simp only [Bool.and_eq_true, decide_eq_true_eq] at h
  omega
/-- What is said of an event's slots. -/
def slOk (e : Ev) (r : List (List Ch) × Int) : Prop := (∀ s ∈ r.1, slotOk s) ∧ (r.2 = 0 → e.kind ≠ 5 → r.1.length = 1)
theorem do_full {c : Cp} (h : c.full) {e : Ev} (he : e.lok) {F : List (List Ch) × Int} (hF : slOk e F) : (doR F c e).1.full := by
  have hg := do_good h.1 he (F := F) (fun s hs => by have := (hF.1 s hs).2.1; omega)
  unfold doR at hg ⊢
  cases hv : validE e with
  | false => rw [if_pos rfl]; exact h
  | true =>
    rw [if_neg (by simp)]
    rw [hv, if_neg (by simp)] at hg
    split
    · rename_i hk
      unfold slotR31
      split
      · exact h
      rename_i q1
      split
      · exact h
      rename_i q2
      have h0 : F.2 = 0 := by
        by_cases q : F.2 = 0
        · exact q
        · exact absurd q q1
      have hone := hF.2 h0 (by omega)
      refine typed_full h (by have := h.1.1.len; omega) he (has_iff.2 hk) hv ?_
      cases hL : F.1 with
      | nil => rw [hL] at hone; simp at hone
      | cons s r => exact hF.1 s (by rw [hL]; simp)
    split
    · rename_i hk
      unfold pasR
      split
      · exact h
      · exact pas_full h (fun x hx => by have := (valid_text hv hk).2.2; exact List.all_eq_true.1 this x hx) (by have := h.1.1.len; omega) _ (Nat.le_refl _)
    rename_i n1 n2
    rw [if_neg n1, if_neg n2] at hg
    split
    · split
      · exact h
      · exact erased_full h (by have := h.1.1.lo; omega)
    split
    · unfold movedR
      split
      · exact h
      · rename_i q
        have := moved_good h.1 (-1)
        unfold movedR at this
        rw [if_neg q] at this
        exact ⟨this, h.2⟩
    split
    · unfold movedR
      split
      · exact h
      · rename_i q
        have := moved_good h.1 1
        unfold movedR at this
        rw [if_neg q] at this
        exact ⟨this, h.2⟩
    split
    · have := held_good h.1 e
      unfold heldR at this ⊢
      split
      · rename_i q
        rw [if_pos q] at this
        exact ⟨this, h.2.1, h.2.2.1, by dsimp only; omega, by dsimp only; omega⟩
      · exact h
    split
    · rename_i hk
      have := valid_choose hv hk
      obtain ⟨⟨⟨h1, h2, h3, h4, h5⟩, h6, h7⟩, h8, h9, h10⟩ := h
      exact ⟨⟨⟨h1, h2, h3, h4, h5⟩, h6, h7⟩, h8, h9, this⟩
    split
    · exact em_full
    · exact h
theorem valid46 (c : Cp) (h : c.full) : PCall Tryz.prog 46 [c.d] (.bool true) := by
  obtain ⟨⟨⟨h1, h2, h3, h4, h5⟩, h6, h7⟩, h8, h9, h10, h11⟩ := h
  have e1 := mlen c.sl
  have s1 := valid28 c.sl (by omega) h9
  have s2 := pvalid56 c.pn (c.sl.length : Int) ((pv_ok (by omega) h5).1)
  have hn : ((c.sl.length : Nat) : Int) = (c.ev.length : Int) := by omega
  have hb : pvB c.pn (c.sl.length : Int) = true := by
    rw [hn, pv_in (by omega) (by omega)]; exact h5
  rw [hb] at s2
  have q1 : ¬ (40 : Int) < (c.sl.length : Int) := by omega
  have q2 : decide ((c.ev.length : Int) = (c.sl.length : Int)) = true := decide_eq_true (by omega)
  have q3 : ¬ c.cu < 0 := by omega
  have q4 : ¬ (c.sl.length : Int) < c.cu := by omega
  have q5 : ¬ c.ch < 0 := by omega
  have q6 : ¬ (49 : Int) < c.ch := by omega
  refine enterP tabOk Tryz.func46 68 [0, 1, 2, 3, 4, 37, 40, 58] [.tmp 2] rfl (r := [_]) rfl (h := ?_); intro E hK; simp only [go_sem]
  refine wgoF (And.intro (@Cp.d.eq_1) (And.intro (@e1) (And.intro (@q1) (And.intro (@q2) (And.intro (@q3) (And.intro (@q4) (And.intro (@q5) (@q6)))))))) ?_
  refine wlp (Run.loopC (ι := { i : Nat // i ≤ c.sl.length }) (U := fun i => [(4, .d (.int .i64 i.1))]) (O := fun i => []) (K := fun _ => []) (μ := fun i => c.sl.length - i.1) (i0 := ⟨0, by omega⟩)) ?_
  rintro ⟨i, hi⟩ ih
  by_cases hlt : i < c.sl.length
  · have h1' : (i : Int) < c.sl.length := by omega
    have hlt' : i < c.ev.length := by omega
    have h2' : (i : Int) < c.ev.length := by omega
    have hget := ev_get hlt'
    have hm := h8 _ (getD_memE hlt')
    have hlk := h6 _ (getD_memE hlt')
    have ha := has48 (c.ev.getD i default)
    have hv := valid64 _ hlk
    rw [hm.1] at ha
    rw [hm.2] at hv
    generalize c.ev.getD i default = e at hget ha hv
    simp only [go_sem]
    refine wgoF (And.intro (@h1') (And.intro (@h2') (@hget))) ?_
    refine wcallF (ha) (@Ev.d.eq_1) ?_
    refine wgoF (And.intro (@h2') (@hget)) ?_
    refine wcallF (hv) (@Ev.d.eq_1) ?_
    refine wgo ?_
    exact wnxt (ih ⟨i + 1, by omega⟩)
  · have h1' : ¬ (i : Int) < c.sl.length := by omega
    simp only [go_sem]
    refine wgoF (@h1') ?_
    refine wcallF (s1) (@slsD.eq_1) ?_
    refine wgo ?_
    refine wcall (s2) ?_
    refine wgo ?_
    exact wret
theorem valid47 (c : Cp) (h : c.full) : PCall Tryz.prog 47 [c.d] (.bool true) := by
  obtain ⟨⟨⟨h1, h2, h3, h4, h5⟩, h6, h7⟩, h8, h9, h10, h11⟩ := h
  have e1 := mlen c.sl
  have s1 := lvalid79 c.sl (by omega) h9
  have s2 := pvalid80 c.pn (c.sl.length : Int) ((pv_ok (by omega) h5).1)
  have hn : ((c.sl.length : Nat) : Int) = (c.ev.length : Int) := by omega
  have hb : pvB c.pn (c.sl.length : Int) = true := by
    rw [hn, pv_in (by omega) (by omega)]; exact h5
  rw [hb] at s2
  have q1 : ¬ (40 : Int) < (c.sl.length : Int) := by omega
  have q2 : decide ((c.ev.length : Int) = (c.sl.length : Int)) = true := decide_eq_true (by omega)
  have q3 : (0 : Int) ≤ c.cu := by omega
  have q4 : c.cu ≤ (c.sl.length : Int) := by omega
  have q5 : (0 : Int) ≤ c.ch := by omega
  have q6 : c.ch < 50 := by omega
  refine enterP tabOk Tryz.func47 70 [0, 1, 2, 3, 5, 23, 25, 26, 27, 28, 43] [.tmp 2] rfl (r := [_]) rfl (h := ?_); intro E hK; simp only [go_sem]
  refine wgoF (And.intro (@Cp.d.eq_1) (And.intro (@e1) (And.intro (@q1) (@q2)))) ?_
  refine wcallF (s1) (@slsD.eq_1) ?_
  refine wgo ?_
  refine wlp (Run.loopC (ι := { i : Nat // i ≤ c.ev.length }) (U := fun i => [(27, .d (.int .i64 i.1))]) (O := fun i => []) (K := fun _ => []) (μ := fun i => c.ev.length - i.1) (i0 := ⟨0, by omega⟩)) ?_
  rintro ⟨i, hi⟩ ih
  by_cases hlt : i < c.ev.length
  · have h2' : (i : Int) < c.ev.length := by omega
    have hget := ev_get hlt
    have hm := h8 _ (getD_memE hlt)
    have hlk := h6 _ (getD_memE hlt)
    have hv := valid62 _ hlk
    rw [hm.2] at hv
    have hk := has_iff.1 hm.1
    generalize c.ev.getD i default = e at hget hv hk
    have d1 : ¬ e.kind < 1 := by omega
    have d2 : ¬ 4 < e.kind := by omega
    simp only [go_sem]
    refine woneF (And.intro (@h2') (@hget)) ?_
    refine wgoF (And.intro (@h2') (And.intro (@hget) (And.intro (@d1) (@d2)))) ?_
    refine wcallF (hv) (@Ev.d.eq_1) ?_
    refine wgo ?_
    exact wnxt (ih ⟨i + 1, by omega⟩)
  · have h1' : ¬ (i : Int) < c.ev.length := by omega
    simp only [go_sem]
    refine wgoF (And.intro (@h1') (And.intro (@q3) (And.intro (@q4) (And.intro (@q5) (@q6))))) ?_
    refine wcall (s2) ?_
    refine wgoF (And.intro (@q3) (And.intro (@q4) (And.intro (@q5) (@q6)))) ?_
    exact wret
end Go.Proofs.YtojgjdcciojpeaaGreat
