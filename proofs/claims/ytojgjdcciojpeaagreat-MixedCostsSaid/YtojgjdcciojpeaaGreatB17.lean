/-
  A part of the walks of this seat: each theorem says what a function of the program gives. No condition beyond its own premises.
-/
import Derived.Test.YtojgjdcciojpeaaGreatB16
set_option linter.unusedSimpArgs false
set_option linter.unusedVariables false
namespace Go.Proofs.YtojgjdcciojpeaaGreat
open Go Go.PS
set_option maxRecDepth 100000
set_option maxHeartbeats 4000000
/-- The statement MixedCosts holds. -/
theorem lawCosts (x : List (Int × Int)) (l : List Raw) (w : List Int) (hx : bps x) (hl : raws l) (hw : u8s w) : PCall Tryz.prog 6 [.sl 2 (x.map bpD), .sl 5 (l.map Raw.d), .sl 1 (w.map (D.int .u8))] (.bool true) := by
  have hm := made16 x hx
  obtain ⟨hA, hk⟩ := madeA_ok hx
  have hwr := writes27 (slotX (madeA x) []) (madeB x) l 8 (by omega) hl (fun y hy => slotR hx 0 [] nil_ok (fun h => absurd rfl h) _ (evF_lok (hl.1 y hy)))
  have hwo : ∀ e ∈ writesF (slotX (madeA x) []) l 8, (slotX (madeA x) [] e).2 = 0 ∧ ∃ x, x.ok ∧ e = evF x := wri_ok _ l hl _
  have hwl : (writesF (slotX (madeA x) []) l 8).length ≤ 8 := by
    have := wri_len (slotX (madeA x) []) l (min l.length 8)
    unfold writesF; omega
  generalize writesF (slotX (madeA x) []) l 8 = W at hwr hwo hwl
  have hs := slots22 (slotX (madeA x) []) (madeB x) 0 (([] : List Tap).map Tap.d) W (by omega)
    (fun e he => by obtain ⟨_, y, hy, rfl⟩ := hwo e he; exact slotR hx 0 [] nil_ok (fun h => absurd rfl h) _ (evF_lok hy))
    (fun e he => by have := (slotX_ok hA hk [] e).2.1; omega)
  obtain ⟨r1, r2⟩ := slotsF_ok (slotX (madeA x) []) W 0 [] (fun e he => (slotX_ok hA hk [] e).1) (by simp) (by simp)
  generalize slotsF (slotX (madeA x) []) W 0 [] = R at hs r1 r2
  obtain ⟨L, N, z⟩ := R
  dsimp only at r1 r2
  have hs2 : PCall Tryz.prog 22 [(madeB x).d, .sl 0 [], .sl 6 (W.map Ev.d)] (r3A (L, N, z)) := hs
  by_cases hz : z = 0
  · subst hz
    have hin := input29 L w r2 r1 hw
    have hf := inp_fits r1 w
    have hch := cheap_ok r1
    generalize inpF L w = inp at hin hf
    have hil := hf.1
    obtain ⟨_, _, n, _, _, hn, _⟩ := cost_cut hf hch 0 (by omega)
    have hcost := cost23 L inp (by omega) hch
    rw [hn] at hcost
    have e1 := mlen L
    have u1 : ∀ v : Int, (some v : Option Int).getD 0 = v := fun _ => rfl
    have u2 : ∀ v : Int, (some v : Option Int).isSome = true := fun _ => rfl
    have u3 : (none : Option Int).getD 0 = 0 := rfl
    have u4 : (none : Option Int).isSome = false := rfl
    refine enterP tabOk Tryz.func6 182 [0, 1, 2, 6, 7, 8, 9, 10, 11, 12, 13, 14, 15, 16, 17, 18, 19, 20, 21, 22, 24, 26, 37, 54, 72, 123, 125, 156, 159] [.tmp 6] rfl (r := [_]) rfl (h := ?_); intro E hK; simp only [go_sem]
    refine wgo ?_
    refine wcall (sanity15) ?_
    refine wgo ?_
    refine wcall (hm) ?_
    refine wgoF (@Brd.d.eq_1) ?_
    refine wcallF (hwr) (@Brd.d.eq_1) ?_
    refine wgo ?_
    refine wcallF (hs2) (@Brd.d.eq_1) ?_
    refine wgoF (And.intro (@r3A.eq_1) (@slsD.eq_1)) ?_
    refine wcallF (hin) (@slsD.eq_1) ?_
    refine wgo ?_
    refine wcallF (hcost) (@slsD.eq_1) ?_
    refine wgoF (And.intro (@choR.eq_1) (And.intro (@u1) (@u2))) ?_
    refine wlp (Run.loopC (ι := { y : Nat × Int // y.1 ≤ L.length ∧ 0 ≤ y.2 ∧ y.2 ≤ 1000 * y.1 ∧ ∃ p, costF (L.take y.1) (inp.take y.1) = some p ∧ y.2 ≤ p }) (U := fun y => [(13, .d (.int .i64 y.1.2)), (14, .d (.int .i64 y.1.1))]) (O := fun i => []) (K := fun _ => []) (μ := fun y => L.length - y.1.1) (i0 := ⟨(0, 0), by omega, by omega, by simp, 0, rfl, by omega⟩)) ?_
    rintro ⟨⟨i, least⟩, hi, hl0, hl1, p, hp, hpl⟩ ih0
    dsimp only at hi hl0 hl1 hp hpl
    obtain ⟨p', q, n', cp, cq, cn, csum, pb1, pb2, qb1, qb2⟩ := cost_cut hf hch i hi
    rw [hn] at cn
    cases cn
    rw [hp] at cp
    cases cp
    by_cases hlt : i < L.length
    · have h1 : (i : Int) < L.length := by omega
      have hget := sl_get hlt
      have e : L.getD i [] = L[i] := by simp [hlt]
      have hso := r1 _ (List.getElem_mem hlt)
      rw [← e] at hso
      have hnx := fun (b : Int) => cost_next hf hch hlt hp (least := b)
      have hcg := fun c => cost_changed hf hch hlt c
      have c1 := cost23 (L.take i) (inp.take i) (by simp; omega) (fun s hs => hch s (List.mem_of_mem_take hs))
      have c2 := cost23 (L.drop i) (inp.drop i) (by simp; omega) (fun s hs => hch s (List.mem_of_mem_drop hs))
      rw [hp] at c1
      rw [cq] at c2
      have hfind := fun (c : Int) => find30 (L.getD i []) c (by have := hso.2.1; omega)
      generalize L.getD i [] = s at hget hso hnx hcg hfind
      obtain ⟨m1, m2, m3, m4⟩ := hso
      have h0s : 0 < s.length := by omega
      have z4 : (0 : Int) < s.length := by omega
      have hg0 := ch_get h0s
      have b0 : 0 ≤ (s.getD 0 default).c ∧ (s.getD 0 default).c ≤ 1000 := by
        have e0 : s.getD 0 default = s[0] := by simp [h0s]
        rw [e0]; exact (m3 _ (List.getElem_mem h0s)).2.2
      simp only [go_sem]
      refine wgoF (And.intro (@h1) (And.intro (@e1) (And.intro (@hget) (And.intro (@hg0) (@z4))))) ?_
      refine wlp (Run.loopC (ι := { y : Nat × Int // y.1 ≤ s.length ∧ 0 ≤ y.2 ∧ y.2 ≤ 1000 ∧ ∀ c ∈ s.take y.1, y.2 ≤ c.c }) (U := fun y => [(15, .d (.int .i64 y.1.2)), (16, .d (.int .i64 y.1.1))]) (O := fun i => []) (K := fun _ => []) (μ := fun y => s.length - y.1.1) (i0 := ⟨(0, (s.getD 0 default).c), by omega, b0.1, b0.2, by simp⟩)) ?_
      rintro ⟨⟨k, b⟩, hk, hb0, hb1, hbl⟩ ih
      dsimp only at hk hb0 hb1 hbl
      by_cases hkt : k < s.length
      · have h2 : (k : Int) < s.length := by omega
        have hgk := ch_get hkt
        have ek : s.getD k default = s[k] := by simp [hkt]
        have hc := (m3 _ (List.getElem_mem hkt)).2.2
        have hnl : ∀ c ∈ s.take (k + 1), min b (s.getD k default).c ≤ c.c := by
          intro c hc
          rw [List.take_succ_eq_append_getElem hkt, List.mem_append, List.mem_singleton] at hc
          rcases hc with hc | hc
          · have := hbl c hc
            omega
          · rw [hc, ek]; omega
        rw [← ek] at hc
        generalize s.getD k default = c at hgk hc hnl
        obtain ⟨hc1, hc2⟩ := hc
        simp only [go_sem]
        refine wgoF (And.intro (@h1) (And.intro (@h2) (And.intro (@e1) (And.intro (@hget) (@hgk))))) ?_
        exact wnxt (ih ⟨(k + 1, min b c.c), by omega, by dsimp only; omega, by dsimp only; omega, hnl⟩)
      · have h2 : ¬ (k : Int) < s.length := by omega
        rw [List.take_of_length_le (by omega)] at hbl
        obtain ⟨v, hv1, hv2⟩ := hnx b hbl
        have t1 : List.take i (List.map slD L) = List.map slD (L.take i) := by rw [List.map_take]
        have t2 : List.drop i (List.map slD L) = List.map slD (L.drop i) := by rw [List.map_drop]
        have t3 : List.take (L.length - i) (List.map slD (L.drop i)) = List.map slD (L.drop i) := List.take_of_length_le (by simp)
        have t4 : List.take (L.length - i) (inp.drop i) = inp.drop i := List.take_of_length_le (by simp; omega)
        have hs3 : decide (p + q = n) = true := decide_eq_true csum
        have i1 : ((i : Int) + 1).toNat = i + 1 := by omega
        have i2 : (i : Int) + 1 ≤ L.length := by omega
        have i3 : (i : Int) ≤ L.length := by omega
        have ilen : (inp.length : Int) = L.length := by omega
        simp only [go_sem]
        refine wgoF (And.intro (@h1) (And.intro (@h2) (And.intro (@e1) (And.intro (@hget) (And.intro (@t1) (And.intro (@t2) (And.intro (@i3) (@ilen)))))))) ?_
        refine wcallF (c1) (@slsD.eq_1) ?_
        refine wgoF (And.intro (@choR.eq_1) (And.intro (@u1) (And.intro (@u2) (And.intro (@e1) (And.intro (@t1) (And.intro (@t2) (And.intro (@i3) (@ilen)))))))) ?_
        refine wcallF (c2) (And.intro (@slsD.eq_1) (And.intro (@t3) (@t4))) ?_
        refine wgoF (And.intro (@choR.eq_1) (And.intro (@u1) (And.intro (@u2) (@hs3)))) ?_
        refine wlp (Run.loopC (ι := { c : Nat // 97 ≤ c ∧ c ≤ 123 }) (U := fun c => [(21, .d (.int .u8 c.1))]) (O := fun i => []) (K := fun _ => []) (μ := fun c => 123 - c.1) (i0 := ⟨97, by omega, by omega⟩)) ?_
        rintro ⟨c, hc1, hc2⟩ ih
        by_cases hct : c ≤ 122
        · have h3 : (c : Int) ≤ 122 := by omega
          have hcb : ((UInt8.ofNat c).toNat : Int) = c := by rw [UInt8.toNat_ofNat']; omega
          have hcc := hcg (UInt8.ofNat c)
          rw [hcb] at hcc
          have c3 := cost23 L (inp.take i ++ [UInt8.ofNat c] ++ inp.drop (i + 1)) (by omega) hch
          have hfc := hfind c
          have t6 : List.take (L.length - (i + 1)) (List.drop (i + 1) inp) = List.drop (i + 1) inp := List.take_of_length_le (by simp; omega)
          have hfb : ∀ v, findC s c = some v → 0 ≤ v := fun v hv => (find_bd (fun d hd => (m3 d hd).2.2) hv).1
          have hq : ((costF L (inp.take i ++ [UInt8.ofNat c] ++ inp.drop (i + 1))).isSome == decide (0 ≤ (findC s c).getD (-1))) = true := by
            rw [hcc]
            refine beq_iff_eq.2 ?_
            cases hfs : findC s c with
            | none => rfl
            | some v => exact (decide_eq_true (hfb v hfs)).symm
          generalize costF L (inp.take i ++ [UInt8.ofNat c] ++ inp.drop (i + 1)) = O at c3 hq
          generalize (findC s c).getD (-1) = fv at hfc hq
          simp only [go_sem]
          refine wgoF (And.intro (@h1) (And.intro (@h3) (And.intro (@i1) (And.intro (@i2) (And.intro (@i3) (@ilen)))))) ?_
          refine wcallF (c3) (And.intro (@slsD.eq_1) (@t6)) ?_
          refine wgoF (And.intro (@choR.eq_1) (And.intro (@e1) (And.intro (@h1) (@hget)))) ?_
          refine wcallF (hfc) (@slD.eq_1) ?_
          refine wgoF (@hq) ?_
          exact wnxt (ih ⟨c + 1, by omega, by omega⟩)
        · have h3 : ¬ (c : Int) ≤ 122 := by omega
          simp only [go_sem]
          refine wgoF (@h3) ?_
          exact wnxt (ih0 ⟨(i + 1, least + b), by omega, by dsimp only; omega, by dsimp only; push_cast; omega, p + v, hv1, by dsimp only; omega⟩)
    · have h1 : ¬ (i : Int) < L.length := by omega
      have hpn : p = n := by
        rw [List.take_of_length_le (by omega), List.take_of_length_le (by omega), hn] at hp
        cases hp; rfl
      have hle : least ≤ n := by omega
      by_cases h0 : 0 < inp.length
      · have g0 : (0 : Int) < inp.length := by omega
        have g1 : (1 : Int) ≤ inp.length := by omega
        have c4 := cost23 L (inp.drop 1) (by omega) hch
        rw [cost_short hil h0] at c4
        have t5 : List.take (inp.length - 1) (List.drop 1 inp) = List.drop 1 inp := List.take_of_length_le (by simp)
        simp only [go_sem]
        refine wgoF (And.intro (@h1) (And.intro (@e1) (And.intro (@g0) (@g1)))) ?_
        refine wcallF (c4) (And.intro (@slsD.eq_1) (@t5)) ?_
        refine wgoF (And.intro (@choR.eq_1) (And.intro (@u3) (And.intro (@u4) (@hle)))) ?_
        exact wret
      · have g0 : ¬ (0 : Int) < inp.length := by omega
        simp only [go_sem]
        refine wgoF (And.intro (@h1) (And.intro (@e1) (And.intro (@g0) (@hle)))) ?_
        exact wret
  · refine enterP tabOk Tryz.func6 182 [0, 1, 2, 6, 7, 8, 9, 10, 11, 12, 13, 14, 15, 16, 17, 18, 19, 20, 21, 22, 24, 26, 37, 54, 72, 123, 125, 156, 159] [.tmp 6] rfl (r := [_]) rfl (h := ?_); intro E hK; simp only [go_sem]
    refine wgo ?_
    refine wcall (sanity15) ?_
    refine wgo ?_
    refine wcall (hm) ?_
    refine wgoF (@Brd.d.eq_1) ?_
    refine wcallF (hwr) (@Brd.d.eq_1) ?_
    refine wgo ?_
    refine wcallF (hs2) (@Brd.d.eq_1) ?_
    refine wgoF (And.intro (@r3A.eq_1) (And.intro (@slsD.eq_1) (@hz))) ?_
    exact wret
end Go.Proofs.YtojgjdcciojpeaaGreat
