/-
  A part of the walks of this seat: each theorem says what a function of the program gives. No condition beyond its own premises.
-/
import Derived.Test.YtojgjdcciojpeaaGreatRows
import Derived.Test.YtojgjdcciojpeaaGreatC20
set_option linter.unusedSimpArgs false
set_option linter.unusedVariables false
namespace Go.Proofs.YtojgjdcciojpeaaGreat
open Go Go.PS
set_option maxRecDepth 100000
set_option maxHeartbeats 4000000
theorem has55 (l : List Pn) (p : Pn) (hl : l.length ≤ 1000) (hp : p ∈ l) : PCall Tryz.prog 55 [.sl 3 (l.map Pn.d), p.d] (.bool true) := by
  have hbase : True := trivial
  have z1 : p.d = .agg [.int .i64 p.f, .int .i64 p.t, .int .i64 p.w] := rfl
  refine enterP tabOk Tryz.func55 18 [0, 1, 3, 4, 5, 9, 17] [.tmp 4] rfl (r := [_]) rfl (h := ?_); intro E hK; simp only [go_sem]
  refine wgoF (@Pn.d.eq_1) ?_
  refine wlp (Run.loopC (ι := { i : Nat // i ≤ l.length ∧ ∀ j, j < i → l.getD j default ≠ p }) (U := fun i => [(5, .d (.int .i64 i.1))]) (O := fun i => []) (K := fun _ => []) (μ := fun i => l.length - i.1) (i0 := ⟨0, by omega, by omega⟩)) ?_
  rintro ⟨i, hi, hno⟩ ih
  by_cases hlt : i < l.length
  · have h1 : (i : Int) < l.length := by omega
    have hget := pn_get hlt
    by_cases hq : l.getD i default = p
    · rw [hq] at hget
      have hz : ∀ a : Int, decide (a = a) = true := fun a => decide_eq_true rfl
      simp only [go_sem]
      refine wgoF (And.intro (@h1) (And.intro (@hget) (@hz))) ?_
      exact wret
    · have hno2 : ∀ j, j < i + 1 → l.getD j default ≠ p := fun j hj => by
        by_cases hji : j = i
        · subst hji; exact hq
        · exact hno j (by omega)
      generalize l.getD i default = q at hget hq
      have hc : ((decide (q.f = p.f) && (decide (q.t = p.t) && (decide (q.w = p.w) && true)))) = false := by
        cases hh : (decide (q.f = p.f) && (decide (q.t = p.t) && (decide (q.w = p.w) && true))) with
        | false => rfl
        | true =>
          simp only [Bool.and_eq_true, decide_eq_true_eq] at hh
          obtain ⟨a, b, c, _⟩ := hh
          exact absurd (by cases q; cases p; simp_all) hq
      have hc2 : ((decide (q.f = p.f) && (decide (q.t = p.t) && decide (q.w = p.w)))) = false := by simpa using hc
      simp only [go_sem]
      refine wgoF (And.intro (@h1) (And.intro (@hget) (And.intro (@hc) (@hc2)))) ?_
      exact wnxt (ih ⟨i + 1, by omega, hno2⟩)
  · obtain ⟨j, hj, rfl⟩ := List.getElem_of_mem hp
    exact absurd (by simp [hj]) (hno j (by omega))
theorem putF_len (p : Pn) (hp : p.f < p.t) : ∀ l : List Pn, (∀ q ∈ l, q.f < q.t) → (l.filter (kB p)).length + (l.filter (kA p)).length = (l.filter (fun q => !ovl q p)).length
  | [], _ => rfl
  | q :: r, h => by
    have ih := putF_len p hp r fun x hx => h x (List.mem_cons_of_mem _ hx)
    have hq := h q (by simp)
    rw [List.filter_cons, List.filter_cons, List.filter_cons]
    by_cases c1 : q.t ≤ p.f
    · have hb : kB p q = true := decide_eq_true c1
      have ha : kA p q = false := decide_eq_false (by omega)
      have ho : ovl q p = false := by unfold ovl; rw [decide_eq_false (show ¬ p.f < q.t by omega), Bool.and_false]
      rw [hb, ha, ho]
      simp only [if_pos, Bool.not_false, List.length_cons, Bool.false_eq_true, if_false]
      omega
    · have hb : kB p q = false := decide_eq_false c1
      by_cases c2 : p.t ≤ q.f
      · have ha : kA p q = true := decide_eq_true c2
        have ho : ovl q p = false := by unfold ovl; rw [decide_eq_false (show ¬ q.f < p.t by omega), Bool.false_and]
        rw [hb, ha, ho]
        simp only [if_pos, Bool.not_false, List.length_cons, Bool.false_eq_true, if_false]
        omega
      · have ha : kA p q = false := decide_eq_false c2
        have ho : ovl q p = true := by unfold ovl; rw [decide_eq_true (show q.f < p.t by omega), decide_eq_true (show p.f < q.t by omega)]; rfl
        rw [hb, ha, ho]
        simpa using ih
theorem putF_mem {p q : Pn} {l : List Pn} (hq : q ∈ l) (ho : ovl q p = false) : q ∈ putF l p := by
  unfold putF
  unfold ovl at ho
  rw [Bool.and_eq_false_iff] at ho
  rcases ho with ho | ho
  · have : kA p q = true := decide_eq_true (by have := of_decide_eq_false ho; omega)
    exact List.mem_append_right _ (List.mem_cons_of_mem _ (List.mem_filter.2 ⟨hq, this⟩))
  · have : kB p q = true := decide_eq_true (by have := of_decide_eq_false ho; omega)
    exact List.mem_append_left _ (List.mem_filter.2 ⟨hq, this⟩)
theorem held_eq {c : Cp} (h : c.ok) {a t : Int} (h0 : 0 ≤ a) (h1 : a < t) : heldR c (hlE a (t - a)) = if t ≤ (c.sl.length : Int) then ({ c with pn := putF c.pn ⟨a, t, -1⟩, ch := 0 }, 0) else (c, 180) := by
  obtain ⟨h1', h2, h3, h4, h5⟩ := h
  have hb : pvB c.pn (c.sl.length : Int) = true := by
    rw [pv_in (by omega) (by omega), show (c.sl.length : Int) = (c.ev.length : Int) by omega]; exact h5
  have e1 : (hlE a (t - a)).n + (hlE a (t - a)).l = t := by show a + (t - a) = t; omega
  have e2 : (hlE a (t - a)).n = a := rfl
  unfold heldR
  rw [e1, e2]
  unfold putR
  rw [hb, Bool.true_and]
  by_cases c1 : t ≤ (c.sl.length : Int)
  · have : pvB [⟨a, t, -1⟩] (c.sl.length : Int) = true := by
      rw [pv_in (by omega) (by omega)]
      exact pv_mk (by dsimp only; omega) rfl
    rw [this, if_pos rfl, if_pos c1]; rfl
  · have : pvB [⟨a, t, -1⟩] (c.sl.length : Int) = false := by
      cases hh : pvB [⟨a, t, -1⟩] (c.sl.length : Int) with
      | false => rfl
      | true =>
        rw [pv_in (by omega) (by omega)] at hh
        have := (pv_cons hh).1
        dsimp only at this
        omega
    rw [this, if_neg (by simp), if_neg c1, if_neg (by simp)]
/-- The statement ComposingHolds holds. -/
theorem lawHolds (x : Cs) (n l : Int) (hx : x.ok) (hn : 0 ≤ n ∧ n ≤ 255) (hl : 0 ≤ l ∧ l ≤ 255) : PCall Tryz.prog 13 [x.d, .int .u8 n, .int .u8 l] (.bool true) := by
  have hb := board36 x hx
  have hbg : PCall Tryz.prog 35 [x.d, .int .i64 12] (begF (csF x) (evsR x.L 12)).d := begX hx 12 (by omega)
  have hfu := beg_full hx 12
  generalize begF (csF x) (evsR x.L 12) = c at hbg hfu
  have hd : PCall Tryz.prog 38 [c.d, (madeB x.B).d, .sl 4 ((tapsF x.T).map Tap.d), (hlE (n % 12) (n % 12 + 1 + l % 5 - n % 12)).d] (rC (heldR c (hlE (n % 12) (n % 12 + 1 + l % 5 - n % 12)))) :=
    (doP hx hfu.1.1 (e := hlE (n % 12) (n % 12 + 1 + l % 5 - n % 12)) ⟨by simp [hlE], by simp [hlE], by simp [hlE]⟩).eq (by rw [do_hold (by omega) (by omega)])
  rw [held_eq hfu.1.1 (by omega) (by omega)] at hd
  have hsm := full_same hfu
  generalize (tapsF x.T).map Tap.d = tp at hb hd
  generalize madeB x.B = bb at hb hd
  obtain ⟨⟨⟨l1, l2, l3, l4, l5⟩, l6, l7⟩, l8, l9, l10, l11⟩ := hfu
  have hpl := (pv_ok (by omega) l5).1
  have e1 := mlen c.sl
  have v5 : n % 12 + 1 + l % 5 - n % 12 = n % 12 + 1 + l % 5 - n % 12 := rfl
  by_cases ht : n % 12 + 1 + l % 5 ≤ (c.sl.length : Int)
  · rw [if_pos ht] at hd
    have c1 : ¬ (c.sl.length : Int) < n % 12 + 1 + l % 5 := by omega
    have hpv := put_pv (n := (c.ev.length : Int)) (p := ⟨n % 12, n % 12 + 1 + l % 5, -1⟩) (by dsimp only; omega) (e := 0) (by dsimp only; omega) l5
    have hlen : (putF c.pn ⟨n % 12, n % 12 + 1 + l % 5, -1⟩).length ≤ 1000 := (pv_ok (by omega) hpv).1
    have hva := pvalid56 (putF c.pn ⟨n % 12, n % 12 + 1 + l % 5, -1⟩) (c.sl.length : Int) hlen
    rw [pv_in (by omega) (by omega), show (c.sl.length : Int) = (c.ev.length : Int) by omega, hpv] at hva
    have hha := has55 (putF c.pn ⟨n % 12, n % 12 + 1 + l % 5, -1⟩) ⟨n % 12, n % 12 + 1 + l % 5, -1⟩ hlen (by simp [putF])
    have hme : ∀ q ∈ c.pn, ovl q ⟨n % 12, n % 12 + 1 + l % 5, -1⟩ = false → PCall Tryz.prog 55 [.sl 3 ((putF c.pn ⟨n % 12, n % 12 + 1 + l % 5, -1⟩).map Pn.d), q.d] (.bool true) := fun q hq ho => has55 _ q hlen (putF_mem hq ho)
    have hcn : (putF c.pn ⟨n % 12, n % 12 + 1 + l % 5, -1⟩).length = (c.pn.filter (fun q => !ovl q ⟨n % 12, n % 12 + 1 + l % 5, -1⟩)).length + 1 := by
      have := putF_len ⟨n % 12, n % 12 + 1 + l % 5, -1⟩ (by dsimp only; omega) c.pn (fun q hq => (pv_bd (by omega) l5 q hq).2.1)
      unfold putF
      rw [List.length_append, List.length_cons]; omega
    have hov : ∀ q : Pn, PCall Tryz.prog 57 [q.d, (⟨n % 12, n % 12 + 1 + l % 5, -1⟩ : Pn).d] (.bool (ovl q ⟨n % 12, n % 12 + 1 + l % 5, -1⟩)) := fun q => overlap57 q _
    have hnl : ((c.sl.length : Nat) : Int) = (c.ev.length : Int) := by omega
    have s1 := sameSlots49 c.sl (by omega) (fun s hs => by have := (l9 s hs).2.1; omega)
    have s2 := sameAll50 c.ev (by omega) l6
    have hz : ∀ a : Int, decide (a = a) = true := fun a => decide_eq_true rfl
    rw [← hnl] at hva
    generalize hP : putF c.pn ⟨n % 12, n % 12 + 1 + l % 5, -1⟩ = pl at hd hva hha hme hcn hlen
    generalize hQ : (fun q => !ovl q ⟨n % 12, n % 12 + 1 + l % 5, -1⟩) = Q at hcn
    refine enterP tabOk Tryz.func13 142 [0, 1, 2, 3, 6, 7, 8, 9, 10, 11, 12, 13, 14, 54, 82, 87, 96, 107] [.tmp 6] rfl (r := [_]) rfl (h := ?_); intro E hK; simp only [go_sem]
    refine wgoF (@Cs.d.eq_1) ?_
    refine wcall (sanity34) ?_
    refine wgoF (@Cs.d.eq_1) ?_
    refine wcallF (hb) (@Cs.d.eq_1) ?_
    refine wgoF (@bdT.eq_1) ?_
    refine wcallF (hbg) (@Cs.d.eq_1) ?_
    refine wgoF (@Cp.d.eq_1) ?_
    refine wcallF (hd) (And.intro (@Cp.d.eq_1) (And.intro (@Ev.d.eq_1) (And.intro (@Brd.d.eq_1) (@hlE.eq_1)))) ?_
    refine wgoF (And.intro (@rC.eq_1) (And.intro (@Cp.d.eq_1) (And.intro (@e1) (@c1)))) ?_
    refine wcallF (hha) (@Pn.d.eq_1) ?_
    refine wgoF (@e1) ?_
    refine wcall (hva) ?_
    refine wgo ?_
    refine wlp (Run.loopC (ι := { i : Nat // i ≤ c.pn.length }) (U := fun i => [(13, .d (.int .i64 (1 + ((fltTo Q c.pn i.1).length : Int)))), (14, .d (.int .i64 i.1))]) (O := fun i => []) (K := fun _ => []) (μ := fun i => c.pn.length - i.1) (i0 := ⟨0, by omega⟩)) ?_
    rintro ⟨i, hi⟩ ih
    have hfl := flt_len Q c.pn i
    by_cases hlt : i < c.pn.length
    · have h1 : (i : Int) < c.pn.length := by omega
      have hget := pn_get hlt
      have f1 := flt_in Q hlt
      have f2 := flt_out Q hlt
      have hmm : c.pn.getD i default ∈ c.pn := by
        rw [List.getD_eq_getElem?_getD, List.getElem?_eq_getElem hlt]; exact List.getElem_mem hlt
      have hh := hme _ hmm
      have ho := hov (c.pn.getD i default)
      generalize c.pn.getD i default = q at hget f1 f2 hh ho
      cases hq : ovl q ⟨n % 12, n % 12 + 1 + l % 5, -1⟩ with
      | true =>
        rw [hq] at ho
        have f2 := f2 (by rw [← hQ]; dsimp only; rw [hq]; rfl)
        simp only [go_sem]
        refine wgoF (And.intro (@h1) (@hget)) ?_
        refine wcallF (ho) (@Pn.d.eq_1) ?_
        refine wgo ?_
        exact wnxtF (ih ⟨i + 1, by omega⟩) (@f2)
      | false =>
        rw [hq] at ho
        have hh := hh hq
        have f1 := f1 (by rw [← hQ]; dsimp only; rw [hq]; rfl)
        have f3 : ((fltTo Q c.pn (i + 1)).length : Int) = ((fltTo Q c.pn i).length : Int) + 1 := by rw [f1]; simp
        have f4 : 1 + (((fltTo Q c.pn i).length : Int) + 1) = 1 + ((fltTo Q c.pn i).length : Int) + 1 := by omega
        simp only [go_sem]
        refine wgoF (And.intro (@h1) (@hget)) ?_
        refine wcallF (ho) (@Pn.d.eq_1) ?_
        refine wgoF (@hget) ?_
        refine wcallF (hh) (@Pn.d.eq_1) ?_
        refine wgo ?_
        exact wnxtF (ih ⟨i + 1, by omega⟩) (And.intro (@f3) (@f4))
    · have h1 : ¬ (i : Int) < c.pn.length := by omega
      obtain rfl : i = c.pn.length := by omega
      have hfe : fltTo Q c.pn c.pn.length = c.pn.filter Q := by unfold fltTo; rw [List.take_length]
      have hd2 : decide (1 + ((c.pn.filter Q).length : Int) = (pl.length : Int)) = true := decide_eq_true (by omega)
      simp only [go_sem, hfe]
      refine wgoF (And.intro (@h1) (@hd2)) ?_
      refine wcallF (s1) (@slsD.eq_1) ?_
      refine wgo ?_
      refine wcall (s2) ?_
      refine wgoF (@hz) ?_
      exact wret
  · rw [if_neg ht] at hd
    have c1 : (c.sl.length : Int) < n % 12 + 1 + l % 5 := by omega
    refine enterP tabOk Tryz.func13 142 [0, 1, 2, 3, 6, 7, 8, 9, 10, 11, 12, 13, 14, 54, 82, 87, 96, 107] [.tmp 6] rfl (r := [_]) rfl (h := ?_); intro E hK; simp only [go_sem]
    refine wgoF (@Cs.d.eq_1) ?_
    refine wcall (sanity34) ?_
    refine wgoF (@Cs.d.eq_1) ?_
    refine wcallF (hb) (@Cs.d.eq_1) ?_
    refine wgoF (@bdT.eq_1) ?_
    refine wcallF (hbg) (@Cs.d.eq_1) ?_
    refine wgoF (@Cp.d.eq_1) ?_
    refine wcallF (hd) (And.intro (@Cp.d.eq_1) (And.intro (@Ev.d.eq_1) (And.intro (@Brd.d.eq_1) (@hlE.eq_1)))) ?_
    refine wgoF (And.intro (@rC.eq_1) (And.intro (@Cp.d.eq_1) (And.intro (@e1) (@c1)))) ?_
    refine wcallF (hsm) (@Cp.d.eq_1) ?_
    refine wgo ?_
    exact wret
end Go.Proofs.YtojgjdcciojpeaaGreat
set_option linter.unusedSimpArgs false
set_option linter.unusedVariables false
namespace Go.Proofs.YtojgjdcciojpeaaGreat
open Go Go.PS
set_option maxRecDepth 100000
set_option maxHeartbeats 4000000
theorem slotsF_one (F : Ev → List (List Ch) × Int) : ∀ (l : List Ev) (i : Nat) (acc : List (List Ch)), (∀ e ∈ l, (F e).2 = 0 ∧ (F e).1.length = 1) → acc.length + l.length ≤ 40 →
    slotsF F l i acc = (acc ++ l.flatMap (fun e => (F e).1), ((i + l.length : Nat) : Int), 0)
  | [], i, acc, _, _ => by simp [slotsF]
  | e :: r, i, acc, h, hl => by
    have he := h e (by simp)
    rw [List.length_cons] at hl
    rw [slotsF_cons, if_neg (by simp [he.1]), if_neg (by omega), slotsF_one F r (i + 1) _ (fun e he => h e (List.mem_cons_of_mem _ he)) (by rw [List.length_append]; omega)]
    rw [List.flatMap_cons, List.append_assoc, List.length_cons]
    congr 2
    congr 1
    omega
/-- The composition of events that were typed one behind the other. -/
def tyC (F : Ev → List (List Ch) × Int) (L : List Ev) : Cp := ⟨L, L.flatMap (fun e => (F e).1), (L.length : Int), [], 0⟩
theorem flat_one (F : Ev → List (List Ch) × Int) : ∀ L : List Ev, (∀ e ∈ L, (F e).1.length = 1) → (L.flatMap (fun e => (F e).1)).length = L.length
  | [], _ => rfl
  | e :: r, h => by
    rw [List.flatMap_cons, List.length_append, h e (by simp), flat_one F r fun x hx => h x (List.mem_cons_of_mem _ hx), List.length_cons]; omega
theorem ty_ok {F : Ev → List (List Ch) × Int} {L : List Ev} (h : ∀ e ∈ L, (F e).1.length = 1) (hl : L.length ≤ 40) : (tyC F L).ok :=
  ⟨flat_one F L h, hl, by simp [tyC], by simp [tyC], rfl⟩
theorem ty_snoc {F : Ev → List (List Ch) × Int} {L : List Ev} {e : Ev} (h : ∀ e ∈ L, (F e).1.length = 1) (he : (F e).1.length = 1) : typedC (tyC F L) e ((F e).1.getD 0 []) = tyC F (L ++ [e]) := by
  have hf := flat_one F L h
  obtain ⟨s, hs⟩ : ∃ s, (F e).1 = [s] := by
    match hh : (F e).1, he with
    | [s], _ => exact ⟨s, rfl⟩
  unfold typedC tyC
  simp only [insAt, Int.toNat_natCast, List.take_length, List.drop_length, insF, List.filter_nil, List.map_nil, List.flatMap_append, List.flatMap_cons, List.flatMap_nil, List.append_nil, List.length_append, List.length_cons, List.length_nil, hs]
  rw [← hf, List.take_length, List.drop_length]
  simp
theorem ty_err {A : List Ar} {U : List Tap} {c : Cp} {e : Ev} (hh : hasS e = true) (hl : c.sl.length < 40) : (doR (slotX A U e) c e).2 = (slotX A U e).2 := by
  cases hv : validE e with
  | false =>
    have h1 : doR (slotX A U e) c e = (c, 10) := if_pos hv
    have h2 : slotX A U e = ([], 10) := if_pos hv
    rw [h1, h2]
  | true =>
    rw [do_slot hh hv]
    unfold slotR31
    by_cases q : (slotX A U e).2 = 0
    · rw [if_neg (fun h => h q), if_neg (by omega), q]
    · rw [if_pos q]
/-- The statement ComposingTypes holds. -/
theorem lawTypes (x : Cs) (hx : x.ok) : PCall Tryz.prog 14 [x.d] (.bool true) := by
  have hb := board36 x hx
  have hn := new44
  have h42 : PCall Tryz.prog 42 [.sl 4 (x.L.map Rw.d), .int .i64 16] (.sl 6 ((evsR x.L 16).map Ev.d)) := events42 x.L 16 (by omega) hx.2.2
  have hel := evsR_len (l := x.L) (n := 16)
  have hlk := evsR_lok x.L 16
  generalize evsR x.L 16 = l at h42 hel hlk
  have hP : ∀ c : Cp, c.ok → ∀ e ∈ l, PCall Tryz.prog 38 [c.d, (madeB x.B).d, .sl 4 ((tapsF x.T).map Tap.d), e.d] (rC (doR (csF x e) c e)) := fun c hc e he => doP hx hc (hlk e he)
  have hS : ∀ e : Ev, e.lok → PCall Tryz.prog 19 [(madeB x.B).d, .sl 4 ((tapsF x.T).map Tap.d), e.d] (rD (csF x e)) := fun e he => slotM hx.1 4 (tapsF x.T) (taps_ok hx.2.1) (fun _ => rfl) e he
  have hE : ∀ (c : Cp) (e : Ev), hasS e = true → c.sl.length < 40 → (doR (csF x e) c e).2 = (csF x e).2 := fun c e h1 h2 => ty_err h1 h2
  have hSl := fun e => csF_ok hx e
  generalize csF x = F at hP hS hE hSl
  have hsl : ∀ L : List Ev, L.length ≤ 10 → (∀ e ∈ L, e.lok ∧ (F e).2 = 0 ∧ (F e).1.length = 1) → PCall Tryz.prog 58 [(madeB x.B).d, .sl 4 ((tapsF x.T).map Tap.d), .sl 6 (L.map Ev.d)] (r3D (L.flatMap (fun e => (F e).1), (L.length : Int), 0)) := fun L hL h => by
    have := slots58 F (madeB x.B) 4 ((tapsF x.T).map Tap.d) L (by omega) (fun e he => hS e (h e he).1) (fun e he => by have := (h e he).2.2; omega)
    rw [slotsF_one F L 0 [] (fun e he => (h e he).2) (by simp; omega), List.nil_append, Nat.zero_add] at this
    exact this
  generalize (tapsF x.T).map Tap.d = tp at hb hP hS hsl
  generalize madeB x.B = bb at hb hP hS hsl
  have z1 : (tyC F []) = emC := rfl
  have z2 : emC.ev = [] := rfl
  have z3 : emC.sl = [] := rfl
  have z4 : emC.cu = 0 := rfl
  have z5 : emC.pn = [] := rfl
  have z6 : emC.ch = 0 := rfl
  have hz : ∀ a : Int, decide (a = a) = true := fun a => decide_eq_true rfl
  refine enterP tabOk Tryz.func14 125 [0, 1, 2, 3, 4, 5, 6, 7, 8, 9, 10, 12, 13, 14, 15, 32, 40, 68, 70] [.tmp 2] rfl (r := [_]) rfl (h := ?_); intro E hK; simp only [go_sem]
  refine wgoF (@Cs.d.eq_1) ?_
  refine wcall (sanity34) ?_
  refine wgoF (@Cs.d.eq_1) ?_
  refine wcallF (hb) (@Cs.d.eq_1) ?_
  refine wgoF (@bdT.eq_1) ?_
  refine wcall (hn) ?_
  refine wgoF (And.intro (@Cp.d.eq_1) (@emC.eq_1)) ?_
  refine wcallF (h42) (@Rw.d.eq_1) ?_
  refine wgo ?_
  (apply Run.full 7 1007 26 6; (case hi => simp only [go_sem]; rfl); (case ht => simp only [go_sem]); (case hmn => first | exact Or.inl (by decide) | exact Or.inr rfl); (case hs => simp only [go_sem]; rfl))
  refine wlpF (Run.loopC (ι := { p : Nat × List Ev // p.1 ≤ l.length ∧ p.2.length ≤ 10 ∧ ∀ e ∈ p.2, e.lok ∧ (F e).2 = 0 ∧ (F e).1.length = 1 }) (U := fun p => [(7, .own 6 (p.1.2.map Ev.d) (.tok 1007)), (8, .d (.int .i64 p.1.1))]) (O := fun p => [(5, some (cpO (tyC F p.1.2)))]) (K := fun _ => [(1007, .live 26 6)]) (μ := fun p => l.length - p.1.1) (i0 := ⟨(0, []), by simp, by simp, by simp⟩)) (And.intro (@cpO.eq_1) (And.intro (@z1) (And.intro (@z2) (And.intro (@z3) (And.intro (@z4) (And.intro (@z5) (@z6))))))) ?_
  rintro ⟨⟨i, L⟩, hi, hL, hall⟩ ih
  dsimp only at hi hL hall
  have hok := ty_ok (F := F) (L := L) (fun e he => (hall e he).2.2) (by omega)
  have hfl := flat_one F L (fun e he => (hall e he).2.2)
  by_cases hlt : i < l.length ∧ L.length < 10
  · obtain ⟨hlt, hL2⟩ := hlt
    have h1 : (i : Int) < l.length := by omega
    have h2 : (L.length : Int) < 10 := by omega
    have hget := ev_get hlt
    have hmem := getD_memE hlt
    have hd := hP (tyC F L) hok _ hmem
    have hs := hS _ (hlk _ hmem)
    have hhs := has48 (l.getD i default)
    have herr := hE (tyC F L) (l.getD i default)
    have hkk := hSl (l.getD i default)
    have hsn := ty_snoc (F := F) (L := L) (e := l.getD i default) (fun e he => (hall e he).2.2)
    have hdt := do_typed (F := F (l.getD i default)) (c := tyC F L) (e := l.getD i default)
    have hlk' := hlk _ hmem
    have hde := do_err (F (l.getD i default)) (tyC F L) (l.getD i default)
    generalize l.getD i default = e at hget hmem hd hs hhs herr hkk hsn hdt hlk' hde
    cases hh : hasS e with
    | false =>
      rw [hh] at hhs
      simp only [go_sem, cpO]
      refine wgoF (And.intro (@h1) (And.intro (@h2) (@hget))) ?_
      refine wcallF (hhs) (@Ev.d.eq_1) ?_
      refine wgo ?_
      exact wnxtF (ih ⟨(i + 1, L), by dsimp only; omega, hL, hall⟩) (@cpO.eq_1)
    | true =>
      rw [hh] at hhs
      have herr := herr hh (by show (L.flatMap _).length < 40; omega)
      by_cases h0 : (F e).2 = 0
      · have hne : e.kind ≠ 5 := by have := has_iff.1 hh; omega
        have hone := hkk.2 h0 hne
        have hsn := hsn hone
        obtain ⟨_, _, _, hty⟩ := hdt hh (herr.trans h0)
        rw [hsn] at hty
        have hr : doR (F e) (tyC F L) e = (tyC F (L ++ [e]), 0) := Prod.ext hty (herr.trans h0)
        rw [hr] at hd
        have hs0 : F e = ((F e).1, 0) := Prod.ext rfl h0
        rw [hs0] at hs
        have hz0 : decide ((0 : Int) = 0) = true := rfl
        have hall2 : ∀ q ∈ L ++ [e], q.lok ∧ (F q).2 = 0 ∧ (F q).1.length = 1 := fun q hq => by
          rcases List.mem_append.1 hq with h | h
          · exact hall q h
          · rw [List.mem_singleton.1 h]
            exact ⟨hlk', h0, hone⟩
        generalize hC : tyC F (L ++ [e]) = c' at hd
        simp only [go_sem, cpO]
        refine wgoF (And.intro (@h1) (And.intro (@h2) (@hget))) ?_
        refine wcallF (hhs) (@Ev.d.eq_1) ?_
        refine wgoF (@hget) ?_
        refine wcallF (hd) (And.intro (@Cp.d.eq_1) (And.intro (@Ev.d.eq_1) (And.intro (@bdT.eq_1) (@Brd.d.eq_1)))) ?_
        refine wgoF (And.intro (@rC.eq_1) (And.intro (@Cp.d.eq_1) (@hget))) ?_
        refine wcallF (hs) (And.intro (@Ev.d.eq_1) (@Brd.d.eq_1)) ?_
        refine wgoF (And.intro (@rD.eq_1) (@hget)) ?_
        (apply Run.retok 78 1007; (case hk => simp only [go_sem]; rfl); (case ht => simp only [go_sem]; rfl); (case ht' => simp only [go_sem]); (case hs => simp only [go_sem]; rfl))
        exact wnxtF (ih ⟨(i + 1, L ++ [e]), by dsimp only; omega, by simp; omega, hall2⟩) (And.intro (@hC) (And.intro (@cpO.eq_1) (@Ev.d.eq_1)))
      · have hx' : (doR (F e) (tyC F L) e).2 ≠ 0 := by rw [herr]; exact h0
        have hc' := hde hx'
        have hr : doR (F e) (tyC F L) e = (tyC F L, (F e).2) := Prod.ext hc' herr
        rw [hr] at hd
        generalize F e = G at hd hs h0
        obtain ⟨g1, g2⟩ := G
        dsimp only at h0
        simp only [go_sem, cpO]
        refine wgoF (And.intro (@h1) (And.intro (@h2) (@hget))) ?_
        refine wcallF (hhs) (@Ev.d.eq_1) ?_
        refine wgoF (@hget) ?_
        refine wcallF (hd) (And.intro (@Cp.d.eq_1) (And.intro (@Ev.d.eq_1) (And.intro (@bdT.eq_1) (@Brd.d.eq_1)))) ?_
        refine wgoF (And.intro (@rC.eq_1) (And.intro (@Cp.d.eq_1) (@hget))) ?_
        refine wcallF (hs) (And.intro (@Ev.d.eq_1) (@Brd.d.eq_1)) ?_
        refine wgoF (And.intro (@rD.eq_1) (And.intro (@hz) (@h0))) ?_
        exact wnxtF (ih ⟨(i + 1, L), by dsimp only; omega, hL, hall⟩) (@cpO.eq_1)
  · have c : (decide ((i : Int) < l.length) && decide ((L.length : Int) < 10)) = false := by
      rw [Bool.and_eq_false_iff]
      by_cases q : i < l.length
      · right; exact decide_eq_false (by omega)
      · left; exact decide_eq_false (by omega)
    have hs := hsl L hL hall
    have s1 := sameSlots49 (L.flatMap (fun e => (F e).1)) (by omega) (fun s hs => by
      obtain ⟨e, he, hse⟩ := List.mem_flatMap.1 hs
      have := ((hSl e).1 s hse).2.1
      omega)
    have s2 := sameAll50 L (by omega) (fun e he => (hall e he).1)
    have t1 : (tyC F L).ev = L := rfl
    have t2 : (tyC F L).sl = L.flatMap (fun e => (F e).1) := rfl
    have t3 : (tyC F L).cu = (L.length : Int) := rfl
    have t4 : (tyC F L).pn = [] := rfl
    have t5 : (tyC F L).ch = 0 := rfl
    generalize L.flatMap (fun e => (F e).1) = SL0 at hs s1 t2
    simp only [go_sem, cpO, t1, t2, t3, t4, t5]
    refine wgoF (@c) ?_
    refine wcallF (hs) (@Brd.d.eq_1) ?_
    refine wgoF (And.intro (@r3D.eq_1) (And.intro (@slsD.eq_1) (@hz))) ?_
    refine wcallF (s1) (@slsD.eq_1) ?_
    refine wgo ?_
    refine wcall (s2) ?_
    refine wgoF (@hz) ?_
    exact wret
end Go.Proofs.YtojgjdcciojpeaaGreat
set_option linter.unusedSimpArgs false
set_option linter.unusedVariables false
namespace Go.Proofs.YtojgjdcciojpeaaGreat
open Go Go.PS
set_option maxRecDepth 100000
set_option maxHeartbeats 4000000
def bE : Ev := ⟨1, [98], [], [], 0, 0⟩
theorem let_text (l : List Int) (n : Nat) (hl : u8s l) : (textF l n 3).all letB = true := by
  rw [List.all_eq_true]
  intro c hc
  obtain ⟨v, hv, rfl⟩ := List.mem_map.1 hc
  have h : (v % 3).toNat < 3 := by omega
  unfold letU
  generalize (v % 3).toNat = n at h
  match n, h with
  | 0, _ => decide
  | 1, _ => decide
  | 2, _ => decide
/-- The statement ComposingPastes holds. -/
theorem lawPastes (x : Cs) (n : Int) (l : List Int) (hx : x.ok) (hn : 0 ≤ n ∧ n ≤ 255) (hl : u8s l) : PCall Tryz.prog 12 [x.d, .int .u8 n, .sl 1 (l.map (D.int .u8))] (.bool true) := by
  have hb := board36 x hx
  have hbg : PCall Tryz.prog 35 [x.d, .int .i64 12] (begF (csF x) (evsR x.L 12)).d := begX hx 12 (by omega)
  have hfu := beg_full hx 12
  generalize begF (csF x) (evsR x.L 12) = c0 at hbg hfu
  have htx : PCall Tryz.prog 54 [.sl 1 (l.map (D.int .u8)), .int .i64 20, .int .i64 3] (.str (textF l 20 3)) := text54 l 20 3 hl (by omega) (by omega)
  have hle := let_text l 20 hl
  have htl := text_len l 20 3
  generalize textF l 20 3 = tx at htx hle htl
  have htl : tx.length ≤ 20 := by omega
  have hT : ((tx ++ [97]).take (min (tx.length + 1) 20)).all letB = true ∧ 1 ≤ ((tx ++ [97]).take (min (tx.length + 1) 20)).length ∧ ((tx ++ [97]).take (min (tx.length + 1) 20)).length ≤ 20 := by
    refine ⟨?_, by simp; omega, by simp; omega⟩
    rw [List.all_eq_true] at hle ⊢
    intro c hc
    rcases List.mem_append.1 (List.mem_of_mem_take hc) with h | h
    · exact hle c h
    · simp only [List.mem_singleton] at h; subst h; decide
  have hmn : min ((tx.length : Int) + 1) 20 = ((min (tx.length + 1) 20 : Nat) : Int) := by omega
  have hmn2 : min ((tx.length + 1 : Nat) : Int) 20 = ((min (tx.length + 1) 20 : Nat) : Int) := by omega
  have hm3 : min (tx.length + 1) 20 ≤ tx.length + 1 := by omega
  have hm4 : ((min (tx.length + 1) 20 : Nat) : Int) ≤ (tx.length : Int) + 1 := by omega
  generalize hMM : min (tx.length + 1) 20 = m at hT hmn hmn2 hm3 hm4
  generalize hT0 : (tx ++ [97]).take m = t at hT
  obtain ⟨ht1, ht2, ht3⟩ := hT
  have kb := key52 [98]
  have hdo : ∀ (c : Cp) (e : Ev), c.ok → e.lok → PCall Tryz.prog 38 [c.d, (madeB x.B).d, .sl 4 ((tapsF x.T).map Tap.d), e.d] (rC (doR (csF x e) c e)) := fun c e hc he => doP hx hc he
  have hdq : ∀ c : Cp, c.full → c.sl.length < 40 → PCall Tryz.prog 39 [c.d, bdT (madeB x.B) 4 ((tapsF x.T).map Tap.d), (kE 98).d] (rC (tyK c 98, 0)) := fun c hc h40 => (doQ hx hc.1.1 (kE_lok 98)).eq (by rw [show doR (csF x (kE 98)) c (kE 98) = _ from do_key (by decide) h40])
  have hkey : ∀ (c : Cp) (ch : UInt8), c.ok → letB ch = true → c.sl.length < 40 → PCall Tryz.prog 38 [c.d, (madeB x.B).d, .sl 4 ((tapsF x.T).map Tap.d), (kE ch).d] (rC (tyK c ch, 0)) := fun c ch hc hlt h40 => (hdo c (kE ch) hc (kE_lok ch)).eq (by rw [show doR (csF x (kE ch)) c (kE ch) = _ from do_key hlt h40])
  have hpas : ∀ c : Cp, c.ok → PCall Tryz.prog 38 [c.d, (madeB x.B).d, .sl 4 ((tapsF x.T).map Tap.d), (paE t).d] (rC (pasR c t)) := fun c hc => (hdo c (paE t) hc ⟨by simp [paE], by simp [paE], by simp [paE]; omega⟩).eq (by rw [do_paste ht1 ht2 ht3])
  clear hdo
  generalize (tapsF x.T).map Tap.d = tp at hb hdq hkey hpas
  generalize madeB x.B = bb at hb hdq hkey hpas
  have e30 : 0 ≤ n % 30 := by omega
  have e31 : n % 30 ≤ 29 := by omega
  refine enterP tabOk Tryz.func12 114 [0, 1, 2, 3, 6, 7, 8, 9, 10, 11, 12, 13, 14, 15, 16, 17, 36, 68, 83, 102] [.tmp 6] rfl (r := [_]) rfl (h := ?_); intro E hK; simp only [go_sem]
  refine wgoF (@Cs.d.eq_1) ?_
  refine wcall (sanity34) ?_
  refine wgoF (@Cs.d.eq_1) ?_
  refine wcallF (hb) (@Cs.d.eq_1) ?_
  refine wgoF (@bdT.eq_1) ?_
  refine wcallF (hbg) (@Cs.d.eq_1) ?_
  refine wgoF (@Cp.d.eq_1) ?_
  refine wcall (htx) ?_
  refine wgo ?_
  refine wlpF (Run.loopC (ι := { p : Nat × Cp // p.1 ≤ 30 ∧ p.2.full }) (U := fun p => [(11, .d (.int .i64 p.1.1))]) (O := fun p => [(9, some (cpO p.1.2))]) (K := fun _ => []) (μ := fun p => 30 - p.1.1) (i0 := ⟨(0, c0), by simp, hfu⟩)) (@cpO.eq_1) ?_
  rintro ⟨⟨i, c⟩, hi, hfu⟩ ih
  dsimp only at hi hfu
  have e1 := mlen c.sl
  by_cases hlt : (i : Int) < n % 30 ∧ c.sl.length < 40
  · obtain ⟨h1, h2⟩ := hlt
    have h3 : (c.sl.length : Int) < 40 := by omega
    have hd := hdq c hfu h2
    have hfu2 : (tyK c 98).full := typed_full hfu (by have := hfu.1.1.len; omega) (kE_lok 98) (kE_valid (by decide)).1 (kE_valid (by decide)).2 (byte_slotOk (by decide))
    generalize tyK c 98 = c' at hd hfu2
    simp only [go_sem, cpO]
    refine wgoF (And.intro (@h1) (And.intro (@h3) (@e1))) ?_
    refine wcall (kb) ?_
    refine wgo ?_
    refine wcallF (hd) (And.intro (@Cp.d.eq_1) (And.intro (@Ev.d.eq_1) (And.intro (@bdT.eq_1) (And.intro (@Brd.d.eq_1) (@kE.eq_1))))) ?_
    refine wgoF (And.intro (@rC.eq_1) (@Cp.d.eq_1)) ?_
    exact wnxtF (ih ⟨(i + 1, c'), by dsimp only; omega, hfu2⟩) (@cpO.eq_1)
  · have hc : (decide ((i : Int) < n % 30) && decide ((c.sl.length : Int) < 40)) = false := by
      rw [Bool.and_eq_false_iff]
      by_cases q : (i : Int) < n % 30
      · right; exact decide_eq_false (by omega)
      · left; exact decide_eq_false q
    have hsm := full_same hfu
    have hpa := hpas c hfu.1.1
    have hl2 := hfu.1.1.len
    have hl3 := hfu.1.1.max
    have hall : ∀ ch ∈ t, letB ch = true := List.all_eq_true.1 ht1
    by_cases hbig : 40 < c.sl.length + t.length
    · have hr : pasR c t = (c, 2) := if_pos hbig
      have c1 : (40 : Int) < (c.sl.length : Int) + (t.length : Int) := by omega
      rw [hr] at hpa
      simp only [go_sem, cpO]
      refine wgoF (And.intro (@hc) (And.intro (@e1) (And.intro (@hmn) (And.intro (@hmn2) (And.intro (@hm4) (@hT0)))))) ?_
      refine wcallF (hpa) (And.intro (@Cp.d.eq_1) (And.intro (@Ev.d.eq_1) (And.intro (@Brd.d.eq_1) (And.intro (@paE.eq_1) (@hT0))))) ?_
      refine wgoF (And.intro (@rC.eq_1) (And.intro (@Cp.d.eq_1) (And.intro (@e1) (@c1)))) ?_
      refine wcallF (hsm) (@Cp.d.eq_1) ?_
      refine wgo ?_
      exact wret
    · have hr : pasR c t = (pasTo c t t.length, 0) := if_neg hbig
      have c1 : ¬ (40 : Int) < (c.sl.length : Int) + (t.length : Int) := by omega
      rw [hr] at hpa
      have hfull := pas_full hfu hall (by omega)
      have hok := pas_ok hfu.1.1 (t := t) (by omega)
      have hsame := full_same (hfull t.length (Nat.le_refl _))
      generalize hW : pasTo c t t.length = W at hpa hsame
      have z0 : pasTo c t 0 = c := rfl
      simp only [go_sem, cpO]
      refine wgoF (And.intro (@hc) (And.intro (@e1) (And.intro (@hmn) (And.intro (@hmn2) (And.intro (@hm4) (@hT0)))))) ?_
      refine wcallF (hpa) (And.intro (@Cp.d.eq_1) (And.intro (@Ev.d.eq_1) (And.intro (@Brd.d.eq_1) (And.intro (@paE.eq_1) (@hT0))))) ?_
      refine wgoF (And.intro (@rC.eq_1) (And.intro (@Cp.d.eq_1) (And.intro (@e1) (@c1)))) ?_
      refine wlpF (Run.loopC (ι := { i : Nat // i ≤ t.length }) (U := fun i => [(15, .d (.int .i64 i.1))]) (O := fun i => [(14, some (cpO (pasTo c t i.1)))]) (K := fun _ => []) (μ := fun i => t.length - i.1) (i0 := ⟨0, by omega⟩)) (And.intro (@cpO.eq_1) (@z0)) ?_
      rintro ⟨i, hi⟩ ih2
      by_cases hlt : i < t.length
      · have h1 : (i : Int) < t.length := by omega
        have h2 := take_oneQ hlt
        have hst := pas_step c hlt
        have hk := key52 [t.getD i 0]
        have ee : t.getD i 0 = t[i] := by simp [hlt]
        have hlb := hall _ (List.getElem_mem hlt)
        rw [← ee] at hlb
        have hok1 := hok i hi
        have hd := hkey (pasTo c t i) (t.getD i 0) hok1.1 hlb (by have := hok1.1.len; omega)
        rw [show tyK (pasTo c t i) (t.getD i 0) = pasTo c t (i + 1) from hst.symm] at hd
        generalize hV : pasTo c t (i + 1) = V at hd
        simp only [go_sem, cpO]
        refine wgoF (And.intro (@h1) (@h2)) ?_
        refine wcall (hk) ?_
        refine wgo ?_
        refine wcallF (hd) (And.intro (@Cp.d.eq_1) (And.intro (@Ev.d.eq_1) (And.intro (@Brd.d.eq_1) (@kE.eq_1)))) ?_
        refine wgoF (And.intro (@rC.eq_1) (@Cp.d.eq_1)) ?_
        exact wnxtF (ih2 ⟨i + 1, by omega⟩) (And.intro (@hV) (@cpO.eq_1))
      · have h1 : ¬ (i : Int) < t.length := by omega
        obtain rfl : i = t.length := by omega
        simp only [go_sem, cpO, hW]
        refine wgoF (@h1) ?_
        refine wcallF (hsame) (@Cp.d.eq_1) ?_
        refine wgo ?_
        exact wret
end Go.Proofs.YtojgjdcciojpeaaGreat
set_option linter.unusedSimpArgs false
set_option linter.unusedVariables false
namespace Go.Proofs.YtojgjdcciojpeaaGreat
open Go Go.PS Go.ChangeShapes Go.WideShapes Go.ChangeAt Go.RowKit
set_option maxRecDepth 100000
set_option maxHeartbeats 4000000
theorem knob : ownKnob Tryz.prog.godebug = Option.none := by kernel_rfl
theorem laidOut : laidOutB Tryz.prog = true := by kernel_rfl
theorem ccells119 : Tryz.prog.cellsOf 119 = 2 := by kernel_rfl
theorem ccells5 : Tryz.prog.cellsOf 5 = 1 := by kernel_rfl
theorem plain22 : plainB Tryz.prog 9 22 = true := by kernel_rfl
theorem plain41 : plainB Tryz.prog 9 41 = true := by kernel_rfl
theorem bp_of0 {zs : List D} (h : Fits Tryz.prog [119] zs) : ∃ r : Int × Int, zs = [.int .u8 r.1, .int .u8 r.2] ∧ (0 ≤ r.1 ∧ r.1 ≤ 255 ∧ 0 ≤ r.2 ∧ r.2 ≤ 255) := by
  obtain ⟨ys, xs, rfl, hy, hx⟩ := h.arr_inv Tryz.underlying119
  cases hx.nil_inv
  have hy1 : Fits Tryz.prog [5, 5] ys := hy
  obtain ⟨a, ys1, rfl, ha, hy2⟩ := hy1.int_inv Tryz.underlying5
  obtain ⟨b, ys2, rfl, hb, hy3⟩ := hy2.int_inv Tryz.underlying5
  cases hy3.nil_inv
  have h1 := u8_bd' ha
  have h2 := u8_bd' hb
  exact ⟨(a, b), rfl, h1.1, h1.2, h2.1, h2.2⟩
theorem bp_of (zs : List D) (h : Fits Tryz.prog [119] zs) : ∃ r : Int × Int, asElem Tryz.prog 119 zs = bpD r ∧ (0 ≤ r.1 ∧ r.1 ≤ 255 ∧ 0 ≤ r.2 ∧ r.2 ≤ 255) := by
  obtain ⟨r, rfl, h1⟩ := bp_of0 h
  exact ⟨r, by simp only [asElem, Tryz.underlying119, bpD], h1⟩
theorem u8_of (zs : List D) (h : Fits Tryz.prog [5] zs) : ∃ r : Int, asElem Tryz.prog 5 zs = .int .u8 r ∧ (0 ≤ r ∧ r ≤ 255) := by
  obtain ⟨a, ys, rfl, ha, hy⟩ := h.int_inv Tryz.underlying5
  cases hy.nil_inv
  exact ⟨a, by simp only [asElem, Tryz.underlying5]; rfl, u8_bd' ha⟩
theorem arg_bps {H : Type} {enc : TypeId × Value → H} {W : World} {base : Nat} {v : Value} {d : DataW H} {p : List MemPlace} {sp : Nat → Bool} (hok : Value.okWide Tryz.prog W .any base 22 v) (h : DataW.Trod enc Tryz.prog W 0 sp true 22 v d p) :
    ∃ l : List (Int × Int), bps l ∧ RepD (KAll W) (.sl 2 (l.map bpD)) v :=
  arg_slice bpD _ 9 plain22 Tryz.underlying22 ccells119 bp_of hok h
theorem arg_u8s {H : Type} {enc : TypeId × Value → H} {W : World} {base : Nat} {v : Value} {d : DataW H} {p : List MemPlace} {sp : Nat → Bool} (hok : Value.okWide Tryz.prog W .any base 41 v) (h : DataW.Trod enc Tryz.prog W 0 sp true 41 v d p) :
    ∃ l : List Int, u8s l ∧ RepD (KAll W) (.sl 1 (l.map (D.int .u8))) v :=
  arg_slice (D.int .u8) _ 9 plain41 Tryz.underlying41 ccells5 u8_of hok h
end Go.Proofs.YtojgjdcciojpeaaGreat
set_option linter.unusedSimpArgs false
set_option linter.unusedVariables false
namespace Go.Proofs.YtojgjdcciojpeaaGreat
open Go Go.PS Go.ChangeShapes Go.WideShapes Go.ChangeAt Go.RowKit
set_option maxRecDepth 100000
set_option maxHeartbeats 4000000
theorem ccells36 : Tryz.prog.cellsOf 36 = 1 := by kernel_rfl
theorem ccells37 : Tryz.prog.cellsOf 37 = 3 := by kernel_rfl
theorem ccells70 : Tryz.prog.cellsOf 70 = 2 := by kernel_rfl
theorem ccells43 : Tryz.prog.cellsOf 43 = 5 := by kernel_rfl
theorem plain38 : plainB Tryz.prog 9 38 = true := by kernel_rfl
theorem plain23 : plainB Tryz.prog 9 23 = true := by kernel_rfl
theorem plain43 : plainB Tryz.prog 9 43 = true := by kernel_rfl
theorem plain26 : plainB Tryz.prog 9 26 = true := by kernel_rfl
theorem i8_bd' {n : Int} (h : (Lit.int .i8 n).wf = true) : -128 ≤ n ∧ n ≤ 127 := by
  simpa [Lit.wf, IntKind.min, IntKind.max, IntKind.signed, IntKind.bits] using h
theorem okWide_strct {P : Program} {w : World} {r : Reach} {base : Nat} {t : TypeId} {v : Value} {fs : Array Field} (ht : P.underlying t = some (.struct fs)) (h : Value.okWide P w r base t v) : ∃ cs, v = .agg cs := by
  simp only [Value.okWide, ht] at h
  obtain ⟨cs, h1, _⟩ := h
  exact ⟨cs, h1⟩
theorem t3_of (zs : List D) (h : Fits Tryz.prog [37] zs) : ∃ r : Int × Int × Int, asElem Tryz.prog 37 zs = t3D r ∧ ((-128 ≤ r.1 ∧ r.1 ≤ 127) ∧ (-128 ≤ r.2.1 ∧ r.2.1 ≤ 127) ∧ (-128 ≤ r.2.2 ∧ r.2.2 ≤ 127)) := by
  obtain ⟨ys, xs, rfl, hy, hx⟩ := h.arr_inv Tryz.underlying37
  cases hx.nil_inv
  have hy1 : Fits Tryz.prog [36, 36, 36] ys := hy
  obtain ⟨a, ys1, rfl, ha, hy2⟩ := hy1.int_inv Tryz.underlying36
  obtain ⟨b, ys2, rfl, hb, hy3⟩ := hy2.int_inv Tryz.underlying36
  obtain ⟨c, ys3, rfl, hc, hy4⟩ := hy3.int_inv Tryz.underlying36
  cases hy4.nil_inv
  exact ⟨(a, b, c), by simp only [asElem, Tryz.underlying37, t3D]; rfl, i8_bd' ha, i8_bd' hb, i8_bd' hc⟩
theorem arg_t3s {H : Type} {enc : TypeId × Value → H} {W : World} {base : Nat} {v : Value} {d : DataW H} {p : List MemPlace} {sp : Nat → Bool} (hok : Value.okWide Tryz.prog W .any base 38 v) (h : DataW.Trod enc Tryz.prog W 0 sp true 38 v d p) :
    ∃ l : List (Int × Int × Int), t3s l ∧ RepD (KAll W) (.sl 3 (l.map t3D)) v :=
  arg_slice t3D _ 9 plain38 Tryz.underlying38 ccells37 t3_of hok h
theorem raw_of0 {xs : List D} (h : Fits Tryz.prog [43] xs) : ∃ r : Raw, xs = [.int .u8 r.kind, .sl 1 (r.L.map (D.int .u8)), .sl 2 (r.P.map bpD), .int .u8 r.N, .int .u8 r.M] ∧ r.ok := by
  obtain ⟨ys, xs, rfl, hy, hx⟩ := h.strct_inv Tryz.underlying43
  cases hx.nil_inv
  have hy1 : Fits Tryz.prog [5, 41, 22, 5, 5] ys := hy
  obtain ⟨k, ys1, rfl, hk, hy2⟩ := hy1.int_inv Tryz.underlying5
  obtain ⟨L, ys2, rfl, hL1, hL2, hy3⟩ := hy2.list_inv (D.int .u8) _ Tryz.underlying41 ccells5 u8_of
  obtain ⟨P, ys3, rfl, hP1, hP2, hy4⟩ := hy3.list_inv bpD _ Tryz.underlying22 ccells119 bp_of
  obtain ⟨n, ys4, rfl, hn, hy5⟩ := hy4.int_inv Tryz.underlying5
  obtain ⟨m, ys5, rfl, hm, hy6⟩ := hy5.int_inv Tryz.underlying5
  cases hy6.nil_inv
  exact ⟨⟨k, L, P, n, m⟩, rfl, u8_bd' hk, ⟨hL1, hL2⟩, ⟨hP1, hP2⟩, u8_bd' hn, u8_bd' hm⟩
theorem raw_of (zs : List D) (h : Fits Tryz.prog [43] zs) : ∃ r : Raw, asElem Tryz.prog 43 zs = r.d ∧ r.ok := by
  obtain ⟨r, rfl, h1⟩ := raw_of0 h
  exact ⟨r, by simp only [asElem, Tryz.underlying43, Raw.d], h1⟩
theorem arg_raws {H : Type} {enc : TypeId × Value → H} {W : World} {base : Nat} {v : Value} {d : DataW H} {p : List MemPlace} {sp : Nat → Bool} (hok : Value.okWide Tryz.prog W .any base 23 v) (h : DataW.Trod enc Tryz.prog W 0 sp true 23 v d p) :
    ∃ l : List Raw, ((∀ x ∈ l, x.ok) ∧ l.length ≤ 9223372036854775807) ∧ RepD (KAll W) (.sl 5 (l.map Raw.d)) v :=
  arg_slice Raw.d _ 9 plain23 Tryz.underlying23 ccells43 raw_of hok h
theorem arg_raw {H : Type} {enc : TypeId × Value → H} {W : World} {base : Nat} {v : Value} {d : DataW H} {p : List MemPlace} {sp : Nat → Bool} (hok : Value.okWide Tryz.prog W .any base 43 v) (h : DataW.Trod enc Tryz.prog W 0 sp true 43 v d p) :
    ∃ r : Raw, r.ok ∧ RepD (KAll W) r.d v := by
  obtain ⟨cs, rfl⟩ := okWide_strct Tryz.underlying43 hok
  obtain ⟨xs, hf, hr, _⟩ := met_of_trod 9 plain43 h
  obtain ⟨r, rfl, h1⟩ := raw_of0 hf
  exact ⟨r, h1, rep_agg (by intro x hx; simp only [List.mem_cons, List.not_mem_nil, or_false] at hx; rcases hx with rfl | rfl | rfl | rfl | rfl <;> rfl) hr⟩
theorem pt_of (zs : List D) (h : Fits Tryz.prog [70] zs) : ∃ r : Pt, asElem Tryz.prog 70 zs = r.d ∧ True := by
  obtain ⟨ys, xs, rfl, hy, hx⟩ := h.strct_inv Tryz.underlying70
  cases hx.nil_inv
  have hy1 : Fits Tryz.prog [3, 3] ys := hy
  obtain ⟨a, ys1, rfl, ha, hy2⟩ := hy1.int_inv Tryz.underlying3
  obtain ⟨b, ys2, rfl, hb, hy3⟩ := hy2.int_inv Tryz.underlying3
  cases hy3.nil_inv
  exact ⟨⟨a, b⟩, by simp only [asElem, Tryz.underlying70, Pt.d]; rfl, trivial⟩
theorem ev_of0 {xs : List D} (h : Fits Tryz.prog [26] xs) : ∃ r : Ev, xs = [.int .i64 r.kind, .str r.keys, .sl 2 (r.p.map Pt.d), .str r.text, .int .i64 r.n, .int .i64 r.l] ∧ r.lok := by
  obtain ⟨ys, xs, rfl, hy, hx⟩ := h.strct_inv Tryz.underlying26
  cases hx.nil_inv
  have hy1 : Fits Tryz.prog [3, 9, 24, 9, 3, 3] ys := hy
  obtain ⟨k, ys1, rfl, hk, hy2⟩ := hy1.int_inv Tryz.underlying3
  obtain ⟨s, ys2, rfl, hs, hy3⟩ := hy2.str_inv Tryz.underlying9
  obtain ⟨P, ys3, rfl, hP1, hP2, hy4⟩ := hy3.list_inv Pt.d _ Tryz.underlying24 ccells70 pt_of
  obtain ⟨t, ys4, rfl, ht, hy5⟩ := hy4.str_inv Tryz.underlying9
  obtain ⟨n, ys5, rfl, hn, hy6⟩ := hy5.int_inv Tryz.underlying3
  obtain ⟨m, ys6, rfl, hm, hy7⟩ := hy6.int_inv Tryz.underlying3
  cases hy7.nil_inv
  exact ⟨⟨k, s, P, t, n, m⟩, rfl, hs, hP2, ht⟩
theorem arg_ev {H : Type} {enc : TypeId × Value → H} {W : World} {base : Nat} {v : Value} {d : DataW H} {p : List MemPlace} {sp : Nat → Bool} (hok : Value.okWide Tryz.prog W .any base 26 v) (h : DataW.Trod enc Tryz.prog W 0 sp true 26 v d p) :
    ∃ r : Ev, r.lok ∧ RepD (KAll W) r.d v := by
  obtain ⟨cs, rfl⟩ := okWide_strct Tryz.underlying26 hok
  obtain ⟨xs, hf, hr, _⟩ := met_of_trod 9 plain26 h
  obtain ⟨r, rfl, h1⟩ := ev_of0 hf
  exact ⟨r, h1, rep_agg (by intro x hx; simp only [List.mem_cons, List.not_mem_nil, or_false] at hx; rcases hx with rfl | rfl | rfl | rfl | rfl | rfl <;> rfl) hr⟩
end Go.Proofs.YtojgjdcciojpeaaGreat
set_option linter.unusedSimpArgs false
set_option linter.unusedVariables false
namespace Go.Proofs.YtojgjdcciojpeaaGreat
open Go Go.PS Go.ChangeShapes Go.WideShapes Go.ChangeAt Go.RowKit
set_option maxRecDepth 100000
set_option maxHeartbeats 4000000
theorem ccells78 : Tryz.prog.cellsOf 78 = 4 := by kernel_rfl
theorem plain78 : plainB Tryz.prog 9 78 = true := by kernel_rfl
theorem plain76 : plainB Tryz.prog 9 76 = true := by kernel_rfl
theorem rw_of0 {xs : List D} (h : Fits Tryz.prog [78] xs) : ∃ r : Rw, xs = [.int .u8 r.k, .int .u8 r.a, .int .u8 r.b, .int .u8 r.c] ∧ r.ok := by
  obtain ⟨ys, xs, rfl, hy, hx⟩ := h.strct_inv Tryz.underlying78
  cases hx.nil_inv
  have hy1 : Fits Tryz.prog [5, 5, 5, 5] ys := hy
  obtain ⟨k, ys1, rfl, hk, hy2⟩ := hy1.int_inv Tryz.underlying5
  obtain ⟨a, ys2, rfl, ha, hy3⟩ := hy2.int_inv Tryz.underlying5
  obtain ⟨b, ys3, rfl, hb, hy4⟩ := hy3.int_inv Tryz.underlying5
  obtain ⟨c, ys4, rfl, hc, hy5⟩ := hy4.int_inv Tryz.underlying5
  cases hy5.nil_inv
  exact ⟨⟨k, a, b, c⟩, rfl, u8_bd' hk, u8_bd' ha, u8_bd' hb, u8_bd' hc⟩
theorem rw_of (zs : List D) (h : Fits Tryz.prog [78] zs) : ∃ r : Rw, asElem Tryz.prog 78 zs = r.d ∧ r.ok := by
  obtain ⟨r, rfl, h1⟩ := rw_of0 h
  exact ⟨r, by simp only [asElem, Tryz.underlying78, Rw.d], h1⟩
theorem arg_rw {H : Type} {enc : TypeId × Value → H} {W : World} {base : Nat} {v : Value} {d : DataW H} {p : List MemPlace} {sp : Nat → Bool} (hok : Value.okWide Tryz.prog W .any base 78 v) (h : DataW.Trod enc Tryz.prog W 0 sp true 78 v d p) :
    ∃ r : Rw, r.ok ∧ RepD (KAll W) r.d v := by
  obtain ⟨cs, rfl⟩ := okWide_strct Tryz.underlying78 hok
  obtain ⟨xs, hf, hr, _⟩ := met_of_trod 9 plain78 h
  obtain ⟨r, rfl, h1⟩ := rw_of0 hf
  exact ⟨r, h1, rep_agg (by intro x hx; simp only [List.mem_cons, List.not_mem_nil, or_false] at hx; rcases hx with rfl | rfl | rfl | rfl <;> rfl) hr⟩
theorem cs_of0 {xs : List D} (h : Fits Tryz.prog [76] xs) : ∃ r : Cs, xs = [.sl 2 (r.B.map bpD), .sl 3 (r.T.map t3D), .sl 4 (r.L.map Rw.d)] ∧ r.ok := by
  obtain ⟨ys, xs, rfl, hy, hx⟩ := h.strct_inv Tryz.underlying76
  cases hx.nil_inv
  have hy1 : Fits Tryz.prog [22, 38, 74] ys := hy
  obtain ⟨B, ys1, rfl, hB1, hB2, hy2⟩ := hy1.list_inv bpD _ Tryz.underlying22 ccells119 bp_of
  obtain ⟨U, ys2, rfl, hT1, hT2, hy3⟩ := hy2.list_inv t3D _ Tryz.underlying38 ccells37 t3_of
  obtain ⟨L, ys3, rfl, hL1, hL2, hy4⟩ := hy3.list_inv Rw.d _ Tryz.underlying74 ccells78 rw_of
  cases hy4.nil_inv
  exact ⟨⟨B, U, L⟩, rfl, ⟨hB1, hB2⟩, ⟨hT1, hT2⟩, ⟨hL1, hL2⟩⟩
theorem arg_cs {H : Type} {enc : TypeId × Value → H} {W : World} {base : Nat} {v : Value} {d : DataW H} {p : List MemPlace} {sp : Nat → Bool} (hok : Value.okWide Tryz.prog W .any base 76 v) (h : DataW.Trod enc Tryz.prog W 0 sp true 76 v d p) :
    ∃ r : Cs, r.ok ∧ RepD (KAll W) r.d v := by
  obtain ⟨cs, rfl⟩ := okWide_strct Tryz.underlying76 hok
  obtain ⟨xs, hf, hr, _⟩ := met_of_trod 9 plain76 h
  obtain ⟨r, rfl, h1⟩ := cs_of0 hf
  exact ⟨r, h1, rep_agg (by intro x hx; simp only [List.mem_cons, List.not_mem_nil, or_false] at hx; rcases hx with rfl | rfl | rfl <;> rfl) hr⟩
end Go.Proofs.YtojgjdcciojpeaaGreat
