/-
  A part of the walks of this seat: each theorem says what a function of the program gives. No condition beyond its own premises.
-/
import Derived.Test.YtojgjdcciojpeaaGreatD11
set_option linter.unusedSimpArgs false
set_option linter.unusedVariables false
namespace Go.Proofs.YtojgjdcciojpeaaGreat
open Go Go.PS
set_option maxRecDepth 100000
set_option maxHeartbeats 4000000
def ovl (a b : Pn) : Bool := decide (a.f < b.t) && decide (b.f < a.t)
theorem overlap57 (a b : Pn) : PCall Tryz.prog 57 [a.d, b.d] (.bool (ovl a b)) := by
  refine enterP tabOk Tryz.func57 17 [0, 1, 2, 3, 4] [.tmp 4] rfl (r := [_]) rfl (h := ?_); intro E hK; simp only [go_sem]
  refine wgoF (@Pn.d.eq_1) ?_
  exact wretF (@ovl.eq_1)
/-- The reference's way of putting. -/
def rput (p : Pn) : List Pn → Bool → List Pn
  | [], d => if d = true then [] else [p]
  | x :: r, d => (if (!d && decide (p.f ≤ x.f)) = true then [p] else []) ++ (if ovl x p = true then [] else [x]) ++ rput p r (d || decide (p.f ≤ x.f))
theorem rput_drop (p : Pn) {l : List Pn} {i : Nat} (h : i < l.length) (d : Bool) : rput p (l.drop i) d = (if (!d && decide (p.f ≤ (l.getD i default).f)) = true then [p] else []) ++ (if ovl (l.getD i default) p = true then [] else [l.getD i default]) ++ rput p (l.drop (i + 1)) (d || decide (p.f ≤ (l.getD i default).f)) := by
  have e : l.getD i default = l[i] := by simp [h]
  rw [List.drop_eq_getElem_cons h, e]; rfl
theorem badP_no {n e : Int} {p : Pn} (h : badP n e p = false) : e ≤ p.f ∧ p.f < p.t ∧ p.t ≤ n ∧ -1 ≤ p.w ∧ p.w < 200 := by
  unfold badP at h
  simp only [Bool.or_eq_false_iff, decide_eq_false_iff_not] at h
  omega
/-- Behind the place, all that is left is what begins behind the pin. -/
theorem rput_true (p : Pn) (n : Int) (hp : p.f < p.t) : ∀ (l : List Pn) (e : Int), pvTo n l e = true → p.f ≤ e → rput p l true = l.filter (kA p) ∧ l.filter (kB p) = []
  | [], _, _, _ => ⟨rfl, rfl⟩
  | x :: r, e, h, he => by
    simp only [pvTo, Bool.and_eq_true, Bool.not_eq_true'] at h
    obtain ⟨q1, q2, _⟩ := badP_no h.1
    obtain ⟨i1, i2⟩ := rput_true p n hp r x.t h.2 (by omega)
    have hb : kB p x = false := decide_eq_false (by omega)
    have ho : ovl x p = !kA p x := by
      unfold ovl kA
      rw [decide_eq_true (show p.f < x.t by omega), Bool.and_true]
      by_cases c : x.f < p.t
      · rw [decide_eq_true c, decide_eq_false (show ¬ p.t ≤ x.f by omega)]; rfl
      · rw [decide_eq_false c, decide_eq_true (show p.t ≤ x.f by omega)]; rfl
    refine ⟨?_, by rw [List.filter_cons, hb]; simpa using i2⟩
    show (if (!true && decide (p.f ≤ x.f)) = true then [p] else []) ++ (if ovl x p = true then [] else [x]) ++ rput p r true = _
    rw [i1, ho, List.filter_cons]
    cases kA p x <;> simp
theorem rput_false (p : Pn) (n : Int) (hp : p.f < p.t) : ∀ (l : List Pn) (e : Int), pvTo n l e = true → rput p l false = putF l p
  | [], _, _ => rfl
  | x :: r, e, h => by
    simp only [pvTo, Bool.and_eq_true, Bool.not_eq_true'] at h
    obtain ⟨q1, q2, _⟩ := badP_no h.1
    unfold putF
    by_cases c : p.f ≤ x.f
    · obtain ⟨i1, i2⟩ := rput_true p n hp r x.t h.2 (by omega)
      have hb : kB p x = false := decide_eq_false (by omega)
      have ho : ovl x p = !kA p x := by
        unfold ovl kA
        rw [decide_eq_true (show p.f < x.t by omega), Bool.and_true]
        by_cases c : x.f < p.t
        · rw [decide_eq_true c, decide_eq_false (show ¬ p.t ≤ x.f by omega)]; rfl
        · rw [decide_eq_false c, decide_eq_true (show p.t ≤ x.f by omega)]; rfl
      show (if (!false && decide (p.f ≤ x.f)) = true then [p] else []) ++ (if ovl x p = true then [] else [x]) ++ rput p r (false || decide (p.f ≤ x.f)) = _
      rw [decide_eq_true c, Bool.or_true, i1, ho, List.filter_cons, List.filter_cons, hb, i2]
      cases kA p x <;> simp
    · have ih := rput_false p n hp r x.t h.2
      have ha : kA p x = false := decide_eq_false (by omega)
      have ho : ovl x p = !kB p x := by
        unfold ovl kB
        rw [decide_eq_true (show x.f < p.t by omega), Bool.true_and]
        by_cases c : p.f < x.t
        · rw [decide_eq_true c, decide_eq_false (show ¬ x.t ≤ p.f by omega)]; rfl
        · rw [decide_eq_false c, decide_eq_true (show x.t ≤ p.f by omega)]; rfl
      show (if (!false && decide (p.f ≤ x.f)) = true then [p] else []) ++ (if ovl x p = true then [] else [x]) ++ rput p r (false || decide (p.f ≤ x.f)) = _
      rw [decide_eq_false c, Bool.or_false, ih, ho, List.filter_cons, List.filter_cons, ha]
      unfold putF
      cases kB p x <;> simp
theorem rput108 (l : List Pn) (p : Pn) (n : Int) (hl : l.length ≤ 1000) : PCall Tryz.prog 108 [.sl 3 (l.map Pn.d), p.d, .int .i64 n] (.tup [.sl 3 ((putR l p n).1.map Pn.d), .int .i64 (putR l p n).2]) := by
  have v1 := pvalid56 l n hl
  have v2 := pvalid56 [p] n (by simp)
  cases b1 : pvB l n with
  | false =>
    have hr : putR l p n = ([], 180) := by unfold putR; rw [b1]; rfl
    rw [b1] at v1
    refine enterP tabOk Tryz.func108 66 [0, 1, 2, 4, 6, 7, 8, 9, 10, 21, 26, 40, 51, 60] [.tmp 6, .tmp 7] rfl (r := [_, _]) rfl (h := ?_); intro E hK; simp only [go_sem]
    refine wgoF (@Pn.d.eq_1) ?_
    refine wcall (v1) ?_
    refine wgo ?_
    exact wretF (@hr)
  | true =>
    rw [b1] at v1
    cases b2 : pvB [p] n with
    | false =>
      have hr : putR l p n = ([], 180) := by unfold putR; rw [b1, b2]; rfl
      rw [b2] at v2
      refine enterP tabOk Tryz.func108 66 [0, 1, 2, 4, 6, 7, 8, 9, 10, 21, 26, 40, 51, 60] [.tmp 6, .tmp 7] rfl (r := [_, _]) rfl (h := ?_); intro E hK; simp only [go_sem]
      refine wgoF (@Pn.d.eq_1) ?_
      refine wcall (v1) ?_
      refine wgo ?_
      refine wcallF (v2) (@Pn.d.eq_1) ?_
      refine wgo ?_
      exact wretF (@hr)
    | true =>
      have hr : putR l p n = (putF l p, 0) := by unfold putR; rw [b1, b2]; rfl
      have hpp : p.f < p.t := by
        unfold pvB at b2
        simp only [Bool.and_eq_true, pvTo, Bool.not_eq_true'] at b2
        exact (badP_no b2.2.1).2.1
      have hF : rput p l false = putF l p := by
        unfold pvB at b1
        simp only [Bool.and_eq_true] at b1
        exact rput_false p n hpp l 0 b1.2
      rw [b2] at v2
      refine enterP tabOk Tryz.func108 66 [0, 1, 2, 4, 6, 7, 8, 9, 10, 21, 26, 40, 51, 60] [.tmp 6, .tmp 7] rfl (r := [_, _]) rfl (h := ?_); intro E hK; simp only [go_sem]
      refine wgoF (@Pn.d.eq_1) ?_
      refine wcall (v1) ?_
      refine wgo ?_
      refine wcallF (v2) (@Pn.d.eq_1) ?_
      refine wgo ?_
      (apply Run.full 8 1008 101 3; (case hi => simp only [go_sem]; rfl); (case ht => simp only [go_sem]); (case hmn => first | exact Or.inl (by decide) | exact Or.inr rfl); (case hs => simp only [go_sem]; rfl))
      refine wlp (Run.loopC (ι := { x : Nat × Bool × List Pn // x.1 ≤ l.length ∧ x.2.2.length ≤ 2 * x.1 ∧ x.2.2 ++ rput p (l.drop x.1) x.2.1 = putF l p }) (U := fun x => [(8, .own 3 (x.1.2.2.map Pn.d) (.tok 1008)), (9, .d (.bool x.1.2.1)), (10, .d (.int .i64 x.1.1))]) (O := fun i => []) (K := fun _ => [(1008, .live 101 3)]) (μ := fun x => l.length - x.1.1) (i0 := ⟨(0, false, []), by omega, by simp, hF⟩)) ?_
      rintro ⟨⟨i, dn, out⟩, hi, hol, hp⟩ ih
      dsimp only at hi hol hp
      by_cases hlt : i < l.length
      · have h1 : (i : Int) < l.length := by omega
        have hget := pn_get hlt
        rw [rput_drop p hlt] at hp
        have hov := overlap57 (l.getD i default) p
        generalize l.getD i default = x at hget hp hov
        cases ho : ovl x p with
        | true =>
          rw [ho] at hov hp
          cases dn with
          | true =>
            simp only [go_sem]
            refine wgoF (And.intro (@h1) (@hget)) ?_
            refine wcallF (hov) (@Pn.d.eq_1) ?_
            refine wgo ?_
            exact wnxt (ih ⟨(i + 1, true, out), by omega, by dsimp only; omega, by simpa using hp⟩)
          | false =>
            by_cases c : p.f ≤ x.f
            · rw [decide_eq_true c] at hp
              simp only [go_sem]
              refine wgoF (And.intro (@h1) (And.intro (@hget) (@c))) ?_
              refine wcallF (hov) (@Pn.d.eq_1) ?_
              refine wgo ?_
              (apply Run.retok 44 1008; (case hk => simp only [go_sem]; rfl); (case ht => simp only [go_sem]; rfl); (case ht' => simp only [go_sem]); (case hs => simp only [go_sem]; rfl))
              exact wnxtF (ih ⟨(i + 1, true, out ++ [p]), by omega, by simp; omega, by simpa using hp⟩) (@Pn.d.eq_1)
            · rw [decide_eq_false c] at hp
              simp only [go_sem]
              refine wgoF (And.intro (@h1) (And.intro (@hget) (@c))) ?_
              refine wcallF (hov) (@Pn.d.eq_1) ?_
              refine wgo ?_
              exact wnxt (ih ⟨(i + 1, false, out), by omega, by dsimp only; omega, by simpa using hp⟩)
        | false =>
          rw [ho] at hov hp
          cases dn with
          | true =>
            simp only [go_sem]
            refine wgoF (And.intro (@h1) (@hget)) ?_
            refine wcallF (hov) (@Pn.d.eq_1) ?_
            refine wgoF (And.intro (@h1) (@hget)) ?_
            (apply Run.retok 58 1008; (case hk => simp only [go_sem]; rfl); (case ht => simp only [go_sem]; rfl); (case ht' => simp only [go_sem]); (case hs => simp only [go_sem]; rfl))
            exact wnxtF (ih ⟨(i + 1, true, out ++ [x]), by omega, by simp; omega, by simpa using hp⟩) (@Pn.d.eq_1)
          | false =>
            by_cases c : p.f ≤ x.f
            · rw [decide_eq_true c] at hp
              simp only [go_sem]
              refine wgoF (And.intro (@h1) (And.intro (@hget) (@c))) ?_
              refine wcallF (hov) (@Pn.d.eq_1) ?_
              refine wgoF (And.intro (@h1) (@hget)) ?_
              (apply Run.retok 58 1008; (case hk => simp only [go_sem]; rfl); (case ht => simp only [go_sem]; rfl); (case ht' => simp only [go_sem]); (case hs => simp only [go_sem]; rfl))
              exact wnxtF (ih ⟨(i + 1, true, out ++ [p] ++ [x]), by omega, by simp; omega, by simpa using hp⟩) (@Pn.d.eq_1)
            · rw [decide_eq_false c] at hp
              simp only [go_sem]
              refine wgoF (And.intro (@h1) (And.intro (@hget) (@c))) ?_
              refine wcallF (hov) (@Pn.d.eq_1) ?_
              refine wgoF (And.intro (@h1) (@hget)) ?_
              (apply Run.retok 58 1008; (case hk => simp only [go_sem]; rfl); (case ht => simp only [go_sem]; rfl); (case ht' => simp only [go_sem]); (case hs => simp only [go_sem]; rfl))
              exact wnxtF (ih ⟨(i + 1, false, out ++ [x]), by omega, by simp; omega, by simpa using hp⟩) (@Pn.d.eq_1)
      · have h1 : ¬ (i : Int) < l.length := by omega
        rw [List.drop_eq_nil_of_le (by omega)] at hp
        cases dn with
        | true =>
          have hp2 : putF l p = out := by rw [← hp]; simp [rput]
          simp only [go_sem]
          refine wgoF (@h1) ?_
          exact wretF (And.intro (@hr) (@hp2))
        | false =>
          have hp2 : putF l p = out ++ [p] := by rw [← hp]; simp [rput]
          simp only [go_sem]
          refine wgoF (@h1) ?_
          exact wretF (And.intro (@hr) (And.intro (@hp2) (@Pn.d.eq_1)))
end Go.Proofs.YtojgjdcciojpeaaGreat
set_option linter.unusedSimpArgs false
set_option linter.unusedVariables false
namespace Go.Proofs.YtojgjdcciojpeaaGreat
open Go Go.PS
set_option maxRecDepth 100000
set_option maxHeartbeats 4000000
theorem pv_cons {n e : Int} {p : Pn} {r : List Pn} (h : pvTo n (p :: r) e = true) : (e ≤ p.f ∧ p.f < p.t ∧ p.t ≤ n ∧ -1 ≤ p.w ∧ p.w < 200) ∧ pvTo n r p.t = true := by
  simp only [pvTo, Bool.and_eq_true, Bool.not_eq_true'] at h
  exact ⟨badP_no h.1, h.2⟩
theorem pv_mk {n e : Int} {p : Pn} {r : List Pn} (h : e ≤ p.f ∧ p.f < p.t ∧ p.t ≤ n ∧ -1 ≤ p.w ∧ p.w < 200) (hr : pvTo n r p.t = true) : pvTo n (p :: r) e = true := by
  have hb : badP n e p = false := by
    unfold badP
    simp only [Bool.or_eq_false_iff, decide_eq_false_iff_not]
    omega
  simp only [pvTo, hb, hr]; rfl
theorem pv_mono {n : Int} {l : List Pn} {e e' : Int} (h : pvTo n l e = true) (he : e' ≤ e) : pvTo n l e' = true := by
  cases l with
  | nil => rfl
  | cons p r =>
    obtain ⟨h1, h2⟩ := pv_cons h
    exact pv_mk (by omega) h2
theorem pv_up {n n' : Int} (hn : n ≤ n') : ∀ {l : List Pn} {e : Int}, pvTo n l e = true → pvTo n' l e = true
  | [], _, _ => rfl
  | p :: r, e, h => by
    obtain ⟨h1, h2⟩ := pv_cons h
    exact pv_mk (by omega) (pv_up hn h2)
theorem pv_len {n : Int} : ∀ {l : List Pn} {e : Int}, pvTo n l e = true → l = [] ∨ (l.length : Int) + e ≤ n
  | [], _, _ => .inl rfl
  | p :: r, e, h => by
    obtain ⟨h1, h2⟩ := pv_cons h
    right
    rw [List.length_cons]
    rcases pv_len h2 with rfl | h3
    · simp; omega
    · push_cast; omega
theorem pv_bd {n : Int} : ∀ {l : List Pn} {e : Int}, 0 ≤ e → pvTo n l e = true → ∀ p ∈ l, 0 ≤ p.f ∧ p.f < p.t ∧ p.t ≤ n
  | [], _, _, _ => by simp
  | q :: r, e, he, h => by
    obtain ⟨h1, h2⟩ := pv_cons h
    intro p hp
    rcases List.mem_cons.1 hp with rfl | hp
    · omega
    · exact pv_bd (by omega) h2 p hp
theorem pv_ok {n : Int} (hn : n ≤ 100) {l : List Pn} (h : pvTo n l 0 = true) : pnOk l := by
  refine ⟨?_, fun p hp => ?_⟩
  · rcases pv_len h with rfl | h
    · simp
    · omega
  · have := pv_bd (by omega) h p hp
    unfold Pn.sm; omega
theorem ins_cons (p : Pn) (r : List Pn) (a : Int) : insF (p :: r) a = if kI a p = true then shI a p :: insF r a else insF r a := by
  unfold insF
  rw [List.filter_cons]
  split <;> rfl
theorem del_cons (p : Pn) (r : List Pn) (a : Int) : delF (p :: r) a = if kD a p = true then shD a p :: delF r a else delF r a := by
  unfold delF
  rw [List.filter_cons]
  split <;> rfl
theorem ins_pv {n : Int} (a : Int) : ∀ {l : List Pn} {e : Int}, pvTo n l e = true → pvTo (n + 1) (insF l a) (if a ≤ e then e + 1 else e) = true
  | [], _, _ => rfl
  | p :: r, e, h => by
    obtain ⟨h1, h2⟩ := pv_cons h
    have ih := ins_pv a h2
    rw [ins_cons]
    by_cases c1 : a ≤ p.f
    · have hk : kI a p = true := by unfold kI; rw [decide_eq_true c1]; rfl
      have hs : shI a p = ⟨p.f + 1, p.t + 1, p.w⟩ := if_pos c1
      rw [if_pos hk, hs]
      rw [if_pos (show a ≤ p.t by omega)] at ih
      refine pv_mk ?_ ih
      dsimp only
      split <;> omega
    · have hs : shI a p = p := if_neg c1
      by_cases c2 : p.t ≤ a
      · have hk : kI a p = true := by unfold kI; rw [decide_eq_true c2, Bool.or_true]
        rw [if_pos hk, hs]
        refine pv_mk ?_ (pv_mono ih ?_)
        · rw [if_neg (by omega)]; omega
        · split <;> omega
      · have hk : kI a p = false := by unfold kI; rw [decide_eq_false c1, decide_eq_false c2]; rfl
        rw [hk, if_neg (by simp)]
        refine pv_mono ih ?_
        rw [if_neg (show ¬ a ≤ e by omega)]
        split <;> omega
theorem del_pv {n : Int} (a : Int) : ∀ {l : List Pn} {e : Int}, e ≤ n → a < n → pvTo n l e = true → pvTo (n - 1) (delF l a) (if a < e then e - 1 else e) = true
  | [], _, _, _, _ => rfl
  | p :: r, e, he, hn, h => by
    obtain ⟨h1, h2⟩ := pv_cons h
    have ih := del_pv a (by omega) hn h2
    rw [del_cons]
    by_cases c1 : a < p.f
    · have hk : kD a p = true := by unfold kD; rw [decide_eq_true c1]; rfl
      have hs : shD a p = ⟨p.f - 1, p.t - 1, p.w⟩ := if_pos c1
      rw [if_pos hk, hs]
      rw [if_pos (show a < p.t by omega)] at ih
      refine pv_mk ?_ ih
      dsimp only
      split <;> omega
    · have hs : shD a p = p := if_neg c1
      by_cases c2 : p.t ≤ a
      · have hk : kD a p = true := by unfold kD; rw [decide_eq_true c2, Bool.or_true]
        rw [if_pos hk, hs]
        refine pv_mk ?_ (pv_mono ih ?_)
        · rw [if_neg (by omega)]; omega
        · rw [if_neg (by omega)]; omega
      · have hk : kD a p = false := by unfold kD; rw [decide_eq_false c1, decide_eq_false c2]; rfl
        rw [hk, if_neg (by simp)]
        refine pv_mono ih ?_
        rw [if_pos (show a < p.t by omega)]
        split <;> omega
/-- Putting a pin leaves the pins right. -/
theorem put_pv {n : Int} {p : Pn} (hp : p.f < p.t ∧ p.t ≤ n ∧ -1 ≤ p.w ∧ p.w < 200) : ∀ {l : List Pn} {e : Int}, e ≤ p.f → pvTo n l e = true → pvTo n (putF l p) e = true
  | [], e, he, _ => pv_mk (by omega) rfl
  | x :: r, e, he, h => by
    obtain ⟨h1, h2⟩ := pv_cons h
    unfold putF
    by_cases c : x.t ≤ p.f
    · have ih := put_pv hp c h2
      have hb : kB p x = true := decide_eq_true c
      have ha : kA p x = false := decide_eq_false (by omega)
      rw [List.filter_cons, List.filter_cons, hb, ha]
      exact pv_mk h1 ih
    · have hb : kB p x = false := decide_eq_false c
      have hbr : ∀ y ∈ r, kB p y = false := by
        have key : ∀ (l : List Pn) (e : Int), p.f < e → pvTo n l e = true → ∀ y ∈ l, kB p y = false := by
          intro l
          induction l with
          | nil => intro _ _ _ y hy; cases hy
          | cons q l ih =>
            intro e he h y hy
            obtain ⟨g1, g2⟩ := pv_cons h
            rcases List.mem_cons.1 hy with rfl | hy
            · exact decide_eq_false (by omega)
            · exact ih q.t (by omega) g2 y hy
        exact key r x.t (by omega) h2
      have hbf : r.filter (kB p) = [] := List.filter_eq_nil_iff.2 fun y hy => by rw [hbr y hy]; simp
      rw [List.filter_cons, hb]
      simp only [Bool.false_eq_true, if_false]
      rw [hbf, List.nil_append]
      refine pv_mk (by omega) ?_
      -- what begins behind the pin
      have key : ∀ (l : List Pn) (e : Int), pvTo n l e = true → pvTo n (l.filter (kA p)) p.t = true := by
        intro l
        induction l with
        | nil => intro _ _; rfl
        | cons q l ih =>
          intro e h
          obtain ⟨g1, g2⟩ := pv_cons h
          rw [List.filter_cons]
          by_cases cq : p.t ≤ q.f
          · have hq : kA p q = true := decide_eq_true cq
            rw [hq, if_pos rfl]
            have hall : ∀ (l : List Pn) (e : Int), p.t ≤ e → pvTo n l e = true → l.filter (kA p) = l := by
              intro l
              induction l with
              | nil => intro _ _ _; rfl
              | cons z l ih =>
                intro e he h
                obtain ⟨g1, g2⟩ := pv_cons h
                have hz : kA p z = true := decide_eq_true (by omega)
                rw [List.filter_cons, hz, if_pos rfl, ih z.t (by omega) g2]
            rw [hall l q.t (by omega) g2]
            exact pv_mk (by omega) g2
          · have hq : kA p q = false := decide_eq_false cq
            rw [hq, if_neg (by simp)]
            exact ih q.t g2
      exact key (x :: r) e h
end Go.Proofs.YtojgjdcciojpeaaGreat
set_option linter.unusedSimpArgs false
set_option linter.unusedVariables false
namespace Go.Proofs.YtojgjdcciojpeaaGreat
open Go Go.PS
set_option maxRecDepth 100000
set_option maxHeartbeats 4000000
/-- A point. -/
structure Pt where
  x : Int
  y : Int
  deriving DecidableEq, Inhabited
def Pt.d (p : Pt) : D := .agg [.int .i64 p.x, .int .i64 p.y]
theorem pt_get {l : List Pt} {i : Nat} (h : i < l.length) : (List.map Pt.d l).getD i .nilp = .agg [.int .i64 (l.getD i default).x, .int .i64 (l.getD i default).y] := by simp [h, Pt.d]

def Pt.inB (p : Pt) : Bool := decide (0 ≤ p.x) && decide (p.x ≤ 1000) && decide (0 ≤ p.y) && decide (p.y ≤ 1000)
theorem inB_out {p : Pt} (h : p.x < 0 ∨ 1000 < p.x ∨ p.y < 0 ∨ 1000 < p.y) : p.inB = false := by
  rcases h with h | h | h | h <;> simp [Pt.inB] <;> omega
theorem inB_in {p : Pt} (h1 : ¬ p.x < 0) (h2 : ¬ 1000 < p.x) (h3 : ¬ p.y < 0) (h4 : ¬ 1000 < p.y) : p.inB = true := by
  simp [Pt.inB]; omega
theorem all_out {l : List Pt} {k : Nat} (hk : k < l.length) (h : (l.getD k default).inB = false) : l.all Pt.inB = false := by
  have e : l.getD k default = l[k] := by simp [hk]
  rw [e] at h
  rw [List.all_eq_false]
  exact ⟨l[k], List.getElem_mem hk, by simp [h]⟩
theorem all_take {l : List Pt} {k : Nat} (hk : k < l.length) (h0 : (l.take k).all Pt.inB = true) (h : (l.getD k default).inB = true) : (l.take (k + 1)).all Pt.inB = true := by
  have e : l.getD k default = l[k] := by simp [hk]
  rw [e] at h
  rw [List.take_succ_eq_append_getElem hk, List.all_append, h0]
  simp [h]
end Go.Proofs.YtojgjdcciojpeaaGreat
set_option linter.unusedSimpArgs false
set_option linter.unusedVariables false
namespace Go.Proofs.YtojgjdcciojpeaaGreat
open Go Go.PS
set_option maxRecDepth 100000
set_option maxHeartbeats 4000000
/-- The reference's look at letters. -/
theorem letters91 (l : List UInt8) (hl : l.length ≤ 9223372036854775807) : PCall Tryz.prog 91 [.str l] (.bool (lets l)) := by
  refine enterP tabOk Tryz.func91 20 [0, 2, 3, 7, 19] [.tmp 2] rfl (r := [_]) rfl (h := ?_); intro E hK; simp only [go_sem]
  refine wgo ?_
  refine wlp (Run.loopC (ι := { i : Nat // i ≤ l.length ∧ lets (l.take i) = true }) (U := fun i => [(3, .d (.int .i64 i.1))]) (O := fun i => []) (K := fun _ => []) (μ := fun i => l.length - i.1) (i0 := ⟨0, by omega, rfl⟩)) ?_
  rintro ⟨i, hi, hp⟩ ih
  by_cases hlt : i < l.length
  · have h1 : (i : Int) < l.length := by omega
    have hst := lets_step hlt
    cases hb : letB (l.getD i 0) with
    | true =>
      obtain ⟨b1, b2⟩ := letB_iff.1 hb
      have c1 : ¬ ((l.getD i 0).toNat : Int) < 97 := by omega
      have c2 : ¬ 122 < ((l.getD i 0).toNat : Int) := by omega
      simp only [go_sem]
      refine wgoF (And.intro (@h1) (And.intro (@c1) (@c2))) ?_
      exact wnxt (ih ⟨i + 1, by omega, by rw [hst, hp, hb]; rfl⟩)
    | false =>
      have hf := lets_false hlt hb
      have c1 : (decide (((l.getD i 0).toNat : Int) < 97) || decide (122 < ((l.getD i 0).toNat : Int))) = true := by
        have : ¬ (97 ≤ (l.getD i 0).toNat ∧ (l.getD i 0).toNat ≤ 122) := fun h => by rw [letB_iff.2 h] at hb; cases hb
        simp only [Bool.or_eq_true, decide_eq_true_eq]; omega
      simp only [go_sem]
      refine wgoF (And.intro (@h1) (@c1)) ?_
      exact wretF (@hf)
  · have h1 : ¬ (i : Int) < l.length := by omega
    have e : l.take i = l := List.take_of_length_le (by omega)
    rw [e] at hp
    simp only [go_sem]
    refine wgoF (@h1) ?_
    exact wretF (@hp)
def risTo (l : List UInt8) (k : Nat) : Bool := (List.range k).all fun j => decide ((l.getD j 0).toNat < (l.getD (j + 1) 0).toNat)
def ris (l : List UInt8) : Bool := risTo l (l.length - 1)
theorem ris_step (l : List UInt8) (k : Nat) : risTo l (k + 1) = (risTo l k && decide ((l.getD k 0).toNat < (l.getD (k + 1) 0).toNat)) := by
  simp [risTo, List.range_succ, List.all_append]
theorem ris_false {l : List UInt8} {k : Nat} (hk : k + 1 < l.length) (h : ¬ (l.getD k 0).toNat < (l.getD (k + 1) 0).toNat) : ris l = false := by
  rw [Bool.eq_false_iff]; intro ht
  have := List.all_eq_true.1 ht k (by simp; omega)
  exact h (of_decide_eq_true this)
theorem incr84 (l : List UInt8) (hl : l.length ≤ 9223372036854775807) : PCall Tryz.prog 84 [.str l] (.bool (ris l)) := by
  refine enterP tabOk Tryz.func84 18 [0, 2, 3, 7, 17] [.tmp 2] rfl (r := [_]) rfl (h := ?_); intro E hK; simp only [go_sem]
  refine wgo ?_
  refine wlp (Run.loopC (ι := { i : Nat // (i + 1 ≤ l.length ∨ i = 0) ∧ risTo l i = true }) (U := fun i => [(3, .d (.int .i64 ((i.1 : Int) + 1)))]) (O := fun i => []) (K := fun _ => []) (μ := fun i => l.length - i.1) (i0 := ⟨0, by omega, rfl⟩)) ?_
  rintro ⟨i, hi, hp⟩ ih
  by_cases hlt : i + 1 < l.length
  · have h1 : (i : Int) + 1 < l.length := by omega
    have e1 : ((i : Int) + 1).toNat = i + 1 := by omega
    have e2 : ((i : Int) + 1 - 1).toNat = i := by omega
    by_cases c : (l.getD i 0).toNat < (l.getD (i + 1) 0).toNat
    · have c1 : ¬ ((l.getD (i + 1) 0).toNat : Int) ≤ ((l.getD i 0).toNat : Int) := by omega
      simp only [go_sem]
      refine wgoF (And.intro (@h1) (And.intro (@e1) (And.intro (@e2) (@c1)))) ?_
      exact wnxt (ih ⟨i + 1, by omega, by rw [ris_step, hp, decide_eq_true c]; rfl⟩)
    · have c1 : ((l.getD (i + 1) 0).toNat : Int) ≤ ((l.getD i 0).toNat : Int) := by omega
      have hf := ris_false hlt c
      simp only [go_sem]
      refine wgoF (And.intro (@h1) (And.intro (@e1) (And.intro (@e2) (@c1)))) ?_
      exact wretF (@hf)
  · have h1 : ¬ (i : Int) + 1 < l.length := by omega
    have hr : ris l = true := by
      rw [ris, ← hp]; congr 1; omega
    simp only [go_sem]
    refine wgoF (@h1) ?_
    exact wretF (@hr)
theorem ris93 (l : List UInt8) (hl : l.length ≤ 9223372036854775807) : PCall Tryz.prog 93 [.str l] (.bool (ris l)) := by
  refine enterP tabOk Tryz.func93 18 [0, 2, 3, 7, 17] [.tmp 2] rfl (r := [_]) rfl (h := ?_); intro E hK; simp only [go_sem]
  refine wgo ?_
  refine wlp (Run.loopC (ι := { i : Nat // (i + 1 ≤ l.length ∨ i = 0) ∧ risTo l i = true }) (U := fun i => [(3, .d (.int .i64 ((i.1 : Int) + 1)))]) (O := fun i => []) (K := fun _ => []) (μ := fun i => l.length - i.1) (i0 := ⟨0, by omega, rfl⟩)) ?_
  rintro ⟨i, hi, hp⟩ ih
  by_cases hlt : i + 1 < l.length
  · have h1 : (i : Int) + 1 < l.length := by omega
    have e1 : ((i : Int) + 1).toNat = i + 1 := by omega
    have e2 : ((i : Int) + 1 - 1).toNat = i := by omega
    by_cases c : (l.getD i 0).toNat < (l.getD (i + 1) 0).toNat
    · have c1 : ¬ ((l.getD (i + 1) 0).toNat : Int) ≤ ((l.getD i 0).toNat : Int) := by omega
      simp only [go_sem]
      refine wgoF (And.intro (@h1) (And.intro (@e1) (And.intro (@e2) (@c1)))) ?_
      exact wnxt (ih ⟨i + 1, by omega, by rw [ris_step, hp, decide_eq_true c]; rfl⟩)
    · have c1 : ((l.getD (i + 1) 0).toNat : Int) ≤ ((l.getD i 0).toNat : Int) := by omega
      have hf := ris_false hlt c
      simp only [go_sem]
      refine wgoF (And.intro (@h1) (And.intro (@e1) (And.intro (@e2) (@c1)))) ?_
      exact wretF (@hf)
  · have h1 : ¬ (i : Int) + 1 < l.length := by omega
    have hr : ris l = true := by
      rw [ris, ← hp]; congr 1; omega
    simp only [go_sem]
    refine wgoF (@h1) ?_
    exact wretF (@hr)
def inI (n a b : Int) : Bool := decide (a ≤ n) && decide (n ≤ b)
theorem in92 (n a b : Int) : PCall Tryz.prog 92 [.int .i64 n, .int .i64 a, .int .i64 b] (.bool (inI n a b)) := by
  refine enterP tabOk Tryz.func92 15 [0, 1, 2, 6] [.tmp 6] rfl (r := [_]) rfl (h := ?_); intro E hK; simp only [go_sem]
  refine wgo ?_
  exact wretF (@inI.eq_1)
/-- Points within the range. -/
def inL (p : List Pt) : Bool := p.all Pt.inB
theorem coord85 (p : List Pt) (hl : p.length ≤ 9223372036854775807) : PCall Tryz.prog 85 [.sl 2 (p.map Pt.d)] (.bool (inL p)) := by
  refine enterP tabOk Tryz.func85 30 [0, 2, 4, 5, 6, 7, 8, 28] [.tmp 2] rfl (r := [_]) rfl (h := ?_); intro E hK; simp only [go_sem]
  refine wgo ?_
  refine wlp (Run.loopC (ι := { i : Nat // i ≤ p.length ∧ (p.take i).all Pt.inB = true }) (U := fun i => [(7, .d (.int .i64 i.1))]) (O := fun i => []) (K := fun _ => []) (μ := fun i => p.length - i.1) (i0 := ⟨0, by omega, by simp⟩)) ?_
  rintro ⟨i, hi, hp⟩ ih
  by_cases hlt : i < p.length
  · have h1 : (i : Int) < p.length := by omega
    have hget := pt_get hlt
    cases hb : (p.getD i default).inB with
    | true =>
      have hb1 := hb
      simp only [Pt.inB, Bool.and_eq_true, decide_eq_true_eq] at hb1
      have c1 : ¬ (p.getD i default).x < 0 := by omega
      have c2 : ¬ 1000 < (p.getD i default).x := by omega
      have c3 : ¬ (p.getD i default).y < 0 := by omega
      have c4 : ¬ 1000 < (p.getD i default).y := by omega
      simp only [go_sem]
      refine wgoF (And.intro (@h1) (And.intro (@hget) (And.intro (@c1) (And.intro (@c2) (And.intro (@c3) (@c4)))))) ?_
      exact wnxt (ih ⟨i + 1, by omega, all_take hlt hp hb⟩)
    | false =>
      have hf : inL p = false := all_out hlt hb
      have c1 : (((decide ((p.getD i default).x < 0) || decide (1000 < (p.getD i default).x)) || decide ((p.getD i default).y < 0)) || decide (1000 < (p.getD i default).y)) = true := by
        have : ¬ (p.getD i default).inB = true := by rw [hb]; simp
        simp only [Pt.inB, Bool.and_eq_true, decide_eq_true_eq] at this
        simp only [Bool.or_eq_true, decide_eq_true_eq]; omega
      simp only [go_sem]
      refine wgoF (And.intro (@h1) (And.intro (@hget) (@c1))) ?_
      exact wretF (@hf)
  · have h1 : ¬ (i : Int) < p.length := by omega
    have e : p.take i = p := List.take_of_length_le (by omega)
    rw [e] at hp
    have hr : inL p = true := hp
    simp only [go_sem]
    refine wgoF (@h1) ?_
    exact wretF (@hr)
end Go.Proofs.YtojgjdcciojpeaaGreat
set_option linter.unusedSimpArgs false
set_option linter.unusedVariables false
namespace Go.Proofs.YtojgjdcciojpeaaGreat
open Go Go.PS
set_option maxRecDepth 100000
set_option maxHeartbeats 4000000
theorem points94 (p : List Pt) (a b : Int) (hl : p.length ≤ 9223372036854775807) : PCall Tryz.prog 94 [.sl 2 (p.map Pt.d), .int .i64 a, .int .i64 b] (.bool (inL p && inI p.length a b)) := by
  refine enterP tabOk Tryz.func94 35 [0, 1, 2, 6, 7, 11, 29] [.tmp 6] rfl (r := [_]) rfl (h := ?_); intro E hK; simp only [go_sem]
  refine wgo ?_
  refine wlp (Run.loopC (ι := { i : Nat // i ≤ p.length ∧ (p.take i).all Pt.inB = true }) (U := fun i => [(7, .d (.int .i64 i.1))]) (O := fun i => []) (K := fun _ => []) (μ := fun i => p.length - i.1) (i0 := ⟨0, by omega, by simp⟩)) ?_
  rintro ⟨i, hi, hp⟩ ih
  by_cases hlt : i < p.length
  · have h1 : (i : Int) < p.length := by omega
    have hget := pt_get hlt
    have k1 := in92 (p.getD i default).x 0 1000
    have k2 := in92 (p.getD i default).y 0 1000
    have hb1 : (p.getD i default).inB = (inI (p.getD i default).x 0 1000 && inI (p.getD i default).y 0 1000) := by simp [Pt.inB, inI, Bool.and_assoc]
    cases hb : (p.getD i default).inB with
    | true =>
      rw [hb] at hb1
      have hb2 : inI (p.getD i default).x 0 1000 = true ∧ inI (p.getD i default).y 0 1000 = true := by simpa using hb1.symm
      rw [hb2.1] at k1; rw [hb2.2] at k2
      simp only [go_sem]
      refine wgoF (And.intro (@h1) (@hget)) ?_
      refine wcall (k1) ?_
      refine wgoF (And.intro (@h1) (@hget)) ?_
      refine wcall (k2) ?_
      refine wgoF (And.intro (@h1) (@hget)) ?_
      exact wnxt (ih ⟨i + 1, by omega, all_take hlt hp hb⟩)
    | false =>
      have hf : inL p = false := all_out hlt hb
      rw [hb] at hb1
      generalize inI (p.getD i default).x 0 1000 = u at k1 hb1
      generalize inI (p.getD i default).y 0 1000 = v at k2 hb1
      have c1 : (!u || !v) = true := by clear k1 k2; revert hb1; cases u <;> cases v <;> decide
      simp only [go_sem]
      refine wgoF (And.intro (@h1) (@hget)) ?_
      refine wcall (k1) ?_
      refine wgoF (And.intro (@h1) (@hget)) ?_
      refine wscall (k2) ?_
      refine wgoF (And.intro (@h1) (And.intro (@hget) (@c1))) ?_
      exact wretF (@hf)
  · have h1 : ¬ (i : Int) < p.length := by omega
    have e : p.take i = p := List.take_of_length_le (by omega)
    rw [e] at hp
    have hr : inL p = true := hp
    simp only [go_sem]
    refine wgoF (@h1) ?_
    refine wcall (in92 p.length a b) ?_
    refine wgo ?_
    exact wretF (@hr)
/-- An event. -/
structure Ev where
  kind : Int
  keys : List UInt8
  p : List Pt
  text : List UInt8
  n : Int
  l : Int
  deriving DecidableEq, Inhabited
def Ev.d (e : Ev) : D := .agg [.int .i64 e.kind, .str e.keys, .sl 2 (e.p.map Pt.d), .str e.text, .int .i64 e.n, .int .i64 e.l]
def Ev.noK (e : Ev) : Bool := decide (e.keys = [])
def Ev.noP (e : Ev) : Bool := decide ((e.p.length : Int) = 0)
def Ev.noT (e : Ev) : Bool := decide (e.text = [])
def Ev.noN (e : Ev) : Bool := decide (e.n = 0)
def Ev.noL (e : Ev) : Bool := decide (e.l = 0)
def validE (e : Ev) : Bool :=
  if e.kind = 1 then decide ((e.keys.length : Int) = 1) && lets e.keys && e.noP && e.noT && e.noN && e.noL
  else if e.kind = 2 then decide (2 ≤ (e.keys.length : Int)) && decide ((e.keys.length : Int) ≤ 4) && lets e.keys && ris e.keys && e.noP && e.noT && e.noN && e.noL
  else if e.kind = 3 then decide ((e.p.length : Int) = 1) && inL e.p && e.noK && e.noT && e.noN && e.noL
  else if e.kind = 4 then decide (2 ≤ (e.p.length : Int)) && decide ((e.p.length : Int) ≤ 12) && inL e.p && e.noK && e.noT && e.noN && e.noL
  else if e.kind = 5 then decide (1 ≤ (e.text.length : Int)) && decide ((e.text.length : Int) ≤ 20) && lets e.text && e.noK && e.noP && e.noN && e.noL
  else if e.kind = 9 then decide (0 ≤ e.n) && decide (e.n < 40) && decide (1 ≤ e.l) && decide (e.l ≤ 40) && e.noK && e.noP && e.noT
  else if e.kind = 10 then decide (0 ≤ e.n) && decide (e.n < 50) && e.noK && e.noP && e.noT && e.noL
  else if e.kind = 6 ∨ e.kind = 7 ∨ e.kind = 8 ∨ e.kind = 11 ∨ e.kind = 12 then e.noK && e.noP && e.noT && e.noN && e.noL
  else false
attribute [go_sem] Ev.noK Ev.noP Ev.noT Ev.noN Ev.noL
def Ev.lok (e : Ev) : Prop := e.keys.length ≤ 9223372036854775807 ∧ e.p.length ≤ 9223372036854775807 ∧ e.text.length ≤ 9223372036854775807
theorem cast0 : ((0 : Nat) : Int) = 0 := rfl
attribute [go_sem] cast0
theorem len0 {α : Type} (l : List α) : decide ((l.length : Int) = 0) = decide (l = []) := by cases l <;> simp; omega
theorem valid62 (e : Ev) (hl : e.lok) : PCall Tryz.prog 62 [e.d] (.bool (validE e)) := by
  obtain ⟨l1, l2, l3⟩ := hl
  obtain ⟨k, keys, p, text, n, l⟩ := e
  dsimp only at l1 l2 l3
  by_cases h1 : k = 1
  · subst h1
    refine enterP tabOk Tryz.func62 155 [0, 1, 2, 3, 5, 6, 18, 41, 53, 71, 89, 111, 122] [.tmp 2] rfl (r := [_]) rfl (h := ?_); intro E hK; simp only [go_sem]
    refine wgoF (@Ev.d.eq_1) ?_
    refine wscall (letters83 keys) ?_
    refine wgo ?_
    refine wretq ?_
    simp only [validE, go_sem, Bool.and_assoc]
  by_cases h2 : k = 2
  · subst h2
    refine enterP tabOk Tryz.func62 155 [0, 1, 2, 3, 5, 6, 18, 41, 53, 71, 89, 111, 122] [.tmp 2] rfl (r := [_]) rfl (h := ?_); intro E hK; simp only [go_sem]
    refine wgoF (@Ev.d.eq_1) ?_
    refine wscall (letters83 keys) ?_
    refine wgo ?_
    refine wscall (incr84 keys l1) ?_
    refine wgo ?_
    refine wretq ?_
    simp only [validE, go_sem, Bool.and_assoc]
  by_cases h3 : k = 3
  · subst h3
    refine enterP tabOk Tryz.func62 155 [0, 1, 2, 3, 5, 6, 18, 41, 53, 71, 89, 111, 122] [.tmp 2] rfl (r := [_]) rfl (h := ?_); intro E hK; simp only [go_sem]
    refine wgoF (@Ev.d.eq_1) ?_
    refine wscall (coord85 p l2) ?_
    refine wgo ?_
    refine wretq ?_
    simp only [validE, go_sem, Bool.and_assoc]
  by_cases h4 : k = 4
  · subst h4
    refine enterP tabOk Tryz.func62 155 [0, 1, 2, 3, 5, 6, 18, 41, 53, 71, 89, 111, 122] [.tmp 2] rfl (r := [_]) rfl (h := ?_); intro E hK; simp only [go_sem]
    refine wgoF (@Ev.d.eq_1) ?_
    refine wscall (coord85 p l2) ?_
    refine wgo ?_
    refine wretq ?_
    simp only [validE, go_sem, Bool.and_assoc]
  by_cases h5 : k = 5
  · subst h5
    refine enterP tabOk Tryz.func62 155 [0, 1, 2, 3, 5, 6, 18, 41, 53, 71, 89, 111, 122] [.tmp 2] rfl (r := [_]) rfl (h := ?_); intro E hK; simp only [go_sem]
    refine wgoF (@Ev.d.eq_1) ?_
    refine wscall (letters83 text) ?_
    refine wgo ?_
    refine wretq ?_
    simp only [validE, go_sem, Bool.and_assoc]
  by_cases h9 : k = 9
  · subst h9
    refine enterP tabOk Tryz.func62 155 [0, 1, 2, 3, 5, 6, 18, 41, 53, 71, 89, 111, 122] [.tmp 2] rfl (r := [_]) rfl (h := ?_); intro E hK; simp only [go_sem]
    refine wgoF (@Ev.d.eq_1) ?_
    refine wretq ?_
    simp only [validE, go_sem, Bool.and_assoc]
  by_cases h10 : k = 10
  · subst h10
    refine enterP tabOk Tryz.func62 155 [0, 1, 2, 3, 5, 6, 18, 41, 53, 71, 89, 111, 122] [.tmp 2] rfl (r := [_]) rfl (h := ?_); intro E hK; simp only [go_sem]
    refine wgoF (@Ev.d.eq_1) ?_
    refine wretq ?_
    simp only [validE, go_sem, Bool.and_assoc]
  by_cases h6 : k = 6 ∨ k = 7 ∨ k = 8 ∨ k = 11 ∨ k = 12
  · have hr : validE ⟨k, keys, p, text, n, l⟩ = (decide (keys = []) && (decide ((p.length : Int) = 0) && (decide (text = []) && (decide (n = 0) && decide (l = 0))))) := by
      unfold validE; dsimp only
      rw [if_neg h1, if_neg h2, if_neg h3, if_neg h4, if_neg h5, if_neg h9, if_neg h10, if_pos h6]
      simp only [Ev.noK, Ev.noP, Ev.noT, Ev.noN, Ev.noL, Bool.and_assoc]
    rcases h6 with h | h | h | h | h <;> subst h
    all_goals
      refine enterP tabOk Tryz.func62 155 [0, 1, 2, 3, 5, 6, 18, 41, 53, 71, 89, 111, 122] [.tmp 2] rfl (r := [_]) rfl (h := ?_); intro E hK; simp only [go_sem]
      refine wgoF (@Ev.d.eq_1) ?_
      refine wretqF (@Bool.and_assoc) ?_
      rw [hr]
  · have hr : validE ⟨k, keys, p, text, n, l⟩ = false := by
      unfold validE; dsimp only
      rw [if_neg h1, if_neg h2, if_neg h3, if_neg h4, if_neg h5, if_neg h9, if_neg h10, if_neg h6]
    have h6a : ¬ k = 6 := by omega
    have h6b : ¬ k = 7 := by omega
    have h6c : ¬ k = 8 := by omega
    have h6d : ¬ k = 11 := by omega
    have h6e : ¬ k = 12 := by omega
    refine enterP tabOk Tryz.func62 155 [0, 1, 2, 3, 5, 6, 18, 41, 53, 71, 89, 111, 122] [.tmp 2] rfl (r := [_]) rfl (h := ?_); intro E hK; simp only [go_sem]
    refine wgoF (And.intro (@Ev.d.eq_1) (And.intro (@h1) (And.intro (@h2) (And.intro (@h3) (And.intro (@h4) (And.intro (@h5) (And.intro (@h9) (And.intro (@h10) (And.intro (@h6a) (And.intro (@h6b) (And.intro (@h6c) (And.intro (@h6d) (@h6e))))))))))))) ?_
    exact wretF (@hr)
end Go.Proofs.YtojgjdcciojpeaaGreat
set_option linter.unusedSimpArgs false
set_option linter.unusedVariables false
namespace Go.Proofs.YtojgjdcciojpeaaGreat
open Go Go.PS
set_option maxRecDepth 100000
set_option maxHeartbeats 4000000
structure Ch where
  k : Int
  c : Int
  deriving DecidableEq, Inhabited
def Ch.d (c : Ch) : D := .agg [.int .u8 c.k, .int .i64 c.c]
theorem ch_get {l : List Ch} {i : Nat} (h : i < l.length) : (List.map Ch.d l).getD i .nilp = .agg [.int .u8 (l.getD i default).k, .int .i64 (l.getD i default).c] := by simp [h, Ch.d]
/-- A slot. -/
def slD (s : List Ch) : D := .sl 2 (s.map Ch.d)
def slsD (l : List (List Ch)) : D := .sl 1 (l.map slD)
theorem sl_get {l : List (List Ch)} {i : Nat} (h : i < l.length) : (List.map slD l).getD i .nilp = .sl 2 ((l.getD i []).map Ch.d) := by simp [h, slD]
theorem repL_split {γ : Gh} {a b : List PV} {vs : List Value} (h : RepL γ (a ++ b) vs) : ∃ v1 v2, vs = v1 ++ v2 ∧ RepL γ a v1 ∧ RepL γ b v2 := by
  have hl := h.1
  simp only [List.length_append] at hl
  refine ⟨vs.take a.length, vs.drop a.length, (List.take_append_drop _ _).symm, ⟨by simp; omega, fun i c v hc hv => ?_⟩, ⟨by simp; omega, fun i c v hc hv => ?_⟩⟩
  · have hi := (List.getElem?_eq_some_iff.1 hc).1
    rw [List.getElem?_take_of_lt hi] at hv
    exact h.2 i c v (by rw [List.getElem?_append_left hi]; exact hc) hv
  · rw [List.getElem?_drop] at hv
    exact h.2 (a.length + i) c v (by rw [List.getElem?_append_right (by omega)]; simpa using hc) hv
theorem reOb_list (γ : Gh) : ∀ (els els' : List PV) (cs : List Value), els.length = els'.length → (∀ (i : Nat) (x y : PV), els[i]? = some x → els'[i]? = some y → ∀ vs, RepL γ x.cells vs → RepL γ y.cells vs) → RepL γ (flat els) cs → RepL γ (flat els') cs
  | [], [], cs, _, _, h => h
  | x :: xs, y :: ys, cs, hl, hp, h => by
    rw [show flat (x :: xs) = x.cells ++ flat xs from by simp [flat]] at h
    rw [show flat (y :: ys) = y.cells ++ flat ys from by simp [flat]]
    obtain ⟨v1, v2, rfl, h1, h2⟩ := repL_split h
    exact (hp 0 x y rfl rfl v1 h1).append (reOb_list γ xs ys v2 (by simpa using hl) (fun i a b ha hb => hp (i + 1) a b (by simpa using ha) (by simpa using hb)) h2)
  | [], _ :: _, _, hl, _, _ => by simp at hl
  | _ :: _, [], _, hl, _, _ => by simp at hl
theorem reOb_own (R : List D) (i sz : Nat) (xs : List D) (t : Tok) (γ : Gh) (cs : List Value) (h : RepL γ (flat ((R.map PV.ofD.PV.ofD1).set i (.own sz xs t))) cs) : RepL γ (flat ((R.set i (.sl sz xs)).map PV.ofD.PV.ofD1)) cs := by
  refine reOb_list γ _ _ cs (by simp) (fun j x y hx hy vs hv => ?_) h
  rw [List.map_set] at hy
  by_cases hij : i = j
  · subst hij
    have hi : i < R.length := by have := (List.getElem?_eq_some_iff.1 hx).1; simpa using this
    rw [List.getElem?_set_self (by simpa using hi)] at hx hy
    cases hx; cases hy
    simp only [PV.cells, PV.ofD.PV.ofD1] at hv ⊢
    obtain ⟨v, vs', rfl, h1, h2⟩ := hv.cons_inv
    exact .cons (by cases h1 with | own h ht => exact .d h) h2
  · rw [List.getElem?_set_ne hij] at hx hy
    rw [hx] at hy; cases hy; exact hv
theorem len_own (R : List D) (i sz n : Nat) (xs : List D) (t : Tok) (h : ∀ e ∈ R, e.cells.length = n) (hn : n = 1) : ∀ e ∈ (R.set i (.sl sz xs)).map PV.ofD.PV.ofD1, e.cells.length = n := by
  intro e he
  obtain ⟨d, hd, rfl⟩ := List.mem_map.1 he
  rcases List.mem_or_eq_of_mem_set hd with h1 | rfl
  · have := h d h1
    rw [← this]; cases d <;> simp [PV.ofD.PV.ofD1, PV.cells, D.cells]
  · subst hn; rfl
end Go.Proofs.YtojgjdcciojpeaaGreat
set_option linter.unusedSimpArgs false
set_option linter.unusedVariables false
namespace Go.Proofs.YtojgjdcciojpeaaGreat
open Go Go.PS
set_option maxRecDepth 100000
set_option maxHeartbeats 4000000
def byteC (c : UInt8) : Ch := ⟨(c.toNat : Int), 0⟩
/-- The slots of letters. -/
def typedF (l : List UInt8) : List (List Ch) := l.map fun c => [byteC c]
theorem typed_len (l : List UInt8) : (typedF l).length = l.length := by simp [typedF]
theorem typed_snoc {l : List UInt8} {i : Nat} (h : i < l.length) : (typedF (l.take (i + 1))).map slD = (typedF (l.take i)).map slD ++ [.sl 2 [.agg [.int .u8 ((l.getD i 0).toNat : Int), .int .i64 0]]] := by
  have e : l.getD i 0 = l[i] := by simp [h]
  rw [List.take_succ_eq_append_getElem h, e]
  simp only [typedF, List.map_append, List.map_cons, List.map_nil]; rfl
theorem typed59 (l : List UInt8) (hl : l.length ≤ 100000) : PCall Tryz.prog 59 [.str l] (slsD (typedF l)) := by
  refine enterP tabOk Tryz.func59 21 [0, 2, 3, 4, 9] [.tmp 2] rfl (r := [_]) rfl (h := ?_); intro E hK; simp only [go_sem]
  refine wgo ?_
  (apply Run.full 3 1003 64 1; (case hi => simp only [go_sem]; rfl); (case ht => simp only [go_sem]); (case hmn => first | exact Or.inl (by decide) | exact Or.inr rfl); (case hs => simp only [go_sem]; rfl))
  refine wlpF (Run.loopC (ι := { i : Nat // i ≤ l.length }) (U := fun i => [(3, .own 1 ((typedF (l.take i.1)).map slD) (.tok 1003)), (4, .d (.int .i64 i.1))]) (O := fun i => []) (K := fun _ => [(1003, .live 64 1)]) (μ := fun i => l.length - i.1) (i0 := ⟨0, by omega⟩)) (And.intro (@slD.eq_1) (@typedF.eq_1)) ?_
  rintro ⟨i, hi⟩ ih
  have hlen : (List.map slD (typedF (List.take i l))).length = i := by simp [typedF]; omega
  by_cases hlt : i < l.length
  · have h1 : (i : Int) < l.length := by omega
    have hs := typed_snoc hlt
    simp only [go_sem]
    refine wgoF (And.intro (@h1) (@hlen)) ?_
    (apply Run.retok 19 1003; (case hk => simp only [go_sem]; rfl); (case ht => simp only [go_sem]; rfl); (case ht' => simp only [go_sem]); (case hs => simp only [go_sem]; rfl))
    exact wnxtF (ih ⟨i + 1, by omega⟩) (@hs)
  · have h1 : ¬ (i : Int) < l.length := by omega
    have e : l.take i = l := List.take_of_length_le (by omega)
    simp only [go_sem, e]
    refine wgoF (@h1) ?_
    exact wretF (@slsD.eq_1)
/-- The row of slots after i rounds. -/
def tyR (l : List UInt8) (i : Nat) : List D := (typedF (l.take i)).map slD ++ List.replicate (l.length - i) (.sl 2 [])
theorem tyR_len {l : List UInt8} {i : Nat} (h : i ≤ l.length) : (tyR l i).length = l.length := by simp [tyR, typedF]; omega
theorem tyR_lenM {l : List UInt8} {i : Nat} (h : i ≤ l.length) : (List.map PV.ofD.PV.ofD1 (tyR l i)).length = l.length := by rw [List.length_map, tyR_len h]
theorem tyR_get {l : List UInt8} {i : Nat} (h : i < l.length) : (List.map PV.ofD.PV.ofD1 (tyR l i)).getD i .any = .d (.sl 2 []) := by
  have hlen : ((typedF (l.take i)).map slD).length = i := by simp [typedF]; omega
  have e : (tyR l i)[i]? = some (.sl 2 []) := by
    rw [tyR, List.getElem?_append_right (by omega), hlen, Nat.sub_self, List.getElem?_replicate, if_pos (by omega)]
  simp [List.getD, e, PV.ofD.PV.ofD1]
theorem tyR_set {l : List UInt8} {i : Nat} (h : i < l.length) : (tyR l i).set i (.sl 2 [.agg [.int .u8 ((l.getD i 0).toNat : Int), .int .i64 0]]) = tyR l (i + 1) := by
  have hlen : ((typedF (l.take i)).map slD).length = i := by simp [typedF]; omega
  obtain ⟨m, hm⟩ : ∃ m, l.length - i = m + 1 := ⟨l.length - i - 1, by omega⟩
  rw [tyR, tyR, List.set_append_right _ _ (by omega), hlen, Nat.sub_self, hm, List.replicate_succ, List.set_cons_zero, typed_snoc h, show l.length - (i + 1) = m by omega, List.append_assoc]
  rfl
theorem tyR_all (l : List UInt8) : tyR l l.length = (typedF l).map slD := by simp [tyR]
theorem tyR_one (l : List UInt8) (i : Nat) : ∀ e ∈ tyR l i, e.cells.length = 1 := by
  intro e he
  rcases List.mem_append.1 he with h | h
  · obtain ⟨s, _, rfl⟩ := List.mem_map.1 h; rfl
  · rw [(List.mem_replicate.1 h).2]; rfl
theorem tyR_zero (l : List UInt8) : tyR l 0 = List.replicate l.length (.sl 2 []) := by simp [tyR, typedF]
theorem typed112 (l : List UInt8) (hl : l.length ≤ 100000) : PCall Tryz.prog 112 [.str l] (slsD (typedF l)) := by
  by_cases hn : l = []
  · subst hn
    refine enterP tabOk Tryz.func112 23 [0, 2, 3, 4, 9, 10, 11] [.tmp 2] rfl (r := [_]) rfl (h := ?_); intro E hK; simp only [go_sem]
    refine wgo ?_
    refine run_loop ?_
    refine wgo ?_
    exact wretF (And.intro (@slsD.eq_1) (@typedF.eq_1))
  · have hpos : 0 < l.length := List.length_pos_iff.2 hn
    have h0 : ¬ ((l.length : Int) = 0) := by omega
    have z0 := tyR_zero l
    refine enterP tabOk Tryz.func112 23 [0, 2, 3, 4, 9, 10, 11] [.tmp 2] rfl (r := [_]) rfl (h := ?_); intro E hK; simp only [go_sem]
    refine wgoF (@h0) ?_
    (apply Run.reOb 7 (List.map PV.ofD.PV.ofD1 (List.replicate l.length (D.sl 2 []))); (case ho => simp only [go_sem]; rfl); (case h => exact reOb_nils _ _ _ _); (case hs => simp [PV.ofD.PV.ofD1, PV.cells]); (case hss => simp only [go_sem]; rfl))
    rw [← z0]
    refine wlp (Run.loopC (ι := { i : Nat // i ≤ l.length }) (U := fun i => [(10, .d (.int .i64 i.1))]) (O := fun i => [(7, some ⟨64, 1, (tyR l i.1).map PV.ofD.PV.ofD1⟩)]) (K := fun _ => []) (μ := fun i => l.length - i.1) (i0 := ⟨0, by omega⟩)) ?_
    rintro ⟨i, hi⟩ ih
    by_cases hlt : i < l.length
    · have h1 : (i : Int) < l.length := by omega
      have e1 := tyR_lenM (Nat.le_of_lt hlt)
      have e2 := tyR_get hlt
      simp only [go_sem]
      refine wgoF (And.intro (@h1) (And.intro (@e1) (@e2))) ?_
      (apply Run.reOb 7 ((tyR l (i + 1)).map PV.ofD.PV.ofD1); (case ho => simp only [go_sem]; rfl); (case h => intro γ cs hh; have q := reOb_own _ _ _ _ _ γ cs hh; rw [tyR_set hlt] at q; exact q); (case hs => intro e he; obtain ⟨d, hd, rfl⟩ := List.mem_map.1 he; have := tyR_one l (i + 1) d hd; rw [← this]; cases d <;> simp [PV.ofD.PV.ofD1, PV.cells, D.cells]); (case hss => simp only [go_sem]; rfl))
      exact wnxt (ih ⟨i + 1, by omega⟩)
    · have h1 : ¬ (i : Int) < l.length := by omega
      obtain rfl : i = l.length := by omega
      have e := tyR_all l
      have e2 : (l.length ≤ (typedF l).length) = True := eq_true (by rw [typed_len]; exact Nat.le_refl _)
      have e3 : List.take l.length (List.map slD (typedF l)) = List.map slD (typedF l) := List.take_of_length_le (by rw [List.length_map, typed_len]; exact Nat.le_refl _)
      simp only [go_sem]
      refine wgoF (@h1) ?_
      (apply Run.freezeRow 7; (case ho => simp only [go_sem]; rfl); (case hsz => exact tyR_one l l.length); (case hit => rfl); (case hs => simp only [go_sem]; rfl))
      exact wretF (And.intro (@e) (And.intro (@e2) (And.intro (@e3) (@slsD.eq_1))))
/-! Slots held against each other. -/
theorem same32 (a b : List Ch) (hl : a.length ≤ 100000) (hl2 : b.length ≤ 100000) : PCall Tryz.prog 32 [.sl 2 (a.map Ch.d), .sl 2 (b.map Ch.d)] (.bool (decide (a = b))) := by
  by_cases hne : a.length = b.length
  · have h0 : decide ((a.length : Int) = (b.length : Int)) = true := decide_eq_true (by omega)
    refine enterP tabOk Tryz.func32 26 [0, 1, 4, 5, 10, 14, 25] [.tmp 4] rfl (r := [_]) rfl (h := ?_); intro E hK; simp only [go_sem]
    refine wgoF (@h0) ?_
    refine wlp (Run.loopC (ι := { i : Nat // i ≤ a.length ∧ a.take i = b.take i }) (U := fun i => [(5, .d (.int .i64 i.1))]) (O := fun i => []) (K := fun _ => []) (μ := fun i => a.length - i.1) (i0 := ⟨0, by omega, rfl⟩)) ?_
    rintro ⟨i, hi, he⟩ ih
    by_cases hlt : i < a.length
    · have h1 : (i : Int) < a.length := by omega
      have h1b : (i : Int) < b.length := by omega
      have hlt2 : i < b.length := by omega
      have ga := ch_get hlt
      have gb := ch_get hlt2
      have ea : a.getD i default = a[i] := by simp [hlt]
      have eb : b.getD i default = b[i] := by simp [hlt2]
      by_cases heq : a.getD i default = b.getD i default
      · have c1 : decide ((a.getD i default).k = (b.getD i default).k) = true := decide_eq_true (by rw [heq])
        have c2 : decide ((a.getD i default).c = (b.getD i default).c) = true := decide_eq_true (by rw [heq])
        simp only [go_sem]
        refine wgoF (And.intro (@h1) (And.intro (@h1b) (And.intro (@ga) (And.intro (@gb) (And.intro (@c1) (@c2)))))) ?_
        exact wnxt (ih ⟨i + 1, by omega, by rw [List.take_succ_eq_append_getElem hlt, List.take_succ_eq_append_getElem hlt2, he, ← ea, ← eb, heq]⟩)
      · have c1 : (!(decide ((a.getD i default).k = (b.getD i default).k) && decide ((a.getD i default).c = (b.getD i default).c))) = true := by
          rw [Bool.not_eq_true', Bool.and_eq_false_iff]
          by_cases q : (a.getD i default).k = (b.getD i default).k
          · right; refine decide_eq_false fun q2 => heq ?_
            generalize a.getD i default = u at q q2; generalize b.getD i default = v at q q2
            cases u; cases v; simp_all
          · left; exact decide_eq_false q
        have hr : decide (a = b) = false := decide_eq_false fun e => by subst e; exact heq rfl
        simp only [go_sem]
        refine wgoF (And.intro (@h1) (And.intro (@h1b) (And.intro (@ga) (And.intro (@gb) (@c1))))) ?_
        exact wretF (@hr)
    · have h1 : ¬ (i : Int) < a.length := by omega
      have hr : decide (a = b) = true := decide_eq_true (by
        rw [List.take_of_length_le (by omega), List.take_of_length_le (by omega)] at he; exact he)
      simp only [go_sem]
      refine wgoF (@h1) ?_
      exact wretF (@hr)
  · have h0 : decide ((a.length : Int) = (b.length : Int)) = false := decide_eq_false (by omega)
    have hr : decide (a = b) = false := decide_eq_false fun e => hne (by rw [e])
    refine enterP tabOk Tryz.func32 26 [0, 1, 4, 5, 10, 14, 25] [.tmp 4] rfl (r := [_]) rfl (h := ?_); intro E hK; simp only [go_sem]
    refine wgoF (@h0) ?_
    exact wretF (@hr)
theorem same21 (a b : List (List Ch)) (hl : a.length ≤ 100000) (hl2 : b.length ≤ 100000) (ha : ∀ s ∈ a, s.length ≤ 100000) (hb : ∀ s ∈ b, s.length ≤ 100000) : PCall Tryz.prog 21 [slsD a, slsD b] (.bool (decide (a = b))) := by
  by_cases hne : a.length = b.length
  · have h0 : decide ((a.length : Int) = (b.length : Int)) = true := decide_eq_true (by omega)
    refine enterP tabOk Tryz.func21 27 [0, 1, 4, 5, 10, 14, 26] [.tmp 4] rfl (r := [_]) rfl (h := ?_); intro E hK; simp only [go_sem]
    refine wgoF (And.intro (@slsD.eq_1) (@h0)) ?_
    refine wlp (Run.loopC (ι := { i : Nat // i ≤ a.length ∧ a.take i = b.take i }) (U := fun i => [(5, .d (.int .i64 i.1))]) (O := fun i => []) (K := fun _ => []) (μ := fun i => a.length - i.1) (i0 := ⟨0, by omega, rfl⟩)) ?_
    rintro ⟨i, hi, he⟩ ih
    by_cases hlt : i < a.length
    · have h1 : (i : Int) < a.length := by omega
      have h1b : (i : Int) < b.length := by omega
      have hlt2 : i < b.length := by omega
      have ga := sl_get hlt
      have gb := sl_get hlt2
      have ea : a.getD i [] = a[i] := by simp [hlt]
      have eb : b.getD i [] = b[i] := by simp [hlt2]
      have hc := same32 (a.getD i []) (b.getD i []) (by rw [ea]; exact ha _ (List.getElem_mem hlt)) (by rw [eb]; exact hb _ (List.getElem_mem hlt2))
      by_cases heq : a.getD i [] = b.getD i []
      · have c1 : decide (a.getD i [] = b.getD i []) = true := decide_eq_true heq
        rw [c1] at hc
        simp only [go_sem]
        refine wgoF (And.intro (@h1) (And.intro (@h1b) (And.intro (@ga) (@gb)))) ?_
        refine wcall (hc) ?_
        refine wgo ?_
        exact wnxt (ih ⟨i + 1, by omega, by rw [List.take_succ_eq_append_getElem hlt, List.take_succ_eq_append_getElem hlt2, he, ← ea, ← eb, heq]⟩)
      · have c1 : decide (a.getD i [] = b.getD i []) = false := decide_eq_false heq
        rw [c1] at hc
        have hr : decide (a = b) = false := decide_eq_false fun e => by subst e; exact heq rfl
        simp only [go_sem]
        refine wgoF (And.intro (@h1) (And.intro (@h1b) (And.intro (@ga) (@gb)))) ?_
        refine wcall (hc) ?_
        refine wgo ?_
        exact wretF (@hr)
    · have h1 : ¬ (i : Int) < a.length := by omega
      have hr : decide (a = b) = true := decide_eq_true (by
        rw [List.take_of_length_le (by omega), List.take_of_length_le (by omega)] at he; exact he)
      simp only [go_sem]
      refine wgoF (@h1) ?_
      exact wretF (@hr)
  · have h0 : decide ((a.length : Int) = (b.length : Int)) = false := decide_eq_false (by omega)
    have hr : decide (a = b) = false := decide_eq_false fun e => hne (by rw [e])
    refine enterP tabOk Tryz.func21 27 [0, 1, 4, 5, 10, 14, 26] [.tmp 4] rfl (r := [_]) rfl (h := ?_); intro E hK; simp only [go_sem]
    refine wgoF (And.intro (@slsD.eq_1) (@h0)) ?_
    exact wretF (@hr)
end Go.Proofs.YtojgjdcciojpeaaGreat
set_option linter.unusedSimpArgs false
set_option linter.unusedVariables false
namespace Go.Proofs.YtojgjdcciojpeaaGreat
open Go Go.PS
set_option maxRecDepth 100000
set_option maxHeartbeats 4000000
/-- A chord of a board. -/
structure Ck where
  keys : List UInt8
  k : Int
  deriving DecidableEq, Inhabited
def Ck.d (c : Ck) : D := .agg [.str c.keys, .int .u8 c.k]
/-- A board: areas and templates as they lie. -/
structure Brd where
  za : Nat
  A : List D
  zt : Nat
  T : List D
  cs : List Ck
def Brd.d (b : Brd) : D := .agg [.sl b.za b.A, .sl b.zt b.T, .sl 2 (b.cs.map Ck.d)]
theorem ck_get {l : List Ck} {i : Nat} (h : i < l.length) : (List.map Ck.d l).getD i .nilp = .agg [.str (l.getD i default).keys, .int .u8 (l.getD i default).k] := by simp [h, Ck.d]
def ckOk (l : List Ck) : Prop := l.length ≤ 100000 ∧ ∀ c ∈ l, 0 ≤ c.k ∧ c.k ≤ 255
theorem ck_ok {l : List Ck} (h : ckOk l) {i : Nat} (hi : i < l.length) : 0 ≤ (l.getD i default).k ∧ (l.getD i default).k ≤ 255 := by
  have e : l.getD i default = l[i] := by simp [hi]
  rw [e]; exact h.2 _ (List.getElem_mem hi)
def chordR (l : List Ck) (keys : List UInt8) : List (List Ch) × Int :=
  match l.find? (fun c => decide (c.keys = keys)) with
  | some c => ([[⟨c.k, 0⟩]], 0)
  | none => ([], 10)
theorem chord_drop {l : List Ck} {i : Nat} (h : i < l.length) (keys : List UInt8) : chordR (l.drop i) keys = if (l.getD i default).keys = keys then ([[⟨(l.getD i default).k, 0⟩]], 0) else chordR (l.drop (i + 1)) keys := by
  have e : l.getD i default = l[i] := by simp [h]
  rw [List.drop_eq_getElem_cons h, e]
  unfold chordR
  rw [List.find?_cons]
  by_cases q : l[i].keys = keys
  · rw [if_pos q, decide_eq_true q]
  · rw [if_neg q, decide_eq_false q]
def rD (r : List (List Ch) × Int) : D := .tup [slsD r.1, .int .i64 r.2]
theorem byteK {k : Int} (h : 0 ≤ k ∧ k ≤ 255) : typedF [UInt8.ofNat k.toNat] = [[⟨k, 0⟩]] := by
  have : ((UInt8.ofNat k.toNat).toNat : Int) = k := by
    rw [UInt8.toNat_ofNat']; omega
  show [[(⟨((UInt8.ofNat k.toNat).toNat : Int), 0⟩ : Ch)]] = _
  rw [this]
theorem key86 (b : Brd) (tp : D) (e : Ev) (hk : e.keys.length ≤ 100000) : PCall Tryz.prog 86 [b.d, tp, e.d] (rD (typedF e.keys, 0)) := by
  refine enterP tabOk Tryz.func86 11 [0, 2, 5, 6, 7] [.tmp 6, .tmp 7] rfl (r := [_, _]) rfl (h := ?_); intro E hK; simp only [go_sem]
  refine wgoF (And.intro (@Brd.d.eq_1) (@Ev.d.eq_1)) ?_
  refine wcall (typed112 e.keys hk) ?_
  refine wgo ?_
  exact wretF (@rD.eq_1)
theorem paste90 (b : Brd) (tp : D) (e : Ev) (hk : e.text.length ≤ 100000) : PCall Tryz.prog 90 [b.d, tp, e.d] (rD (typedF e.text, 0)) := by
  refine enterP tabOk Tryz.func90 11 [0, 2, 5, 6, 7] [.tmp 6, .tmp 7] rfl (r := [_, _]) rfl (h := ?_); intro E hK; simp only [go_sem]
  refine wgoF (And.intro (@Brd.d.eq_1) (@Ev.d.eq_1)) ?_
  refine wcall (typed112 e.text hk) ?_
  refine wgo ?_
  exact wretF (@rD.eq_1)
theorem chord87 (b : Brd) (tp : D) (e : Ev) (hc : ckOk b.cs) : PCall Tryz.prog 87 [b.d, tp, e.d] (rD (chordR b.cs e.keys)) := by
  obtain ⟨za, A, zt, T, cs⟩ := b
  have hl := hc.1
  dsimp only at hl hc
  refine enterP tabOk Tryz.func87 28 [0, 2, 3, 5, 6, 7, 9, 11, 12, 13, 14, 21] [.tmp 6, .tmp 7] rfl (r := [_, _]) rfl (h := ?_); intro E hK; simp only [go_sem]
  refine wgoF (And.intro (@Brd.d.eq_1) (@Ev.d.eq_1)) ?_
  refine wlp (Run.loopC (ι := { i : Nat // i ≤ cs.length ∧ chordR (cs.drop i) e.keys = chordR cs e.keys }) (U := fun i => [(13, .d (.int .i64 i.1))]) (O := fun i => []) (K := fun _ => []) (μ := fun i => cs.length - i.1) (i0 := ⟨0, by omega, rfl⟩)) ?_
  rintro ⟨i, hi, hp⟩ ih
  by_cases hlt : i < cs.length
  · have h1 : (i : Int) < cs.length := by omega
    have hget := ck_get hlt
    have hb := ck_ok hc hlt
    rw [chord_drop hlt] at hp
    by_cases q : (cs.getD i default).keys = e.keys
    · rw [if_pos q] at hp
      have ht := typed112 [UInt8.ofNat (cs.getD i default).k.toNat] (by simp)
      rw [byteK hb] at ht
      simp only [go_sem]
      refine wgoF (And.intro (@h1) (And.intro (@hget) (And.intro (@q) (And.intro (@hb.1) (@hb.2))))) ?_
      refine wcall (ht) ?_
      refine wgo ?_
      have hp2 := hp.symm
      exact wretF (And.intro (@rD.eq_1) (And.intro (@hp2) (And.intro (@slsD.eq_1) (And.intro (@slD.eq_1) (@Ch.d.eq_1)))))
    · rw [if_neg q] at hp
      have q2 : decide ((cs.getD i default).keys = e.keys) = false := decide_eq_false q
      simp only [go_sem]
      refine wgoF (And.intro (@h1) (And.intro (@hget) (@q2))) ?_
      exact wnxt (ih ⟨i + 1, by omega, hp⟩)
  · have h1 : ¬ (i : Int) < cs.length := by omega
    have hp2 : chordR cs e.keys = ([], 10) := by rw [← hp, List.drop_eq_nil_of_le (by omega)]; rfl
    simp only [go_sem]
    refine wgoF (@h1) ?_
    exact wretF (And.intro (@rD.eq_1) (And.intro (@hp2) (@slsD.eq_1)))
/-- One slot, or an error. -/
def wrapS (r : List Ch × Int) : List (List Ch) × Int := if r.2 = 0 then ([r.1], 0) else ([], r.2)
theorem pt0 {p : List Pt} (h : 0 < p.length) : (List.map Pt.d p).getD 0 .nilp = .agg [.int .i64 (p.getD 0 default).x, .int .i64 (p.getD 0 default).y] := pt_get h
theorem touch88 (b : Brd) (tz : Nat) (tp : List D) (e : Ev) (hp : 0 < e.p.length) (r : List Ch × Int) (hT : PCall Tryz.prog 113 [b.d, .sl tz tp, (e.p.getD 0 default).d] (.tup [slD r.1, .int .i64 r.2])) : PCall Tryz.prog 88 [b.d, .sl tz tp, e.d] (rD (wrapS r)) := by
  have hpl : (0 : Int) < e.p.length := by omega
  have g := pt0 hp
  obtain ⟨s, x⟩ := r
  by_cases hx : x = 0
  · subst hx
    refine enterP tabOk Tryz.func88 25 [0, 1, 2, 3, 5, 6, 7, 8, 9, 21] [.tmp 6, .tmp 7] rfl (r := [_, _]) rfl (h := ?_); intro E hK; simp only [go_sem]
    refine wgoF (And.intro (@Brd.d.eq_1) (And.intro (@Ev.d.eq_1) (And.intro (@g) (@hpl)))) ?_
    refine wcallF (hT) (And.intro (@Pt.d.eq_1) (@Brd.d.eq_1)) ?_
    refine wgoF (@slD.eq_1) ?_
    exact wretF (And.intro (@rD.eq_1) (And.intro (@wrapS.eq_1) (And.intro (@slsD.eq_1) (@slD.eq_1))))
  · have hx2 : decide (x = 0) = false := decide_eq_false hx
    have hw : wrapS (s, x) = ([], x) := if_neg hx
    refine enterP tabOk Tryz.func88 25 [0, 1, 2, 3, 5, 6, 7, 8, 9, 21] [.tmp 6, .tmp 7] rfl (r := [_, _]) rfl (h := ?_); intro E hK; simp only [go_sem]
    refine wgoF (And.intro (@Brd.d.eq_1) (And.intro (@Ev.d.eq_1) (And.intro (@g) (@hpl)))) ?_
    refine wcallF (hT) (And.intro (@Pt.d.eq_1) (@Brd.d.eq_1)) ?_
    refine wgoF (@hx2) ?_
    exact wretF (And.intro (@rD.eq_1) (And.intro (@hw) (And.intro (@slsD.eq_1) (@slD.eq_1))))
theorem drawing89 (b : Brd) (tp : D) (e : Ev) (r : List Ch × Int) (hT : PCall Tryz.prog 114 [b.d, .sl 2 (e.p.map Pt.d)] (.tup [slD r.1, .int .i64 r.2])) : PCall Tryz.prog 89 [b.d, tp, e.d] (rD (wrapS r)) := by
  obtain ⟨s, x⟩ := r
  by_cases hx : x = 0
  · subst hx
    refine enterP tabOk Tryz.func89 22 [0, 2, 3, 5, 6, 7, 8, 9, 18] [.tmp 6, .tmp 7] rfl (r := [_, _]) rfl (h := ?_); intro E hK; simp only [go_sem]
    refine wgoF (And.intro (@Brd.d.eq_1) (@Ev.d.eq_1)) ?_
    refine wcallF (hT) (@Brd.d.eq_1) ?_
    refine wgoF (@slD.eq_1) ?_
    exact wretF (And.intro (@rD.eq_1) (And.intro (@wrapS.eq_1) (And.intro (@slsD.eq_1) (@slD.eq_1))))
  · have hx2 : decide (x = 0) = false := decide_eq_false hx
    have hw : wrapS (s, x) = ([], x) := if_neg hx
    refine enterP tabOk Tryz.func89 22 [0, 2, 3, 5, 6, 7, 8, 9, 18] [.tmp 6, .tmp 7] rfl (r := [_, _]) rfl (h := ?_); intro E hK; simp only [go_sem]
    refine wgoF (And.intro (@Brd.d.eq_1) (@Ev.d.eq_1)) ?_
    refine wcallF (hT) (@Brd.d.eq_1) ?_
    refine wgoF (@hx2) ?_
    exact wretF (And.intro (@rD.eq_1) (And.intro (@hw) (And.intro (@slsD.eq_1) (@slD.eq_1))))
def mkD : D := .agg [.nilf, .fn (.func 86) [] [], .fn (.func 87) [] [], .fn (.func 88) [] [], .fn (.func 89) [] [], .fn (.func 90) [] [], .nilf, .nilf, .nilf, .nilf, .nilf, .nilf, .nilf]
theorem makers63 : PCall Tryz.prog 63 [] mkD := by
  refine enterP tabOk Tryz.func63 2 [0] [.cell 0 129] rfl (r := [_]) rfl (h := ?_); intro E hK; simp only [go_sem]
  refine wgo ?_
  exact wretF (@mkD.eq_1)
end Go.Proofs.YtojgjdcciojpeaaGreat
set_option linter.unusedSimpArgs false
set_option linter.unusedVariables false
namespace Go.Proofs.YtojgjdcciojpeaaGreat
open Go Go.PS
set_option maxRecDepth 100000
set_option maxHeartbeats 4000000
/-- What an event's slots are, where t and s are those of a touch and of a stroke. -/
def slotE (cs : List Ck) (t s : List Ch × Int) (e : Ev) : List (List Ch) × Int :=
  if validE e = false then ([], 10) else if e.kind = 1 then (typedF e.keys, 0) else if e.kind = 2 then chordR cs e.keys
  else if e.kind = 3 then wrapS t else if e.kind = 4 then wrapS s else if e.kind = 5 then (typedF e.text, 0) else ([], 10)
theorem valid_kind {e : Ev} (h : validE e = true) : 1 ≤ e.kind ∧ e.kind ≤ 12 := by
  unfold validE at h
  split at h
  · omega
  split at h
  · omega
  split at h
  · omega
  split at h
  · omega
  split at h
  · omega
  split at h
  · omega
  split at h
  · omega
  split at h
  · omega
  · cases h
theorem valid_one {e : Ev} (h : validE e = true) (h3 : e.kind = 3) : e.p.length = 1 ∧ inL e.p = true := by
  unfold validE at h
  rw [if_neg (by omega), if_neg (by omega), if_pos h3] at h
  simp only [Bool.and_eq_true, decide_eq_true_eq] at h
  exact ⟨by omega, h.1.1.1.1.2⟩
theorem valid_keys {e : Ev} (h : validE e = true) (h1 : e.kind = 1) : e.keys.length = 1 := by
  unfold validE at h
  rw [if_pos h1] at h
  simp only [Bool.and_eq_true, decide_eq_true_eq] at h
  omega
theorem valid_text {e : Ev} (h : validE e = true) (h1 : e.kind = 5) : 1 ≤ e.text.length ∧ e.text.length ≤ 20 ∧ lets e.text = true := by
  unfold validE at h
  rw [if_neg (by omega), if_neg (by omega), if_neg (by omega), if_neg (by omega), if_pos h1] at h
  simp only [Bool.and_eq_true, decide_eq_true_eq] at h
  exact ⟨by omega, by omega, h.1.1.1.1.2⟩
theorem slot19 (b : Brd) (tz : Nat) (tp : List D) (e : Ev) (hl : e.lok) (hc : ckOk b.cs) (t s : List Ch × Int)
    (hT : validE e = true → e.kind = 3 → PCall Tryz.prog 113 [b.d, .sl tz tp, (e.p.getD 0 default).d] (.tup [slD t.1, .int .i64 t.2]))
    (hS : validE e = true → e.kind = 4 → PCall Tryz.prog 114 [b.d, .sl 2 (e.p.map Pt.d)] (.tup [slD s.1, .int .i64 s.2])) :
    PCall Tryz.prog 19 [b.d, .sl tz tp, e.d] (rD (slotE b.cs t s e)) := by
  have hv := valid62 e hl
  cases hve : validE e with
  | false =>
    rw [hve] at hv
    have hr : slotE b.cs t s e = ([], 10) := by rw [slotE, if_pos hve]
    refine enterP tabOk Tryz.func19 38 [0, 1, 2, 3, 5, 6, 7, 8, 11, 27] [.tmp 6, .tmp 7] rfl (r := [_, _]) rfl (h := ?_); intro E hK; simp only [go_sem]
    refine wgoF (And.intro (@Brd.d.eq_1) (@Ev.d.eq_1)) ?_
    refine wcallF (hv) (@Ev.d.eq_1) ?_
    refine wgo ?_
    exact wretF (And.intro (@rD.eq_1) (And.intro (@hr) (@slsD.eq_1)))
  | true =>
    rw [hve] at hv
    have hkk := valid_kind hve
    have hne : ¬ validE e = false := by rw [hve]; simp
    have k86 := key86 b (.sl tz tp) e
    have k87 := chord87 b (.sl tz tp) e hc
    have k90 := paste90 b (.sl tz tp) e
    have k89 := fun h => drawing89 b (.sl tz tp) e s (hS hve h)
    have k88 := fun h => touch88 b tz tp e (by have := (valid_one hve h).1; omega) t (hT hve h)
    have q1 := valid_keys hve
    have q5 := valid_text hve
    obtain ⟨k, keys, p, text, n, l⟩ := e
    dsimp only at hkk k88 k89 q1 q5
    by_cases h1 : k = 1
    · subst h1
      have hr : slotE b.cs t s ⟨1, keys, p, text, n, l⟩ = (typedF keys, 0) := by rw [slotE, if_neg hne, if_pos rfl]
      have k86 := k86 (by have := q1 rfl; show keys.length ≤ 100000; omega)
      refine enterP tabOk Tryz.func19 38 [0, 1, 2, 3, 5, 6, 7, 8, 11, 27] [.tmp 6, .tmp 7] rfl (r := [_, _]) rfl (h := ?_); intro E hK; simp only [go_sem]
      refine wgoF (And.intro (@Brd.d.eq_1) (@Ev.d.eq_1)) ?_
      refine wcallF (hv) (@Ev.d.eq_1) ?_
      refine wgo ?_
      refine wcall (makers63) ?_
      refine wgoF (@mkD.eq_1) ?_
      refine wcallF (k86) (And.intro (@Ev.d.eq_1) (@Brd.d.eq_1)) ?_
      refine wgoF (@rD.eq_1) ?_
      exact wretF (And.intro (@rD.eq_1) (@hr))
    by_cases h2 : k = 2
    · subst h2
      have hr : slotE b.cs t s ⟨2, keys, p, text, n, l⟩ = chordR b.cs keys := by rw [slotE, if_neg hne, if_neg (by dsimp only; omega), if_pos rfl]
      refine enterP tabOk Tryz.func19 38 [0, 1, 2, 3, 5, 6, 7, 8, 11, 27] [.tmp 6, .tmp 7] rfl (r := [_, _]) rfl (h := ?_); intro E hK; simp only [go_sem]
      refine wgoF (And.intro (@Brd.d.eq_1) (@Ev.d.eq_1)) ?_
      refine wcallF (hv) (@Ev.d.eq_1) ?_
      refine wgo ?_
      refine wcall (makers63) ?_
      refine wgoF (@mkD.eq_1) ?_
      refine wcallF (k87) (And.intro (@Ev.d.eq_1) (@Brd.d.eq_1)) ?_
      refine wgoF (@rD.eq_1) ?_
      exact wretF (And.intro (@rD.eq_1) (@hr))
    by_cases h3 : k = 3
    · subst h3
      have hr : slotE b.cs t s ⟨3, keys, p, text, n, l⟩ = wrapS t := by rw [slotE, if_neg hne, if_neg (by dsimp only; omega), if_neg (by dsimp only; omega), if_pos rfl]
      have k88 := k88 rfl
      refine enterP tabOk Tryz.func19 38 [0, 1, 2, 3, 5, 6, 7, 8, 11, 27] [.tmp 6, .tmp 7] rfl (r := [_, _]) rfl (h := ?_); intro E hK; simp only [go_sem]
      refine wgoF (And.intro (@Brd.d.eq_1) (@Ev.d.eq_1)) ?_
      refine wcallF (hv) (@Ev.d.eq_1) ?_
      refine wgo ?_
      refine wcall (makers63) ?_
      refine wgoF (@mkD.eq_1) ?_
      refine wcallF (k88) (And.intro (@Ev.d.eq_1) (@Brd.d.eq_1)) ?_
      refine wgoF (@rD.eq_1) ?_
      exact wretF (And.intro (@rD.eq_1) (@hr))
    by_cases h4 : k = 4
    · subst h4
      have hr : slotE b.cs t s ⟨4, keys, p, text, n, l⟩ = wrapS s := by rw [slotE, if_neg hne, if_neg (by dsimp only; omega), if_neg (by dsimp only; omega), if_neg (by dsimp only; omega), if_pos rfl]
      have k89 := k89 rfl
      refine enterP tabOk Tryz.func19 38 [0, 1, 2, 3, 5, 6, 7, 8, 11, 27] [.tmp 6, .tmp 7] rfl (r := [_, _]) rfl (h := ?_); intro E hK; simp only [go_sem]
      refine wgoF (And.intro (@Brd.d.eq_1) (@Ev.d.eq_1)) ?_
      refine wcallF (hv) (@Ev.d.eq_1) ?_
      refine wgo ?_
      refine wcall (makers63) ?_
      refine wgoF (@mkD.eq_1) ?_
      refine wcallF (k89) (And.intro (@Ev.d.eq_1) (@Brd.d.eq_1)) ?_
      refine wgoF (@rD.eq_1) ?_
      exact wretF (And.intro (@rD.eq_1) (@hr))
    by_cases h5 : k = 5
    · subst h5
      have hr : slotE b.cs t s ⟨5, keys, p, text, n, l⟩ = (typedF text, 0) := by rw [slotE, if_neg hne, if_neg (by dsimp only; omega), if_neg (by dsimp only; omega), if_neg (by dsimp only; omega), if_neg (by dsimp only; omega), if_pos rfl]
      have k90 := k90 (by have := (q5 rfl).2.1; show text.length ≤ 100000; omega)
      refine enterP tabOk Tryz.func19 38 [0, 1, 2, 3, 5, 6, 7, 8, 11, 27] [.tmp 6, .tmp 7] rfl (r := [_, _]) rfl (h := ?_); intro E hK; simp only [go_sem]
      refine wgoF (And.intro (@Brd.d.eq_1) (@Ev.d.eq_1)) ?_
      refine wcallF (hv) (@Ev.d.eq_1) ?_
      refine wgo ?_
      refine wcall (makers63) ?_
      refine wgoF (@mkD.eq_1) ?_
      refine wcallF (k90) (And.intro (@Ev.d.eq_1) (@Brd.d.eq_1)) ?_
      refine wgoF (@rD.eq_1) ?_
      exact wretF (And.intro (@rD.eq_1) (@hr))
    · have hr : slotE b.cs t s ⟨k, keys, p, text, n, l⟩ = ([], 10) := by rw [slotE, if_neg hne, if_neg h1, if_neg h2, if_neg h3, if_neg h4, if_neg h5]
      have n0 : ¬ k < 0 := by omega
      have n1 : ¬ 13 ≤ k := by omega
      have hg : (List.map PV.d [D.nilf, .fn (.func 86) [] [], .fn (.func 87) [] [], .fn (.func 88) [] [], .fn (.func 89) [] [], .fn (.func 90) [] [], .nilf, .nilf, .nilf, .nilf, .nilf, .nilf, .nilf]).getD k.toNat .any = .d .nilf := by
        have : k = 6 ∨ k = 7 ∨ k = 8 ∨ k = 9 ∨ k = 10 ∨ k = 11 ∨ k = 12 := by omega
        rcases this with rfl | rfl | rfl | rfl | rfl | rfl | rfl <;> rfl
      have : k = 6 ∨ k = 7 ∨ k = 8 ∨ k = 9 ∨ k = 10 ∨ k = 11 ∨ k = 12 := by omega
      clear k86 k87 k90 k88 k89 q1 q5 hg
      rcases this with rfl | rfl | rfl | rfl | rfl | rfl | rfl
      all_goals
        refine enterP tabOk Tryz.func19 38 [0, 1, 2, 3, 5, 6, 7, 8, 11, 27] [.tmp 6, .tmp 7] rfl (r := [_, _]) rfl (h := ?_); intro E hK; simp only [go_sem]
        refine wgoF (And.intro (@Brd.d.eq_1) (@Ev.d.eq_1)) ?_
        refine wcallF (hv) (@Ev.d.eq_1) ?_
        refine wgo ?_
        refine wcall (makers63) ?_
        refine wgoF (@mkD.eq_1) ?_
        exact wretF (And.intro (@rD.eq_1) (And.intro (@hr) (@slsD.eq_1)))
end Go.Proofs.YtojgjdcciojpeaaGreat
