/-
  The law MixedJoins: for every input the call returns true, and the arguments read afterwards as before. No condition.
-/
import Derived.Test.YtojgjdcciojpeaaGreatB16
set_option linter.unusedSimpArgs false
set_option linter.unusedVariables false
namespace Go.Proofs.YtojgjdcciojpeaaGreat
open Go Go.PS
set_option maxRecDepth 100000
set_option maxHeartbeats 4000000
def leftV : Ev := ⟨7, [], [], [], 0, 0⟩
/-- The event as the law builds it: no points at all. -/
def leftW : D := .agg [.int .i64 7, .str [], .sl 0 [], .str [], .int .i64 0, .int .i64 0]
theorem evE_self : ∀ W : List Ev, dle.dleE (List.map Ev.d W) (List.map Ev.d W) = True
  | [] => by simp [dle.dleE]
  | e :: W => by
    rw [List.map_cons, Ev.d, dle.dleE, evE_self W]
    simp [dle.dleL, dle]
theorem badE (q : List Ev) : ∀ W : List Ev, dle.dleE (List.map Ev.d W ++ leftW :: List.map Ev.d q) (List.map Ev.d W ++ leftV.d :: List.map Ev.d q) = True
  | [] => by
    rw [List.map_nil, List.nil_append, List.nil_append, leftW, leftV, Ev.d, dle.dleE, evE_self q]
    simp [dle.dleL, dle]
  | e :: W => by
    rw [List.map_cons, List.cons_append, List.cons_append, Ev.d, dle.dleE, badE q W]
    simp [dle.dleL, dle]
theorem badE2 (q W : List Ev) : dle.dleE (List.map Ev.d W ++ [D.agg [.int .i64 7, .str [], .sl 0 [], .str [], .int .i64 0, .int .i64 0]] ++ List.map Ev.d q) (List.map Ev.d W ++ D.agg [.int .i64 7, .str [], .sl 2 [], .str [], .int .i64 0, .int .i64 0] :: List.map Ev.d q) = True := by
  rw [List.append_assoc]
  exact badE q W
/-- The statement MixedJoins holds. -/
theorem lawJoins (x : List (Int × Int)) (l m : List Raw) (hx : bps x) (hl : raws l) (hmr : raws m) : PCall Tryz.prog 5 [.sl 2 (x.map bpD), .sl 5 (l.map Raw.d), .sl 5 (m.map Raw.d)] (.bool true) := by
  have hm := made16 x hx
  obtain ⟨hA, hk⟩ := madeA_ok hx
  have wr : ∀ l : List Raw, raws l → ∃ W : List Ev, (W.length ≤ 4 ∧ ∀ e ∈ W, e.lok ∧ (slotX (madeA x) [] e).2 = 0 ∧ (slotX (madeA x) [] e).1.length ≤ 5) ∧ PCall Tryz.prog 27 [(madeB x).d, .sl 5 (l.map Raw.d), .int .i64 4] (.sl 6 (W.map Ev.d)) := by
    intro l hl
    have hw := writes27 (slotX (madeA x) []) (madeB x) l 4 (by omega) hl (fun y hy => slotR hx 0 [] nil_ok (fun h => absurd rfl h) _ (evF_lok (hl.1 y hy)))
    refine ⟨_, ⟨?_, fun e he => ?_⟩, hw⟩
    · have := wri_len (slotX (madeA x) []) l (min l.length 4)
      unfold writesF; omega
    · obtain ⟨h1, y, hy, rfl⟩ := wri_ok _ l hl _ e he
      exact ⟨evF_lok hy, h1, slotX_five hA hk [] (evF_small hy).2.2 h1⟩
  obtain ⟨W1, ⟨l1, p1⟩, w1⟩ := wr l hl
  obtain ⟨W2, ⟨l2, p2⟩, w2⟩ := wr m hmr
  have sl : ∀ W : List Ev, W.length ≤ 100 → (∀ e ∈ W, e.lok) → PCall Tryz.prog 26 [(madeB x).d, .sl 0 [], .sl 6 (W.map Ev.d)] (r3A (slotsF (slotX (madeA x) []) W 0 [])) := fun W hW he =>
    slots26 (slotX (madeA x) []) (madeB x) 0 (([] : List Tap).map Tap.d) W (by omega) (fun e h => slotM hx 0 [] nil_ok (fun h => absurd rfl h) _ (he e h)) (fun e h => by have := (slotX_ok hA hk [] e).2.1; omega)
  have hX := slotX_ok hA hk []
  have hbad : (slotX (madeA x) [] leftV).2 = 10 := by
    unfold slotX slotE
    split <;> rfl
  have s1 := sl W1 (by omega) (fun e h => (p1 e h).1)
  have s2 := sl W2 (by omega) (fun e h => (p2 e h).1)
  have s12 := sl (W1 ++ W2) (by simp; omega) (fun e h => by rcases List.mem_append.1 h with h | h; exact (p1 e h).1; exact (p2 e h).1)
  have s3 := sl (W1 ++ leftV :: W2) (by simp; omega) (fun e h => by
    rcases List.mem_append.1 h with h | h
    · exact (p1 e h).1
    · rcases List.mem_cons.1 h with rfl | h
      · exact ⟨by simp [leftV], by simp [leftV], by simp [leftV]⟩
      · exact (p2 e h).1)
  generalize slotX (madeA x) [] = F at p1 p2 s1 s2 s12 s3 hX hbad
  rw [slotsF_all F W1 0 [] (fun e h => (p1 e h).2) (by simp; omega), List.nil_append, Nat.zero_add] at s1
  rw [slotsF_all F W2 0 [] (fun e h => (p2 e h).2) (by simp; omega), List.nil_append, Nat.zero_add] at s2
  rw [slotsF_all F (W1 ++ W2) 0 [] (fun e h => by rcases List.mem_append.1 h with h | h; exact (p1 e h).2; exact (p2 e h).2) (by simp; omega), List.nil_append, Nat.zero_add, List.flatMap_append] at s12
  rw [slotsF_bad F leftV 10 hbad (by decide) W2 W1 0 [] (fun e h => (p1 e h).2) (by simp; omega), Nat.zero_add] at s3
  have o1 : ∀ s ∈ W1.flatMap (fun e => (F e).1), slotOk s := fun s hs => by obtain ⟨e, _, h⟩ := List.mem_flatMap.1 hs; exact (hX e).1 s h
  have o2 : ∀ s ∈ W2.flatMap (fun e => (F e).1), slotOk s := fun s hs => by obtain ⟨e, _, h⟩ := List.mem_flatMap.1 hs; exact (hX e).1 s h
  have fl : ∀ W : List Ev, (∀ e ∈ W, e.lok ∧ (F e).2 = 0 ∧ (F e).1.length ≤ 5) → (W.flatMap (fun e => (F e).1)).length ≤ 5 * W.length := by
    intro W
    induction W with
    | nil => intro _; simp
    | cons e r ih =>
      intro h
      have h1 := (h e (by simp)).2.2
      have h2 := ih fun e he => h e (List.mem_cons_of_mem _ he)
      rw [List.flatMap_cons, List.length_append, List.length_cons]
      omega
  have f1 := fl W1 p1
  have f2 := fl W2 p2
  generalize W1.flatMap (fun e => (F e).1) = L1 at s1 s12 o1 f1
  generalize W2.flatMap (fun e => (F e).1) = L2 at s2 s12 o2 f2
  have o12 : sok (L1 ++ L2) := sok_ok (fun s hs => by rcases List.mem_append.1 hs with h | h; exact o1 s h; exact o2 s h) (by rw [List.length_append]; omega)
  have hsm := same21 (L1 ++ L2) (L1 ++ L2) o12.1 o12.1 o12.2 o12.2
  rw [decide_eq_true rfl] at hsm
  have hs5 := same25 ([], (W1.length : Int), 10) ([], (W1.length : Int), 10) ⟨by simp, by simp⟩ ⟨by simp, by simp⟩
  rw [decide_eq_true rfl] at hs5
  have n1 : decide (((W1 ++ W2).length : Int) = (W1.length : Int) + (W2.length : Int)) = true := decide_eq_true (by simp)
  have n2 : decide (((W1 ++ W2).length : Int) = ((W1.length + W2.length : Nat) : Int)) = true := decide_eq_true (by simp)
  have n3 : ((W1 ++ W2).length : Int) = ((W1.length + W2.length : Nat) : Int) := by simp
  rw [n3] at s12
  have n4 : decide (((W1.length + W2.length : Nat) : Int) = ((W1.length + W2.length : Nat) : Int)) = true := decide_eq_true rfl
  have m1 : (List.map Ev.d W1).length = W1.length := List.length_map ..
  have m2 : (List.map Ev.d W2).length = W2.length := List.length_map ..
  have m3 : (List.map slD L1).length = L1.length := List.length_map ..
  have m4 : (List.map slD L2).length = L2.length := List.length_map ..
  refine enterP tabOk Tryz.func5 91 [0, 1, 2, 6, 7, 8, 9, 10, 11, 12, 13, 14, 15, 16, 52, 70] [.tmp 6] rfl (r := [_]) rfl (h := ?_); intro E hK; simp only [go_sem]
  refine wgo ?_
  refine wcall (sanity15) ?_
  refine wgo ?_
  refine wcall (hm) ?_
  refine wgoF (@Brd.d.eq_1) ?_
  refine wcallF (w1) (@Brd.d.eq_1) ?_
  refine wgo ?_
  refine wcallF (w2) (@Brd.d.eq_1) ?_
  refine wgoF (And.intro (@m1) (@m2)) ?_
  refine wcallF (s1) (@Brd.d.eq_1) ?_
  refine wgoF (And.intro (@r3A.eq_1) (@slsD.eq_1)) ?_
  refine wcallF (s2) (@Brd.d.eq_1) ?_
  refine wgoF (And.intro (@r3A.eq_1) (@slsD.eq_1)) ?_
  refine wcallF (s12) (@Brd.d.eq_1) ?_
  refine wgoF (And.intro (@r3A.eq_1) (And.intro (@slsD.eq_1) (And.intro (@m3) (@m4)))) ?_
  refine wcallF (hsm) (@slsD.eq_1) ?_
  refine wgoF (And.intro (@m1) (And.intro (@m2) (@n4))) ?_
  have bE := badE2 W2 W1
  refine wcallF (s3) (And.intro (@Brd.d.eq_1) (And.intro (@leftV.eq_1) (And.intro (@Ev.d.eq_1) (@bE)))) ?_
  refine wgoF (And.intro (@r3A.eq_1) (And.intro (@slsD.eq_1) (@m1))) ?_
  refine wcallF (hs5) (And.intro (@r3A.eq_1) (@slsD.eq_1)) ?_
  refine wgo ?_
  exact wret
end Go.Proofs.YtojgjdcciojpeaaGreat

set_option linter.unusedSimpArgs false
set_option linter.unusedVariables false
namespace Go.Proofs.YtojgjdcciojpeaaGreat
open Go Go.PS Go.ChangeShapes Go.WideShapes Go.ChangeAt Go.RowKit
set_option maxRecDepth 100000
set_option maxHeartbeats 4000000
theorem mixedJoins_lifted (os : Os) (started : os.Started) (H : Type) (enc : TypeId × Value → H) :
    ReturnsInHanded {} Tryz.checked os 5 .any (Rows.mixedJoinsSpec.pre6 enc Tryz.prog Tryz.f5 Rows.mixedJoinsRow.domain false) (Rows.mixedJoinsSpec.post enc Tryz.prog Tryz.f5 false true false false) := by
  refine returnsInHanded_of_change (C := Tryz.checked) knob started (by kernel_rfl) Tryz.func5
    (ChangeSpec.witness6 (enc := enc) (C := Tryz.checked) false ⟨#[], #[.slice none 0 0, .slice none 0 0, .slice none 0 0], []⟩ 8 (by kernel_rfl) (by kernel_rfl) (by kernel_rfl) (by kernel_rfl)) ?_
  intro W base args ds gs before hval0 hW hcnd _
  have hval : ∀ (j : Nat) t v, Tryz.f5.params[j]? = some t → args[j]? = some v → Value.okWide Tryz.prog W .any base t v := hval0
  have hW' := hW
  obtain ⟨p, q, hA0, hV, rfl, hfz, hnd⟩ := hW
  have hA : DataW.TrodAll enc Tryz.prog W 0 (fun _ => true) true Tryz.f5.params.toList args.toList ds p := hA0
  rw [Tryz.params5] at hA hval
  obtain ⟨v0, vs0, d0, ds0, p0, q0, hargs, rfl, rfl, h0, r0⟩ := trodAll_cons hA
  obtain ⟨v1, vs1, d1, ds1, p1, q1, rfl, rfl, rfl, h1, r1⟩ := trodAll_cons r0
  obtain ⟨v2, vs2, d2, ds2, p2, q2, rfl, rfl, rfl, h2, r2⟩ := trodAll_cons r1
  obtain ⟨rfl, rfl, rfl⟩ := trodAll_nil r2
  obtain rfl : args = #[v0, v1, v2] := by cases args; simp_all
  obtain ⟨rfl, rfl⟩ := trodVars_none hV
  have k0 := h0
  have lt0 : ∀ x ∈ p0, x.block < W.heap.size := by obtain ⟨m, hm⟩ := k0; exact DataW.trod_lt m _ _ _ hm
  obtain ⟨x0, g0, e0⟩ := arg_bps (hval 0 22 v0 rfl rfl) h0
  have k1 := h1
  have lt1 : ∀ x ∈ p1, x.block < W.heap.size := by obtain ⟨m, hm⟩ := k1; exact DataW.trod_lt m _ _ _ hm
  obtain ⟨x1, g1, e1⟩ := arg_raws (hval 1 23 v1 rfl rfl) h1
  have k2 := h2
  have lt2 : ∀ x ∈ p2, x.block < W.heap.size := by obtain ⟨m, hm⟩ := k2; exact DataW.trod_lt m _ _ _ hm
  obtain ⟨x2, g2, e2⟩ := arg_raws (hval 2 23 v2 rfl rfl) h2
  clear hA0 hval0
  refine (law_calls (lawJoins x0 x1 x2 g0 g1 g2) (w := W) (RepDL.cons e0 (RepDL.cons e1 (RepDL.cons e2 RepDL.nil)))).mono fun e W' ⟨he, bel⟩ => ?_
  subst he
  exact ⟨_, rfl, _, _, _, [], _, [], hW', trodAll_mk1 (shut_bool Tryz.underlying4 _), (trodAll_cons_mk (Below.trod laidOut (by kernel_rfl) (of_decide_eq_true (by kernel_rfl)) k0 bel lt0) (trodAll_cons_mk (Below.trod laidOut (by kernel_rfl) (of_decide_eq_true (by kernel_rfl)) k1 bel lt1) (trodAll_cons_mk (Below.trod laidOut (by kernel_rfl) (of_decide_eq_true (by kernel_rfl)) k2 bel lt2) trodAll_mk0))), rfl, bel.frame _, fun h => by cases h⟩
theorem mixedJoins_holds : Rows.MixedJoinsSaid :=
  OpenClaim.holds_of_wide 5 Tryz.f5 rfl rfl rfl rfl rfl rfl rfl ⟨rfl, rfl, rfl, rfl, rfl⟩ rfl rfl rfl rfl rfl (by kernel_rfl) Tryz.func5 (by kernel_rfl)
    (of_decide_eq_true (by kernel_rfl)) (by unfold Func.isWrapper; first | (rw [if_pos (by decide +kernel)]; kernel_rfl) | (rw [if_neg (by decide +kernel)]; exact ⟨rfl, rfl⟩))
    (fun os started H enc _ => mixedJoins_lifted os started H enc)

end Go.Proofs.YtojgjdcciojpeaaGreat
