/-
  The law MixedSlots: for every input the call returns true, and the arguments read afterwards as before. No condition.
-/
import Derived.Test.YtojgjdcciojpeaaGreatB16
set_option linter.unusedSimpArgs false
set_option linter.unusedVariables false
namespace Go.Proofs.YtojgjdcciojpeaaGreat
open Go Go.PS
set_option maxRecDepth 100000
set_option maxHeartbeats 4000000
/-- The statement MixedSlots holds. -/
theorem lawSlots (x : List (Int × Int)) (l : List Raw) (t : List (Int × Int × Int)) (hx : bps x) (hl : raws l) (ht : t3s t) : PCall Tryz.prog 4 [.sl 2 (x.map bpD), .sl 5 (l.map Raw.d), .sl 3 (t.map t3D)] (.bool true) := by
  have hm := made16 x hx
  have h17 := taps17 t ht
  have hT := taps_ok ht
  obtain ⟨hA, hk⟩ := madeA_ok hx
  have hw := writes27 (slotX (madeA x) []) (madeB x) l 8 (by omega) hl (fun y hy => slotR hx 0 [] nil_ok (fun h => absurd rfl h) _ (evF_lok (hl.1 y hy)))
  have hwo : ∀ e ∈ writesF (slotX (madeA x) []) l 8, (slotX (madeA x) [] e).2 = 0 ∧ ∃ x, x.ok ∧ e = evF x := wri_ok _ l hl _
  have hwl : (writesF (slotX (madeA x) []) l 8).length ≤ 8 := by
    have := wri_len (slotX (madeA x) []) l (min l.length 8)
    unfold writesF; omega
  generalize writesF (slotX (madeA x) []) l 8 = W at hw hwo hwl
  have hs := slots26 (slotX (madeA x) (tapsF t)) (madeB x) 4 ((tapsF t).map Tap.d) W (by omega)
    (fun e he => by obtain ⟨_, y, hy, rfl⟩ := hwo e he; exact slotM hx 4 _ hT (fun _ => rfl) _ (evF_lok hy))
    (fun e he => by have := (slotX_ok hA hk (tapsF t) e).2.1; omega)
  obtain ⟨r1, r2⟩ := slotsF_ok (slotX (madeA x) (tapsF t)) W 0 [] (fun e he => (slotX_ok hA hk (tapsF t) e).1) (by simp) (by simp)
  have r3 := slotsF_err (slotX (madeA x) (tapsF t)) W 0 [] (fun e he => slotX_T _ _ (hwo e he).1)
  generalize slotsF (slotX (madeA x) (tapsF t)) W 0 [] = R at hs r1 r2 r3
  obtain ⟨L, N, z⟩ := R
  dsimp only at r1 r2 r3
  have hv := valid28 L r2 r1
  generalize tapsF t = T at h17 hs hT
  by_cases hz : z = 0
  · subst hz
    refine enterP tabOk Tryz.func4 48 [0, 1, 2, 6, 7, 8, 9, 10, 24] [.tmp 6] rfl (r := [_]) rfl (h := ?_); intro E hK; simp only [go_sem]
    refine wgo ?_
    refine wcall (sanity15) ?_
    refine wgo ?_
    refine wcall (hm) ?_
    refine wgo ?_
    refine wcall (h17) ?_
    refine wgoF (@Brd.d.eq_1) ?_
    refine wcallF (hw) (@Brd.d.eq_1) ?_
    refine wgo ?_
    refine wcallF (hs) (@Brd.d.eq_1) ?_
    refine wgoF (And.intro (@r3A.eq_1) (@slsD.eq_1)) ?_
    refine wcallF (hv) (@slsD.eq_1) ?_
    refine wgo ?_
    exact wret
  · rcases r3 with r3 | ⟨r3, rfl⟩
    · exact absurd r3 hz
    have z1 : ((List.map slD []).length : Int) = 0 := rfl
    rcases r3 with rfl | rfl
    all_goals
      refine enterP tabOk Tryz.func4 48 [0, 1, 2, 6, 7, 8, 9, 10, 24] [.tmp 6] rfl (r := [_]) rfl (h := ?_); intro E hK; simp only [go_sem]
      refine wgo ?_
      refine wcall (sanity15) ?_
      refine wgo ?_
      refine wcall (hm) ?_
      refine wgo ?_
      refine wcall (h17) ?_
      refine wgoF (@Brd.d.eq_1) ?_
      refine wcallF (hw) (@Brd.d.eq_1) ?_
      refine wgo ?_
      refine wcallF (hs) (@Brd.d.eq_1) ?_
      refine wgoF (And.intro (@r3A.eq_1) (And.intro (@slsD.eq_1) (@z1))) ?_
      exact wret
end Go.Proofs.YtojgjdcciojpeaaGreat

set_option linter.unusedSimpArgs false
set_option linter.unusedVariables false
namespace Go.Proofs.YtojgjdcciojpeaaGreat
open Go Go.PS Go.ChangeShapes Go.WideShapes Go.ChangeAt Go.RowKit
set_option maxRecDepth 100000
set_option maxHeartbeats 4000000
theorem mixedSlots_lifted (os : Os) (started : os.Started) (H : Type) (enc : TypeId × Value → H) :
    ReturnsInHanded {} Tryz.checked os 4 .any (Rows.mixedSlotsSpec.pre6 enc Tryz.prog Tryz.f4 Rows.mixedSlotsRow.domain false) (Rows.mixedSlotsSpec.post enc Tryz.prog Tryz.f4 false true false false) := by
  refine returnsInHanded_of_change (C := Tryz.checked) knob started (by kernel_rfl) Tryz.func4
    (ChangeSpec.witness6 (enc := enc) (C := Tryz.checked) false ⟨#[], #[.slice none 0 0, .slice none 0 0, .slice none 0 0], []⟩ 8 (by kernel_rfl) (by kernel_rfl) (by kernel_rfl) (by kernel_rfl)) ?_
  intro W base args ds gs before hval0 hW hcnd _
  have hval : ∀ (j : Nat) t v, Tryz.f4.params[j]? = some t → args[j]? = some v → Value.okWide Tryz.prog W .any base t v := hval0
  have hW' := hW
  obtain ⟨p, q, hA0, hV, rfl, hfz, hnd⟩ := hW
  have hA : DataW.TrodAll enc Tryz.prog W 0 (fun _ => true) true Tryz.f4.params.toList args.toList ds p := hA0
  rw [Tryz.params4] at hA hval
  obtain ⟨v0, vs0, d0, ds0, p0, q0, hargs, rfl, rfl, h0, r0⟩ := trodAll_cons hA
  obtain ⟨v1, vs1, d1, ds1, p1, q1, rfl, rfl, rfl, h1, r1⟩ := trodAll_cons r0
  obtain ⟨v2, vs2, d2, ds2, p2, q2, rfl, rfl, rfl, h2, r2⟩ := trodAll_cons r1
  obtain ⟨rfl, rfl, rfl⟩ := trodAll_nil r2
  obtain rfl : args = #[v0, v1, v2] := by cases args; simp_all
  obtain ⟨rfl, rfl⟩ := trodVars_none hV
  have k0 := h0
  have lt0 : ∀ x ∈ p0, x.block < W.heap.size := by obtain ⟨m, hm⟩ := k0; exact DataW.trod_lt m _ _ _ hm
  obtain ⟨x0, g0, e0⟩ := arg_bps (hval 0 22 v0 rfl rfl) h0
  have k1 := h1
  have lt1 : ∀ x ∈ p1, x.block < W.heap.size := by obtain ⟨m, hm⟩ := k1; exact DataW.trod_lt m _ _ _ hm
  obtain ⟨x1, g1, e1⟩ := arg_raws (hval 1 23 v1 rfl rfl) h1
  have k2 := h2
  have lt2 : ∀ x ∈ p2, x.block < W.heap.size := by obtain ⟨m, hm⟩ := k2; exact DataW.trod_lt m _ _ _ hm
  obtain ⟨x2, g2, e2⟩ := arg_t3s (hval 2 38 v2 rfl rfl) h2
  clear hA0 hval0
  refine (law_calls (lawSlots x0 x1 x2 g0 g1 g2) (w := W) (RepDL.cons e0 (RepDL.cons e1 (RepDL.cons e2 RepDL.nil)))).mono fun e W' ⟨he, bel⟩ => ?_
  subst he
  exact ⟨_, rfl, _, _, _, [], _, [], hW', trodAll_mk1 (shut_bool Tryz.underlying4 _), (trodAll_cons_mk (Below.trod laidOut (by kernel_rfl) (of_decide_eq_true (by kernel_rfl)) k0 bel lt0) (trodAll_cons_mk (Below.trod laidOut (by kernel_rfl) (of_decide_eq_true (by kernel_rfl)) k1 bel lt1) (trodAll_cons_mk (Below.trod laidOut (by kernel_rfl) (of_decide_eq_true (by kernel_rfl)) k2 bel lt2) trodAll_mk0))), rfl, bel.frame _, fun h => by cases h⟩
theorem mixedSlots_holds : Rows.MixedSlotsSaid :=
  OpenClaim.holds_of_wide 4 Tryz.f4 rfl rfl rfl rfl rfl rfl rfl ⟨rfl, rfl, rfl, rfl, rfl⟩ rfl rfl rfl rfl rfl (by kernel_rfl) Tryz.func4 (by kernel_rfl)
    (of_decide_eq_true (by kernel_rfl)) (by unfold Func.isWrapper; first | (rw [if_pos (by decide +kernel)]; kernel_rfl) | (rw [if_neg (by decide +kernel)]; exact ⟨rfl, rfl⟩))
    (fun os started H enc _ => mixedSlots_lifted os started H enc)

end Go.Proofs.YtojgjdcciojpeaaGreat
