/-
  A part of the walks of this seat: each theorem says what a function of the program gives. No condition beyond its own premises.
-/
import Derived.Test.YtojgjdcciojpeaaGreatD14
set_option linter.unusedSimpArgs false
set_option linter.unusedVariables false
namespace Go.Proofs.YtojgjdcciojpeaaGreat
open Go Go.PS
set_option maxRecDepth 100000
set_option maxHeartbeats 4000000
def hndM : D := .map [.int .i64 1, .fn (.func 98) [] [], .int .i64 2, .fn (.func 98) [] [], .int .i64 3, .fn (.func 98) [] [], .int .i64 4, .fn (.func 98) [] [], .int .i64 5, .fn (.func 99) [] [], .int .i64 6, .fn (.func 100) [] [], .int .i64 7, .fn (.func 101) [] [], .int .i64 8, .fn (.func 102) [] [], .int .i64 9, .fn (.func 103) [] [], .int .i64 10, .fn (.func 104) [] [], .int .i64 12, .fn (.func 105) [] []]
theorem slot_err (F : List (List Ch) × Int) (c : Cp) (e : Ev) (h : (slotR31 F c e).2 ≠ 0) : (slotR31 F c e).1 = c := by
  unfold slotR31 at h ⊢
  split
  · rfl
  · rename_i h1
    rw [if_neg h1] at h
    split
    · rfl
    · rename_i h2
      rw [if_neg h2] at h
      exact absurd rfl h
theorem pas_err (c : Cp) (t : List UInt8) (h : (pasR c t).2 ≠ 0) : (pasR c t).1 = c := by
  unfold pasR at h ⊢
  split
  · rfl
  · rename_i h1
    rw [if_neg h1] at h
    exact absurd rfl h
theorem moved_err (c : Cp) (b : Int) (h : (movedR c b).2 ≠ 0) : (movedR c b).1 = c := by
  unfold movedR at h ⊢
  split
  · rfl
  · rename_i h1
    rw [if_neg h1] at h
    exact absurd rfl h
theorem held_err (c : Cp) (e : Ev) (h : (heldR c e).2 ≠ 0) : (heldR c e).1 = c := by
  unfold heldR at h ⊢
  split
  · rename_i h1
    rw [if_pos h1] at h
    exact absurd rfl h
  · rfl
theorem handlers73 : PCall Tryz.prog 73 [] hndM := by
  refine enterP tabOk Tryz.func73 3 [0] [.tmp 0] rfl (r := [_]) rfl (h := ?_); intro E hK; simp only [go_sem]
  refine wgo ?_
  (apply Run.freeze 1; (case ho => simp only [go_sem]; rfl); (case hes => simp only [go_sem]; rfl); (case hds => simp only [go_sem]); (case hsz => simp [D.cells]); (case hit => rfl); (case hs => simp only [go_sem]; rfl))
  exact wretF (@hndM.eq_1)
theorem do38 (b : Brd) (tz : Nat) (T : List D) (c : Cp) (h : c.ok) (e : Ev) (hl : e.lok) (F : List (List Ch) × Int) (hF : PCall Tryz.prog 19 [b.d, .sl tz T, e.d] (rD F)) (h1 : F.2 = 0 → e.kind ≠ 5 → F.1.length = 1) :
    PCall Tryz.prog 38 [c.d, b.d, .sl tz T, e.d] (rC (doR F c e)) := by
  have hv := valid62 e hl
  have hh := handlers73
  have q1 : decide ((c.ev.length : Int) = (c.sl.length : Int)) = true := decide_eq_true (by have := h.len; omega)
  have q2 : ¬ c.cu < 0 := by have := h.lo; omega
  have q3 : ¬ (c.sl.length : Int) < c.cu := by have := h.hi; have := h.len; omega
  cases hve : validE e with
  | false =>
    rw [hve] at hv
    have hr : doR F c e = (c, 10) := if_pos hve
    rw [hr]
    refine enterP tabOk Tryz.func38 64 [0, 1, 2, 3, 4, 5, 7, 8, 9, 10, 11, 12, 13, 16, 26, 47, 60] [.cell 8 81, .tmp 9] rfl (r := [_, _]) rfl (h := ?_); intro E hK; simp only [go_sem]
    refine wgoF (And.intro (@Cp.d.eq_1) (And.intro (@Ev.d.eq_1) (@Brd.d.eq_1))) ?_
    refine wcallF (hv) (@Ev.d.eq_1) ?_
    refine wgo ?_
    exact wretF (And.intro (@rC.eq_1) (@Cp.d.eq_1))
  | true =>
    rw [hve] at hv
    have hkk := valid_kind hve
    have t1 := write98 b tz T c h e F hF
    have t5 := tpaste99 b tz T c h e
    have t6 := erase100 b tz T c h e
    have t7 := left101 b tz T c h e
    have t8 := right102 b tz T c h e
    have t9 := hold103 b tz T c h e
    have t10 := choose104 b tz T c e
    have t12 := cancel105 b tz T c e
    have hvt := valid_text hve
    have hvh := valid_hold hve
    unfold doR
    rw [hve, if_neg (by simp)]
    rcases (show e.kind = 1 ∨ e.kind = 2 ∨ e.kind = 3 ∨ e.kind = 4 ∨ e.kind = 5 ∨ e.kind = 6 ∨ e.kind = 7 ∨ e.kind = 8 ∨ e.kind = 9 ∨ e.kind = 10 ∨ e.kind = 12 ∨ e.kind = 11 by omega) with k | k | k | k | k | k | k | k | k | k | k | k
    · rw [if_pos (.inl k)]
      have t1 := t1 (fun q => h1 q (by omega))
      have hre := slot_err F c e
      generalize slotR31 F c e = r at hre t1
      obtain ⟨c', x⟩ := r
      by_cases hx : x = 0
      · subst hx
        refine enterP tabOk Tryz.func38 64 [0, 1, 2, 3, 4, 5, 7, 8, 9, 10, 11, 12, 13, 16, 26, 47, 60] [.cell 8 81, .tmp 9] rfl (r := [_, _]) rfl (h := ?_); intro E hK; simp only [go_sem]
        refine wgoF (And.intro (@Cp.d.eq_1) (And.intro (@Ev.d.eq_1) (@Brd.d.eq_1))) ?_
        refine wcallF (hv) (@Ev.d.eq_1) ?_
        refine wgo ?_
        refine wcall (hh) ?_
        refine wgoF (And.intro (@hndM.eq_1) (And.intro (@k) (And.intro (@q1) (And.intro (@q2) (@q3))))) ?_
        refine wcallF (t1) (And.intro (@tkD.eq_1) (@k)) ?_
        refine wgoF (And.intro (@rC.eq_1) (@Cp.d.eq_1)) ?_
        exact wretF (And.intro (@rC.eq_1) (@Cp.d.eq_1))
      · have hc' : c' = c := hre hx
        rw [hc'] at t1 ⊢
        refine enterP tabOk Tryz.func38 64 [0, 1, 2, 3, 4, 5, 7, 8, 9, 10, 11, 12, 13, 16, 26, 47, 60] [.cell 8 81, .tmp 9] rfl (r := [_, _]) rfl (h := ?_); intro E hK; simp only [go_sem]
        refine wgoF (And.intro (@Cp.d.eq_1) (And.intro (@Ev.d.eq_1) (@Brd.d.eq_1))) ?_
        refine wcallF (hv) (@Ev.d.eq_1) ?_
        refine wgo ?_
        refine wcall (hh) ?_
        refine wgoF (And.intro (@hndM.eq_1) (And.intro (@k) (And.intro (@q1) (And.intro (@q2) (@q3))))) ?_
        refine wcallF (t1) (And.intro (@tkD.eq_1) (@k)) ?_
        refine wgoF (And.intro (@rC.eq_1) (And.intro (@Cp.d.eq_1) (@hx))) ?_
        exact wretF (And.intro (@rC.eq_1) (@Cp.d.eq_1))
    · rw [if_pos (.inr (.inl k))]
      have t1 := t1 (fun q => h1 q (by omega))
      have hre := slot_err F c e
      generalize slotR31 F c e = r at hre t1
      obtain ⟨c', x⟩ := r
      by_cases hx : x = 0
      · subst hx
        refine enterP tabOk Tryz.func38 64 [0, 1, 2, 3, 4, 5, 7, 8, 9, 10, 11, 12, 13, 16, 26, 47, 60] [.cell 8 81, .tmp 9] rfl (r := [_, _]) rfl (h := ?_); intro E hK; simp only [go_sem]
        refine wgoF (And.intro (@Cp.d.eq_1) (And.intro (@Ev.d.eq_1) (@Brd.d.eq_1))) ?_
        refine wcallF (hv) (@Ev.d.eq_1) ?_
        refine wgo ?_
        refine wcall (hh) ?_
        refine wgoF (And.intro (@hndM.eq_1) (And.intro (@k) (And.intro (@q1) (And.intro (@q2) (@q3))))) ?_
        refine wcallF (t1) (And.intro (@tkD.eq_1) (@k)) ?_
        refine wgoF (And.intro (@rC.eq_1) (@Cp.d.eq_1)) ?_
        exact wretF (And.intro (@rC.eq_1) (@Cp.d.eq_1))
      · have hc' : c' = c := hre hx
        rw [hc'] at t1 ⊢
        refine enterP tabOk Tryz.func38 64 [0, 1, 2, 3, 4, 5, 7, 8, 9, 10, 11, 12, 13, 16, 26, 47, 60] [.cell 8 81, .tmp 9] rfl (r := [_, _]) rfl (h := ?_); intro E hK; simp only [go_sem]
        refine wgoF (And.intro (@Cp.d.eq_1) (And.intro (@Ev.d.eq_1) (@Brd.d.eq_1))) ?_
        refine wcallF (hv) (@Ev.d.eq_1) ?_
        refine wgo ?_
        refine wcall (hh) ?_
        refine wgoF (And.intro (@hndM.eq_1) (And.intro (@k) (And.intro (@q1) (And.intro (@q2) (@q3))))) ?_
        refine wcallF (t1) (And.intro (@tkD.eq_1) (@k)) ?_
        refine wgoF (And.intro (@rC.eq_1) (And.intro (@Cp.d.eq_1) (@hx))) ?_
        exact wretF (And.intro (@rC.eq_1) (@Cp.d.eq_1))
    · rw [if_pos (.inr (.inr (.inl k)))]
      have t1 := t1 (fun q => h1 q (by omega))
      have hre := slot_err F c e
      generalize slotR31 F c e = r at hre t1
      obtain ⟨c', x⟩ := r
      by_cases hx : x = 0
      · subst hx
        refine enterP tabOk Tryz.func38 64 [0, 1, 2, 3, 4, 5, 7, 8, 9, 10, 11, 12, 13, 16, 26, 47, 60] [.cell 8 81, .tmp 9] rfl (r := [_, _]) rfl (h := ?_); intro E hK; simp only [go_sem]
        refine wgoF (And.intro (@Cp.d.eq_1) (And.intro (@Ev.d.eq_1) (@Brd.d.eq_1))) ?_
        refine wcallF (hv) (@Ev.d.eq_1) ?_
        refine wgo ?_
        refine wcall (hh) ?_
        refine wgoF (And.intro (@hndM.eq_1) (And.intro (@k) (And.intro (@q1) (And.intro (@q2) (@q3))))) ?_
        refine wcallF (t1) (And.intro (@tkD.eq_1) (@k)) ?_
        refine wgoF (And.intro (@rC.eq_1) (@Cp.d.eq_1)) ?_
        exact wretF (And.intro (@rC.eq_1) (@Cp.d.eq_1))
      · have hc' : c' = c := hre hx
        rw [hc'] at t1 ⊢
        refine enterP tabOk Tryz.func38 64 [0, 1, 2, 3, 4, 5, 7, 8, 9, 10, 11, 12, 13, 16, 26, 47, 60] [.cell 8 81, .tmp 9] rfl (r := [_, _]) rfl (h := ?_); intro E hK; simp only [go_sem]
        refine wgoF (And.intro (@Cp.d.eq_1) (And.intro (@Ev.d.eq_1) (@Brd.d.eq_1))) ?_
        refine wcallF (hv) (@Ev.d.eq_1) ?_
        refine wgo ?_
        refine wcall (hh) ?_
        refine wgoF (And.intro (@hndM.eq_1) (And.intro (@k) (And.intro (@q1) (And.intro (@q2) (@q3))))) ?_
        refine wcallF (t1) (And.intro (@tkD.eq_1) (@k)) ?_
        refine wgoF (And.intro (@rC.eq_1) (And.intro (@Cp.d.eq_1) (@hx))) ?_
        exact wretF (And.intro (@rC.eq_1) (@Cp.d.eq_1))
    · rw [if_pos (.inr (.inr (.inr k)))]
      have t1 := t1 (fun q => h1 q (by omega))
      have hre := slot_err F c e
      generalize slotR31 F c e = r at hre t1
      obtain ⟨c', x⟩ := r
      by_cases hx : x = 0
      · subst hx
        refine enterP tabOk Tryz.func38 64 [0, 1, 2, 3, 4, 5, 7, 8, 9, 10, 11, 12, 13, 16, 26, 47, 60] [.cell 8 81, .tmp 9] rfl (r := [_, _]) rfl (h := ?_); intro E hK; simp only [go_sem]
        refine wgoF (And.intro (@Cp.d.eq_1) (And.intro (@Ev.d.eq_1) (@Brd.d.eq_1))) ?_
        refine wcallF (hv) (@Ev.d.eq_1) ?_
        refine wgo ?_
        refine wcall (hh) ?_
        refine wgoF (And.intro (@hndM.eq_1) (And.intro (@k) (And.intro (@q1) (And.intro (@q2) (@q3))))) ?_
        refine wcallF (t1) (And.intro (@tkD.eq_1) (@k)) ?_
        refine wgoF (And.intro (@rC.eq_1) (@Cp.d.eq_1)) ?_
        exact wretF (And.intro (@rC.eq_1) (@Cp.d.eq_1))
      · have hc' : c' = c := hre hx
        rw [hc'] at t1 ⊢
        refine enterP tabOk Tryz.func38 64 [0, 1, 2, 3, 4, 5, 7, 8, 9, 10, 11, 12, 13, 16, 26, 47, 60] [.cell 8 81, .tmp 9] rfl (r := [_, _]) rfl (h := ?_); intro E hK; simp only [go_sem]
        refine wgoF (And.intro (@Cp.d.eq_1) (And.intro (@Ev.d.eq_1) (@Brd.d.eq_1))) ?_
        refine wcallF (hv) (@Ev.d.eq_1) ?_
        refine wgo ?_
        refine wcall (hh) ?_
        refine wgoF (And.intro (@hndM.eq_1) (And.intro (@k) (And.intro (@q1) (And.intro (@q2) (@q3))))) ?_
        refine wcallF (t1) (And.intro (@tkD.eq_1) (@k)) ?_
        refine wgoF (And.intro (@rC.eq_1) (And.intro (@Cp.d.eq_1) (@hx))) ?_
        exact wretF (And.intro (@rC.eq_1) (@Cp.d.eq_1))
    · rw [if_neg (by omega), if_pos k]
      have t5 := t5 (by have := (hvt k).2.1; omega)
      have hre := pas_err c e.text
      generalize pasR c e.text = r at hre t5
      obtain ⟨c', x⟩ := r
      by_cases hx : x = 0
      · subst hx
        refine enterP tabOk Tryz.func38 64 [0, 1, 2, 3, 4, 5, 7, 8, 9, 10, 11, 12, 13, 16, 26, 47, 60] [.cell 8 81, .tmp 9] rfl (r := [_, _]) rfl (h := ?_); intro E hK; simp only [go_sem]
        refine wgoF (And.intro (@Cp.d.eq_1) (And.intro (@Ev.d.eq_1) (@Brd.d.eq_1))) ?_
        refine wcallF (hv) (@Ev.d.eq_1) ?_
        refine wgo ?_
        refine wcall (hh) ?_
        refine wgoF (And.intro (@hndM.eq_1) (And.intro (@k) (And.intro (@q1) (And.intro (@q2) (@q3))))) ?_
        refine wcallF (t5) (And.intro (@tkD.eq_1) (@k)) ?_
        refine wgoF (And.intro (@rC.eq_1) (@Cp.d.eq_1)) ?_
        exact wretF (And.intro (@rC.eq_1) (@Cp.d.eq_1))
      · have hc' : c' = c := hre hx
        rw [hc'] at t5 ⊢
        refine enterP tabOk Tryz.func38 64 [0, 1, 2, 3, 4, 5, 7, 8, 9, 10, 11, 12, 13, 16, 26, 47, 60] [.cell 8 81, .tmp 9] rfl (r := [_, _]) rfl (h := ?_); intro E hK; simp only [go_sem]
        refine wgoF (And.intro (@Cp.d.eq_1) (And.intro (@Ev.d.eq_1) (@Brd.d.eq_1))) ?_
        refine wcallF (hv) (@Ev.d.eq_1) ?_
        refine wgo ?_
        refine wcall (hh) ?_
        refine wgoF (And.intro (@hndM.eq_1) (And.intro (@k) (And.intro (@q1) (And.intro (@q2) (@q3))))) ?_
        refine wcallF (t5) (And.intro (@tkD.eq_1) (@k)) ?_
        refine wgoF (And.intro (@rC.eq_1) (And.intro (@Cp.d.eq_1) (@hx))) ?_
        exact wretF (And.intro (@rC.eq_1) (@Cp.d.eq_1))
    · rw [if_neg (by omega), if_neg (by omega), if_pos k]
      by_cases h0 : c.cu = 0
      · rw [if_pos h0] at t6 ⊢
        refine enterP tabOk Tryz.func38 64 [0, 1, 2, 3, 4, 5, 7, 8, 9, 10, 11, 12, 13, 16, 26, 47, 60] [.cell 8 81, .tmp 9] rfl (r := [_, _]) rfl (h := ?_); intro E hK; simp only [go_sem]
        refine wgoF (And.intro (@Cp.d.eq_1) (And.intro (@Ev.d.eq_1) (@Brd.d.eq_1))) ?_
        refine wcallF (hv) (@Ev.d.eq_1) ?_
        refine wgo ?_
        refine wcall (hh) ?_
        refine wgoF (And.intro (@hndM.eq_1) (And.intro (@k) (And.intro (@q1) (And.intro (@q2) (@q3))))) ?_
        refine wcallF (t6) (And.intro (@tkD.eq_1) (@k)) ?_
        refine wgoF (And.intro (@rC.eq_1) (@Cp.d.eq_1)) ?_
        exact wretF (And.intro (@rC.eq_1) (@Cp.d.eq_1))
      · rw [if_neg h0] at t6 ⊢
        generalize erasedC c = c' at t6
        refine enterP tabOk Tryz.func38 64 [0, 1, 2, 3, 4, 5, 7, 8, 9, 10, 11, 12, 13, 16, 26, 47, 60] [.cell 8 81, .tmp 9] rfl (r := [_, _]) rfl (h := ?_); intro E hK; simp only [go_sem]
        refine wgoF (And.intro (@Cp.d.eq_1) (And.intro (@Ev.d.eq_1) (@Brd.d.eq_1))) ?_
        refine wcallF (hv) (@Ev.d.eq_1) ?_
        refine wgo ?_
        refine wcall (hh) ?_
        refine wgoF (And.intro (@hndM.eq_1) (And.intro (@k) (And.intro (@q1) (And.intro (@q2) (@q3))))) ?_
        refine wcallF (t6) (And.intro (@tkD.eq_1) (@k)) ?_
        refine wgoF (And.intro (@rC.eq_1) (@Cp.d.eq_1)) ?_
        exact wretF (And.intro (@rC.eq_1) (@Cp.d.eq_1))
    · rw [if_neg (by omega), if_neg (by omega), if_neg (by omega), if_pos k]
      have hre := moved_err c (-1)
      generalize movedR c (-1) = r at hre t7
      obtain ⟨c', x⟩ := r
      by_cases hx : x = 0
      · subst hx
        refine enterP tabOk Tryz.func38 64 [0, 1, 2, 3, 4, 5, 7, 8, 9, 10, 11, 12, 13, 16, 26, 47, 60] [.cell 8 81, .tmp 9] rfl (r := [_, _]) rfl (h := ?_); intro E hK; simp only [go_sem]
        refine wgoF (And.intro (@Cp.d.eq_1) (And.intro (@Ev.d.eq_1) (@Brd.d.eq_1))) ?_
        refine wcallF (hv) (@Ev.d.eq_1) ?_
        refine wgo ?_
        refine wcall (hh) ?_
        refine wgoF (And.intro (@hndM.eq_1) (And.intro (@k) (And.intro (@q1) (And.intro (@q2) (@q3))))) ?_
        refine wcallF (t7) (And.intro (@tkD.eq_1) (@k)) ?_
        refine wgoF (And.intro (@rC.eq_1) (@Cp.d.eq_1)) ?_
        exact wretF (And.intro (@rC.eq_1) (@Cp.d.eq_1))
      · have hc' : c' = c := hre hx
        rw [hc'] at t7 ⊢
        refine enterP tabOk Tryz.func38 64 [0, 1, 2, 3, 4, 5, 7, 8, 9, 10, 11, 12, 13, 16, 26, 47, 60] [.cell 8 81, .tmp 9] rfl (r := [_, _]) rfl (h := ?_); intro E hK; simp only [go_sem]
        refine wgoF (And.intro (@Cp.d.eq_1) (And.intro (@Ev.d.eq_1) (@Brd.d.eq_1))) ?_
        refine wcallF (hv) (@Ev.d.eq_1) ?_
        refine wgo ?_
        refine wcall (hh) ?_
        refine wgoF (And.intro (@hndM.eq_1) (And.intro (@k) (And.intro (@q1) (And.intro (@q2) (@q3))))) ?_
        refine wcallF (t7) (And.intro (@tkD.eq_1) (@k)) ?_
        refine wgoF (And.intro (@rC.eq_1) (And.intro (@Cp.d.eq_1) (@hx))) ?_
        exact wretF (And.intro (@rC.eq_1) (@Cp.d.eq_1))
    · rw [if_neg (by omega), if_neg (by omega), if_neg (by omega), if_neg (by omega), if_pos k]
      have hre := moved_err c 1
      generalize movedR c 1 = r at hre t8
      obtain ⟨c', x⟩ := r
      by_cases hx : x = 0
      · subst hx
        refine enterP tabOk Tryz.func38 64 [0, 1, 2, 3, 4, 5, 7, 8, 9, 10, 11, 12, 13, 16, 26, 47, 60] [.cell 8 81, .tmp 9] rfl (r := [_, _]) rfl (h := ?_); intro E hK; simp only [go_sem]
        refine wgoF (And.intro (@Cp.d.eq_1) (And.intro (@Ev.d.eq_1) (@Brd.d.eq_1))) ?_
        refine wcallF (hv) (@Ev.d.eq_1) ?_
        refine wgo ?_
        refine wcall (hh) ?_
        refine wgoF (And.intro (@hndM.eq_1) (And.intro (@k) (And.intro (@q1) (And.intro (@q2) (@q3))))) ?_
        refine wcallF (t8) (And.intro (@tkD.eq_1) (@k)) ?_
        refine wgoF (And.intro (@rC.eq_1) (@Cp.d.eq_1)) ?_
        exact wretF (And.intro (@rC.eq_1) (@Cp.d.eq_1))
      · have hc' : c' = c := hre hx
        rw [hc'] at t8 ⊢
        refine enterP tabOk Tryz.func38 64 [0, 1, 2, 3, 4, 5, 7, 8, 9, 10, 11, 12, 13, 16, 26, 47, 60] [.cell 8 81, .tmp 9] rfl (r := [_, _]) rfl (h := ?_); intro E hK; simp only [go_sem]
        refine wgoF (And.intro (@Cp.d.eq_1) (And.intro (@Ev.d.eq_1) (@Brd.d.eq_1))) ?_
        refine wcallF (hv) (@Ev.d.eq_1) ?_
        refine wgo ?_
        refine wcall (hh) ?_
        refine wgoF (And.intro (@hndM.eq_1) (And.intro (@k) (And.intro (@q1) (And.intro (@q2) (@q3))))) ?_
        refine wcallF (t8) (And.intro (@tkD.eq_1) (@k)) ?_
        refine wgoF (And.intro (@rC.eq_1) (And.intro (@Cp.d.eq_1) (@hx))) ?_
        exact wretF (And.intro (@rC.eq_1) (@Cp.d.eq_1))
    · rw [if_neg (by omega), if_neg (by omega), if_neg (by omega), if_neg (by omega), if_neg (by omega), if_pos k]
      have t9 := t9 (by have := hvh k; omega)
      have hre := held_err c e
      generalize heldR c e = r at hre t9
      obtain ⟨c', x⟩ := r
      by_cases hx : x = 0
      · subst hx
        refine enterP tabOk Tryz.func38 64 [0, 1, 2, 3, 4, 5, 7, 8, 9, 10, 11, 12, 13, 16, 26, 47, 60] [.cell 8 81, .tmp 9] rfl (r := [_, _]) rfl (h := ?_); intro E hK; simp only [go_sem]
        refine wgoF (And.intro (@Cp.d.eq_1) (And.intro (@Ev.d.eq_1) (@Brd.d.eq_1))) ?_
        refine wcallF (hv) (@Ev.d.eq_1) ?_
        refine wgo ?_
        refine wcall (hh) ?_
        refine wgoF (And.intro (@hndM.eq_1) (And.intro (@k) (And.intro (@q1) (And.intro (@q2) (@q3))))) ?_
        refine wcallF (t9) (And.intro (@tkD.eq_1) (@k)) ?_
        refine wgoF (And.intro (@rC.eq_1) (@Cp.d.eq_1)) ?_
        exact wretF (And.intro (@rC.eq_1) (@Cp.d.eq_1))
      · have hc' : c' = c := hre hx
        rw [hc'] at t9 ⊢
        refine enterP tabOk Tryz.func38 64 [0, 1, 2, 3, 4, 5, 7, 8, 9, 10, 11, 12, 13, 16, 26, 47, 60] [.cell 8 81, .tmp 9] rfl (r := [_, _]) rfl (h := ?_); intro E hK; simp only [go_sem]
        refine wgoF (And.intro (@Cp.d.eq_1) (And.intro (@Ev.d.eq_1) (@Brd.d.eq_1))) ?_
        refine wcallF (hv) (@Ev.d.eq_1) ?_
        refine wgo ?_
        refine wcall (hh) ?_
        refine wgoF (And.intro (@hndM.eq_1) (And.intro (@k) (And.intro (@q1) (And.intro (@q2) (@q3))))) ?_
        refine wcallF (t9) (And.intro (@tkD.eq_1) (@k)) ?_
        refine wgoF (And.intro (@rC.eq_1) (And.intro (@Cp.d.eq_1) (@hx))) ?_
        exact wretF (And.intro (@rC.eq_1) (@Cp.d.eq_1))
    · rw [if_neg (by omega), if_neg (by omega), if_neg (by omega), if_neg (by omega), if_neg (by omega), if_neg (by omega), if_pos k]
      refine enterP tabOk Tryz.func38 64 [0, 1, 2, 3, 4, 5, 7, 8, 9, 10, 11, 12, 13, 16, 26, 47, 60] [.cell 8 81, .tmp 9] rfl (r := [_, _]) rfl (h := ?_); intro E hK; simp only [go_sem]
      refine wgoF (And.intro (@Cp.d.eq_1) (And.intro (@Ev.d.eq_1) (@Brd.d.eq_1))) ?_
      refine wcallF (hv) (@Ev.d.eq_1) ?_
      refine wgo ?_
      refine wcall (hh) ?_
      refine wgoF (And.intro (@hndM.eq_1) (And.intro (@k) (And.intro (@q1) (And.intro (@q2) (@q3))))) ?_
      refine wcallF (t10) (And.intro (@tkD.eq_1) (@k)) ?_
      refine wgoF (And.intro (@rC.eq_1) (@Cp.d.eq_1)) ?_
      exact wretF (And.intro (@rC.eq_1) (@Cp.d.eq_1))
    · rw [if_neg (by omega), if_neg (by omega), if_neg (by omega), if_neg (by omega), if_neg (by omega), if_neg (by omega), if_neg (by omega), if_pos k]
      refine enterP tabOk Tryz.func38 64 [0, 1, 2, 3, 4, 5, 7, 8, 9, 10, 11, 12, 13, 16, 26, 47, 60] [.cell 8 81, .tmp 9] rfl (r := [_, _]) rfl (h := ?_); intro E hK; simp only [go_sem]
      refine wgoF (And.intro (@Cp.d.eq_1) (And.intro (@Ev.d.eq_1) (@Brd.d.eq_1))) ?_
      refine wcallF (hv) (@Ev.d.eq_1) ?_
      refine wgo ?_
      refine wcall (hh) ?_
      refine wgoF (And.intro (@hndM.eq_1) (And.intro (@k) (And.intro (@q1) (And.intro (@q2) (@q3))))) ?_
      refine wcallF (t12) (And.intro (@tkD.eq_1) (@k)) ?_
      refine wgoF (And.intro (@rC.eq_1) (@Cp.d.eq_1)) ?_
      exact wretF (And.intro (@rC.eq_1) (@Cp.d.eq_1))
    · rw [if_neg (by omega), if_neg (by omega), if_neg (by omega), if_neg (by omega), if_neg (by omega), if_neg (by omega), if_neg (by omega), if_neg (by omega)]
      refine enterP tabOk Tryz.func38 64 [0, 1, 2, 3, 4, 5, 7, 8, 9, 10, 11, 12, 13, 16, 26, 47, 60] [.cell 8 81, .tmp 9] rfl (r := [_, _]) rfl (h := ?_); intro E hK; simp only [go_sem]
      refine wgoF (And.intro (@Cp.d.eq_1) (And.intro (@Ev.d.eq_1) (@Brd.d.eq_1))) ?_
      refine wcallF (hv) (@Ev.d.eq_1) ?_
      refine wgo ?_
      refine wcall (hh) ?_
      refine wgoF (And.intro (@hndM.eq_1) (@k)) ?_
      exact wretF (And.intro (@rC.eq_1) (@Cp.d.eq_1))
end Go.Proofs.YtojgjdcciojpeaaGreat
set_option linter.unusedSimpArgs false
set_option linter.unusedVariables false
namespace Go.Proofs.YtojgjdcciojpeaaGreat
open Go Go.PS
set_option maxRecDepth 100000
set_option maxHeartbeats 4000000

def Pt.ok (p : Pt) : Prop := -100000 ≤ p.x ∧ p.x ≤ 100000 ∧ -100000 ≤ p.y ∧ p.y ≤ 100000
def gap (p q : Pt) : Int := max (p.x - q.x) (q.x - p.x) + max (p.y - q.y) (q.y - p.y)

theorem gap33 (p q : Pt) (hp : p.ok) (hq : q.ok) : PCall Tryz.prog 152 [p.d, q.d] (.int .i64 (gap p q)) := by
  obtain ⟨p1, p2, p3, p4⟩ := hp
  obtain ⟨q1, q2, q3, q4⟩ := hq
  refine enterP tabOk Tryz.func152 28 [0, 1, 2, 3, 4] [.tmp 4] rfl (r := [_]) rfl (h := ?_); intro E hK; simp only [go_sem, Pt.d]
  refine wgoF (@Pt.d.eq_1) ?_
  exact wretF (And.intro (@gap.eq_1) (@Pt.d.eq_1))
theorem gap20 (p q : Pt) (hp : p.ok) (hq : q.ok) : PCall Tryz.prog 115 [p.d, q.d] (.int .i64 (gap p q)) := by
  obtain ⟨p1, p2, p3, p4⟩ := hp
  obtain ⟨q1, q2, q3, q4⟩ := hq
  refine enterP tabOk Tryz.func115 28 [0, 1, 2, 3, 4] [.tmp 4] rfl (r := [_]) rfl (h := ?_); intro E hK; simp only [go_sem, Pt.d]
  refine wgoF (@Pt.d.eq_1) ?_
  exact wretF (And.intro (@gap.eq_1) (@Pt.d.eq_1))

/-- The least of some numbers. -/
def leastI (a : Int) : List Int → Int
  | [] => a
  | v :: l => leastI (if v < a then v else a) l
def smallH (l : List Int) (b : Int) (k : Nat) : SL := SL.mk [(0, .d (.int .i64 b)), (7, .d (.sl 1 (l.map iD))), (8, .d (.int .i64 l.length)), (9, .d (.int .i64 k))] [] []

theorem smallest (a : Int) (l : List Int) (hl : l.length ≤ 100000) : PCall Tryz.prog 132 [.int .i64 a, .sl 1 (l.map iD)] (.int .i64 (leastI a l)) := by
  refine enterP tabOk Tryz.func132 19 [0, 1, 4, 6, 7, 8, 9, 10, 15] [.tmp 4] rfl (r := [_]) rfl (h := ?_); intro E hK; simp only [go_sem, Pt.d, smallH]
  refine wgoF (And.intro (@Pt.d.eq_1) (@smallH.eq_1)) ?_
  refine wlpF (Run.loop (ι := { x : Nat × Int // x.1 ≤ l.length ∧ leastI x.2 (l.drop x.1) = leastI a l }) (H := fun i => smallH l i.1.2 i.1.1) (μ := fun i => l.length - i.1.1) (i0 := ⟨(0, a), by simp⟩)) (And.intro (@Pt.d.eq_1) (@smallH.eq_1)) ?_
  rintro ⟨⟨k, b⟩, hk, hb⟩ ih
  by_cases hlt : k < l.length
  · have hi : (k : Int) < l.length := by omega
    have hget : (List.map iD l).getD k .nilp = .int .i64 l[k] := by simp [hlt, iD]
    have hdrop : l.drop k = l[k] :: l.drop (k + 1) := (List.drop_eq_getElem_cons hlt)
    by_cases hlb : l[k] < b
    · have hb2 : leastI l[k] (l.drop (k + 1)) = leastI a l := by rw [hdrop, leastI, if_pos hlb] at hb; exact hb
      simp only [go_sem, Pt.d, smallH]
      refine wgoF (And.intro (@hi) (And.intro (@hget) (And.intro (@hlb) (And.intro (@Pt.d.eq_1) (@smallH.eq_1))))) ?_
      exact wnxtF (ih ⟨(k + 1, l[k]), by omega, hb2⟩) (And.intro (@Pt.d.eq_1) (@smallH.eq_1))
    · have hb2 : leastI b (l.drop (k + 1)) = leastI a l := by rw [hdrop, leastI, if_neg hlb] at hb; exact hb
      simp only [go_sem, Pt.d, smallH]
      refine wgoF (And.intro (@hi) (And.intro (@hget) (And.intro (@hlb) (And.intro (@Pt.d.eq_1) (@smallH.eq_1))))) ?_
      exact wnxtF (ih ⟨(k + 1, b), by omega, hb2⟩) (And.intro (@Pt.d.eq_1) (@smallH.eq_1))
  · have hi : ¬ (k : Int) < l.length := by omega
    have hk2 : l.drop k = [] := List.drop_eq_nil_of_le (by omega)
    have hb2 : b = leastI a l := by simpa [hk2, leastI] using hb
    simp only [go_sem, Pt.d, smallH]
    refine wgoF (And.intro (@hi) (And.intro (@Pt.d.eq_1) (@smallH.eq_1))) ?_
    exact wretF (And.intro (@hb2) (And.intro (@Pt.d.eq_1) (@smallH.eq_1)))
end Go.Proofs.YtojgjdcciojpeaaGreat
set_option linter.unusedSimpArgs false
set_option linter.unusedVariables false
namespace Go.Proofs.YtojgjdcciojpeaaGreat
open Go Go.PS
set_option maxRecDepth 100000
set_option maxHeartbeats 4000000
/-- The least sum of a walk to i and j. -/
def W (g : Nat → Nat → Int) : Nat → Nat → Int
  | 0, 0 => g 0 0
  | 0, j + 1 => W g 0 j + g 0 (j + 1)
  | i + 1, 0 => W g i 0 + g (i + 1) 0
  | i + 1, j + 1 => min (W g i j) (min (W g i (j + 1)) (W g (i + 1) j)) + g (i + 1) (j + 1)
termination_by i j => i + j
def gp (a b : List Pt) (i j : Nat) : Int := gap (a.getD i default) (b.getD j default)
def dist (a b : List Pt) : Int := W (gp a b) (a.length - 1) (b.length - 1)

theorem W_bound {g : Nat → Nat → Int} {B : Int} (h : ∀ i j, 0 ≤ g i j ∧ g i j ≤ B) : ∀ (n i j : Nat), i + j = n → 0 ≤ W g i j ∧ W g i j ≤ (n + 1) * B := by
  intro n
  induction n using Nat.strongRecOn with
  | _ n ih =>
  intro i j hn
  have hg := h i j
  have step : ∀ (m : Nat) (x : Int), m + 1 = n → 0 ≤ x → x ≤ ((m : Int) + 1) * B → 0 ≤ x + g i j ∧ x + g i j ≤ ((n : Int) + 1) * B := by
    intro m x hm h1 h2
    have : ((n : Int) + 1) * B = ((m : Int) + 1) * B + B := by
      rw [← hm]; push_cast; rw [Int.add_mul ((m : Int) + 1) 1 B]; omega
    omega
  match i, j with
  | 0, 0 =>
    subst hn
    rw [W]; simp; omega
  | 0, j + 1 =>
    rw [W]
    obtain ⟨h1, h2⟩ := ih (0 + j) (by omega) 0 j rfl
    exact step (0 + j) _ (by omega) h1 h2
  | i + 1, 0 =>
    rw [W]
    obtain ⟨h1, h2⟩ := ih (i + 0) (by omega) i 0 rfl
    exact step (i + 0) _ (by omega) h1 h2
  | i + 1, j + 1 =>
    rw [W]
    obtain ⟨h1, h2⟩ := ih (i + (j + 1)) (by omega) i (j + 1) rfl
    obtain ⟨h3, h4⟩ := ih (i + 1 + j) (by omega) (i + 1) j rfl
    obtain ⟨h5, h6⟩ := ih (i + j) (by omega) i j rfl
    refine step (i + (j + 1)) _ (by omega) ?_ ?_
    · omega
    · exact Int.le_trans (Int.min_le_right _ _) (Int.le_trans (Int.min_le_left _ _) h2)

def okL (l : List Pt) : Prop := ∀ p ∈ l, p.ok
theorem ok_default : (default : Pt).ok := by unfold Pt.ok; decide
theorem okL_getD {l : List Pt} (h : okL l) (i : Nat) : (l.getD i default).ok := by
  by_cases hi : i < l.length
  · have e : l.getD i default = l[i] := by simp [hi]
    rw [e]; exact h _ (List.getElem_mem hi)
  · have e : l.getD i default = default := by simp [hi]
    rw [e]; exact ok_default
theorem gap_bound {p q : Pt} (hp : p.ok) (hq : q.ok) : 0 ≤ gap p q ∧ gap p q ≤ 400000 := by
  obtain ⟨p1, p2, p3, p4⟩ := hp
  obtain ⟨q1, q2, q3, q4⟩ := hq
  unfold gap; omega
theorem Wg_bound {a b : List Pt} (ha : okL a) (hb : okL b) {i j : Nat} (hi : i ≤ 2000) (hj : j ≤ 2000) : 0 ≤ W (gp a b) i j ∧ W (gp a b) i j ≤ 10000000000 := by
  obtain ⟨h1, h2⟩ := W_bound (g := gp a b) (B := 400000) (fun i j => gap_bound (okL_getD ha i) (okL_getD hb j)) (i + j) i j rfl
  refine ⟨h1, Int.le_trans h2 ?_⟩
  omega

def rO (l : List Int) : OB := ⟨3, 1, rI l⟩
def pO (p : Pt) : OB := ⟨70, 2, [.agg [.d (.int .i64 p.x), .d (.int .i64 p.y)]]⟩
def pL (l : List Pt) : PV := .d (.sl 2 (l.map Pt.d))
def RowAt (g : Nat → Nat → Int) (i m : Nat) (r : List Int) : Prop := r.length = m ∧ ∀ k, k < m → r.getD k 0 = W g i k
def outerH (a b : List Pt) (i : Nat) (r z : List Int) : SL :=
  SL.mk [(1, pL b), (5, .hrow 22 1 0 b.length b.length), (6, .hrow 25 1 0 b.length b.length), (26, pL a), (27, .d (.int .i64 a.length)), (28, .d (.int .i64 i))] [(22, some (rO r)), (25, some (rO z))] []
def innerH (a b : List Pt) (i : Nat) (r z : List Int) (j : Nat) : SL :=
  SL.mk [(1, pL b), (5, .hrow 22 1 0 b.length b.length), (6, .hrow 25 1 0 b.length b.length), (7, .d (.int .i64 i)), (8, .hp 8 0 0), (26, pL a), (27, .d (.int .i64 a.length)), (28, .d (.int .i64 i)), (33, pL b), (34, .d (.int .i64 b.length)), (35, .d (.int .i64 j))]
    [(8, some (pO (a.getD i default))), (22, some (rO r)), (25, some (rO z))] []
theorem least3 (x y z : Int) : leastI x [y, z] = min x (min y z) := by
  simp only [leastI]; split <;> split <;> omega

theorem setI {z : List Int} {j : Nat} (v : Int) (k : Nat) (h : j < z.length) : (z.set j v).getD k 0 = if k = j then v else z.getD k 0 := by
  simp only [List.getD, List.getElem?_set]
  by_cases hk : j = k
  · subst hk; simp [h]
  · rw [if_neg hk, if_neg (Ne.symm hk)]


theorem dist15 (a b : List Pt) (ha : okL a) (hb : okL b) (la : a.length ≤ 1000) (lb : b.length ≤ 1000) (na : 0 < a.length) (nb : 0 < b.length) :
    PCall Tryz.prog 133 [.sl 2 (a.map Pt.d), .sl 2 (b.map Pt.d)] (.int .i64 (dist a b)) := by
  have hna : ¬ ((a.length : Int) = 0) := by omega
  have hnb : ¬ ((b.length : Int) = 0) := by omega
  refine enterP tabOk Tryz.func133 96 [0, 1, 4, 5, 6, 7, 8, 9, 10, 11, 19, 26, 27, 28, 29, 33, 34, 35, 36, 40, 63, 70] [.tmp 4] rfl (r := [_]) rfl (h := ?_); intro E hK; simp only [go_sem, Pt.d, outerH, innerH, rO, pO, pL]
  refine wgoF (And.intro (@hna) (And.intro (@hnb) (And.intro (@Pt.d.eq_1) (And.intro (@outerH.eq_1) (And.intro (@innerH.eq_1) (And.intro (@rO.eq_1) (And.intro (@pO.eq_1) (@pL.eq_1)))))))) ?_
  refine wlpF (Run.loop (ι := { x : Nat × List Int × List Int // x.1 ≤ a.length ∧ x.2.1.length = b.length ∧ x.2.2.length = b.length ∧ ∀ i', x.1 = i' + 1 → RowAt (gp a b) i' b.length x.2.1 }) (H := fun i => outerH a b i.1.1 i.1.2.1 i.1.2.2) (μ := fun i => a.length - i.1.1) (i0 := ⟨(0, List.replicate b.length 0, List.replicate b.length 0), by omega, by simp, by simp, by omega⟩)) (And.intro (@Pt.d.eq_1) (And.intro (@outerH.eq_1) (And.intro (@innerH.eq_1) (And.intro (@rO.eq_1) (And.intro (@pO.eq_1) (@pL.eq_1)))))) ?_
  rintro ⟨⟨i, r, z⟩, hi, hr, hz, hrow⟩ ih0
  dsimp only at hi hr hz hrow
  by_cases hlt : i < a.length
  · have h1 : (i : Int) < a.length := by omega
    have hga := pt_get hlt
    simp only [go_sem, Pt.d, outerH, innerH, rO, pO, pL]
    refine wgoF (And.intro (@h1) (And.intro (@hga) (And.intro (@Pt.d.eq_1) (And.intro (@outerH.eq_1) (And.intro (@innerH.eq_1) (And.intro (@rO.eq_1) (And.intro (@pO.eq_1) (@pL.eq_1)))))))) ?_
    refine wlpF (Run.loop (ι := { x : Nat × List Int // x.1 ≤ b.length ∧ x.2.length = b.length ∧ ∀ k, k < x.1 → x.2.getD k 0 = W (gp a b) i k }) (H := fun j => innerH a b i r j.1.2 j.1.1) (μ := fun j => b.length - j.1.1) (i0 := ⟨(0, z), by omega, hz, by omega⟩)) (And.intro (@Pt.d.eq_1) (And.intro (@outerH.eq_1) (And.intro (@innerH.eq_1) (And.intro (@rO.eq_1) (And.intro (@pO.eq_1) (@pL.eq_1)))))) ?_
    rintro ⟨⟨j, z⟩, hj, hz, hzk⟩ ih
    dsimp only at hj hz hzk
    by_cases hjt : j < b.length
    · have h2 : (j : Int) < b.length := by omega
      have hgb := pt_get hjt
      have hgap := gap33 (a.getD i default) (b.getD j default) (okL_getD ha i) (okL_getD hb j)
      have hgb0 := gap_bound (okL_getD ha i) (okL_getD hb j)
      have hsz : j < z.length := by omega
      have key : ∀ k, k < j + 1 → (z.set j (W (gp a b) i j)).getD k 0 = W (gp a b) i k := by
        intro k hk
        rw [setI _ _ hsz]
        split
        · rename_i e; subst e; rfl
        · exact hzk k (by omega)
      have hW0 := Wg_bound ha hb (i := i) (j := j) (by omega) (by omega)
      have e0 : (rI z).getD j .any = .d (.int .i64 (z.getD j 0)) := rI_get hsz
      have hg0 : gap (a.getD i default) (b.getD j default) = gp a b i j := rfl
      by_cases hi0 : i = 0
      · have p1 : ¬ (0 : Int) < (i : Int) := by omega
        by_cases hj0 : j = 0
        · have p2 : ¬ (0 : Int) < (j : Int) := by omega
          have hW : 0 + gap (a.getD i default) (b.getD j default) = W (gp a b) i j := by
            have : W (gp a b) i j = gap (a.getD i default) (b.getD j default) := by subst hi0; subst hj0; rw [W]; rfl
            omega
          simp only [go_sem, Pt.d, outerH, innerH, rO, pO, pL]
          refine wgoF (And.intro (@h2) (And.intro (@hgb) (And.intro (@p1) (And.intro (@p2) (And.intro (@Pt.d.eq_1) (And.intro (@outerH.eq_1) (And.intro (@innerH.eq_1) (And.intro (@rO.eq_1) (And.intro (@pO.eq_1) (@pL.eq_1)))))))))) ?_
          refine wcallF (hgap) (And.intro (@Pt.d.eq_1) (And.intro (@outerH.eq_1) (And.intro (@innerH.eq_1) (And.intro (@rO.eq_1) (And.intro (@pO.eq_1) (@pL.eq_1)))))) ?_
          refine wgoF (And.intro (@hW) (And.intro (@e0) (And.intro (@Pt.d.eq_1) (And.intro (@outerH.eq_1) (And.intro (@innerH.eq_1) (And.intro (@rO.eq_1) (And.intro (@pO.eq_1) (@pL.eq_1)))))))) ?_
          exact wnxtF (ih ⟨(j + 1, z.set j (W (gp a b) i j)), by omega, by simpa using hz, key⟩) (And.intro (@Pt.d.eq_1) (And.intro (@outerH.eq_1) (And.intro (@innerH.eq_1) (And.intro (@rO.eq_1) (And.intro (@pO.eq_1) (@pL.eq_1))))))
        · have p2 : (0 : Int) < (j : Int) := by omega
          have m1 : ((j : Int) - 1).toNat = j - 1 := by omega
          have e1 : (rI z).getD (j - 1) .any = .d (.int .i64 (W (gp a b) i (j - 1))) := by rw [rI_get (by omega), hzk _ (by omega)]
          have hW : W (gp a b) i (j - 1) + gap (a.getD i default) (b.getD j default) = W (gp a b) i j := by
            obtain ⟨j', rfl⟩ : ∃ j', j = j' + 1 := ⟨j - 1, by omega⟩
            subst hi0
            rw [hg0, W]; rfl
          simp only [go_sem, Pt.d, outerH, innerH, rO, pO, pL]
          refine wgoF (And.intro (@h2) (And.intro (@hgb) (And.intro (@p1) (And.intro (@p2) (And.intro (@m1) (And.intro (@e1) (And.intro (@Pt.d.eq_1) (And.intro (@outerH.eq_1) (And.intro (@innerH.eq_1) (And.intro (@rO.eq_1) (And.intro (@pO.eq_1) (@pL.eq_1)))))))))))) ?_
          refine wcallF (hgap) (And.intro (@Pt.d.eq_1) (And.intro (@outerH.eq_1) (And.intro (@innerH.eq_1) (And.intro (@rO.eq_1) (And.intro (@pO.eq_1) (@pL.eq_1)))))) ?_
          refine wgoF (And.intro (@hW) (And.intro (@e0) (And.intro (@Pt.d.eq_1) (And.intro (@outerH.eq_1) (And.intro (@innerH.eq_1) (And.intro (@rO.eq_1) (And.intro (@pO.eq_1) (@pL.eq_1)))))))) ?_
          exact wnxtF (ih ⟨(j + 1, z.set j (W (gp a b) i j)), by omega, by simpa using hz, key⟩) (And.intro (@Pt.d.eq_1) (And.intro (@outerH.eq_1) (And.intro (@innerH.eq_1) (And.intro (@rO.eq_1) (And.intro (@pO.eq_1) (@pL.eq_1))))))
      · have p1 : (0 : Int) < (i : Int) := by omega
        obtain ⟨hrl, hrk⟩ := hrow (i - 1) (by omega)
        have hrj : (rI r).getD j .any = .d (.int .i64 (W (gp a b) (i - 1) j)) := by rw [rI_get (by omega), hrk _ (by omega)]
        by_cases hj0 : j = 0
        · have p2 : ¬ (0 : Int) < (j : Int) := by omega
          have hW : W (gp a b) (i - 1) j + gap (a.getD i default) (b.getD j default) = W (gp a b) i j := by
            obtain ⟨i', rfl⟩ : ∃ i', i = i' + 1 := ⟨i - 1, by omega⟩
            subst hj0
            rw [hg0, W]; rfl
          simp only [go_sem, Pt.d, outerH, innerH, rO, pO, pL]
          refine wgoF (And.intro (@h2) (And.intro (@hgb) (And.intro (@p1) (And.intro (@p2) (And.intro (@hrj) (And.intro (@Pt.d.eq_1) (And.intro (@outerH.eq_1) (And.intro (@innerH.eq_1) (And.intro (@rO.eq_1) (And.intro (@pO.eq_1) (@pL.eq_1))))))))))) ?_
          refine wcallF (hgap) (And.intro (@Pt.d.eq_1) (And.intro (@outerH.eq_1) (And.intro (@innerH.eq_1) (And.intro (@rO.eq_1) (And.intro (@pO.eq_1) (@pL.eq_1)))))) ?_
          refine wgoF (And.intro (@hW) (And.intro (@e0) (And.intro (@Pt.d.eq_1) (And.intro (@outerH.eq_1) (And.intro (@innerH.eq_1) (And.intro (@rO.eq_1) (And.intro (@pO.eq_1) (@pL.eq_1)))))))) ?_
          exact wnxtF (ih ⟨(j + 1, z.set j (W (gp a b) i j)), by omega, by simpa using hz, key⟩) (And.intro (@Pt.d.eq_1) (And.intro (@outerH.eq_1) (And.intro (@innerH.eq_1) (And.intro (@rO.eq_1) (And.intro (@pO.eq_1) (@pL.eq_1))))))
        · have p2 : (0 : Int) < (j : Int) := by omega
          have m1 : ((j : Int) - 1).toNat = j - 1 := by omega
          have e1 : (rI z).getD (j - 1) .any = .d (.int .i64 (W (gp a b) i (j - 1))) := by rw [rI_get (by omega), hzk _ (by omega)]
          have e2 : (rI r).getD (j - 1) .any = .d (.int .i64 (W (gp a b) (i - 1) (j - 1))) := by rw [rI_get (by omega), hrk _ (by omega)]
          have hW : leastI (W (gp a b) (i - 1) (j - 1)) [W (gp a b) (i - 1) j, W (gp a b) i (j - 1)] + gap (a.getD i default) (b.getD j default) = W (gp a b) i j := by
            obtain ⟨i', rfl⟩ : ∃ i', i = i' + 1 := ⟨i - 1, by omega⟩
            obtain ⟨j', rfl⟩ : ∃ j', j = j' + 1 := ⟨j - 1, by omega⟩
            rw [hg0, least3, W]; rfl
          simp only [go_sem, Pt.d, outerH, innerH, rO, pO, pL]
          refine wgoF (And.intro (@h2) (And.intro (@hgb) (And.intro (@p1) (And.intro (@p2) (And.intro (@m1) (And.intro (@e1) (And.intro (@e2) (And.intro (@hrj) (And.intro (@Pt.d.eq_1) (And.intro (@outerH.eq_1) (And.intro (@innerH.eq_1) (And.intro (@rO.eq_1) (And.intro (@pO.eq_1) (@pL.eq_1)))))))))))))) ?_
          refine wcallF (smallest (W (gp a b) (i - 1) (j - 1)) [W (gp a b) (i - 1) j, W (gp a b) i (j - 1)] (by simp)) (And.intro (@Pt.d.eq_1) (And.intro (@outerH.eq_1) (And.intro (@innerH.eq_1) (And.intro (@rO.eq_1) (And.intro (@pO.eq_1) (@pL.eq_1)))))) ?_
          refine wgoF (And.intro (@Pt.d.eq_1) (And.intro (@outerH.eq_1) (And.intro (@innerH.eq_1) (And.intro (@rO.eq_1) (And.intro (@pO.eq_1) (@pL.eq_1)))))) ?_
          refine wcallF (hgap) (And.intro (@Pt.d.eq_1) (And.intro (@outerH.eq_1) (And.intro (@innerH.eq_1) (And.intro (@rO.eq_1) (And.intro (@pO.eq_1) (@pL.eq_1)))))) ?_
          refine wgoF (And.intro (@hW) (And.intro (@e0) (And.intro (@Pt.d.eq_1) (And.intro (@outerH.eq_1) (And.intro (@innerH.eq_1) (And.intro (@rO.eq_1) (And.intro (@pO.eq_1) (@pL.eq_1)))))))) ?_
          exact wnxtF (ih ⟨(j + 1, z.set j (W (gp a b) i j)), by omega, by simpa using hz, key⟩) (And.intro (@Pt.d.eq_1) (And.intro (@outerH.eq_1) (And.intro (@innerH.eq_1) (And.intro (@rO.eq_1) (And.intro (@pO.eq_1) (@pL.eq_1))))))
    · have h2 : ¬ (j : Int) < b.length := by omega
      have hjm : j = b.length := by omega
      simp only [go_sem, Pt.d, outerH, innerH, rO, pO, pL]
      refine wgoF (And.intro (@h2) (And.intro (@Pt.d.eq_1) (And.intro (@outerH.eq_1) (And.intro (@innerH.eq_1) (And.intro (@rO.eq_1) (And.intro (@pO.eq_1) (@pL.eq_1))))))) ?_
      (apply Run.swap 22 25 (by omega) (by omega); (case hs => simp only [go_sem, Pt.d, outerH, innerH, rO, pO, pL]; rfl))
      exact wnxtF (ih0 ⟨(i + 1, z, r), by omega, hz, hr, fun i' hi' => ⟨hz, fun k hk => by rw [hzk k (by omega)]; congr 1; simpa using hi'⟩⟩) (And.intro (@Pt.d.eq_1) (And.intro (@outerH.eq_1) (And.intro (@innerH.eq_1) (And.intro (@rO.eq_1) (And.intro (@pO.eq_1) (@pL.eq_1))))))
  · have h1 : ¬ (i : Int) < a.length := by omega
    obtain ⟨hrl, hrk⟩ := hrow (a.length - 1) (by omega)
    have m1 : ((b.length : Int) - 1).toNat = b.length - 1 := by omega
    have e1 : (rI r).getD (b.length - 1) .any = .d (.int .i64 (dist a b)) := by rw [rI_get (by omega), hrk _ (by omega)]; rfl
    simp only [go_sem, Pt.d, outerH, innerH, rO, pO, pL]
    refine wgoF (And.intro (@h1) (And.intro (@m1) (And.intro (@e1) (And.intro (@Pt.d.eq_1) (And.intro (@outerH.eq_1) (And.intro (@innerH.eq_1) (And.intro (@rO.eq_1) (And.intro (@pO.eq_1) (@pL.eq_1))))))))) ?_
    exact wretF (And.intro (@Pt.d.eq_1) (And.intro (@outerH.eq_1) (And.intro (@innerH.eq_1) (And.intro (@rO.eq_1) (And.intro (@pO.eq_1) (@pL.eq_1))))))
end Go.Proofs.YtojgjdcciojpeaaGreat
set_option linter.unusedSimpArgs false
set_option linter.unusedVariables false
namespace Go.Proofs.YtojgjdcciojpeaaGreat
open Go Go.PS
set_option maxRecDepth 100000
set_option maxHeartbeats 4000000
def Pt.ok0 (p : Pt) : Prop := 0 ≤ p.x ∧ p.x ≤ 1000 ∧ 0 ≤ p.y ∧ p.y ≤ 1000
def okL0 (l : List Pt) : Prop := ∀ p ∈ l, p.ok0
theorem Pt.ok0.ok {p : Pt} (h : p.ok0) : p.ok := by obtain ⟨h1, h2, h3, h4⟩ := h; unfold Pt.ok; omega
theorem okL0.ok {l : List Pt} (h : okL0 l) : okL l := fun p hp => (h p hp).ok
theorem okL0_getD {l : List Pt} (h : okL0 l) (i : Nat) : (l.getD i default).ok0 := by
  by_cases hi : i < l.length
  · have e : l.getD i default = l[i] := by simp [hi]
    rw [e]; exact h _ (List.getElem_mem hi)
  · have e : l.getD i default = default := by simp [hi]
    rw [e]; unfold Pt.ok0; decide
theorem gap_bound0 {p q : Pt} (hp : p.ok0) (hq : q.ok0) : 0 ≤ gap p q ∧ gap p q ≤ 2000 := by
  obtain ⟨p1, p2, p3, p4⟩ := hp
  obtain ⟨q1, q2, q3, q4⟩ := hq
  unfold gap; omega
theorem Wg_bound0 {a b : List Pt} (ha : okL0 a) (hb : okL0 b) {i j : Nat} (hi : i ≤ 100) (hj : j ≤ 100) : 0 ≤ W (gp a b) i j ∧ W (gp a b) i j ≤ 1000000 := by
  obtain ⟨h1, h2⟩ := W_bound (g := gp a b) (B := 2000) (fun i j => gap_bound0 (okL0_getD ha i) (okL0_getD hb j)) (i + j) i j rfl
  refine ⟨h1, Int.le_trans h2 ?_⟩
  omega
def rowW (g : Nat → Nat → Int) (m i : Nat) : List Int := (List.range m).map (W g i)
theorem rowAt_eq {g : Nat → Nat → Int} {i m : Nat} {z : List Int} (h : RowAt g i m z) : z = rowW g m i := by
  apply List.ext_getElem?
  intro k
  obtain ⟨h1, h2⟩ := h
  by_cases hk : k < m
  · have := h2 k hk
    have e : z[k]? = some (z.getD k 0) := by simp [show k < z.length by omega]
    rw [e, this]; simp [rowW, hk]
  · rw [List.getElem?_eq_none (by omega), List.getElem?_eq_none (by simp [rowW]; omega)]
theorem rowW_len (g : Nat → Nat → Int) (m i : Nat) : (rowW g m i).length = m := by simp [rowW]
theorem rowW_get {g : Nat → Nat → Int} {m i k : Nat} (h : k < m) : (List.map iD (rowW g m i)).getD k .nilp = .int .i64 (W g i k) := by simp [rowW, h, iD]
def rowsO (R : List D) : OB := ⟨136, 1, R.map PV.ofD.PV.ofD1⟩
def rowsO' (R : List D) (i m : Nat) : OB := ⟨136, 1, (R.map PV.ofD.PV.ofD1).set i (.hrow 22 1 0 m m)⟩
def refOuterH (a b : List Pt) (i : Nat) (R : List D) : SL :=
  SL.mk [(0, pL a), (1, pL b), (5, .hrow 11 1 0 a.length a.length), (6, .d (.int .i64 i))] [(11, some (rowsO R))] []
def refInnerH (a b : List Pt) (i : Nat) (R : List D) (z : List Int) (j : Nat) : SL :=
  SL.mk [(0, pL a), (1, pL b), (5, .hrow 11 1 0 a.length a.length), (6, .d (.int .i64 i)), (7, .d (.int .i64 j))] [(11, some (rowsO' R i b.length)), (22, some (rO z))] []

theorem dist16 (a b : List Pt) (ha0 : okL0 a) (hb0 : okL0 b) (la : a.length ≤ 100) (lb : b.length ≤ 100) (na : 0 < a.length) (nb : 0 < b.length) :
    PCall Tryz.prog 97 [.sl 2 (a.map Pt.d), .sl 2 (b.map Pt.d)] (.int .i64 (dist a b)) := by
  have hna : ¬ ((a.length : Int) = 0) := by omega
  have hnb : ¬ ((b.length : Int) = 0) := by omega
  have ha := ha0.ok
  have hb := hb0.ok
  refine enterP tabOk Tryz.func97 105 [0, 1, 4, 5, 6, 7, 8, 15, 27, 35, 37, 49, 65] [.tmp 4] rfl (r := [_]) rfl (h := ?_); intro E hK; simp only [go_sem, Pt.d, refOuterH, refInnerH, rowsO, rowsO', rO, pO, pL]
  refine wgoF (And.intro (@hna) (And.intro (@hnb) (And.intro (@Pt.d.eq_1) (And.intro (@refOuterH.eq_1) (And.intro (@refInnerH.eq_1) (And.intro (@rowsO.eq_1) (And.intro (@rowsO'.eq_1) (And.intro (@rO.eq_1) (And.intro (@pO.eq_1) (@pL.eq_1)))))))))) ?_
  (apply Run.reOb 11 (List.map PV.ofD.PV.ofD1 (List.replicate a.length (D.sl 1 []))); (case ho => simp only [go_sem, Pt.d, refOuterH, refInnerH, rowsO, rowsO', rO, pO, pL]; rfl); (case h => exact reOb_nils _ _ _ _); (case hs => simp [PV.ofD.PV.ofD1, PV.cells]); (case hss => simp only [go_sem, Pt.d, refOuterH, refInnerH, rowsO, rowsO', rO, pO, pL]; rfl))
  refine wlpF (Run.loop (ι := { x : Nat × List D // x.1 ≤ a.length ∧ x.2.length = a.length ∧ (∀ i', i' < x.1 → x.2.getD i' .nilp = .sl 1 ((rowW (gp a b) b.length i').map iD)) ∧ ∀ i', x.1 ≤ i' → i' < a.length → x.2.getD i' .nilp = .sl 1 [] }) (H := fun i => refOuterH a b i.1.1 i.1.2) (μ := fun i => a.length - i.1.1) (i0 := ⟨(0, List.replicate a.length (D.sl 1 [])), by omega, by simp, by omega, fun i' _ hi' => by simp [hi']⟩)) (And.intro (@Pt.d.eq_1) (And.intro (@refOuterH.eq_1) (And.intro (@refInnerH.eq_1) (And.intro (@rowsO.eq_1) (And.intro (@rowsO'.eq_1) (And.intro (@rO.eq_1) (And.intro (@pO.eq_1) (@pL.eq_1)))))))) ?_
  rintro ⟨⟨i, R⟩, hi, hR, hRk, hRn⟩ ih0
  dsimp only at hi hR hRk hRn
  by_cases hlt : i < a.length
  · have h1 : (i : Int) < a.length := by omega
    have hga := pt_get hlt
    have eR : (List.map PV.ofD.PV.ofD1 R).getD i .any = .d (.sl 1 []) := by
      have := hRn i (Nat.le_refl _) hlt
      simp only [List.getD, List.getElem?_map] at this ⊢
      cases hg : R[i]? with
      | none => rw [hg] at this; cases this
      | some x => rw [hg] at this; simp only [Option.getD_some] at this; subst this; rfl
    have eii : (((List.map PV.ofD.PV.ofD1 R).set i (.hrow 22 1 0 b.length b.length)).getD i .any) = .hrow 22 1 0 b.length b.length := by simp [show i < R.length by omega]
    simp only [go_sem, Pt.d, refOuterH, refInnerH, rowsO, rowsO', rO, pO, pL]
    refine wgoF (And.intro (@h1) (And.intro (@hnb) (And.intro (@eR) (And.intro (@Pt.d.eq_1) (And.intro (@refOuterH.eq_1) (And.intro (@refInnerH.eq_1) (And.intro (@rowsO.eq_1) (And.intro (@rowsO'.eq_1) (And.intro (@rO.eq_1) (And.intro (@pO.eq_1) (@pL.eq_1))))))))))) ?_
    refine wlpF (Run.loop (ι := { x : Nat × List Int // x.1 ≤ b.length ∧ x.2.length = b.length ∧ ∀ k, k < x.1 → x.2.getD k 0 = W (gp a b) i k }) (H := fun j => refInnerH a b i R j.1.2 j.1.1) (μ := fun j => b.length - j.1.1) (i0 := ⟨(0, List.replicate b.length 0), by omega, by simp, by omega⟩)) (And.intro (@Pt.d.eq_1) (And.intro (@refOuterH.eq_1) (And.intro (@refInnerH.eq_1) (And.intro (@rowsO.eq_1) (And.intro (@rowsO'.eq_1) (And.intro (@rO.eq_1) (And.intro (@pO.eq_1) (@pL.eq_1)))))))) ?_
    rintro ⟨⟨j, z⟩, hj, hz, hzk⟩ ih
    dsimp only at hj hz hzk
    by_cases hjt : j < b.length
    · have h2 : (j : Int) < b.length := by omega
      have hgb := pt_get hjt
      have hgap := gap20 (a.getD i default) (b.getD j default) (okL_getD ha i) (okL_getD hb j)
      have hgb0 := gap_bound0 (okL0_getD ha0 i) (okL0_getD hb0 j)
      have hsz : j < z.length := by omega
      have key : ∀ k, k < j + 1 → (z.set j (W (gp a b) i j)).getD k 0 = W (gp a b) i k := by
        intro k hk
        rw [setI _ _ hsz]
        split
        · rename_i e; subst e; rfl
        · exact hzk k (by omega)
      have hW0 := Wg_bound0 ha0 hb0 (i := i) (j := j) (by omega) (by omega)
      have hW1 := Wg_bound0 ha0 hb0 (i := i - 1) (j := j) (by omega) (by omega)
      have hW2 := Wg_bound0 ha0 hb0 (i := i) (j := j - 1) (by omega) (by omega)
      have hW3 := Wg_bound0 ha0 hb0 (i := i - 1) (j := j - 1) (by omega) (by omega)
      have e0 : (rI z).getD j .any = .d (.int .i64 (z.getD j 0)) := rI_get hsz
      have hg0 : gap (a.getD i default) (b.getD j default) = gp a b i j := rfl
      by_cases hi0 : i = 0
      · have p0 : decide ((i : Int) = 0) = true := by simp; omega
        have p1 : ¬ (0 : Int) < (i : Int) := by omega
        by_cases hj0 : j = 0
        · have p2 : ¬ (0 : Int) < (j : Int) := by omega
          have p3 : decide ((j : Int) = 0) = true := by simp; omega
          have hW : 0 + gap (a.getD i default) (b.getD j default) = W (gp a b) i j := by
            have : W (gp a b) i j = gap (a.getD i default) (b.getD j default) := by subst hi0; subst hj0; rw [W]; rfl
            omega
          simp only [go_sem, Pt.d, refOuterH, refInnerH, rowsO, rowsO', rO, pO, pL]
          refine wgoF (And.intro (@h2) (And.intro (@hga) (And.intro (@hgb) (And.intro (@p0) (And.intro (@p1) (And.intro (@p2) (And.intro (@p3) (And.intro (@eii) (And.intro (@Pt.d.eq_1) (And.intro (@refOuterH.eq_1) (And.intro (@refInnerH.eq_1) (And.intro (@rowsO.eq_1) (And.intro (@rowsO'.eq_1) (And.intro (@rO.eq_1) (And.intro (@pO.eq_1) (@pL.eq_1)))))))))))))))) ?_
          refine wcallF (hgap) (And.intro (@Pt.d.eq_1) (And.intro (@refOuterH.eq_1) (And.intro (@refInnerH.eq_1) (And.intro (@rowsO.eq_1) (And.intro (@rowsO'.eq_1) (And.intro (@rO.eq_1) (And.intro (@pO.eq_1) (@pL.eq_1)))))))) ?_
          refine wgoF (And.intro (@hW) (And.intro (@e0) (And.intro (@Pt.d.eq_1) (And.intro (@refOuterH.eq_1) (And.intro (@refInnerH.eq_1) (And.intro (@rowsO.eq_1) (And.intro (@rowsO'.eq_1) (And.intro (@rO.eq_1) (And.intro (@pO.eq_1) (@pL.eq_1)))))))))) ?_
          exact wnxtF (ih ⟨(j + 1, z.set j (W (gp a b) i j)), by omega, by simpa using hz, key⟩) (And.intro (@Pt.d.eq_1) (And.intro (@refOuterH.eq_1) (And.intro (@refInnerH.eq_1) (And.intro (@rowsO.eq_1) (And.intro (@rowsO'.eq_1) (And.intro (@rO.eq_1) (And.intro (@pO.eq_1) (@pL.eq_1))))))))
        · have p2 : (0 : Int) < (j : Int) := by omega
          have p3 : ¬ (j : Int) = 0 := by omega
          have m1 : ((j : Int) - 1).toNat = j - 1 := by omega
          have e1 : (rI z).getD (j - 1) .any = .d (.int .i64 (W (gp a b) i (j - 1))) := by rw [rI_get (by omega), hzk _ (by omega)]
          have hW : min 1000000 (W (gp a b) i (j - 1)) + gap (a.getD i default) (b.getD j default) = W (gp a b) i j := by
            have : W (gp a b) i j = W (gp a b) i (j - 1) + gap (a.getD i default) (b.getD j default) := by
              obtain ⟨j', rfl⟩ : ∃ j', j = j' + 1 := ⟨j - 1, by omega⟩
              subst hi0
              rw [hg0, W]; rfl
            omega
          simp only [go_sem, Pt.d, refOuterH, refInnerH, rowsO, rowsO', rO, pO, pL]
          refine wgoF (And.intro (@h2) (And.intro (@hga) (And.intro (@hgb) (And.intro (@p0) (And.intro (@p1) (And.intro (@p2) (And.intro (@p3) (And.intro (@eii) (And.intro (@m1) (And.intro (@e1) (And.intro (@Pt.d.eq_1) (And.intro (@refOuterH.eq_1) (And.intro (@refInnerH.eq_1) (And.intro (@rowsO.eq_1) (And.intro (@rowsO'.eq_1) (And.intro (@rO.eq_1) (And.intro (@pO.eq_1) (@pL.eq_1)))))))))))))))))) ?_
          refine wcallF (hgap) (And.intro (@Pt.d.eq_1) (And.intro (@refOuterH.eq_1) (And.intro (@refInnerH.eq_1) (And.intro (@rowsO.eq_1) (And.intro (@rowsO'.eq_1) (And.intro (@rO.eq_1) (And.intro (@pO.eq_1) (@pL.eq_1)))))))) ?_
          refine wgoF (And.intro (@hW) (And.intro (@e0) (And.intro (@Pt.d.eq_1) (And.intro (@refOuterH.eq_1) (And.intro (@refInnerH.eq_1) (And.intro (@rowsO.eq_1) (And.intro (@rowsO'.eq_1) (And.intro (@rO.eq_1) (And.intro (@pO.eq_1) (@pL.eq_1)))))))))) ?_
          exact wnxtF (ih ⟨(j + 1, z.set j (W (gp a b) i j)), by omega, by simpa using hz, key⟩) (And.intro (@Pt.d.eq_1) (And.intro (@refOuterH.eq_1) (And.intro (@refInnerH.eq_1) (And.intro (@rowsO.eq_1) (And.intro (@rowsO'.eq_1) (And.intro (@rO.eq_1) (And.intro (@pO.eq_1) (@pL.eq_1))))))))
      · have p0 : ¬ (i : Int) = 0 := by omega
        have p1 : (0 : Int) < (i : Int) := by omega
        have m2 : ((i : Int) - 1).toNat = i - 1 := by omega
        have eim : (((List.map PV.ofD.PV.ofD1 R).set i (.hrow 22 1 0 b.length b.length)).getD (i - 1) .any) = .d (.sl 1 ((rowW (gp a b) b.length (i - 1)).map iD)) := by
          have := hRk (i - 1) (by omega)
          simp only [List.getD, List.getElem?_set, List.getElem?_map] at this ⊢
          rw [if_neg (by omega)]
          cases hg : R[i - 1]? with
          | none => rw [hg] at this; cases this
          | some x => rw [hg] at this; simp only [Option.getD_some] at this; subst this; rfl
        have hrl : ((rowW (gp a b) b.length (i - 1)).map iD).length = b.length := by rw [List.length_map, rowW_len]
        have hrj := rowW_get (g := gp a b) (i := i - 1) hjt
        by_cases hj0 : j = 0
        · have p2 : ¬ (0 : Int) < (j : Int) := by omega
          have p3 : decide ((j : Int) = 0) = true := by simp; omega
          have hW : min 1000000 (W (gp a b) (i - 1) j) + gap (a.getD i default) (b.getD j default) = W (gp a b) i j := by
            have : W (gp a b) i j = W (gp a b) (i - 1) j + gap (a.getD i default) (b.getD j default) := by
              obtain ⟨i', rfl⟩ : ∃ i', i = i' + 1 := ⟨i - 1, by omega⟩
              subst hj0
              rw [hg0, W]; rfl
            omega
          simp only [go_sem, Pt.d, refOuterH, refInnerH, rowsO, rowsO', rO, pO, pL]
          refine wgoF (And.intro (@h2) (And.intro (@hga) (And.intro (@hgb) (And.intro (@p0) (And.intro (@p1) (And.intro (@p2) (And.intro (@p3) (And.intro (@eii) (And.intro (@eim) (And.intro (@m2) (And.intro (@hrj) (And.intro (@rowW_len) (And.intro (@Pt.d.eq_1) (And.intro (@refOuterH.eq_1) (And.intro (@refInnerH.eq_1) (And.intro (@rowsO.eq_1) (And.intro (@rowsO'.eq_1) (And.intro (@rO.eq_1) (And.intro (@pO.eq_1) (@pL.eq_1)))))))))))))))))))) ?_
          refine wcallF (hgap) (And.intro (@Pt.d.eq_1) (And.intro (@refOuterH.eq_1) (And.intro (@refInnerH.eq_1) (And.intro (@rowsO.eq_1) (And.intro (@rowsO'.eq_1) (And.intro (@rO.eq_1) (And.intro (@pO.eq_1) (@pL.eq_1)))))))) ?_
          refine wgoF (And.intro (@hW) (And.intro (@e0) (And.intro (@Pt.d.eq_1) (And.intro (@refOuterH.eq_1) (And.intro (@refInnerH.eq_1) (And.intro (@rowsO.eq_1) (And.intro (@rowsO'.eq_1) (And.intro (@rO.eq_1) (And.intro (@pO.eq_1) (@pL.eq_1)))))))))) ?_
          exact wnxtF (ih ⟨(j + 1, z.set j (W (gp a b) i j)), by omega, by simpa using hz, key⟩) (And.intro (@Pt.d.eq_1) (And.intro (@refOuterH.eq_1) (And.intro (@refInnerH.eq_1) (And.intro (@rowsO.eq_1) (And.intro (@rowsO'.eq_1) (And.intro (@rO.eq_1) (And.intro (@pO.eq_1) (@pL.eq_1))))))))
        · have p2 : (0 : Int) < (j : Int) := by omega
          have p3 : ¬ (j : Int) = 0 := by omega
          have m1 : ((j : Int) - 1).toNat = j - 1 := by omega
          have e1 : (rI z).getD (j - 1) .any = .d (.int .i64 (W (gp a b) i (j - 1))) := by rw [rI_get (by omega), hzk _ (by omega)]
          have hrm := rowW_get (g := gp a b) (i := i - 1) (show j - 1 < b.length by omega)
          have hW : min (min (min 1000000 (W (gp a b) (i - 1) j)) (W (gp a b) i (j - 1))) (W (gp a b) (i - 1) (j - 1)) + gap (a.getD i default) (b.getD j default) = W (gp a b) i j := by
            have : W (gp a b) i j = min (W (gp a b) (i - 1) (j - 1)) (min (W (gp a b) (i - 1) j) (W (gp a b) i (j - 1))) + gap (a.getD i default) (b.getD j default) := by
              obtain ⟨i', rfl⟩ : ∃ i', i = i' + 1 := ⟨i - 1, by omega⟩
              obtain ⟨j', rfl⟩ : ∃ j', j = j' + 1 := ⟨j - 1, by omega⟩
              rw [hg0, W]; rfl
            omega
          simp only [go_sem, Pt.d, refOuterH, refInnerH, rowsO, rowsO', rO, pO, pL]
          refine wgoF (And.intro (@h2) (And.intro (@hga) (And.intro (@hgb) (And.intro (@p0) (And.intro (@p1) (And.intro (@p2) (And.intro (@p3) (And.intro (@eii) (And.intro (@eim) (And.intro (@m1) (And.intro (@m2) (And.intro (@e1) (And.intro (@hrj) (And.intro (@hrm) (And.intro (@rowW_len) (And.intro (@Pt.d.eq_1) (And.intro (@refOuterH.eq_1) (And.intro (@refInnerH.eq_1) (And.intro (@rowsO.eq_1) (And.intro (@rowsO'.eq_1) (And.intro (@rO.eq_1) (And.intro (@pO.eq_1) (@pL.eq_1))))))))))))))))))))))) ?_
          refine wcallF (hgap) (And.intro (@Pt.d.eq_1) (And.intro (@refOuterH.eq_1) (And.intro (@refInnerH.eq_1) (And.intro (@rowsO.eq_1) (And.intro (@rowsO'.eq_1) (And.intro (@rO.eq_1) (And.intro (@pO.eq_1) (@pL.eq_1)))))))) ?_
          refine wgoF (And.intro (@hW) (And.intro (@e0) (And.intro (@Pt.d.eq_1) (And.intro (@refOuterH.eq_1) (And.intro (@refInnerH.eq_1) (And.intro (@rowsO.eq_1) (And.intro (@rowsO'.eq_1) (And.intro (@rO.eq_1) (And.intro (@pO.eq_1) (@pL.eq_1)))))))))) ?_
          exact wnxtF (ih ⟨(j + 1, z.set j (W (gp a b) i j)), by omega, by simpa using hz, key⟩) (And.intro (@Pt.d.eq_1) (And.intro (@refOuterH.eq_1) (And.intro (@refInnerH.eq_1) (And.intro (@rowsO.eq_1) (And.intro (@rowsO'.eq_1) (And.intro (@rO.eq_1) (And.intro (@pO.eq_1) (@pL.eq_1))))))))
    · have h2 : ¬ (j : Int) < b.length := by omega
      have hjm : j = b.length := by omega
      have hze : z = rowW (gp a b) b.length i := rowAt_eq ⟨hz, fun k hk => hzk k (by omega)⟩
      subst hze
      simp only [go_sem, Pt.d, refOuterH, refInnerH, rowsO, rowsO', rO, pO, pL]
      refine wgoF (And.intro (@h2) (And.intro (@Pt.d.eq_1) (And.intro (@refOuterH.eq_1) (And.intro (@refInnerH.eq_1) (And.intro (@rowsO.eq_1) (And.intro (@rowsO'.eq_1) (And.intro (@rO.eq_1) (And.intro (@pO.eq_1) (@pL.eq_1))))))))) ?_
      rw [rI_ofD1]
      have htk : List.take b.length (List.map iD (rowW (gp a b) b.length i)) = List.map iD (rowW (gp a b) b.length i) := List.take_of_length_le (by rw [List.length_map, rowW_len]; exact Nat.le_refl _)
      have hle : 0 + b.length ≤ (List.map iD (rowW (gp a b) b.length i)).length := by rw [List.length_map, rowW_len]; omega
      have hset : ∀ i', (R.set i (D.sl 1 (List.map iD (rowW (gp a b) b.length i)))).getD i' .nilp = if i' = i then D.sl 1 (List.map iD (rowW (gp a b) b.length i)) else R.getD i' .nilp := by
        intro i'
        simp only [List.getD, List.getElem?_set]
        by_cases hii : i = i'
        · subst hii; simp [show i < R.length by omega]
        · rw [if_neg hii, if_neg (Ne.symm hii)]
      (apply Run.freezeRow 22; (case ho => simp only [go_sem, Pt.d, refOuterH, refInnerH, rowsO, rowsO', rO, pO, pL]; rfl); (case hsz => intro e he; obtain ⟨x, _, rfl⟩ := List.mem_map.1 he; rfl); (case hit => rfl); (case hs => simp only [go_sem, Pt.d, refOuterH, refInnerH, rowsO, rowsO', rO, pO, pL]; rfl))
      rw [frz_rowIn _ _ _ _ _ _ _ _ _ hle]
      simp only [go_sem, Pt.d, refOuterH, refInnerH, rowsO, rowsO', rO, pO, pL]
      exact wnxtF (ih0 ⟨(i + 1, R.set i (D.sl 1 (List.map iD (rowW (gp a b) b.length i)))), by omega, by simpa using hR, fun i' hi' => by rw [hset]; split; (· rename_i e; rw [e]); exact hRk i' (by omega), fun i' h1 h2 => by rw [hset, if_neg (by omega)]; exact hRn i' (by omega) h2⟩) (And.intro (@htk) (And.intro (@Pt.d.eq_1) (And.intro (@refOuterH.eq_1) (And.intro (@refInnerH.eq_1) (And.intro (@rowsO.eq_1) (And.intro (@rowsO'.eq_1) (And.intro (@rO.eq_1) (And.intro (@pO.eq_1) (@pL.eq_1)))))))))
  · have h1 : ¬ (i : Int) < a.length := by omega
    have m1 : ((a.length : Int) - 1).toNat = a.length - 1 := by omega
    have m2 : ((b.length : Int) - 1).toNat = b.length - 1 := by omega
    have eim : (List.map PV.ofD.PV.ofD1 R).getD (a.length - 1) .any = .d (.sl 1 ((rowW (gp a b) b.length (a.length - 1)).map iD)) := by
      have := hRk (a.length - 1) (by omega)
      simp only [List.getD, List.getElem?_map] at this ⊢
      cases hg : R[a.length - 1]? with
      | none => rw [hg] at this; cases this
      | some x => rw [hg] at this; simp only [Option.getD_some] at this; subst this; rfl
    have hrm := rowW_get (g := gp a b) (i := a.length - 1) (show b.length - 1 < b.length by omega)
    have hd : W (gp a b) (a.length - 1) (b.length - 1) = dist a b := rfl
    simp only [go_sem, Pt.d, refOuterH, refInnerH, rowsO, rowsO', rO, pO, pL]
    refine wgoF (And.intro (@h1) (And.intro (@m1) (And.intro (@m2) (And.intro (@eim) (And.intro (@hrm) (And.intro (@rowW_len) (And.intro (@Pt.d.eq_1) (And.intro (@refOuterH.eq_1) (And.intro (@refInnerH.eq_1) (And.intro (@rowsO.eq_1) (And.intro (@rowsO'.eq_1) (And.intro (@rO.eq_1) (And.intro (@pO.eq_1) (@pL.eq_1)))))))))))))) ?_
    exact wretF (And.intro (@hd) (And.intro (@Pt.d.eq_1) (And.intro (@refOuterH.eq_1) (And.intro (@refInnerH.eq_1) (And.intro (@rowsO.eq_1) (And.intro (@rowsO'.eq_1) (And.intro (@rO.eq_1) (And.intro (@pO.eq_1) (@pL.eq_1)))))))))
end Go.Proofs.YtojgjdcciojpeaaGreat
set_option linter.unusedSimpArgs false
set_option linter.unusedVariables false
namespace Go.Proofs.YtojgjdcciojpeaaGreat
open Go Go.PS
set_option maxRecDepth 100000
set_option maxHeartbeats 4000000
def validB (p : List Pt) : Bool := decide (2 ≤ p.length) && decide (p.length ≤ 12) && p.all Pt.inB
def v19H (p : List Pt) (k : Nat) : SL := SL.mk [(13, pL p), (14, .d (.int .i64 p.length)), (15, .d (.int .i64 k))] [] []

theorem valid19 (p : List Pt) : PCall Tryz.prog 131 [.sl 2 (p.map Pt.d)] (.bool (validB p)) := by
  by_cases hl : (p.length : Int) < 2
  · have hr : validB p = false := by simp [validB]; omega
    refine enterP tabOk Tryz.func131 38 [0, 2, 4, 12, 13, 14, 15, 16, 36] [.tmp 2] rfl (r := [_]) rfl (h := ?_); intro E hK; simp only [go_sem, Pt.d, pL, v19H]
    refine wgoF (And.intro (@hl) (And.intro (@Pt.d.eq_1) (And.intro (@pL.eq_1) (@v19H.eq_1)))) ?_
    exact wretF (And.intro (@hr) (And.intro (@Pt.d.eq_1) (And.intro (@pL.eq_1) (@v19H.eq_1))))
  · by_cases hm : (12 : Int) < p.length
    · have hr : validB p = false := by simp [validB]; omega
      refine enterP tabOk Tryz.func131 38 [0, 2, 4, 12, 13, 14, 15, 16, 36] [.tmp 2] rfl (r := [_]) rfl (h := ?_); intro E hK; simp only [go_sem, Pt.d, pL, v19H]
      refine wgoF (And.intro (@hl) (And.intro (@hm) (And.intro (@Pt.d.eq_1) (And.intro (@pL.eq_1) (@v19H.eq_1))))) ?_
      exact wretF (And.intro (@hr) (And.intro (@Pt.d.eq_1) (And.intro (@pL.eq_1) (@v19H.eq_1))))
    · refine enterP tabOk Tryz.func131 38 [0, 2, 4, 12, 13, 14, 15, 16, 36] [.tmp 2] rfl (r := [_]) rfl (h := ?_); intro E hK; simp only [go_sem, Pt.d, pL, v19H]
      refine wgoF (And.intro (@hl) (And.intro (@hm) (And.intro (@Pt.d.eq_1) (And.intro (@pL.eq_1) (@v19H.eq_1))))) ?_
      refine wlpF (Run.loop (ι := { k : Nat // k ≤ p.length ∧ (p.take k).all Pt.inB = true }) (H := fun i => v19H p i.1) (μ := fun i => p.length - i.1) (i0 := ⟨0, by omega, by simp⟩)) (And.intro (@Pt.d.eq_1) (And.intro (@pL.eq_1) (@v19H.eq_1))) ?_
      rintro ⟨k, hk, hall⟩ ih
      by_cases hlt : k < p.length
      · have h1 : (k : Int) < p.length := by omega
        have hget := pt_get hlt
        have hout : (p.getD k default).inB = false → validB p = false := fun h => by simp [validB, all_out hlt h]
        by_cases c1 : (p.getD k default).x < 0
        · have hr := hout (inB_out (.inl c1))
          simp only [go_sem, Pt.d, pL, v19H]
          refine wgoF (And.intro (@h1) (And.intro (@hget) (And.intro (@c1) (And.intro (@Pt.d.eq_1) (And.intro (@pL.eq_1) (@v19H.eq_1)))))) ?_
          exact wretF (And.intro (@hr) (And.intro (@Pt.d.eq_1) (And.intro (@pL.eq_1) (@v19H.eq_1))))
        · by_cases c2 : 1000 < (p.getD k default).x
          · have hr := hout (inB_out (.inr (.inl c2)))
            simp only [go_sem, Pt.d, pL, v19H]
            refine wgoF (And.intro (@h1) (And.intro (@hget) (And.intro (@c1) (And.intro (@c2) (And.intro (@Pt.d.eq_1) (And.intro (@pL.eq_1) (@v19H.eq_1))))))) ?_
            exact wretF (And.intro (@hr) (And.intro (@Pt.d.eq_1) (And.intro (@pL.eq_1) (@v19H.eq_1))))
          · by_cases c3 : (p.getD k default).y < 0
            · have hr := hout (inB_out (.inr (.inr (.inl c3))))
              simp only [go_sem, Pt.d, pL, v19H]
              refine wgoF (And.intro (@h1) (And.intro (@hget) (And.intro (@c1) (And.intro (@c2) (And.intro (@c3) (And.intro (@Pt.d.eq_1) (And.intro (@pL.eq_1) (@v19H.eq_1)))))))) ?_
              exact wretF (And.intro (@hr) (And.intro (@Pt.d.eq_1) (And.intro (@pL.eq_1) (@v19H.eq_1))))
            · by_cases c4 : 1000 < (p.getD k default).y
              · have hr := hout (inB_out (.inr (.inr (.inr c4))))
                simp only [go_sem, Pt.d, pL, v19H]
                refine wgoF (And.intro (@h1) (And.intro (@hget) (And.intro (@c1) (And.intro (@c2) (And.intro (@c3) (And.intro (@c4) (And.intro (@Pt.d.eq_1) (And.intro (@pL.eq_1) (@v19H.eq_1))))))))) ?_
                exact wretF (And.intro (@hr) (And.intro (@Pt.d.eq_1) (And.intro (@pL.eq_1) (@v19H.eq_1))))
              · have hin := all_take hlt hall (inB_in c1 c2 c3 c4)
                simp only [go_sem, Pt.d, pL, v19H]
                refine wgoF (And.intro (@h1) (And.intro (@hget) (And.intro (@c1) (And.intro (@c2) (And.intro (@c3) (And.intro (@c4) (And.intro (@Pt.d.eq_1) (And.intro (@pL.eq_1) (@v19H.eq_1))))))))) ?_
                exact wnxtF (ih ⟨k + 1, by omega, hin⟩) (And.intro (@Pt.d.eq_1) (And.intro (@pL.eq_1) (@v19H.eq_1)))
      · have h1 : ¬ (k : Int) < p.length := by omega
        have hkl : p.take k = p := List.take_of_length_le (by omega)
        have hr : validB p = true := by rw [hkl] at hall; simp only [validB, hall, Bool.and_true, Bool.and_eq_true, decide_eq_true_eq]; omega
        simp only [go_sem, Pt.d, pL, v19H]
        refine wgoF (And.intro (@h1) (And.intro (@Pt.d.eq_1) (And.intro (@pL.eq_1) (@v19H.eq_1)))) ?_
        exact wretF (And.intro (@hr) (And.intro (@Pt.d.eq_1) (And.intro (@pL.eq_1) (@v19H.eq_1))))
def v18H (p : List Pt) (k : Nat) : SL := SL.mk [(0, pL p), (3, .d (.int .i64 k))] [] []

theorem valid18 (p : List Pt) (hl0 : p.length ≤ 1000000) : PCall Tryz.prog 69 [.sl 2 (p.map Pt.d)] (.bool (validB p)) := by
  refine enterP tabOk Tryz.func69 48 [0, 2, 3, 7, 39] [.tmp 2] rfl (r := [_]) rfl (h := ?_); intro E hK; simp only [go_sem, Pt.d, pL, v18H]
  refine wgoF (And.intro (@Pt.d.eq_1) (And.intro (@pL.eq_1) (@v18H.eq_1))) ?_
  refine wlpF (Run.loop (ι := { k : Nat // k ≤ p.length ∧ (p.take k).all Pt.inB = true }) (H := fun i => v18H p i.1) (μ := fun i => p.length - i.1) (i0 := ⟨0, by omega, by simp⟩)) (And.intro (@Pt.d.eq_1) (And.intro (@pL.eq_1) (@v18H.eq_1))) ?_
  rintro ⟨k, hk, hall⟩ ih
  by_cases hlt : k < p.length
  · have h1 : (k : Int) < p.length := by omega
    have hget := pt_get hlt
    have hout : (p.getD k default).inB = false → validB p = false := fun h => by simp [validB, all_out hlt h]
    by_cases c1 : (p.getD k default).x < 0
    · have hr := hout (inB_out (.inl c1))
      simp only [go_sem, Pt.d, pL, v18H]
      refine wgoF (And.intro (@h1) (And.intro (@hget) (And.intro (@c1) (And.intro (@Pt.d.eq_1) (And.intro (@pL.eq_1) (@v18H.eq_1)))))) ?_
      exact wretF (And.intro (@hr) (And.intro (@Pt.d.eq_1) (And.intro (@pL.eq_1) (@v18H.eq_1))))
    · by_cases c2 : 1000 < (p.getD k default).x
      · have hr := hout (inB_out (.inr (.inl c2)))
        simp only [go_sem, Pt.d, pL, v18H]
        refine wgoF (And.intro (@h1) (And.intro (@hget) (And.intro (@c1) (And.intro (@c2) (And.intro (@Pt.d.eq_1) (And.intro (@pL.eq_1) (@v18H.eq_1))))))) ?_
        exact wretF (And.intro (@hr) (And.intro (@Pt.d.eq_1) (And.intro (@pL.eq_1) (@v18H.eq_1))))
      · by_cases c3 : (p.getD k default).y < 0
        · have hr := hout (inB_out (.inr (.inr (.inl c3))))
          simp only [go_sem, Pt.d, pL, v18H]
          refine wgoF (And.intro (@h1) (And.intro (@hget) (And.intro (@c1) (And.intro (@c2) (And.intro (@c3) (And.intro (@Pt.d.eq_1) (And.intro (@pL.eq_1) (@v18H.eq_1)))))))) ?_
          exact wretF (And.intro (@hr) (And.intro (@Pt.d.eq_1) (And.intro (@pL.eq_1) (@v18H.eq_1))))
        · by_cases c4 : 1000 < (p.getD k default).y
          · have hr := hout (inB_out (.inr (.inr (.inr c4))))
            simp only [go_sem, Pt.d, pL, v18H]
            refine wgoF (And.intro (@h1) (And.intro (@hget) (And.intro (@c1) (And.intro (@c2) (And.intro (@c3) (And.intro (@c4) (And.intro (@Pt.d.eq_1) (And.intro (@pL.eq_1) (@v18H.eq_1))))))))) ?_
            exact wretF (And.intro (@hr) (And.intro (@Pt.d.eq_1) (And.intro (@pL.eq_1) (@v18H.eq_1))))
          · have hin := all_take hlt hall (inB_in c1 c2 c3 c4)
            simp only [go_sem, Pt.d, pL, v18H]
            refine wgoF (And.intro (@h1) (And.intro (@hget) (And.intro (@c1) (And.intro (@c2) (And.intro (@c3) (And.intro (@c4) (And.intro (@Pt.d.eq_1) (And.intro (@pL.eq_1) (@v18H.eq_1))))))))) ?_
            exact wnxtF (ih ⟨k + 1, by omega, hin⟩) (And.intro (@Pt.d.eq_1) (And.intro (@pL.eq_1) (@v18H.eq_1)))
  · have h1 : ¬ (k : Int) < p.length := by omega
    have hkl : p.take k = p := List.take_of_length_le (by omega)
    rw [hkl] at hall
    by_cases hl : (2 : Int) ≤ p.length
    · by_cases hm : (p.length : Int) ≤ 12
      · have hr : validB p = true := by simp only [validB, hall, Bool.and_true, Bool.and_eq_true, decide_eq_true_eq]; omega
        simp only [go_sem, Pt.d, pL, v18H]
        refine wgoF (And.intro (@h1) (And.intro (@hl) (And.intro (@hm) (And.intro (@Pt.d.eq_1) (And.intro (@pL.eq_1) (@v18H.eq_1)))))) ?_
        exact wretF (And.intro (@hr) (And.intro (@Pt.d.eq_1) (And.intro (@pL.eq_1) (@v18H.eq_1))))
      · have hr : validB p = false := by simp [validB]; omega
        simp only [go_sem, Pt.d, pL, v18H]
        refine wgoF (And.intro (@h1) (And.intro (@hl) (And.intro (@hm) (And.intro (@Pt.d.eq_1) (And.intro (@pL.eq_1) (@v18H.eq_1)))))) ?_
        exact wretF (And.intro (@hr) (And.intro (@Pt.d.eq_1) (And.intro (@pL.eq_1) (@v18H.eq_1))))
    · have hr : validB p = false := by simp [validB]; omega
      simp only [go_sem, Pt.d, pL, v18H]
      refine wgoF (And.intro (@h1) (And.intro (@hl) (And.intro (@Pt.d.eq_1) (And.intro (@pL.eq_1) (@v18H.eq_1))))) ?_
      exact wretF (And.intro (@hr) (And.intro (@Pt.d.eq_1) (And.intro (@pL.eq_1) (@v18H.eq_1))))
end Go.Proofs.YtojgjdcciojpeaaGreat
set_option linter.unusedSimpArgs false
set_option linter.unusedVariables false
namespace Go.Proofs.YtojgjdcciojpeaaGreat
open Go Go.PS
set_option maxRecDepth 100000
set_option maxHeartbeats 4000000
structure Tpl where
  key : Int
  p : List Pt
  deriving Inhabited
def Tpl.d (t : Tpl) : D := .agg [.int .u8 t.key, .sl 2 (t.p.map Pt.d)]
end Go.Proofs.YtojgjdcciojpeaaGreat
