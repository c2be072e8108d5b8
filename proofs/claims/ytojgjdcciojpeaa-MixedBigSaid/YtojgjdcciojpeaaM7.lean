/-
  A part of the walks of this seat: each theorem says what a function of the program gives. No condition beyond its own premises.
-/
import Derived.Test.YtojgjdcciojpeaaM6
set_option linter.unusedSimpArgs false
set_option linter.unusedVariables false
namespace Go.Proofs.Ytojgjdcciojpeaa
open Go Go.PS
set_option maxRecDepth 100000
set_option maxHeartbeats 4000000
/-- What an event's slots are, where t and s are those of a touch and of a stroke. -/
def slotE (cs : List Ck) (t s : List Ch × Int) (e : Ev) : List (List Ch) × Int :=
  if validE e = false then ([], 10) else if e.kind = 1 then (typedF e.keys, 0) else if e.kind = 2 then chordR cs e.keys
  else if e.kind = 3 then wrapS t else if e.kind = 4 then wrapS s else if e.kind = 5 then (typedF e.text, 0) else ([], 10)
theorem valid_kind {e : Ev} (h : validE e = true) : 1 ≤ e.kind ∧ e.kind ≤ 12 := by
  unfold validE at h
  split at h
  · omega
  split at h
  · omega
  split at h
  · omega
  split at h
  · omega
  split at h
  · omega
  split at h
  · omega
  split at h
  · omega
  split at h
  · omega
  · cases h
theorem valid_one {e : Ev} (h : validE e = true) (h3 : e.kind = 3) : e.p.length = 1 ∧ inL e.p = true := by
  unfold validE at h
  rw [if_neg (by omega), if_neg (by omega), if_pos h3] at h
  simp only [Bool.and_eq_true, decide_eq_true_eq] at h
  exact ⟨by omega, h.1.1.1.1.2⟩
theorem valid_keys {e : Ev} (h : validE e = true) (h1 : e.kind = 1) : e.keys.length = 1 := by
  unfold validE at h
  rw [if_pos h1] at h
  simp only [Bool.and_eq_true, decide_eq_true_eq] at h
  omega
theorem valid_text {e : Ev} (h : validE e = true) (h1 : e.kind = 5) : 1 ≤ e.text.length ∧ e.text.length ≤ 20 ∧ lets e.text = true := by
  unfold validE at h
  rw [if_neg (by omega), if_neg (by omega), if_neg (by omega), if_neg (by omega), if_pos h1] at h
  simp only [Bool.and_eq_true, decide_eq_true_eq] at h
  exact ⟨by omega, by omega, h.1.1.1.1.2⟩
theorem slot19 (b : Brd) (tz : Nat) (tp : List D) (e : Ev) (hl : e.lok) (hc : ckOk b.cs) (t s : List Ch × Int)
    (hT : validE e = true → e.kind = 3 → PCall Try.prog 29 [b.d, .sl tz tp, (e.p.getD 0 default).d] (.tup [slD t.1, .int .i64 t.2]))
    (hS : validE e = true → e.kind = 4 → PCall Try.prog 30 [b.d, .sl 2 (e.p.map Pt.d)] (.tup [slD s.1, .int .i64 s.2])) :
    PCall Try.prog 11 [b.d, .sl tz tp, e.d] (rD (slotE b.cs t s e)) := by
  have hv := valid62 e hl
  cases hve : validE e with
  | false =>
    rw [hve] at hv
    have hr : slotE b.cs t s e = ([], 10) := by rw [slotE, if_pos hve]
    refine enterP tabOk Try.func11 38 [0, 1, 2, 3, 5, 6, 7, 8, 11, 27] [.tmp 6, .tmp 7] rfl (r := [_, _]) rfl (h := ?_); intro E hK; simp only [go_sem]
    refine wgoF (And.intro (@Brd.d.eq_1) (@Ev.d.eq_1)) ?_
    refine wcallF (hv) (@Ev.d.eq_1) ?_
    refine wgo ?_
    exact wretF (And.intro (@rD.eq_1) (And.intro (@hr) (@slsD.eq_1)))
  | true =>
    rw [hve] at hv
    have hkk := valid_kind hve
    have hne : ¬ validE e = false := by rw [hve]; simp
    have k86 := key86 b (.sl tz tp) e
    have k87 := chord87 b (.sl tz tp) e hc
    have k90 := paste90 b (.sl tz tp) e
    have k89 := fun h => drawing89 b (.sl tz tp) e s (hS hve h)
    have k88 := fun h => touch88 b tz tp e (by have := (valid_one hve h).1; omega) t (hT hve h)
    have q1 := valid_keys hve
    have q5 := valid_text hve
    obtain ⟨k, keys, p, text, n, l⟩ := e
    dsimp only at hkk k88 k89 q1 q5
    by_cases h1 : k = 1
    · subst h1
      have hr : slotE b.cs t s ⟨1, keys, p, text, n, l⟩ = (typedF keys, 0) := by rw [slotE, if_neg hne, if_pos rfl]
      have k86 := k86 (by have := q1 rfl; show keys.length ≤ 100000; omega)
      refine enterP tabOk Try.func11 38 [0, 1, 2, 3, 5, 6, 7, 8, 11, 27] [.tmp 6, .tmp 7] rfl (r := [_, _]) rfl (h := ?_); intro E hK; simp only [go_sem]
      refine wgoF (And.intro (@Brd.d.eq_1) (@Ev.d.eq_1)) ?_
      refine wcallF (hv) (@Ev.d.eq_1) ?_
      refine wgo ?_
      refine wcall (makers63) ?_
      refine wgoF (@mkD.eq_1) ?_
      refine wcallF (k86) (And.intro (@Ev.d.eq_1) (@Brd.d.eq_1)) ?_
      refine wgoF (@rD.eq_1) ?_
      exact wretF (And.intro (@rD.eq_1) (@hr))
    by_cases h2 : k = 2
    · subst h2
      have hr : slotE b.cs t s ⟨2, keys, p, text, n, l⟩ = chordR b.cs keys := by rw [slotE, if_neg hne, if_neg (by dsimp only; omega), if_pos rfl]
      refine enterP tabOk Try.func11 38 [0, 1, 2, 3, 5, 6, 7, 8, 11, 27] [.tmp 6, .tmp 7] rfl (r := [_, _]) rfl (h := ?_); intro E hK; simp only [go_sem]
      refine wgoF (And.intro (@Brd.d.eq_1) (@Ev.d.eq_1)) ?_
      refine wcallF (hv) (@Ev.d.eq_1) ?_
      refine wgo ?_
      refine wcall (makers63) ?_
      refine wgoF (@mkD.eq_1) ?_
      refine wcallF (k87) (And.intro (@Ev.d.eq_1) (@Brd.d.eq_1)) ?_
      refine wgoF (@rD.eq_1) ?_
      exact wretF (And.intro (@rD.eq_1) (@hr))
    by_cases h3 : k = 3
    · subst h3
      have hr : slotE b.cs t s ⟨3, keys, p, text, n, l⟩ = wrapS t := by rw [slotE, if_neg hne, if_neg (by dsimp only; omega), if_neg (by dsimp only; omega), if_pos rfl]
      have k88 := k88 rfl
      refine enterP tabOk Try.func11 38 [0, 1, 2, 3, 5, 6, 7, 8, 11, 27] [.tmp 6, .tmp 7] rfl (r := [_, _]) rfl (h := ?_); intro E hK; simp only [go_sem]
      refine wgoF (And.intro (@Brd.d.eq_1) (@Ev.d.eq_1)) ?_
      refine wcallF (hv) (@Ev.d.eq_1) ?_
      refine wgo ?_
      refine wcall (makers63) ?_
      refine wgoF (@mkD.eq_1) ?_
      refine wcallF (k88) (And.intro (@Ev.d.eq_1) (@Brd.d.eq_1)) ?_
      refine wgoF (@rD.eq_1) ?_
      exact wretF (And.intro (@rD.eq_1) (@hr))
    by_cases h4 : k = 4
    · subst h4
      have hr : slotE b.cs t s ⟨4, keys, p, text, n, l⟩ = wrapS s := by rw [slotE, if_neg hne, if_neg (by dsimp only; omega), if_neg (by dsimp only; omega), if_neg (by dsimp only; omega), if_pos rfl]
      have k89 := k89 rfl
      refine enterP tabOk Try.func11 38 [0, 1, 2, 3, 5, 6, 7, 8, 11, 27] [.tmp 6, .tmp 7] rfl (r := [_, _]) rfl (h := ?_); intro E hK; simp only [go_sem]
      refine wgoF (And.intro (@Brd.d.eq_1) (@Ev.d.eq_1)) ?_
      refine wcallF (hv) (@Ev.d.eq_1) ?_
      refine wgo ?_
      refine wcall (makers63) ?_
      refine wgoF (@mkD.eq_1) ?_
      refine wcallF (k89) (And.intro (@Ev.d.eq_1) (@Brd.d.eq_1)) ?_
      refine wgoF (@rD.eq_1) ?_
      exact wretF (And.intro (@rD.eq_1) (@hr))
    by_cases h5 : k = 5
    · subst h5
      have hr : slotE b.cs t s ⟨5, keys, p, text, n, l⟩ = (typedF text, 0) := by rw [slotE, if_neg hne, if_neg (by dsimp only; omega), if_neg (by dsimp only; omega), if_neg (by dsimp only; omega), if_neg (by dsimp only; omega), if_pos rfl]
      have k90 := k90 (by have := (q5 rfl).2.1; show text.length ≤ 100000; omega)
      refine enterP tabOk Try.func11 38 [0, 1, 2, 3, 5, 6, 7, 8, 11, 27] [.tmp 6, .tmp 7] rfl (r := [_, _]) rfl (h := ?_); intro E hK; simp only [go_sem]
      refine wgoF (And.intro (@Brd.d.eq_1) (@Ev.d.eq_1)) ?_
      refine wcallF (hv) (@Ev.d.eq_1) ?_
      refine wgo ?_
      refine wcall (makers63) ?_
      refine wgoF (@mkD.eq_1) ?_
      refine wcallF (k90) (And.intro (@Ev.d.eq_1) (@Brd.d.eq_1)) ?_
      refine wgoF (@rD.eq_1) ?_
      exact wretF (And.intro (@rD.eq_1) (@hr))
    · have hr : slotE b.cs t s ⟨k, keys, p, text, n, l⟩ = ([], 10) := by rw [slotE, if_neg hne, if_neg h1, if_neg h2, if_neg h3, if_neg h4, if_neg h5]
      have n0 : ¬ k < 0 := by omega
      have n1 : ¬ 13 ≤ k := by omega
      have hg : (List.map PV.d [D.nilf, .fn (.func 22) [] [], .fn (.func 23) [] [], .fn (.func 24) [] [], .fn (.func 25) [] [], .fn (.func 26) [] [], .nilf, .nilf, .nilf, .nilf, .nilf, .nilf, .nilf]).getD k.toNat .any = .d .nilf := by
        have : k = 6 ∨ k = 7 ∨ k = 8 ∨ k = 9 ∨ k = 10 ∨ k = 11 ∨ k = 12 := by omega
        rcases this with rfl | rfl | rfl | rfl | rfl | rfl | rfl <;> rfl
      have : k = 6 ∨ k = 7 ∨ k = 8 ∨ k = 9 ∨ k = 10 ∨ k = 11 ∨ k = 12 := by omega
      clear k86 k87 k90 k88 k89 q1 q5 hg
      rcases this with rfl | rfl | rfl | rfl | rfl | rfl | rfl
      all_goals
        refine enterP tabOk Try.func11 38 [0, 1, 2, 3, 5, 6, 7, 8, 11, 27] [.tmp 6, .tmp 7] rfl (r := [_, _]) rfl (h := ?_); intro E hK; simp only [go_sem]
        refine wgoF (And.intro (@Brd.d.eq_1) (@Ev.d.eq_1)) ?_
        refine wcallF (hv) (@Ev.d.eq_1) ?_
        refine wgo ?_
        refine wcall (makers63) ?_
        refine wgoF (@mkD.eq_1) ?_
        exact wretF (And.intro (@rD.eq_1) (And.intro (@hr) (@slsD.eq_1)))
end Go.Proofs.Ytojgjdcciojpeaa
