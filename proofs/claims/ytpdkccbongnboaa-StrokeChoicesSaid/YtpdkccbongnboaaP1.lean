/-
  The least sum of a walk, in plain terms.
-/
import Derived.Test.YtpdkccbongnboaaS6
set_option linter.unusedSimpArgs false
set_option linter.unusedVariables false
namespace Go.Proofs.Ytpdkccbongnboaa
open Go Go.PS

theorem gap_comm (p q : Pt) : gap p q = gap q p := by unfold gap; omega
theorem gap_self (p : Pt) : gap p p = 0 := by unfold gap; omega
theorem gap_nonneg (p q : Pt) : 0 ≤ gap p q := by unfold gap; omega
theorem gp_nonneg (a b : List Pt) (i j : Nat) : 0 ≤ gp a b i j := gap_nonneg _ _

/-- Two tables of gaps that are one another's mirror. -/
theorem W_flip {g h : Nat → Nat → Int} (hg : ∀ i j, g i j = h j i) : ∀ (n i j : Nat), i + j = n → W g i j = W h j i := by
  intro n
  induction n using Nat.strongRecOn with
  | _ n ih =>
  intro i j hn
  match i, j with
  | 0, 0 => rw [W, W, hg]
  | 0, j + 1 => rw [W, W, ih (0 + j) (by omega) 0 j rfl, hg]
  | i + 1, 0 => rw [W, W, ih (i + 0) (by omega) i 0 rfl, hg]
  | i + 1, j + 1 =>
    rw [W, W, ih (i + j) (by omega) i j rfl, ih (i + (j + 1)) (by omega) i (j + 1) rfl, ih (i + 1 + j) (by omega) (i + 1) j rfl, hg]
    omega
theorem dist_comm (a b : List Pt) : dist a b = dist b a := W_flip (fun i j => gap_comm _ _) _ _ _ rfl

theorem W_first {g : Nat → Nat → Int} (hg : ∀ i j, 0 ≤ g i j) : ∀ (n i j : Nat), i + j = n → g 0 0 ≤ W g i j := by
  intro n
  induction n using Nat.strongRecOn with
  | _ n ih =>
  intro i j hn
  match i, j with
  | 0, 0 => rw [W]; exact Int.le_refl _
  | 0, j + 1 =>
    rw [W]
    have := ih (0 + j) (by omega) 0 j rfl
    have := hg 0 (j + 1)
    omega
  | i + 1, 0 =>
    rw [W]
    have := ih (i + 0) (by omega) i 0 rfl
    have := hg (i + 1) 0
    omega
  | i + 1, j + 1 =>
    rw [W]
    have := ih (i + j) (by omega) i j rfl
    have := ih (i + (j + 1)) (by omega) i (j + 1) rfl
    have := ih (i + 1 + j) (by omega) (i + 1) j rfl
    have := hg (i + 1) (j + 1)
    omega
theorem W_ends {g : Nat → Nat → Int} (hg : ∀ i j, 0 ≤ g i j) : ∀ (i j : Nat), i + j ≠ 0 → g 0 0 + g i j ≤ W g i j
  | 0, 0, h => absurd rfl h
  | 0, j + 1, _ => by rw [W]; have := W_first hg _ 0 j rfl; omega
  | i + 1, 0, _ => by rw [W]; have := W_first hg _ i 0 rfl; omega
  | i + 1, j + 1, _ => by
    rw [W]
    have := W_first hg _ i j rfl
    have := W_first hg _ i (j + 1) rfl
    have := W_first hg _ (i + 1) j rfl
    omega
theorem W_nonneg {g : Nat → Nat → Int} (hg : ∀ i j, 0 ≤ g i j) (i j : Nat) : 0 ≤ W g i j := by
  have := W_first hg _ i j rfl
  have := hg 0 0
  omega
theorem W_diag {g : Nat → Nat → Int} (hg : ∀ i j, 0 ≤ g i j) (h0 : ∀ i, g i i = 0) : ∀ i, W g i i = 0
  | 0 => by rw [W, h0]
  | i + 1 => by
    have h1 := W_diag hg h0 i
    have h2 := W_nonneg hg (i + 1) (i + 1)
    have h4 : W g (i + 1) (i + 1) = min (W g i i) (min (W g i (i + 1)) (W g (i + 1) i)) + g (i + 1) (i + 1) := by rw [W]
    have h3 : W g (i + 1) (i + 1) ≤ W g i i + g (i + 1) (i + 1) := by omega
    rw [h1, h0] at h3
    omega
theorem dist_self (a : List Pt) : dist a a = 0 := W_diag (gp_nonneg a a) (fun i => gap_self _) _
theorem dist_ends (a b : List Pt) (ha : 2 ≤ a.length) : gap (a.getD 0 default) (b.getD 0 default) + gap (a.getD (a.length - 1) default) (b.getD (b.length - 1) default) ≤ dist a b :=
  W_ends (gp_nonneg a b) _ _ (by omega)

/-! Points. -/
theorem ptOf_ok0 {m : Int} {e : BP} : (ptOf m e).ok0 := by
  have h1 := Int.emod_nonneg (m * e.1) (show (1001 : Int) ≠ 0 by decide)
  have h2 := Int.emod_lt_of_pos (m * e.1) (show (0 : Int) < 1001 by decide)
  have h3 := Int.emod_nonneg (m * e.2) (show (1001 : Int) ≠ 0 by decide)
  have h4 := Int.emod_lt_of_pos (m * e.2) (show (0 : Int) < 1001 by decide)
  refine ⟨h1, ?_, h3, ?_⟩ <;> (simp only [ptOf]; omega)
theorem points_len (l : List BP) (n : Nat) (m : Int) (hn : 2 ≤ n) : 2 ≤ (pointsF l n m).length ∧ (pointsF l n m).length ≤ n := by
  unfold pointsF padP
  have h : ((l.take n).map (ptOf m)).length ≤ n := by simp; omega
  split
  · simp; omega
  · split
    · rename_i h1; simp only [List.length_append, h1, List.length_cons, List.length_nil]; omega
    · omega
theorem points_ok0 (l : List BP) (n : Nat) (m : Int) (hm : 0 ≤ m ∧ m ≤ 10) : okL0 (pointsF l n m) := by
  have h1 : okL0 ((l.take n).map (ptOf m)) := fun p hp => by
    obtain ⟨e, _, rfl⟩ := List.mem_map.1 hp
    exact ptOf_ok0
  have h2 : (⟨m, 1⟩ : Pt).ok0 := by unfold Pt.ok0; simp only; omega
  unfold pointsF padP
  split
  · intro p hp
    simp only [List.mem_cons, List.not_mem_nil, or_false] at hp
    rcases hp with rfl | rfl
    · unfold Pt.ok0; decide
    · exact h2
  · split
    · intro p hp
      rcases List.mem_append.1 hp with hp | hp
      · exact h1 p hp
      · simp only [List.mem_singleton] at hp; subst hp; exact h2
    · exact h1
end Go.Proofs.Ytpdkccbongnboaa
