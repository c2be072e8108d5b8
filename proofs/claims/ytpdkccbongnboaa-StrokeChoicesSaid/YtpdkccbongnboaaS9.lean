/-
  Insertion sort, in plain terms: what it leaves is sorted and a rearrangement.
-/
import Derived.Test.YtpdkccbongnboaaS5
set_option linter.unusedSimpArgs false
set_option linter.unusedVariables false
namespace Go.Proofs.Ytpdkccbongnboaa
open Go Go.PS

/-- An element goes into a list that is held the other way round. -/
def insRev {α : Type} (lt : α → α → Bool) (x : α) : List α → List α
  | [] => [x]
  | y :: r => if lt x y then y :: insRev lt x r else x :: y :: r

theorem getD_mid {α : Type} [Inhabited α] (a : List α) (x : α) (b : List α) : (a ++ x :: b).getD a.length default = x := by simp

theorem bubble_ins {α : Type} [Inhabited α] (lt : α → α → Bool) (x : α) : ∀ (r q : List α), bubble lt (r.reverse ++ x :: q) r.length = (insRev lt x r).reverse ++ q
  | [], q => by simp [bubble, insRev]
  | y :: r, q => by
    have e0 : (y :: r).reverse ++ x :: q = r.reverse ++ y :: x :: q := by simp
    have e1 : (r.reverse ++ y :: x :: q).getD (r.length + 1) default = x := by
      have h1 := getD_mid (r.reverse ++ [y]) x q
      simp only [List.append_assoc, List.length_append, List.length_reverse, List.length_cons, List.length_nil, List.cons_append, List.nil_append, Nat.zero_add] at h1
      exact h1
    have e2 : (r.reverse ++ y :: x :: q).getD r.length default = y := by
      have h1 := getD_mid r.reverse y (x :: q)
      simp only [List.length_reverse] at h1
      exact h1
    have e3 : ((r.reverse ++ y :: x :: q).set (r.length + 1) y).set r.length x = r.reverse ++ x :: y :: q := by
      have h1 : r.length + 1 = r.reverse.length + 1 := by simp
      have h2 : r.length = r.reverse.length := by simp
      rw [h1, List.set_append_right _ _ (by omega), Nat.add_sub_cancel_left]
      rw [h2, List.set_append_right _ _ (by omega), Nat.sub_self]
      rfl
    rw [List.length_cons, e0, bubble, e1, e2]
    split
    · rename_i h
      rw [e3, bubble_ins lt x r (y :: q)]
      simp [insRev, h]
    · rename_i h
      simp [insRev, h]

theorem insRev_perm {α : Type} (lt : α → α → Bool) (x : α) : ∀ r : List α, (insRev lt x r).Perm (x :: r)
  | [] => List.Perm.refl _
  | y :: r => by
    simp only [insRev]
    split
    · exact ((insRev_perm lt x r).cons y).trans (List.Perm.swap x y r)
    · exact List.Perm.refl _
theorem insRev_len {α : Type} (lt : α → α → Bool) (x : α) (r : List α) : (insRev lt x r).length = r.length + 1 := by
  have := (insRev_perm lt x r).length_eq
  simpa using this

theorem isort_fold {α : Type} [Inhabited α] (lt : α → α → Bool) : ∀ (f : Nat) (q r : List α), q.length ≤ f → isort lt f (r.reverse ++ q) r.length = (q.foldl (fun r x => insRev lt x r) r).reverse
  | 0, q, r, h => by
    have : q = [] := List.eq_nil_of_length_eq_zero (by omega)
    subst this; simp [isort]
  | f + 1, [], r, h => by simp [isort]
  | f + 1, x :: q, r, h => by
    rw [isort, if_pos (by simp), bubble_ins, ← insRev_len lt x r, isort_fold lt f q _ (by simpa using h)]
    rfl

/-- The whole: sort from the second element on. -/
theorem isort_eq {α : Type} [Inhabited α] (lt : α → α → Bool) (l : List α) : isort lt l.length l 1 = (l.foldl (fun r x => insRev lt x r) []).reverse := by
  cases l with
  | nil => simp [isort]
  | cons x l =>
    have := isort_fold lt (x :: l).length l [x] (by simp)
    simpa [insRev] using this

theorem fold_perm {α : Type} (lt : α → α → Bool) : ∀ (l r : List α), (l.foldl (fun r x => insRev lt x r) r).Perm (l ++ r)
  | [], r => List.Perm.refl _
  | x :: l, r => by
    refine (fold_perm lt l (insRev lt x r)).trans ?_
    refine ((insRev_perm lt x r).append_left l).trans ?_
    rw [List.cons_append]
    exact List.perm_middle
theorem isort_perm {α : Type} [Inhabited α] (lt : α → α → Bool) (l : List α) : (isort lt l.length l 1).Perm l := by
  rw [isort_eq]
  exact (List.reverse_perm _).trans (by simpa using fold_perm lt l [])

/-- Sorted, where the order is that of a number. -/
def ltK {α : Type} (key : α → Int) (a b : α) : Bool := decide (key a < key b)
theorem insRev_sorted {α : Type} (key : α → Int) (x : α) : ∀ r : List α, r.Pairwise (fun a b => key b ≤ key a) → (insRev (ltK key) x r).Pairwise (fun a b => key b ≤ key a)
  | [], _ => by simp [insRev]
  | y :: r, h => by
    obtain ⟨h1, h2⟩ := List.pairwise_cons.1 h
    simp only [insRev]
    split
    · rename_i hlt
      have hlt' : key x < key y := by simpa [ltK] using hlt
      refine List.pairwise_cons.2 ⟨fun z hz => ?_, insRev_sorted key x r h2⟩
      rcases List.mem_cons.1 ((insRev_perm _ x r).mem_iff.1 hz) with rfl | hz
      · omega
      · exact h1 z hz
    · rename_i hlt
      have hlt' : key y ≤ key x := by simpa [ltK] using hlt
      refine List.pairwise_cons.2 ⟨fun z hz => ?_, h⟩
      rcases List.mem_cons.1 hz with rfl | hz
      · exact hlt'
      · have := h1 z hz; omega
theorem fold_sorted {α : Type} (key : α → Int) : ∀ (l r : List α), r.Pairwise (fun a b => key b ≤ key a) → (l.foldl (fun r x => insRev (ltK key) x r) r).Pairwise (fun a b => key b ≤ key a)
  | [], r, h => h
  | x :: l, r, h => fold_sorted key l _ (insRev_sorted key x r h)
theorem isort_sorted {α : Type} [Inhabited α] (key : α → Int) (l : List α) : (isort (ltK key) l.length l 1).Pairwise (fun a b => key a ≤ key b) := by
  rw [isort_eq, List.pairwise_reverse]
  exact fold_sorted key l [] List.Pairwise.nil

theorem ltI_eq : ltI = ltK (fun x : Int => x) := rfl
def sortK (l : List Int) : List Int := isort ltI l.length l 1
theorem sortK_perm (l : List Int) : (sortK l).Perm l := isort_perm _ _
theorem sortK_sorted (l : List Int) : (sortK l).Pairwise (· ≤ ·) := isort_sorted (fun x => x) l
theorem sortK_of_perm {l l' : List Int} (h : l.Perm l') : sortK l = sortK l' :=
  List.Perm.eq_of_pairwise (le := fun a b => a ≤ b) (fun a b _ _ h1 h2 => Int.le_antisymm h1 h2) (sortK_sorted l) (sortK_sorted l') (((sortK_perm l).trans h).trans (sortK_perm l').symm)
end Go.Proofs.Ytpdkccbongnboaa
