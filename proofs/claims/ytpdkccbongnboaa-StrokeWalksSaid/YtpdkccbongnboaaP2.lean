/-
  Walks through two strokes, and what the least sum does when the strokes are changed; in plain terms.
-/
import Derived.Test.YtpdkccbongnboaaP1
set_option linter.unusedSimpArgs false
set_option linter.unusedVariables false
namespace Go.Proofs.Ytpdkccbongnboaa
open Go Go.PS

/-- A walk from one pair of places to another, with its sum of gaps. -/
inductive Pth (g : Nat → Nat → Int) (a b : Nat) : Nat → Nat → Int → Prop
  | one : Pth g a b a b (g a b)
  | right {i j s} (h : Pth g a b i j s) : Pth g a b (i + 1) j (s + g (i + 1) j)
  | up {i j s} (h : Pth g a b i j s) : Pth g a b i (j + 1) (s + g i (j + 1))
  | both {i j s} (h : Pth g a b i j s) : Pth g a b (i + 1) (j + 1) (s + g (i + 1) (j + 1))

theorem W_right (g : Nat → Nat → Int) (i : Nat) : ∀ j, W g (i + 1) j ≤ W g i j + g (i + 1) j
  | 0 => by rw [W]; exact Int.le_refl _
  | j + 1 => by
    have h : W g (i + 1) (j + 1) = min (W g i j) (min (W g i (j + 1)) (W g (i + 1) j)) + g (i + 1) (j + 1) := by rw [W]
    omega
theorem W_up (g : Nat → Nat → Int) (j : Nat) : ∀ i, W g i (j + 1) ≤ W g i j + g i (j + 1)
  | 0 => by rw [W]; exact Int.le_refl _
  | i + 1 => by
    have h : W g (i + 1) (j + 1) = min (W g i j) (min (W g i (j + 1)) (W g (i + 1) j)) + g (i + 1) (j + 1) := by rw [W]
    omega
theorem W_both (g : Nat → Nat → Int) (i j : Nat) : W g (i + 1) (j + 1) ≤ W g i j + g (i + 1) (j + 1) := by
  have h : W g (i + 1) (j + 1) = min (W g i j) (min (W g i (j + 1)) (W g (i + 1) j)) + g (i + 1) (j + 1) := by rw [W]
  omega
theorem Pth.le {g : Nat → Nat → Int} {i j : Nat} {s : Int} (h : Pth g 0 0 i j s) : W g i j ≤ s := by
  induction h with
  | one => rw [W]; exact Int.le_refl _
  | right h ih => rename_i i j s; have := W_right g i j; omega
  | up h ih => rename_i i j s; have := W_up g j i; omega
  | both h ih => rename_i i j s; have := W_both g i j; omega
theorem W_path (g : Nat → Nat → Int) : ∀ (n i j : Nat), i + j = n → Pth g 0 0 i j (W g i j) := by
  intro n
  induction n using Nat.strongRecOn with
  | _ n ih =>
  intro i j hn
  match i, j with
  | 0, 0 => rw [W]; exact .one
  | 0, j + 1 => rw [W]; exact (ih (0 + j) (by omega) 0 j rfl).up
  | i + 1, 0 => rw [W]; exact (ih (i + 0) (by omega) i 0 rfl).right
  | i + 1, j + 1 =>
    have h : W g (i + 1) (j + 1) = min (W g i j) (min (W g i (j + 1)) (W g (i + 1) j)) + g (i + 1) (j + 1) := by rw [W]
    rw [h]
    have h1 := (ih (i + j) (by omega) i j rfl).both
    have h2 := (ih (i + (j + 1)) (by omega) i (j + 1) rfl).right
    have h3 := (ih (i + 1 + j) (by omega) (i + 1) j rfl).up
    rcases (show min (W g i j) (min (W g i (j + 1)) (W g (i + 1) j)) = W g i j ∨ min (W g i j) (min (W g i (j + 1)) (W g (i + 1) j)) = W g i (j + 1) ∨ min (W g i j) (min (W g i (j + 1)) (W g (i + 1) j)) = W g (i + 1) j by omega) with e | e | e <;> rw [e] <;> assumption
theorem Pth.cast {g : Nat → Nat → Int} {a b i j a' b' i' j' : Nat} {s s' : Int} (h : Pth g a b i j s) (ha : a = a') (hb : b = b') (hi : i = i') (hj : j = j') (hs : s = s') : Pth g a' b' i' j' s' := by
  subst ha hb hi hj hs; exact h
theorem Pth.cons {g : Nat → Nat → Int} {a b i j : Nat} {s : Int} (h : Pth g a b i j s) : ∀ {a' b' : Nat}, (a = a' + 1 ∧ b = b' ∨ a = a' ∧ b = b' + 1 ∨ a = a' + 1 ∧ b = b' + 1) → Pth g a' b' i j (g a' b' + s) := by
  induction h with
  | one =>
    intro a' b' hab
    rcases hab with ⟨rfl, rfl⟩ | ⟨rfl, rfl⟩ | ⟨rfl, rfl⟩
    · exact Pth.one.right
    · exact Pth.one.up
    · exact Pth.one.both
  | right h ih => intro a' b' hab; rw [← Int.add_assoc]; exact (ih hab).right
  | up h ih => intro a' b' hab; rw [← Int.add_assoc]; exact (ih hab).up
  | both h ih => intro a' b' hab; rw [← Int.add_assoc]; exact (ih hab).both
theorem Pth.rev {g h : Nat → Nat → Int} {N M a b : Nat} (hg : ∀ i j, i ≤ N → j ≤ M → h (N - i) (M - j) = g i j) {i j : Nat} {s : Int} (p : Pth g a b i j s) :
    i ≤ N → j ≤ M → Pth h (N - i) (M - j) (N - a) (M - b) s := by
  induction p with
  | one => intro h1 h2; exact Pth.one.cast rfl rfl rfl rfl (hg _ _ h1 h2)
  | right p ih =>
    intro h1 h2
    exact ((ih (by omega) h2).cons (.inl ⟨by omega, rfl⟩)).cast rfl rfl rfl rfl (by rw [hg _ _ h1 h2, Int.add_comm])
  | up p ih =>
    intro h1 h2
    exact ((ih h1 (by omega)).cons (.inr (.inl ⟨rfl, by omega⟩))).cast rfl rfl rfl rfl (by rw [hg _ _ h1 h2, Int.add_comm])
  | both p ih =>
    intro h1 h2
    exact ((ih (by omega) (by omega)).cons (.inr (.inr ⟨by omega, by omega⟩))).cast rfl rfl rfl rfl (by rw [hg _ _ h1 h2, Int.add_comm])
theorem W_rev_le {g h : Nat → Nat → Int} {N M : Nat} (hg : ∀ i j, i ≤ N → j ≤ M → h (N - i) (M - j) = g i j) : W h N M ≤ W g N M :=
  Pth.le (((W_path g _ N M rfl).rev hg (Nat.le_refl _) (Nat.le_refl _)).cast (by omega) (by omega) (by omega) (by omega) rfl)
theorem W_rev {g h : Nat → Nat → Int} {N M : Nat} (hg : ∀ i j, i ≤ N → j ≤ M → h (N - i) (M - j) = g i j) : W h N M = W g N M :=
  Int.le_antisymm (W_rev_le hg) (W_rev_le fun i j hi hj => by
    have := hg (N - i) (M - j) (by omega) (by omega)
    rw [← this]; congr 1 <;> omega)
theorem Pth.mono {g h : Nat → Nat → Int} {a b i j : Nat} {s : Int} (p : Pth g a b i j s) : (∀ x y, x ≤ i → y ≤ j → g x y = h x y) → Pth h a b i j s := by
  induction p with
  | one => intro hg; rw [hg a b (Nat.le_refl _) (Nat.le_refl _)]; exact .one
  | right p ih => intro hg; rw [hg _ _ (Nat.le_refl _) (Nat.le_refl _)]; exact (ih fun x y h1 h2 => hg x y (by omega) h2).right
  | up p ih => intro hg; rw [hg _ _ (Nat.le_refl _) (Nat.le_refl _)]; exact (ih fun x y h1 h2 => hg x y h1 (by omega)).up
  | both p ih => intro hg; rw [hg _ _ (Nat.le_refl _) (Nat.le_refl _)]; exact (ih fun x y h1 h2 => hg x y (by omega) (by omega)).both
theorem W_congr {g h : Nat → Nat → Int} {i j : Nat} (hg : ∀ x y, x ≤ i → y ≤ j → g x y = h x y) : W g i j = W h i j :=
  Int.le_antisymm (Pth.le ((W_path h _ i j rfl).mono fun x y h1 h2 => (hg x y h1 h2).symm)) (Pth.le ((W_path g _ i j rfl).mono hg))
theorem W_twice {g h : Nat → Nat → Int} (hg : ∀ x y, h x y = 2 * g x y) : ∀ (n i j : Nat), i + j = n → W h i j = 2 * W g i j := by
  intro n
  induction n using Nat.strongRecOn with
  | _ n ih =>
  intro i j hn
  match i, j with
  | 0, 0 => rw [W, W, hg]
  | 0, j + 1 => rw [W, W, ih (0 + j) (by omega) 0 j rfl, hg]; omega
  | i + 1, 0 => rw [W, W, ih (i + 0) (by omega) i 0 rfl, hg]; omega
  | i + 1, j + 1 =>
    have e1 := ih (i + j) (by omega) i j rfl
    have e2 := ih (i + (j + 1)) (by omega) i (j + 1) rfl
    have e3 := ih (i + 1 + j) (by omega) (i + 1) j rfl
    have e4 := hg (i + 1) (j + 1)
    have h1 : W g (i + 1) (j + 1) = min (W g i j) (min (W g i (j + 1)) (W g (i + 1) j)) + g (i + 1) (j + 1) := by rw [W]
    have h2 : W h (i + 1) (j + 1) = min (W h i j) (min (W h i (j + 1)) (W h (i + 1) j)) + h (i + 1) (j + 1) := by rw [W]
    omega
def dbl (p : Pt) : Pt := ⟨2 * p.x, 2 * p.y⟩
theorem dbl_getD (a : List Pt) (i : Nat) : (a.map dbl).getD i default = dbl (a.getD i default) := by
  by_cases h : i < a.length
  · simp [h]
  · simp [h]; rfl
theorem dist_dbl (a b : List Pt) : dist (a.map dbl) (b.map dbl) = 2 * dist a b := by
  have e1 : (a.map dbl).length = a.length := by simp
  have e2 : (b.map dbl).length = b.length := by simp
  unfold dist
  rw [e1, e2]
  refine W_twice (fun i j => ?_) _ _ _ rfl
  unfold gp
  rw [dbl_getD, dbl_getD]
  unfold gap dbl
  dsimp only
  omega
/-- A stroke of which one point is drawn twice. -/
def twiceAt (a : List Pt) (n : Nat) : List Pt := a.take (n + 1) ++ a.drop n
theorem twice_len {a : List Pt} {n : Nat} (h : n < a.length) : (twiceAt a n).length = a.length + 1 := by simp [twiceAt]; omega
theorem twice_get {a : List Pt} {n : Nat} (h : n < a.length) (i : Nat) : (twiceAt a n).getD i default = a.getD (if i ≤ n then i else i - 1) default := by
  have hl : (a.take (n + 1)).length = n + 1 := by simp; omega
  unfold twiceAt
  by_cases hi : i ≤ n
  · rw [if_pos hi]
    simp only [List.getD_eq_getElem?_getD]
    rw [List.getElem?_append_left (by omega), List.getElem?_take_of_lt (by omega)]
  · rw [if_neg hi]
    simp only [List.getD_eq_getElem?_getD]
    rw [List.getElem?_append_right (by omega), hl, List.getElem?_drop]
    congr 2; omega
theorem twice_ge {g gt : Nat → Nat → Int} {n : Nat} (hg : ∀ i j, gt i j = g (if i ≤ n then i else i - 1) j) (h0 : ∀ i j, 0 ≤ g i j) {i j : Nat} {s : Int} (p : Pth gt 0 0 i j s) :
    ∃ s', s' ≤ s ∧ Pth g 0 0 (if i ≤ n then i else i - 1) j s' := by
  induction p with
  | one => exact ⟨_, Int.le_refl _, by rw [if_pos (Nat.zero_le _), hg, if_pos (Nat.zero_le _)]; exact .one⟩
  | right p ih =>
    rename_i i j s
    obtain ⟨s', h1, h2⟩ := ih
    rw [hg]
    by_cases c : i + 1 ≤ n
    · rw [if_pos c]; rw [if_pos (by omega)] at h2
      exact ⟨_, by omega, h2.right⟩
    · rw [if_neg c]
      by_cases c2 : i ≤ n
      · rw [if_pos c2] at h2
        have : 0 ≤ g (i + 1 - 1) j := h0 _ _
        exact ⟨s', by omega, h2.cast rfl rfl (by omega) rfl rfl⟩
      · rw [if_neg c2] at h2
        refine ⟨s' + g (i + 1 - 1) j, by omega, h2.right.cast rfl rfl (by omega) rfl ?_⟩
        congr 2; omega
  | up p ih =>
    rename_i i j s
    obtain ⟨s', h1, h2⟩ := ih
    rw [hg]
    exact ⟨_, by omega, h2.up⟩
  | both p ih =>
    rename_i i j s
    obtain ⟨s', h1, h2⟩ := ih
    rw [hg]
    by_cases c : i + 1 ≤ n
    · rw [if_pos c]; rw [if_pos (by omega)] at h2
      exact ⟨_, by omega, h2.both⟩
    · rw [if_neg c]
      by_cases c2 : i ≤ n
      · rw [if_pos c2] at h2
        refine ⟨s' + g (i + 1 - 1) (j + 1), by omega, h2.up.cast rfl rfl (by omega) rfl ?_⟩
        congr 2
      · rw [if_neg c2] at h2
        refine ⟨s' + g (i + 1 - 1) (j + 1), by omega, h2.both.cast rfl rfl (by omega) rfl ?_⟩
        congr 2; omega
theorem twice_le {g gt : Nat → Nat → Int} {n : Nat} {far : Int} (hg : ∀ i j, gt i j = g (if i ≤ n then i else i - 1) j) {M : Nat} (hf : ∀ j, j ≤ M → g n j ≤ far) {i j : Nat} {s : Int} (p : Pth g 0 0 i j s) :
    j ≤ M → (i ≤ n → Pth gt 0 0 i j s) ∧ (n ≤ i → ∃ s', s' ≤ s + far ∧ Pth gt 0 0 (i + 1) j s') := by
  induction p with
  | one =>
    intro hj
    have e : gt 0 0 = g 0 0 := by rw [hg, if_pos (Nat.zero_le _)]
    refine ⟨fun _ => by rw [← e]; exact .one, fun h => ?_⟩
    have hn : n = 0 := by omega
    subst hn
    have e2 : gt (0 + 1) 0 = g 0 0 := by rw [hg, if_neg (by omega)]
    have := hf 0 (Nat.zero_le _)
    exact ⟨gt 0 0 + gt (0 + 1) 0, by omega, Pth.one.right⟩
  | right p ih =>
    rename_i i j s
    intro hj
    obtain ⟨h1, h2⟩ := ih hj
    have e : i + 1 ≤ n → gt (i + 1) j = g (i + 1) j := fun h => by rw [hg, if_pos h]
    have e2 : n ≤ i + 1 → gt (i + 1 + 1) j = g (i + 1) j := fun h => by rw [hg, if_neg (by omega)]; rfl
    have hfar := hf j hj
    refine ⟨fun h => by rw [← e h]; exact (h1 (by omega)).right, fun h => ?_⟩
    by_cases c : i + 1 = n
    · have q := (h1 (by omega)).right.right
      refine ⟨_, ?_, q⟩
      rw [e (by omega), e2 h, c]; omega
    · obtain ⟨s', h3, h4⟩ := h2 (by omega)
      exact ⟨_, by rw [e2 h]; omega, h4.right⟩
  | up p ih =>
    rename_i i j s
    intro hj
    obtain ⟨h1, h2⟩ := ih (by omega)
    have e : i ≤ n → gt i (j + 1) = g i (j + 1) := fun h => by rw [hg, if_pos h]
    have e2 : n ≤ i → gt (i + 1) (j + 1) = g i (j + 1) := fun h => by rw [hg, if_neg (by omega)]; rfl
    refine ⟨fun h => by rw [← e h]; exact (h1 (by omega)).up, fun h => ?_⟩
    obtain ⟨s', h3, h4⟩ := h2 (by omega)
    exact ⟨_, by rw [e2 h]; omega, h4.up⟩
  | both p ih =>
    rename_i i j s
    intro hj
    obtain ⟨h1, h2⟩ := ih (by omega)
    have e : i + 1 ≤ n → gt (i + 1) (j + 1) = g (i + 1) (j + 1) := fun h => by rw [hg, if_pos h]
    have e2 : n ≤ i + 1 → gt (i + 1 + 1) (j + 1) = g (i + 1) (j + 1) := fun h => by rw [hg, if_neg (by omega)]; rfl
    have hfar := hf (j + 1) hj
    refine ⟨fun h => by rw [← e h]; exact (h1 (by omega)).both, fun h => ?_⟩
    by_cases c : i + 1 = n
    · have q := (h1 (by omega)).both.right
      refine ⟨_, ?_, q⟩
      rw [e (by omega), e2 h, c]; omega
    · obtain ⟨s', h3, h4⟩ := h2 (by omega)
      exact ⟨_, by rw [e2 h]; omega, h4.both⟩
theorem gp_twice {a b : List Pt} {n : Nat} (h : n < a.length) (i j : Nat) : gp (twiceAt a n) b i j = gp a b (if i ≤ n then i else i - 1) j := by
  unfold gp; rw [twice_get h]
theorem dist_twice_ge {a b : List Pt} {n : Nat} (h : n < a.length) : dist a b ≤ dist (twiceAt a n) b := by
  unfold dist
  rw [twice_len h]
  obtain ⟨s', h1, h2⟩ := twice_ge (gp_twice h) (gp_nonneg a b) (W_path (gp (twiceAt a n) b) _ (a.length + 1 - 1) (b.length - 1) rfl)
  refine Int.le_trans (Pth.le (h2.cast rfl rfl ?_ rfl rfl)) h1
  split <;> omega
theorem dist_twice_le {a b : List Pt} {n : Nat} {far : Int} (h : n < a.length) (hb : 0 < b.length) (hf : ∀ j, j < b.length → gap (a.getD n default) (b.getD j default) ≤ far) : dist (twiceAt a n) b ≤ dist a b + far := by
  unfold dist
  rw [twice_len h]
  obtain ⟨_, h2⟩ := twice_le (gp_twice h) (M := b.length - 1) (fun j hj => hf j (by omega)) (W_path (gp a b) _ (a.length - 1) (b.length - 1) rfl) (Nat.le_refl _)
  obtain ⟨s', h3, h4⟩ := h2 (by omega)
  exact Int.le_trans (Pth.le (h4.cast rfl rfl (by omega) rfl rfl)) h3
end Go.Proofs.Ytpdkccbongnboaa
