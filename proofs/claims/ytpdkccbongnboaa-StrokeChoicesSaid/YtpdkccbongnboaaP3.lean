/-
  Boards, in plain terms: their templates are strokes, and their letters are few.
-/
import Derived.Test.YtpdkccbongnboaaS12
import Derived.Test.YtpdkccbongnboaaP1
set_option linter.unusedSimpArgs false
set_option linter.unusedVariables false
namespace Go.Proofs.Ytpdkccbongnboaa
open Go Go.PS

theorem tplOf_ok (k : Int) (r : Raw) (hk : 1 ≤ k ∧ k ≤ 26) : (97 ≤ (tplOf k r).key ∧ (tplOf k r).key < 97 + k) ∧ okL0 (tplOf k r).p ∧ 2 ≤ (tplOf k r).p.length ∧ (tplOf k r).p.length ≤ 6 := by
  have h1 := Int.emod_nonneg r.key (show k ≠ 0 by omega)
  have h2 := Int.emod_lt_of_pos r.key (show 0 < k by omega)
  have h3 := points_len r.p 6 4 (by omega)
  refine ⟨?_, points_ok0 r.p 6 4 (by omega), h3.1, h3.2⟩
  simp only [tplOf]; omega
/-- A board's templates. -/
def TB (k : Int) (T : List Tpl) : Prop := ∀ t ∈ T, (97 ≤ t.key ∧ t.key < 97 + k) ∧ okL0 t.p ∧ 2 ≤ t.p.length ∧ t.p.length ≤ 6
theorem board_TB (l : List Raw) (n : Nat) (k : Int) (hk : 1 ≤ k ∧ k ≤ 26) : TB k (boardF l n k) := by
  intro t ht
  obtain ⟨r, _, rfl⟩ := List.mem_map.1 ht
  exact tplOf_ok k r hk
theorem board_len (l : List Raw) (n : Nat) (k : Int) : (boardF l n k).length ≤ n := by simp [boardF]; omega
theorem TB.ok {k : Int} {T : List Tpl} (h : TB k T) (hk : k ≤ 26) : TOk T := fun t ht => by
  obtain ⟨h1, h2, h3, h4⟩ := h t ht
  exact ⟨by omega, by omega, h2, by omega, by omega⟩
theorem few : ∀ (n : Nat) (a : Int) (l : List Int), l.Nodup → (∀ x ∈ l, a ≤ x ∧ x < a + n) → l.length ≤ n
  | 0, a, l, _, h => by
    cases l with
    | nil => exact Nat.le_refl _
    | cons x l => have := h x (by simp); omega
  | n + 1, a, l, hd, h => by
    by_cases hm : (a + n) ∈ l
    · have h1 := few n a (l.erase (a + n)) (hd.erase _) fun x hx => by
        have h2 := h x (List.mem_of_mem_erase hx)
        have h3 : x ≠ a + n := fun e => by rw [hd.mem_erase_iff] at hx; exact hx.1 e
        omega
      rw [List.length_erase_of_mem hm] at h1
      omega
    · have h1 := few n a l hd fun x hx => by
        have h2 := h x hx
        have h3 : x ≠ a + n := fun e => hm (e ▸ hx)
        omega
      omega
theorem costs_nodup (p : List Pt) (T : List Tpl) : ((costsF p T).map (·.k)).Nodup := (costs_keys p (fun _ => True) T [] ⟨by simp, by simp⟩ (fun _ _ => trivial)).1
theorem costs_few (p : List Pt) {k : Nat} {T : List Tpl} (h : TB k T) : (costsF p T).length ≤ k := by
  obtain ⟨h1, h2⟩ := costs_keys p (fun x => 97 ≤ x ∧ x < 97 + (k : Int)) T [] ⟨by simp, by simp⟩ (fun t ht => (h t ht).1)
  have := few k 97 _ h1 h2
  simpa [costsF] using this
theorem put_len (m : List Ch) (k c : Int) : (putC m k c).length ≤ m.length + 1 := by
  unfold putC; split
  · simp
  · simp
theorem costs_le (p : List Pt) : ∀ (T : List Tpl) (m : List Ch), (T.foldl (stepC p) m).length ≤ m.length + T.length
  | [], m => by simp
  | t :: T, m => by
    have h1 := costs_le p T (stepC p m t)
    have h2 : (stepC p m t).length ≤ m.length + 1 := put_len _ _ _
    simp only [List.foldl_cons, List.length_cons]
    omega
theorem costs_len (p : List Pt) (T : List Tpl) : (costsF p T).length ≤ T.length := by
  have := costs_le p T []
  simpa [costsF] using this
end Go.Proofs.Ytpdkccbongnboaa
