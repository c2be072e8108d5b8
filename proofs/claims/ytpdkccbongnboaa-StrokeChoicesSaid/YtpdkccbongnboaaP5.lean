/-
  A stable sort by cost, of choices whose letters increase, is a sort by cost and letter; in plain terms.
-/
import Derived.Test.YtpdkccbongnboaaS10
set_option linter.unusedSimpArgs false
set_option linter.unusedVariables false
namespace Go.Proofs.Ytpdkccbongnboaa
open Go Go.PS

def lexK (c : Ch) : Int := c.c * 256 + c.k
theorem ins_lex (x : Ch) (hx : 0 ≤ x.k ∧ x.k ≤ 255) : ∀ r : List Ch, (∀ y ∈ r, 0 ≤ y.k ∧ y.k < x.k) → insRev (ltK (·.c)) x r = insRev (ltK lexK) x r
  | [], _ => rfl
  | y :: r, h => by
    have hy := h y (by simp)
    have e : ltK (·.c) x y = ltK lexK x y := by
      unfold ltK lexK
      exact decide_eq_decide.2 (by dsimp only; omega)
    simp only [insRev]
    rw [e, ins_lex x hx r fun z hz => h z (by simp [hz])]
theorem fold_lex : ∀ (l r : List Ch), l.Pairwise (fun a b => a.k < b.k) → (∀ x ∈ l, 0 ≤ x.k ∧ x.k ≤ 255 ∧ ∀ y ∈ r, 0 ≤ y.k ∧ y.k < x.k) → l.foldl (fun r x => insRev (ltK (·.c)) x r) r = l.foldl (fun r x => insRev (ltK lexK) x r) r
  | [], r, _, _ => rfl
  | x :: l, r, hp, h => by
    obtain ⟨h1, h2⟩ := List.pairwise_cons.1 hp
    have hx := h x (by simp)
    rw [List.foldl_cons, List.foldl_cons, ins_lex x ⟨hx.1, hx.2.1⟩ r hx.2.2]
    refine fold_lex l _ h2 fun z hz => ?_
    have h3 := h z (by simp [hz])
    refine ⟨h3.1, h3.2.1, fun y hy => ?_⟩
    rcases List.mem_cons.1 ((insRev_perm _ x r).mem_iff.1 hy) with rfl | hy
    · exact ⟨hx.1, h1 z hz⟩
    · exact h3.2.2 y hy
theorem isort_lex {l : List Ch} (hp : l.Pairwise (fun a b => a.k < b.k)) (h : ∀ x ∈ l, 0 ≤ x.k ∧ x.k ≤ 255) : isort (ltK (·.c)) l.length l 1 = isort (ltK lexK) l.length l 1 := by
  rw [isort_eq, isort_eq, fold_lex l [] hp fun x hx => ⟨(h x hx).1, (h x hx).2, fun y hy => by cases hy⟩]
/-- The eight cheapest, by letter. -/
def bestF (l : List Ch) : List Ch := if l.length ≤ 8 then l else isort (ltK (·.k)) 8 ((isort (ltK (·.c)) l.length l 1).take 8) 1
end Go.Proofs.Ytpdkccbongnboaa
