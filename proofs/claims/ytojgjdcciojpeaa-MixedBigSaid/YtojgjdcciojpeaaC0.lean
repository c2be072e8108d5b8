/-
  A part of the walks of this seat: each theorem says what a function of the program gives. No condition beyond its own premises.
-/
import Derived.Test.YtojgjdcciojpeaaTabZ
import Derived.Test.YtojgjdcciojpeaaPure25
set_option linter.unusedSimpArgs false
set_option linter.unusedVariables false
namespace Go.Proofs.Ytojgjdcciojpeaa
open Go Go.PS
set_option maxRecDepth 100000
set_option maxHeartbeats 4000000
structure Ch where
  k : Int
  c : Int
  deriving DecidableEq, Inhabited
def Ch.d (c : Ch) : D := .agg [.int .u8 c.k, .int .i64 c.c]
theorem ch_get {l : List Ch} {i : Nat} (h : i < l.length) : (List.map Ch.d l).getD i .nilp = .agg [.int .u8 (l.getD i default).k, .int .i64 (l.getD i default).c] := by simp [h, Ch.d]
/-- A slot. -/
def slD (s : List Ch) : D := .sl 2 (s.map Ch.d)
def slsD (l : List (List Ch)) : D := .sl 1 (l.map slD)
theorem sl_get {l : List (List Ch)} {i : Nat} (h : i < l.length) : (List.map slD l).getD i .nilp = .sl 2 ((l.getD i []).map Ch.d) := by simp [h, slD]
theorem repL_split {γ : Gh} {a b : List PV} {vs : List Value} (h : RepL γ (a ++ b) vs) : ∃ v1 v2, vs = v1 ++ v2 ∧ RepL γ a v1 ∧ RepL γ b v2 := by
  have hl := h.1
  simp only [List.length_append] at hl
  refine ⟨vs.take a.length, vs.drop a.length, (List.take_append_drop _ _).symm, ⟨by simp; omega, fun i c v hc hv => ?_⟩, ⟨by simp; omega, fun i c v hc hv => ?_⟩⟩
  · have hi := (List.getElem?_eq_some_iff.1 hc).1
    rw [List.getElem?_take_of_lt hi] at hv
    exact h.2 i c v (by rw [List.getElem?_append_left hi]; exact hc) hv
  · rw [List.getElem?_drop] at hv
    exact h.2 (a.length + i) c v (by rw [List.getElem?_append_right (by omega)]; simpa using hc) hv
theorem reOb_list (γ : Gh) : ∀ (els els' : List PV) (cs : List Value), els.length = els'.length → (∀ (i : Nat) (x y : PV), els[i]? = some x → els'[i]? = some y → ∀ vs, RepL γ x.cells vs → RepL γ y.cells vs) → RepL γ (flat els) cs → RepL γ (flat els') cs
  | [], [], cs, _, _, h => h
  | x :: xs, y :: ys, cs, hl, hp, h => by
    rw [show flat (x :: xs) = x.cells ++ flat xs from by simp [flat]] at h
    rw [show flat (y :: ys) = y.cells ++ flat ys from by simp [flat]]
    obtain ⟨v1, v2, rfl, h1, h2⟩ := repL_split h
    exact (hp 0 x y rfl rfl v1 h1).append (reOb_list γ xs ys v2 (by simpa using hl) (fun i a b ha hb => hp (i + 1) a b (by simpa using ha) (by simpa using hb)) h2)
  | [], _ :: _, _, hl, _, _ => by simp at hl
  | _ :: _, [], _, hl, _, _ => by simp at hl
theorem reOb_own (R : List D) (i sz : Nat) (xs : List D) (t : Tok) (γ : Gh) (cs : List Value) (h : RepL γ (flat ((R.map PV.ofD.PV.ofD1).set i (.own sz xs t))) cs) : RepL γ (flat ((R.set i (.sl sz xs)).map PV.ofD.PV.ofD1)) cs := by
  refine reOb_list γ _ _ cs (by simp) (fun j x y hx hy vs hv => ?_) h
  rw [List.map_set] at hy
  by_cases hij : i = j
  · subst hij
    have hi : i < R.length := by have := (List.getElem?_eq_some_iff.1 hx).1; simpa using this
    rw [List.getElem?_set_self (by simpa using hi)] at hx hy
    cases hx; cases hy
    simp only [PV.cells, PV.ofD.PV.ofD1] at hv ⊢
    obtain ⟨v, vs', rfl, h1, h2⟩ := hv.cons_inv
    exact .cons (by cases h1 with | own h ht => exact .d h) h2
  · rw [List.getElem?_set_ne hij] at hx hy
    rw [hx] at hy; cases hy; exact hv
theorem len_own (R : List D) (i sz n : Nat) (xs : List D) (t : Tok) (h : ∀ e ∈ R, e.cells.length = n) (hn : n = 1) : ∀ e ∈ (R.set i (.sl sz xs)).map PV.ofD.PV.ofD1, e.cells.length = n := by
  intro e he
  obtain ⟨d, hd, rfl⟩ := List.mem_map.1 he
  rcases List.mem_or_eq_of_mem_set hd with h1 | rfl
  · have := h d h1
    rw [← this]; cases d <;> simp [PV.ofD.PV.ofD1, PV.cells, D.cells]
  · subst hn; rfl
end Go.Proofs.Ytojgjdcciojpeaa
