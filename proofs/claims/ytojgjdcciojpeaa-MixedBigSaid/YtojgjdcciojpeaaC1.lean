/-
  A part of the walks of this seat: each theorem says what a function of the program gives. No condition beyond its own premises.
-/
import Derived.Test.YtojgjdcciojpeaaTabZ
set_option linter.unusedSimpArgs false
set_option linter.unusedVariables false
namespace Go.Proofs.Ytojgjdcciojpeaa
open Go Go.PS
set_option maxRecDepth 100000
set_option maxHeartbeats 4000000
/-- A point. -/
structure Pt where
  x : Int
  y : Int
  deriving DecidableEq, Inhabited
def Pt.d (p : Pt) : D := .agg [.int .i64 p.x, .int .i64 p.y]
theorem pt_get {l : List Pt} {i : Nat} (h : i < l.length) : (List.map Pt.d l).getD i .nilp = .agg [.int .i64 (l.getD i default).x, .int .i64 (l.getD i default).y] := by simp [h, Pt.d]

def Pt.inB (p : Pt) : Bool := decide (0 ≤ p.x) && decide (p.x ≤ 1000) && decide (0 ≤ p.y) && decide (p.y ≤ 1000)
theorem inB_out {p : Pt} (h : p.x < 0 ∨ 1000 < p.x ∨ p.y < 0 ∨ 1000 < p.y) : p.inB = false := by
  rcases h with h | h | h | h <;> simp [Pt.inB] <;> omega
theorem inB_in {p : Pt} (h1 : ¬ p.x < 0) (h2 : ¬ 1000 < p.x) (h3 : ¬ p.y < 0) (h4 : ¬ 1000 < p.y) : p.inB = true := by
  simp [Pt.inB]; omega
theorem all_out {l : List Pt} {k : Nat} (hk : k < l.length) (h : (l.getD k default).inB = false) : l.all Pt.inB = false := by
  have e : l.getD k default = l[k] := by simp [hk]
  rw [e] at h
  rw [List.all_eq_false]
  exact ⟨l[k], List.getElem_mem hk, by simp [h]⟩
theorem all_take {l : List Pt} {k : Nat} (hk : k < l.length) (h0 : (l.take k).all Pt.inB = true) (h : (l.getD k default).inB = true) : (l.take (k + 1)).all Pt.inB = true := by
  have e : l.getD k default = l[k] := by simp [hk]
  rw [e] at h
  rw [List.take_succ_eq_append_getElem hk, List.all_append, h0]
  simp [h]
end Go.Proofs.Ytojgjdcciojpeaa
