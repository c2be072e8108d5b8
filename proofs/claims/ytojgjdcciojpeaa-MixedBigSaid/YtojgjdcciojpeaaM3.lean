/-
  A part of the walks of this seat: each theorem says what a function of the program gives. No condition beyond its own premises.
-/
import Derived.Test.YtojgjdcciojpeaaM2
set_option linter.unusedSimpArgs false
set_option linter.unusedVariables false
namespace Go.Proofs.Ytojgjdcciojpeaa
open Go Go.PS
set_option maxRecDepth 100000
set_option maxHeartbeats 4000000
/-- An event. -/
structure Ev where
  kind : Int
  keys : List UInt8
  p : List Pt
  text : List UInt8
  n : Int
  l : Int
  deriving DecidableEq, Inhabited
def Ev.d (e : Ev) : D := .agg [.int .i64 e.kind, .str e.keys, .sl 2 (e.p.map Pt.d), .str e.text, .int .i64 e.n, .int .i64 e.l]
def Ev.noK (e : Ev) : Bool := decide (e.keys = [])
def Ev.noP (e : Ev) : Bool := decide ((e.p.length : Int) = 0)
def Ev.noT (e : Ev) : Bool := decide (e.text = [])
def Ev.noN (e : Ev) : Bool := decide (e.n = 0)
def Ev.noL (e : Ev) : Bool := decide (e.l = 0)
def validE (e : Ev) : Bool :=
  if e.kind = 1 then decide ((e.keys.length : Int) = 1) && lets e.keys && e.noP && e.noT && e.noN && e.noL
  else if e.kind = 2 then decide (2 ≤ (e.keys.length : Int)) && decide ((e.keys.length : Int) ≤ 4) && lets e.keys && ris e.keys && e.noP && e.noT && e.noN && e.noL
  else if e.kind = 3 then decide ((e.p.length : Int) = 1) && inL e.p && e.noK && e.noT && e.noN && e.noL
  else if e.kind = 4 then decide (2 ≤ (e.p.length : Int)) && decide ((e.p.length : Int) ≤ 12) && inL e.p && e.noK && e.noT && e.noN && e.noL
  else if e.kind = 5 then decide (1 ≤ (e.text.length : Int)) && decide ((e.text.length : Int) ≤ 20) && lets e.text && e.noK && e.noP && e.noN && e.noL
  else if e.kind = 9 then decide (0 ≤ e.n) && decide (e.n < 40) && decide (1 ≤ e.l) && decide (e.l ≤ 40) && e.noK && e.noP && e.noT
  else if e.kind = 10 then decide (0 ≤ e.n) && decide (e.n < 50) && e.noK && e.noP && e.noT && e.noL
  else if e.kind = 6 ∨ e.kind = 7 ∨ e.kind = 8 ∨ e.kind = 11 ∨ e.kind = 12 then e.noK && e.noP && e.noT && e.noN && e.noL
  else false
attribute [go_sem] Ev.noK Ev.noP Ev.noT Ev.noN Ev.noL
def Ev.lok (e : Ev) : Prop := e.keys.length ≤ 9223372036854775807 ∧ e.p.length ≤ 9223372036854775807 ∧ e.text.length ≤ 9223372036854775807
theorem cast0 : ((0 : Nat) : Int) = 0 := rfl
attribute [go_sem] cast0
theorem len0 {α : Type} (l : List α) : decide ((l.length : Int) = 0) = decide (l = []) := by cases l <;> simp; omega
theorem valid62 (e : Ev) (hl : e.lok) : PCall Try.prog 16 [e.d] (.bool (validE e)) := by
  obtain ⟨l1, l2, l3⟩ := hl
  obtain ⟨k, keys, p, text, n, l⟩ := e
  dsimp only at l1 l2 l3
  by_cases h1 : k = 1
  · subst h1
    refine enterP tabOk Try.func16 155 [0, 1, 2, 3, 5, 6, 18, 41, 53, 71, 89, 111, 122] [.tmp 2] rfl (r := [_]) rfl (h := ?_); intro E hK; simp only [go_sem]
    refine wgoF (@Ev.d.eq_1) ?_
    refine wscall (letters83 keys) ?_
    refine wgo ?_
    refine wretq ?_
    simp only [validE, go_sem, Bool.and_assoc]
  by_cases h2 : k = 2
  · subst h2
    refine enterP tabOk Try.func16 155 [0, 1, 2, 3, 5, 6, 18, 41, 53, 71, 89, 111, 122] [.tmp 2] rfl (r := [_]) rfl (h := ?_); intro E hK; simp only [go_sem]
    refine wgoF (@Ev.d.eq_1) ?_
    refine wscall (letters83 keys) ?_
    refine wgo ?_
    refine wscall (incr84 keys l1) ?_
    refine wgo ?_
    refine wretq ?_
    simp only [validE, go_sem, Bool.and_assoc]
  by_cases h3 : k = 3
  · subst h3
    refine enterP tabOk Try.func16 155 [0, 1, 2, 3, 5, 6, 18, 41, 53, 71, 89, 111, 122] [.tmp 2] rfl (r := [_]) rfl (h := ?_); intro E hK; simp only [go_sem]
    refine wgoF (@Ev.d.eq_1) ?_
    refine wscall (coord85 p l2) ?_
    refine wgo ?_
    refine wretq ?_
    simp only [validE, go_sem, Bool.and_assoc]
  by_cases h4 : k = 4
  · subst h4
    refine enterP tabOk Try.func16 155 [0, 1, 2, 3, 5, 6, 18, 41, 53, 71, 89, 111, 122] [.tmp 2] rfl (r := [_]) rfl (h := ?_); intro E hK; simp only [go_sem]
    refine wgoF (@Ev.d.eq_1) ?_
    refine wscall (coord85 p l2) ?_
    refine wgo ?_
    refine wretq ?_
    simp only [validE, go_sem, Bool.and_assoc]
  by_cases h5 : k = 5
  · subst h5
    refine enterP tabOk Try.func16 155 [0, 1, 2, 3, 5, 6, 18, 41, 53, 71, 89, 111, 122] [.tmp 2] rfl (r := [_]) rfl (h := ?_); intro E hK; simp only [go_sem]
    refine wgoF (@Ev.d.eq_1) ?_
    refine wscall (letters83 text) ?_
    refine wgo ?_
    refine wretq ?_
    simp only [validE, go_sem, Bool.and_assoc]
  by_cases h9 : k = 9
  · subst h9
    refine enterP tabOk Try.func16 155 [0, 1, 2, 3, 5, 6, 18, 41, 53, 71, 89, 111, 122] [.tmp 2] rfl (r := [_]) rfl (h := ?_); intro E hK; simp only [go_sem]
    refine wgoF (@Ev.d.eq_1) ?_
    refine wretq ?_
    simp only [validE, go_sem, Bool.and_assoc]
  by_cases h10 : k = 10
  · subst h10
    refine enterP tabOk Try.func16 155 [0, 1, 2, 3, 5, 6, 18, 41, 53, 71, 89, 111, 122] [.tmp 2] rfl (r := [_]) rfl (h := ?_); intro E hK; simp only [go_sem]
    refine wgoF (@Ev.d.eq_1) ?_
    refine wretq ?_
    simp only [validE, go_sem, Bool.and_assoc]
  by_cases h6 : k = 6 ∨ k = 7 ∨ k = 8 ∨ k = 11 ∨ k = 12
  · have hr : validE ⟨k, keys, p, text, n, l⟩ = (decide (keys = []) && (decide ((p.length : Int) = 0) && (decide (text = []) && (decide (n = 0) && decide (l = 0))))) := by
      unfold validE; dsimp only
      rw [if_neg h1, if_neg h2, if_neg h3, if_neg h4, if_neg h5, if_neg h9, if_neg h10, if_pos h6]
      simp only [Ev.noK, Ev.noP, Ev.noT, Ev.noN, Ev.noL, Bool.and_assoc]
    rcases h6 with h | h | h | h | h <;> subst h
    all_goals
      refine enterP tabOk Try.func16 155 [0, 1, 2, 3, 5, 6, 18, 41, 53, 71, 89, 111, 122] [.tmp 2] rfl (r := [_]) rfl (h := ?_); intro E hK; simp only [go_sem]
      refine wgoF (@Ev.d.eq_1) ?_
      refine wretqF (@Bool.and_assoc) ?_
      rw [hr]
  · have hr : validE ⟨k, keys, p, text, n, l⟩ = false := by
      unfold validE; dsimp only
      rw [if_neg h1, if_neg h2, if_neg h3, if_neg h4, if_neg h5, if_neg h9, if_neg h10, if_neg h6]
    have h6a : ¬ k = 6 := by omega
    have h6b : ¬ k = 7 := by omega
    have h6c : ¬ k = 8 := by omega
    have h6d : ¬ k = 11 := by omega
    have h6e : ¬ k = 12 := by omega
    refine enterP tabOk Try.func16 155 [0, 1, 2, 3, 5, 6, 18, 41, 53, 71, 89, 111, 122] [.tmp 2] rfl (r := [_]) rfl (h := ?_); intro E hK; simp only [go_sem]
    refine wgoF (And.intro (@Ev.d.eq_1) (And.intro (@h1) (And.intro (@h2) (And.intro (@h3) (And.intro (@h4) (And.intro (@h5) (And.intro (@h9) (And.intro (@h10) (And.intro (@h6a) (And.intro (@h6b) (And.intro (@h6c) (And.intro (@h6d) (@h6e))))))))))))) ?_
    exact wretF (@hr)
end Go.Proofs.Ytojgjdcciojpeaa
