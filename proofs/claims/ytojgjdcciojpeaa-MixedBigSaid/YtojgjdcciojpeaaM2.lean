/-
  A part of the walks of this seat: each theorem says what a function of the program gives. No condition beyond its own premises.
-/
import Derived.Test.YtojgjdcciojpeaaM1
import Derived.Test.YtojgjdcciojpeaaC1
set_option linter.unusedSimpArgs false
set_option linter.unusedVariables false
namespace Go.Proofs.Ytojgjdcciojpeaa
open Go Go.PS
set_option maxRecDepth 100000
set_option maxHeartbeats 4000000
/-- The reference's look at letters. -/
def risTo (l : List UInt8) (k : Nat) : Bool := (List.range k).all fun j => decide ((l.getD j 0).toNat < (l.getD (j + 1) 0).toNat)
def ris (l : List UInt8) : Bool := risTo l (l.length - 1)
theorem ris_step (l : List UInt8) (k : Nat) : risTo l (k + 1) = (risTo l k && decide ((l.getD k 0).toNat < (l.getD (k + 1) 0).toNat)) := by
  simp [risTo, List.range_succ, List.all_append]
theorem ris_false {l : List UInt8} {k : Nat} (hk : k + 1 < l.length) (h : ¬ (l.getD k 0).toNat < (l.getD (k + 1) 0).toNat) : ris l = false := by
  rw [Bool.eq_false_iff]; intro ht
  have := List.all_eq_true.1 ht k (by simp; omega)
  exact h (of_decide_eq_true this)
theorem incr84 (l : List UInt8) (hl : l.length ≤ 9223372036854775807) : PCall Try.prog 20 [.str l] (.bool (ris l)) := by
  refine enterP tabOk Try.func20 18 [0, 2, 3, 7, 17] [.tmp 2] rfl (r := [_]) rfl (h := ?_); intro E hK; simp only [go_sem]
  refine wgo ?_
  refine wlp (Run.loopC (ι := { i : Nat // (i + 1 ≤ l.length ∨ i = 0) ∧ risTo l i = true }) (U := fun i => [(3, .d (.int .i64 ((i.1 : Int) + 1)))]) (O := fun i => []) (K := fun _ => []) (μ := fun i => l.length - i.1) (i0 := ⟨0, by omega, rfl⟩)) ?_
  rintro ⟨i, hi, hp⟩ ih
  by_cases hlt : i + 1 < l.length
  · have h1 : (i : Int) + 1 < l.length := by omega
    have e1 : ((i : Int) + 1).toNat = i + 1 := by omega
    have e2 : ((i : Int) + 1 - 1).toNat = i := by omega
    by_cases c : (l.getD i 0).toNat < (l.getD (i + 1) 0).toNat
    · have c1 : ¬ ((l.getD (i + 1) 0).toNat : Int) ≤ ((l.getD i 0).toNat : Int) := by omega
      simp only [go_sem]
      refine wgoF (And.intro (@h1) (And.intro (@e1) (And.intro (@e2) (@c1)))) ?_
      exact wnxt (ih ⟨i + 1, by omega, by rw [ris_step, hp, decide_eq_true c]; rfl⟩)
    · have c1 : ((l.getD (i + 1) 0).toNat : Int) ≤ ((l.getD i 0).toNat : Int) := by omega
      have hf := ris_false hlt c
      simp only [go_sem]
      refine wgoF (And.intro (@h1) (And.intro (@e1) (And.intro (@e2) (@c1)))) ?_
      exact wretF (@hf)
  · have h1 : ¬ (i : Int) + 1 < l.length := by omega
    have hr : ris l = true := by
      rw [ris, ← hp]; congr 1; omega
    simp only [go_sem]
    refine wgoF (@h1) ?_
    exact wretF (@hr)
def inI (n a b : Int) : Bool := decide (a ≤ n) && decide (n ≤ b)
/-- Points within the range. -/
def inL (p : List Pt) : Bool := p.all Pt.inB
theorem coord85 (p : List Pt) (hl : p.length ≤ 9223372036854775807) : PCall Try.prog 21 [.sl 2 (p.map Pt.d)] (.bool (inL p)) := by
  refine enterP tabOk Try.func21 30 [0, 2, 4, 5, 6, 7, 8, 28] [.tmp 2] rfl (r := [_]) rfl (h := ?_); intro E hK; simp only [go_sem]
  refine wgo ?_
  refine wlp (Run.loopC (ι := { i : Nat // i ≤ p.length ∧ (p.take i).all Pt.inB = true }) (U := fun i => [(7, .d (.int .i64 i.1))]) (O := fun i => []) (K := fun _ => []) (μ := fun i => p.length - i.1) (i0 := ⟨0, by omega, by simp⟩)) ?_
  rintro ⟨i, hi, hp⟩ ih
  by_cases hlt : i < p.length
  · have h1 : (i : Int) < p.length := by omega
    have hget := pt_get hlt
    cases hb : (p.getD i default).inB with
    | true =>
      have hb1 := hb
      simp only [Pt.inB, Bool.and_eq_true, decide_eq_true_eq] at hb1
      have c1 : ¬ (p.getD i default).x < 0 := by omega
      have c2 : ¬ 1000 < (p.getD i default).x := by omega
      have c3 : ¬ (p.getD i default).y < 0 := by omega
      have c4 : ¬ 1000 < (p.getD i default).y := by omega
      simp only [go_sem]
      refine wgoF (And.intro (@h1) (And.intro (@hget) (And.intro (@c1) (And.intro (@c2) (And.intro (@c3) (@c4)))))) ?_
      exact wnxt (ih ⟨i + 1, by omega, all_take hlt hp hb⟩)
    | false =>
      have hf : inL p = false := all_out hlt hb
      have c1 : (((decide ((p.getD i default).x < 0) || decide (1000 < (p.getD i default).x)) || decide ((p.getD i default).y < 0)) || decide (1000 < (p.getD i default).y)) = true := by
        have : ¬ (p.getD i default).inB = true := by rw [hb]; simp
        simp only [Pt.inB, Bool.and_eq_true, decide_eq_true_eq] at this
        simp only [Bool.or_eq_true, decide_eq_true_eq]; omega
      simp only [go_sem]
      refine wgoF (And.intro (@h1) (And.intro (@hget) (@c1))) ?_
      exact wretF (@hf)
  · have h1 : ¬ (i : Int) < p.length := by omega
    have e : p.take i = p := List.take_of_length_le (by omega)
    rw [e] at hp
    have hr : inL p = true := hp
    simp only [go_sem]
    refine wgoF (@h1) ?_
    exact wretF (@hr)
end Go.Proofs.Ytojgjdcciojpeaa
