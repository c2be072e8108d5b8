/-
  A part of the walks of this seat: each theorem says what a function of the program gives. No condition beyond its own premises.
-/
import Derived.Test.YtojgjdcciojpeaaTabZ
set_option linter.unusedSimpArgs false
set_option linter.unusedVariables false
namespace Go.Proofs.Ytojgjdcciojpeaa
open Go Go.PS
set_option maxRecDepth 100000
set_option maxHeartbeats 4000000
/-! Texts: letters. -/
def letB (c : UInt8) : Bool := decide (97 ≤ c.toNat) && decide (c.toNat ≤ 122)
def lets (l : List UInt8) : Bool := l.all letB
/-- Where a walk over a text stands. -/
def itO (l : List UInt8) (i : Nat) : OB := ⟨4000000001, 2, [.agg [.d (.str l), .d (.int .i64 i)]]⟩
theorem get_arr (l : List UInt8) (i : Nat) (h : i < (⟨l.toArray⟩ : ByteArray).size) : (⟨l.toArray⟩ : ByteArray)[i] = l[i]'(by simpa [ByteArray.size] using h) := by
  show l.toArray[i] = _
  simp
theorem runeAt_low {l : List UInt8} {i : Nat} (h : i < l.length) (ha : (l.getD i 0).toNat < 128) : runeAt l i = ((l.getD i 0).toNat, 1) := by
  have hs : i < (⟨l.toArray⟩ : ByteArray).size := by simpa [ByteArray.size] using h
  have e : l.getD i 0 = l[i] := by simp [h]
  unfold runeAt
  rw [decode_ascii _ _ hs (by rw [get_arr]; rw [e] at ha; exact ha), get_arr, e]
theorem runeAt_high {l : List UInt8} {i : Nat} (h : i < l.length) (ha : ¬ (l.getD i 0).toNat < 128) : 128 ≤ (runeAt l i).1 := by
  have hs : i < (⟨l.toArray⟩ : ByteArray).size := by simpa [ByteArray.size] using h
  have e : l.getD i 0 = l[i] := by simp [h]
  exact (decode_high _ _ hs (by rw [get_arr]; rw [e] at ha; omega)).1
theorem lets_step {l : List UInt8} {i : Nat} (h : i < l.length) : lets (l.take (i + 1)) = (lets (l.take i) && letB (l.getD i 0)) := by
  have e : l.getD i 0 = l[i] := by simp [h]
  rw [List.take_succ_eq_append_getElem h, lets, List.all_append, e]
  simp [lets]
theorem lets_false {l : List UInt8} {i : Nat} (h : i < l.length) (hb : letB (l.getD i 0) = false) : lets l = false := by
  have e : l.getD i 0 = l[i] := by simp [h]
  rw [Bool.eq_false_iff]
  intro ht
  have := List.all_eq_true.1 ht l[i] (List.getElem_mem h)
  rw [e] at hb; rw [hb] at this; cases this
theorem letB_iff {c : UInt8} : letB c = true ↔ 97 ≤ c.toNat ∧ c.toNat ≤ 122 := by simp [letB]
theorem letters83 (l : List UInt8) : PCall Try.prog 19 [.str l] (.bool (lets l)) := by
  refine enterP tabOk Try.func19 16 [0, 2, 4, 6, 7, 8, 15] [.tmp 2] rfl (r := [_]) rfl (h := ?_); intro E hK; simp only [go_sem]
  refine wgo ?_
  refine wlpF (Run.loopC (ι := { i : Nat // i ≤ l.length ∧ lets (l.take i) = true }) (U := fun i => []) (O := fun i => [(6, some (itO l i.1))]) (K := fun _ => []) (μ := fun i => l.length - i.1) (i0 := ⟨0, by omega, rfl⟩)) (@itO.eq_1) ?_
  rintro ⟨i, hi, hp⟩ ih
  by_cases hlt : i < l.length
  · have h1 : (i : Int) < l.length := by omega
    have hst := lets_step hlt
    by_cases ha : (l.getD i 0).toNat < 128
    · have hr := runeAt_low hlt ha
      cases hb : letB (l.getD i 0) with
      | true =>
        obtain ⟨b1, b2⟩ := letB_iff.1 hb
        have c1 : ¬ ((l.getD i 0).toNat : Int) < 97 := by omega
        have c2 : ¬ 122 < ((l.getD i 0).toNat : Int) := by omega
        simp only [go_sem, itO]
        refine wgoF (And.intro (@h1) (And.intro (@hr) (And.intro (@c1) (@c2)))) ?_
        exact wnxtF (ih ⟨i + 1, by omega, by rw [hst, hp, hb]; rfl⟩) (@itO.eq_1)
      | false =>
        have hf := lets_false hlt hb
        have c1 : (decide (((l.getD i 0).toNat : Int) < 97) || decide (122 < ((l.getD i 0).toNat : Int))) = true := by
          have : ¬ (97 ≤ (l.getD i 0).toNat ∧ (l.getD i 0).toNat ≤ 122) := fun h => by rw [letB_iff.2 h] at hb; cases hb
          simp only [Bool.or_eq_true, decide_eq_true_eq]; omega
        simp only [go_sem, itO]
        refine wgoF (And.intro (@h1) (And.intro (@hr) (@c1))) ?_
        exact wretF (@hf)
    · have hr := runeAt_high hlt ha
      have hb : letB (l.getD i 0) = false := by
        rw [Bool.eq_false_iff]; intro h; have := letB_iff.1 h; omega
      have hf := lets_false hlt hb
      have c1 : (decide (((runeAt l i).1 : Int) < 97) || decide (122 < ((runeAt l i).1 : Int))) = true := by
        simp only [Bool.or_eq_true, decide_eq_true_eq]; omega
      simp only [go_sem, itO]
      refine wgoF (And.intro (@h1) (@c1)) ?_
      exact wretF (@hf)
  · have h1 : ¬ (i : Int) < l.length := by omega
    have e : l.take i = l := List.take_of_length_le (by omega)
    rw [e] at hp
    simp only [go_sem, itO]
    refine wgoF (@h1) ?_
    exact wretF (@hp)
end Go.Proofs.Ytojgjdcciojpeaa
