/-
  A part of the walks of this seat: each theorem says what a function of the program gives. No condition beyond its own premises.
-/
import Derived.Test.YtojgjdcciojpeaaMB
import Derived.Test.YtojgjdcciojpeaaRows
set_option linter.unusedSimpArgs false
set_option linter.unusedVariables false
namespace Go.Proofs.Ytojgjdcciojpeaa
open Go Go.PS Go.ChangeShapes Go.WideShapes Go.ChangeAt Go.RowKit
set_option maxRecDepth 100000
set_option maxHeartbeats 4000000
theorem knob : ownKnob Try.prog.godebug = Option.none := by kernel_rfl
theorem laidOut : laidOutB Try.prog = true := by kernel_rfl
theorem ccells53 : Try.prog.cellsOf 53 = 2 := by kernel_rfl
theorem ccells5 : Try.prog.cellsOf 5 = 1 := by kernel_rfl
theorem plain23 : plainB Try.prog 9 23 = true := by kernel_rfl
theorem plain22 : plainB Try.prog 9 22 = true := by kernel_rfl
theorem bp_of0 {zs : List D} (h : Fits Try.prog [53] zs) : ∃ r : Int × Int, zs = [.int .u8 r.1, .int .u8 r.2] ∧ (0 ≤ r.1 ∧ r.1 ≤ 255 ∧ 0 ≤ r.2 ∧ r.2 ≤ 255) := by
  obtain ⟨ys, xs, rfl, hy, hx⟩ := h.arr_inv Try.underlying53
  cases hx.nil_inv
  have hy1 : Fits Try.prog [5, 5] ys := hy
  obtain ⟨a, ys1, rfl, ha, hy2⟩ := hy1.int_inv Try.underlying5
  obtain ⟨b, ys2, rfl, hb, hy3⟩ := hy2.int_inv Try.underlying5
  cases hy3.nil_inv
  have h1 := u8_bd' ha
  have h2 := u8_bd' hb
  exact ⟨(a, b), rfl, h1.1, h1.2, h2.1, h2.2⟩
theorem bp_of (zs : List D) (h : Fits Try.prog [53] zs) : ∃ r : Int × Int, asElem Try.prog 53 zs = bpD r ∧ (0 ≤ r.1 ∧ r.1 ≤ 255 ∧ 0 ≤ r.2 ∧ r.2 ≤ 255) := by
  obtain ⟨r, rfl, h1⟩ := bp_of0 h
  exact ⟨r, by simp only [asElem, Try.underlying53, bpD], h1⟩
theorem u8_of (zs : List D) (h : Fits Try.prog [5] zs) : ∃ r : Int, asElem Try.prog 5 zs = .int .u8 r ∧ (0 ≤ r ∧ r ≤ 255) := by
  obtain ⟨a, ys, rfl, ha, hy⟩ := h.int_inv Try.underlying5
  cases hy.nil_inv
  exact ⟨a, by simp only [asElem, Try.underlying5]; rfl, u8_bd' ha⟩
theorem arg_bps {H : Type} {enc : TypeId × Value → H} {W : World} {base : Nat} {v : Value} {d : DataW H} {p : List MemPlace} {sp : Nat → Bool} (hok : Value.okWide Try.prog W .any base 23 v) (h : DataW.Trod enc Try.prog W 0 sp true 23 v d p) :
    ∃ l : List (Int × Int), bps l ∧ RepD (KAll W) (.sl 2 (l.map bpD)) v :=
  arg_slice bpD _ 9 plain23 Try.underlying23 ccells53 bp_of hok h
theorem arg_u8s {H : Type} {enc : TypeId × Value → H} {W : World} {base : Nat} {v : Value} {d : DataW H} {p : List MemPlace} {sp : Nat → Bool} (hok : Value.okWide Try.prog W .any base 22 v) (h : DataW.Trod enc Try.prog W 0 sp true 22 v d p) :
    ∃ l : List Int, u8s l ∧ RepD (KAll W) (.sl 1 (l.map (D.int .u8))) v :=
  arg_slice (D.int .u8) _ 9 plain22 Try.underlying22 ccells5 u8_of hok h
end Go.Proofs.Ytojgjdcciojpeaa
