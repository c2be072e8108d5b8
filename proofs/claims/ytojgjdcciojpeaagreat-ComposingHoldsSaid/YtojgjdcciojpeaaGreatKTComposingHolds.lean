/-
  A part of the walks of this seat: each theorem says what a function of the program gives. No condition beyond its own premises.
-/
import Derived.Test.YtojgjdcciojpeaaGreatC21
set_option linter.unusedSimpArgs false
set_option linter.unusedVariables false
namespace Go.Proofs.YtojgjdcciojpeaaGreat
open Go Go.PS Go.ChangeShapes Go.WideShapes Go.ChangeAt Go.RowKit
set_option maxRecDepth 100000
set_option maxHeartbeats 4000000
theorem composingHoldsInPlace : (Rows.composingHoldsRow.inPlace == Tryz.pinned.checked.prog.inPlace 13) = true := by kernel_rfl
theorem composingHoldsUnfollowed : (Rows.composingHoldsRow.unfollowed == Tryz.pinned.checked.prog.unfollowed 13) = true := by kernel_rfl
theorem composingHoldsRecurses : (Rows.composingHoldsRow.recurses == Tryz.pinned.checked.prog.recurses 13) = true := by kernel_rfl
theorem composingHoldsNamed : (Rows.composingHoldsRow.named == Tryz.pinned.checked.prog.varsNamed 13) = true := by kernel_rfl
theorem composingHoldsClosed : joinedFacts Tryz.pinned.checked.prog 13 Tryz.f13 Rows.composingHoldsSpec Rows.composingHoldsRow = true := by
  unfold joinedFacts
  rw [composingHoldsInPlace, composingHoldsUnfollowed, composingHoldsRecurses, composingHoldsNamed]
  kernel_rfl
end Go.Proofs.YtojgjdcciojpeaaGreat
