/-
  A part of the walks of this seat: each theorem says what a function of the program gives. No condition beyond its own premises.
-/
import Derived.Test.YtojgjdcciojpeaaGreatC21
set_option linter.unusedSimpArgs false
set_option linter.unusedVariables false
namespace Go.Proofs.YtojgjdcciojpeaaGreat
open Go Go.PS Go.ChangeShapes Go.WideShapes Go.ChangeAt Go.RowKit
set_option maxRecDepth 100000
set_option maxHeartbeats 4000000
theorem composingTypesInPlace : (Rows.composingTypesRow.inPlace == Tryz.pinned.checked.prog.inPlace 14) = true := by kernel_rfl
theorem composingTypesUnfollowed : (Rows.composingTypesRow.unfollowed == Tryz.pinned.checked.prog.unfollowed 14) = true := by kernel_rfl
theorem composingTypesRecurses : (Rows.composingTypesRow.recurses == Tryz.pinned.checked.prog.recurses 14) = true := by kernel_rfl
theorem composingTypesNamed : (Rows.composingTypesRow.named == Tryz.pinned.checked.prog.varsNamed 14) = true := by kernel_rfl
theorem composingTypesClosed : joinedFacts Tryz.pinned.checked.prog 14 Tryz.f14 Rows.composingTypesSpec Rows.composingTypesRow = true := by
  unfold joinedFacts
  rw [composingTypesInPlace, composingTypesUnfollowed, composingTypesRecurses, composingTypesNamed]
  kernel_rfl
end Go.Proofs.YtojgjdcciojpeaaGreat
