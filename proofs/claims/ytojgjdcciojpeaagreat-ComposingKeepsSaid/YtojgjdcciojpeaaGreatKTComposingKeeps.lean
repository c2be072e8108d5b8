/-
  A part of the walks of this seat: each theorem says what a function of the program gives. No condition beyond its own premises.
-/
import Derived.Test.YtojgjdcciojpeaaGreatC21
set_option linter.unusedSimpArgs false
set_option linter.unusedVariables false
namespace Go.Proofs.YtojgjdcciojpeaaGreat
open Go Go.PS Go.ChangeShapes Go.WideShapes Go.ChangeAt Go.RowKit
set_option maxRecDepth 100000
set_option maxHeartbeats 4000000
theorem composingKeepsInPlace : (Rows.composingKeepsRow.inPlace == Tryz.pinned.checked.prog.inPlace 9) = true := by kernel_rfl
theorem composingKeepsUnfollowed : (Rows.composingKeepsRow.unfollowed == Tryz.pinned.checked.prog.unfollowed 9) = true := by kernel_rfl
theorem composingKeepsRecurses : (Rows.composingKeepsRow.recurses == Tryz.pinned.checked.prog.recurses 9) = true := by kernel_rfl
theorem composingKeepsNamed : (Rows.composingKeepsRow.named == Tryz.pinned.checked.prog.varsNamed 9) = true := by kernel_rfl
theorem composingKeepsClosed : joinedFacts Tryz.pinned.checked.prog 9 Tryz.f9 Rows.composingKeepsSpec Rows.composingKeepsRow = true := by
  unfold joinedFacts
  rw [composingKeepsInPlace, composingKeepsUnfollowed, composingKeepsRecurses, composingKeepsNamed]
  kernel_rfl
end Go.Proofs.YtojgjdcciojpeaaGreat
