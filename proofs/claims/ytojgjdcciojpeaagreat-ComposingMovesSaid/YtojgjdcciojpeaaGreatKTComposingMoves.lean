/-
  A part of the walks of this seat: each theorem says what a function of the program gives. No condition beyond its own premises.
-/
import Derived.Test.YtojgjdcciojpeaaGreatC21
set_option linter.unusedSimpArgs false
set_option linter.unusedVariables false
namespace Go.Proofs.YtojgjdcciojpeaaGreat
open Go Go.PS Go.ChangeShapes Go.WideShapes Go.ChangeAt Go.RowKit
set_option maxRecDepth 100000
set_option maxHeartbeats 4000000
theorem composingMovesInPlace : (Rows.composingMovesRow.inPlace == Tryz.pinned.checked.prog.inPlace 11) = true := by kernel_rfl
theorem composingMovesUnfollowed : (Rows.composingMovesRow.unfollowed == Tryz.pinned.checked.prog.unfollowed 11) = true := by kernel_rfl
theorem composingMovesRecurses : (Rows.composingMovesRow.recurses == Tryz.pinned.checked.prog.recurses 11) = true := by kernel_rfl
theorem composingMovesNamed : (Rows.composingMovesRow.named == Tryz.pinned.checked.prog.varsNamed 11) = true := by kernel_rfl
theorem composingMovesClosed : joinedFacts Tryz.pinned.checked.prog 11 Tryz.f11 Rows.composingMovesSpec Rows.composingMovesRow = true := by
  unfold joinedFacts
  rw [composingMovesInPlace, composingMovesUnfollowed, composingMovesRecurses, composingMovesNamed]
  kernel_rfl
end Go.Proofs.YtojgjdcciojpeaaGreat
