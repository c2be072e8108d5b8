/-
  A part of the walks of this seat: each theorem says what a function of the program gives. No condition beyond its own premises.
-/
import Derived.Test.YtojgjdcciojpeaaGreatC21
set_option linter.unusedSimpArgs false
set_option linter.unusedVariables false
namespace Go.Proofs.YtojgjdcciojpeaaGreat
open Go Go.PS Go.ChangeShapes Go.WideShapes Go.ChangeAt Go.RowKit
set_option maxRecDepth 100000
set_option maxHeartbeats 4000000
theorem composingPastesInPlace : (Rows.composingPastesRow.inPlace == Tryz.pinned.checked.prog.inPlace 12) = true := by kernel_rfl
theorem composingPastesUnfollowed : (Rows.composingPastesRow.unfollowed == Tryz.pinned.checked.prog.unfollowed 12) = true := by kernel_rfl
theorem composingPastesRecurses : (Rows.composingPastesRow.recurses == Tryz.pinned.checked.prog.recurses 12) = true := by kernel_rfl
theorem composingPastesNamed : (Rows.composingPastesRow.named == Tryz.pinned.checked.prog.varsNamed 12) = true := by kernel_rfl
theorem composingPastesClosed : joinedFacts Tryz.pinned.checked.prog 12 Tryz.f12 Rows.composingPastesSpec Rows.composingPastesRow = true := by
  unfold joinedFacts
  rw [composingPastesInPlace, composingPastesUnfollowed, composingPastesRecurses, composingPastesNamed]
  kernel_rfl
end Go.Proofs.YtojgjdcciojpeaaGreat
