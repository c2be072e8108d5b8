/-
  A part of the walks of this seat: each theorem says what a function of the program gives. No condition beyond its own premises.
-/
import Derived.Test.YtojgjdcciojpeaaGreatC21
set_option linter.unusedSimpArgs false
set_option linter.unusedVariables false
namespace Go.Proofs.YtojgjdcciojpeaaGreat
open Go Go.PS Go.ChangeShapes Go.WideShapes Go.ChangeAt Go.RowKit
set_option maxRecDepth 100000
set_option maxHeartbeats 4000000
theorem composingErasesInPlace : (Rows.composingErasesRow.inPlace == Tryz.pinned.checked.prog.inPlace 10) = true := by kernel_rfl
theorem composingErasesUnfollowed : (Rows.composingErasesRow.unfollowed == Tryz.pinned.checked.prog.unfollowed 10) = true := by kernel_rfl
theorem composingErasesRecurses : (Rows.composingErasesRow.recurses == Tryz.pinned.checked.prog.recurses 10) = true := by kernel_rfl
theorem composingErasesNamed : (Rows.composingErasesRow.named == Tryz.pinned.checked.prog.varsNamed 10) = true := by kernel_rfl
theorem composingErasesClosed : joinedFacts Tryz.pinned.checked.prog 10 Tryz.f10 Rows.composingErasesSpec Rows.composingErasesRow = true := by
  unfold joinedFacts
  rw [composingErasesInPlace, composingErasesUnfollowed, composingErasesRecurses, composingErasesNamed]
  kernel_rfl
end Go.Proofs.YtojgjdcciojpeaaGreat
