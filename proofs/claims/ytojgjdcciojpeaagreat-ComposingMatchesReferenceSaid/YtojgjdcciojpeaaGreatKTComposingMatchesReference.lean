/-
  A part of the walks of this seat: each theorem says what a function of the program gives. No condition beyond its own premises.
-/
import Derived.Test.YtojgjdcciojpeaaGreatD21
set_option linter.unusedSimpArgs false
set_option linter.unusedVariables false
namespace Go.Proofs.YtojgjdcciojpeaaGreat
open Go Go.PS Go.ChangeShapes Go.WideShapes Go.ChangeAt Go.RowKit
set_option maxRecDepth 100000
set_option maxHeartbeats 4000000
theorem composingMatchesReferenceInPlace : (Rows.composingMatchesReferenceRow.inPlace == Tryz.pinned.checked.prog.inPlace 8) = true := by kernel_rfl
theorem composingMatchesReferenceUnfollowed : (Rows.composingMatchesReferenceRow.unfollowed == Tryz.pinned.checked.prog.unfollowed 8) = true := by kernel_rfl
theorem composingMatchesReferenceRecurses : (Rows.composingMatchesReferenceRow.recurses == Tryz.pinned.checked.prog.recurses 8) = true := by kernel_rfl
theorem composingMatchesReferenceNamed : (Rows.composingMatchesReferenceRow.named == Tryz.pinned.checked.prog.varsNamed 8) = true := by kernel_rfl
theorem composingMatchesReferenceClosed : joinedFacts Tryz.pinned.checked.prog 8 Tryz.f8 Rows.composingMatchesReferenceSpec Rows.composingMatchesReferenceRow = true := by
  unfold joinedFacts
  rw [composingMatchesReferenceInPlace, composingMatchesReferenceUnfollowed, composingMatchesReferenceRecurses, composingMatchesReferenceNamed]
  kernel_rfl
end Go.Proofs.YtojgjdcciojpeaaGreat
