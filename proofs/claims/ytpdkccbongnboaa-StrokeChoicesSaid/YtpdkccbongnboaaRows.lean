/-
  No cell of these rows narrows 'for every input' (looked for: loops, veiled, ifaces, maps, wideKeys, modest, calm, conditions, laid).
  DERIVED. THE GIVEN ROWS OF THIS SEAT. 7 by the template 'for every input the law returns true; each argument reads behind the call as it read before'; 0 by the template 'total and deterministic' (their statements: YtpdkccbongnboaaTotals.lean).
  GIVEN WITH THE SEED: the statements are not yours to turn. If you find one false, say at which input.
  Laid BY PROGRAM, IN A SANDBOX (cutbox-rows.mjs): the forced cells as the released guide's own fill.sh prints them over the translation 5fd03040035d7d74… (all of the seat's roots in one cut). By AI agents, Wed Nov 11 2026. No macro, syntax, notation, axiom, sorry.
-/
import Derived.Test.YtpdkccbongnboaaChecked
import GoSem.Claim
import GoSem.ClaimJoined
import GoSem.ClaimMapViews
import Derived.JoinedTies
import Derived.KernelRfl
namespace Go.Proofs.Ytpdkccbongnboaa
/- THE CELL 'sum', in the pinned program and in every row, IS THE sha256 OF THE DUMP (.gsa) THAT YtpdkccbongnboaaProg.lean LOADS. Nothing in Lean hashes anything: it is a label: what it is worth is what the hold of that sum in a sandbox is worth. -/
noncomputable def Try.pinned : Pinned := { name := "ytpdkccbongnboaa", sum := "5fd03040035d7d743b18a413ba0ea8e04f36af37c6c70f71a4141d51e8dc4e68", checked := Try.checked }
namespace Rows
def none {H : Type} : Left H := { results := [], args := [] }

/-- 'syllabarylaw22.StrokeMatchesReference': WHATEVER THE INPUT: true; the input reads as it did. -/
def strokeMatchesReferenceSpec : ChangeSpec := { name := "strokeMatchesReference", fn := fun _ => fun
  | [d1, d2] => { results := [.lit (.bool true)], args := [d1, d2] }
  | _ => none }
def strokeMatchesReferenceRow : OpenClaim := { program := "ytpdkccbongnboaa", sum := "5fd03040035d7d743b18a413ba0ea8e04f36af37c6c70f71a4141d51e8dc4e68", func := "syllabary/syllabarylaw22.StrokeMatchesReference", spec := "strokeMatchesReference", unfollowed := true, recurses := true, apart := false }
def StrokeMatchesReferenceSaid : Prop := strokeMatchesReferenceRow.holds Try.pinned (OpenSpec.ofChange strokeMatchesReferenceSpec)

/-- ITS FALSE NEIGHBOUR: 'it returns false'. Refute it at one input. -/
def strokeMatchesReferenceWrong : ChangeSpec := { name := "strokeMatchesReference", fn := fun _ => fun
  | [d1, d2] => { results := [.lit (.bool false)], args := [d1, d2] }
  | _ => none }
def StrokeMatchesReferenceWrongFalsely : Prop := strokeMatchesReferenceRow.holds Try.pinned (OpenSpec.ofChange strokeMatchesReferenceWrong)

/-- 'syllabarylaw22.StrokeValid': WHATEVER THE INPUT: true; the input reads as it did. -/
def strokeValidSpec : ChangeSpec := { name := "strokeValid", fn := fun _ => fun
  | [d1, d2] => { results := [.lit (.bool true)], args := [d1, d2] }
  | _ => none }
def strokeValidRow : OpenClaim := { program := "ytpdkccbongnboaa", sum := "5fd03040035d7d743b18a413ba0ea8e04f36af37c6c70f71a4141d51e8dc4e68", func := "syllabary/syllabarylaw22.StrokeValid", spec := "strokeValid", unfollowed := true, recurses := true, apart := false }
def StrokeValidSaid : Prop := strokeValidRow.holds Try.pinned (OpenSpec.ofChange strokeValidSpec)

/-- ITS FALSE NEIGHBOUR: 'it returns false'. Refute it at one input. -/
def strokeValidWrong : ChangeSpec := { name := "strokeValid", fn := fun _ => fun
  | [d1, d2] => { results := [.lit (.bool false)], args := [d1, d2] }
  | _ => none }
def StrokeValidWrongFalsely : Prop := strokeValidRow.holds Try.pinned (OpenSpec.ofChange strokeValidWrong)

/-- 'syllabarylaw22.StrokeDistance': WHATEVER THE INPUT: true; the input reads as it did. -/
def strokeDistanceSpec : ChangeSpec := { name := "strokeDistance", fn := fun _ => fun
  | [d] => { results := [.lit (.bool true)], args := [d] }
  | _ => none }
def strokeDistanceRow : OpenClaim := { program := "ytpdkccbongnboaa", sum := "5fd03040035d7d743b18a413ba0ea8e04f36af37c6c70f71a4141d51e8dc4e68", func := "syllabary/syllabarylaw22.StrokeDistance", spec := "strokeDistance", unfollowed := true, recurses := true, apart := false }
def StrokeDistanceSaid : Prop := strokeDistanceRow.holds Try.pinned (OpenSpec.ofChange strokeDistanceSpec)

/-- ITS FALSE NEIGHBOUR: 'it returns false'. Refute it at one input. -/
def strokeDistanceWrong : ChangeSpec := { name := "strokeDistance", fn := fun _ => fun
  | [d] => { results := [.lit (.bool false)], args := [d] }
  | _ => none }
def StrokeDistanceWrongFalsely : Prop := strokeDistanceRow.holds Try.pinned (OpenSpec.ofChange strokeDistanceWrong)

/-- 'syllabarylaw22.StrokePictures': WHATEVER THE INPUT: true; the input reads as it did. -/
def strokePicturesSpec : ChangeSpec := { name := "strokePictures", fn := fun _ => fun
  | [d1, d2, d3] => { results := [.lit (.bool true)], args := [d1, d2, d3] }
  | _ => none }
def strokePicturesRow : OpenClaim := { program := "ytpdkccbongnboaa", sum := "5fd03040035d7d743b18a413ba0ea8e04f36af37c6c70f71a4141d51e8dc4e68", func := "syllabary/syllabarylaw22.StrokePictures", spec := "strokePictures", unfollowed := true, recurses := true, apart := false }
def StrokePicturesSaid : Prop := strokePicturesRow.holds Try.pinned (OpenSpec.ofChange strokePicturesSpec)

/-- ITS FALSE NEIGHBOUR: 'it returns false'. Refute it at one input. -/
def strokePicturesWrong : ChangeSpec := { name := "strokePictures", fn := fun _ => fun
  | [d1, d2, d3] => { results := [.lit (.bool false)], args := [d1, d2, d3] }
  | _ => none }
def StrokePicturesWrongFalsely : Prop := strokePicturesRow.holds Try.pinned (OpenSpec.ofChange strokePicturesWrong)

/-- 'syllabarylaw22.StrokeWalks': WHATEVER THE INPUT: true; the input reads as it did. -/
def strokeWalksSpec : ChangeSpec := { name := "strokeWalks", fn := fun _ => fun
  | [d1, d2, d3] => { results := [.lit (.bool true)], args := [d1, d2, d3] }
  | _ => none }
def strokeWalksRow : OpenClaim := { program := "ytpdkccbongnboaa", sum := "5fd03040035d7d743b18a413ba0ea8e04f36af37c6c70f71a4141d51e8dc4e68", func := "syllabary/syllabarylaw22.StrokeWalks", spec := "strokeWalks", unfollowed := true, recurses := true, apart := false }
def StrokeWalksSaid : Prop := strokeWalksRow.holds Try.pinned (OpenSpec.ofChange strokeWalksSpec)

/-- ITS FALSE NEIGHBOUR: 'it returns false'. Refute it at one input. -/
def strokeWalksWrong : ChangeSpec := { name := "strokeWalks", fn := fun _ => fun
  | [d1, d2, d3] => { results := [.lit (.bool false)], args := [d1, d2, d3] }
  | _ => none }
def StrokeWalksWrongFalsely : Prop := strokeWalksRow.holds Try.pinned (OpenSpec.ofChange strokeWalksWrong)

/-- 'syllabarylaw22.StrokeChoices': WHATEVER THE INPUT: true; the input reads as it did. -/
def strokeChoicesSpec : ChangeSpec := { name := "strokeChoices", fn := fun _ => fun
  | [d1, d2] => { results := [.lit (.bool true)], args := [d1, d2] }
  | _ => none }
def strokeChoicesRow : OpenClaim := { program := "ytpdkccbongnboaa", sum := "5fd03040035d7d743b18a413ba0ea8e04f36af37c6c70f71a4141d51e8dc4e68", func := "syllabary/syllabarylaw22.StrokeChoices", spec := "strokeChoices", unfollowed := true, recurses := true, apart := false }
def StrokeChoicesSaid : Prop := strokeChoicesRow.holds Try.pinned (OpenSpec.ofChange strokeChoicesSpec)

/-- ITS FALSE NEIGHBOUR: 'it returns false'. Refute it at one input. -/
def strokeChoicesWrong : ChangeSpec := { name := "strokeChoices", fn := fun _ => fun
  | [d1, d2] => { results := [.lit (.bool false)], args := [d1, d2] }
  | _ => none }
def StrokeChoicesWrongFalsely : Prop := strokeChoicesRow.holds Try.pinned (OpenSpec.ofChange strokeChoicesWrong)

/-- 'syllabarylaw22.StrokeTemplates': WHATEVER THE INPUT: true; the input reads as it did. -/
def strokeTemplatesSpec : ChangeSpec := { name := "strokeTemplates", fn := fun _ => fun
  | [d1, d2, d3] => { results := [.lit (.bool true)], args := [d1, d2, d3] }
  | _ => none }
def strokeTemplatesRow : OpenClaim := { program := "ytpdkccbongnboaa", sum := "5fd03040035d7d743b18a413ba0ea8e04f36af37c6c70f71a4141d51e8dc4e68", func := "syllabary/syllabarylaw22.StrokeTemplates", spec := "strokeTemplates", unfollowed := true, recurses := true, apart := false }
def StrokeTemplatesSaid : Prop := strokeTemplatesRow.holds Try.pinned (OpenSpec.ofChange strokeTemplatesSpec)

/-- ITS FALSE NEIGHBOUR: 'it returns false'. Refute it at one input. -/
def strokeTemplatesWrong : ChangeSpec := { name := "strokeTemplates", fn := fun _ => fun
  | [d1, d2, d3] => { results := [.lit (.bool false)], args := [d1, d2, d3] }
  | _ => none }
def StrokeTemplatesWrongFalsely : Prop := strokeTemplatesRow.holds Try.pinned (OpenSpec.ofChange strokeTemplatesWrong)

/- THE SECOND FORM. 'bulk': how many values and letters a reading holds, each counted each time it is reached (what is shared counts as often as it is met; a slice's spare places count too). A statement '..UptoSaid' is the law's where the arguments, and the package variables that the reading takes, are together of bulk at most 1048576: NARROWER than '..Said'. Prove '..Said' where nothing that the law and all that it calls make is longer than what came in: it says more and counts as full. Else prove '..UptoSaid'. A law counts once. -/
mutual
def uptoBulk {H : Type} : DataW H → Nat
  | .lit (.string bytes) => bytes.length + 1
  | .lit _ => 1
  | .nil => 1
  | .ptr d => uptoBulk d + 1
  | .slice elems spare => uptoBulkAll elems + uptoBulkAll spare + 1
  | .agg parts => uptoBulkAll parts + 1
  | .iface _ d => uptoBulk d + 1
  | .map entries => uptoBulkEntries entries + 1
  | .held _ => 1
def uptoBulkAll {H : Type} : List (DataW H) → Nat
  | [] => 0
  | d :: r => uptoBulk d + uptoBulkAll r
def uptoBulkEntries {H : Type} : List (Lit × DataW H) → Nat
  | [] => 0
  | x :: r => uptoBulkEntry x + uptoBulkEntries r
def uptoBulkEntry {H : Type} : Lit × DataW H → Nat
  | (.string bytes, d) => bytes.length + uptoBulk d + 1
  | (_, d) => uptoBulk d + 1
 end
def uptoSmall : (H : Type) → List (DataW H) → Bool := fun _ ds => decide (uptoBulkAll ds ≤ 1048576)
def OpenSpec.upto (s : _root_.Go.ChangeSpec) : _root_.Go.OpenSpec := { _root_.Go.OpenSpec.ofChange s with cond := some uptoSmall }

/-- 'syllabarylaw22.StrokeMatchesReference', WHERE WHAT IT READS IS OF BULK AT MOST 1048576: true; the input reads as it did. -/
def strokeMatchesReferenceUptoRow : OpenClaim := { program := "ytpdkccbongnboaa", sum := "5fd03040035d7d743b18a413ba0ea8e04f36af37c6c70f71a4141d51e8dc4e68", func := "syllabary/syllabarylaw22.StrokeMatchesReference", spec := "strokeMatchesReference", unfollowed := true, recurses := true, apart := false, narrowed := true }
def StrokeMatchesReferenceUptoSaid : Prop := strokeMatchesReferenceUptoRow.holds Try.pinned (OpenSpec.upto strokeMatchesReferenceSpec)

/-- 'syllabarylaw22.StrokeValid', WHERE WHAT IT READS IS OF BULK AT MOST 1048576: true; the input reads as it did. -/
def strokeValidUptoRow : OpenClaim := { program := "ytpdkccbongnboaa", sum := "5fd03040035d7d743b18a413ba0ea8e04f36af37c6c70f71a4141d51e8dc4e68", func := "syllabary/syllabarylaw22.StrokeValid", spec := "strokeValid", unfollowed := true, recurses := true, apart := false, narrowed := true }
def StrokeValidUptoSaid : Prop := strokeValidUptoRow.holds Try.pinned (OpenSpec.upto strokeValidSpec)

/-- 'syllabarylaw22.StrokeDistance', WHERE WHAT IT READS IS OF BULK AT MOST 1048576: true; the input reads as it did. -/
def strokeDistanceUptoRow : OpenClaim := { program := "ytpdkccbongnboaa", sum := "5fd03040035d7d743b18a413ba0ea8e04f36af37c6c70f71a4141d51e8dc4e68", func := "syllabary/syllabarylaw22.StrokeDistance", spec := "strokeDistance", unfollowed := true, recurses := true, apart := false, narrowed := true }
def StrokeDistanceUptoSaid : Prop := strokeDistanceUptoRow.holds Try.pinned (OpenSpec.upto strokeDistanceSpec)

/-- 'syllabarylaw22.StrokePictures', WHERE WHAT IT READS IS OF BULK AT MOST 1048576: true; the input reads as it did. -/
def strokePicturesUptoRow : OpenClaim := { program := "ytpdkccbongnboaa", sum := "5fd03040035d7d743b18a413ba0ea8e04f36af37c6c70f71a4141d51e8dc4e68", func := "syllabary/syllabarylaw22.StrokePictures", spec := "strokePictures", unfollowed := true, recurses := true, apart := false, narrowed := true }
def StrokePicturesUptoSaid : Prop := strokePicturesUptoRow.holds Try.pinned (OpenSpec.upto strokePicturesSpec)

/-- 'syllabarylaw22.StrokeWalks', WHERE WHAT IT READS IS OF BULK AT MOST 1048576: true; the input reads as it did. -/
def strokeWalksUptoRow : OpenClaim := { program := "ytpdkccbongnboaa", sum := "5fd03040035d7d743b18a413ba0ea8e04f36af37c6c70f71a4141d51e8dc4e68", func := "syllabary/syllabarylaw22.StrokeWalks", spec := "strokeWalks", unfollowed := true, recurses := true, apart := false, narrowed := true }
def StrokeWalksUptoSaid : Prop := strokeWalksUptoRow.holds Try.pinned (OpenSpec.upto strokeWalksSpec)

/-- 'syllabarylaw22.StrokeChoices', WHERE WHAT IT READS IS OF BULK AT MOST 1048576: true; the input reads as it did. -/
def strokeChoicesUptoRow : OpenClaim := { program := "ytpdkccbongnboaa", sum := "5fd03040035d7d743b18a413ba0ea8e04f36af37c6c70f71a4141d51e8dc4e68", func := "syllabary/syllabarylaw22.StrokeChoices", spec := "strokeChoices", unfollowed := true, recurses := true, apart := false, narrowed := true }
def StrokeChoicesUptoSaid : Prop := strokeChoicesUptoRow.holds Try.pinned (OpenSpec.upto strokeChoicesSpec)

/-- 'syllabarylaw22.StrokeTemplates', WHERE WHAT IT READS IS OF BULK AT MOST 1048576: true; the input reads as it did. -/
def strokeTemplatesUptoRow : OpenClaim := { program := "ytpdkccbongnboaa", sum := "5fd03040035d7d743b18a413ba0ea8e04f36af37c6c70f71a4141d51e8dc4e68", func := "syllabary/syllabarylaw22.StrokeTemplates", spec := "strokeTemplates", unfollowed := true, recurses := true, apart := false, narrowed := true }
def StrokeTemplatesUptoSaid : Prop := strokeTemplatesUptoRow.holds Try.pinned (OpenSpec.upto strokeTemplatesSpec)

end Rows
end Go.Proofs.Ytpdkccbongnboaa
