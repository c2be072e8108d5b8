/-
  No cell of these rows narrows 'for every input' (looked for: loops, veiled, ifaces, maps, wideKeys, modest, calm, conditions, laid).
  DERIVED. THE GIVEN ROWS OF THIS SEAT. 12 by the template 'for every input the law returns true; each argument reads behind the call as it read before'; 0 by the template 'total and deterministic' (their statements: YtojgjdcciojpeaaGreatTotals.lean).
  GIVEN WITH THE SEED: the statements are not yours to turn. If you find one false, say at which input.
  Laid BY PROGRAM, IN A SANDBOX (cutbox-rows.mjs): the forced cells as the released guide's own fill.sh prints them over the translation cf12f6c46049e579… (all of the seat's roots in one cut). By AI agents, Wed Nov 11 2026. No macro, syntax, notation, axiom, sorry.
-/
import Derived.Test.YtojgjdcciojpeaaGreatChecked
import GoSem.Claim
import GoSem.ClaimJoined
import GoSem.ClaimMapViews
import Derived.JoinedTies
import Derived.KernelRfl
namespace Go.Proofs.YtojgjdcciojpeaaGreat
/- THE CELL 'sum', in the pinned program and in every row, IS THE sha256 OF THE DUMP (.gsa) THAT YtojgjdcciojpeaaGreatProg.lean LOADS. Nothing in Lean hashes anything: it is a label: what it is worth is what the hold of that sum in a sandbox is worth. -/
noncomputable def Tryz.pinned : Pinned := { name := "ytojgjdcciojpeaagreat", sum := "cf12f6c46049e5790ab8769232969bfbbfac47031da6e4409fd5b71ad179243d", checked := Tryz.checked }
namespace Rows
def none {H : Type} : Left H := { results := [], args := [] }

/-- 'syllabarylaw23.MixedMatchesReference': WHATEVER THE INPUT: true; the input reads as it did. -/
def mixedMatchesReferenceSpec : ChangeSpec := { name := "mixedMatchesReference", fn := fun _ => fun
  | [d1, d2, d3] => { results := [.lit (.bool true)], args := [d1, d2, d3] }
  | _ => none }
def mixedMatchesReferenceRow : OpenClaim := { program := "ytojgjdcciojpeaagreat", sum := "cf12f6c46049e5790ab8769232969bfbbfac47031da6e4409fd5b71ad179243d", func := "syllabary/syllabarylaw23.MixedMatchesReference", spec := "mixedMatchesReference", unfollowed := true, recurses := true, apart := false }
def MixedMatchesReferenceSaid : Prop := mixedMatchesReferenceRow.holds Tryz.pinned (OpenSpec.ofChange mixedMatchesReferenceSpec)

/-- ITS FALSE NEIGHBOUR: 'it returns false'. Refute it at one input. -/
def mixedMatchesReferenceWrong : ChangeSpec := { name := "mixedMatchesReference", fn := fun _ => fun
  | [d1, d2, d3] => { results := [.lit (.bool false)], args := [d1, d2, d3] }
  | _ => none }
def MixedMatchesReferenceWrongFalsely : Prop := mixedMatchesReferenceRow.holds Tryz.pinned (OpenSpec.ofChange mixedMatchesReferenceWrong)

/-- 'syllabarylaw23.MixedSlots': WHATEVER THE INPUT: true; the input reads as it did. -/
def mixedSlotsSpec : ChangeSpec := { name := "mixedSlots", fn := fun _ => fun
  | [d1, d2, d3] => { results := [.lit (.bool true)], args := [d1, d2, d3] }
  | _ => none }
def mixedSlotsRow : OpenClaim := { program := "ytojgjdcciojpeaagreat", sum := "cf12f6c46049e5790ab8769232969bfbbfac47031da6e4409fd5b71ad179243d", func := "syllabary/syllabarylaw23.MixedSlots", spec := "mixedSlots", unfollowed := true, recurses := true, apart := false }
def MixedSlotsSaid : Prop := mixedSlotsRow.holds Tryz.pinned (OpenSpec.ofChange mixedSlotsSpec)

/-- ITS FALSE NEIGHBOUR: 'it returns false'. Refute it at one input. -/
def mixedSlotsWrong : ChangeSpec := { name := "mixedSlots", fn := fun _ => fun
  | [d1, d2, d3] => { results := [.lit (.bool false)], args := [d1, d2, d3] }
  | _ => none }
def MixedSlotsWrongFalsely : Prop := mixedSlotsRow.holds Tryz.pinned (OpenSpec.ofChange mixedSlotsWrong)

/-- 'syllabarylaw23.MixedJoins': WHATEVER THE INPUT: true; the input reads as it did. -/
def mixedJoinsSpec : ChangeSpec := { name := "mixedJoins", fn := fun _ => fun
  | [d1, d2, d3] => { results := [.lit (.bool true)], args := [d1, d2, d3] }
  | _ => none }
def mixedJoinsRow : OpenClaim := { program := "ytojgjdcciojpeaagreat", sum := "cf12f6c46049e5790ab8769232969bfbbfac47031da6e4409fd5b71ad179243d", func := "syllabary/syllabarylaw23.MixedJoins", spec := "mixedJoins", unfollowed := true, recurses := true, apart := false }
def MixedJoinsSaid : Prop := mixedJoinsRow.holds Tryz.pinned (OpenSpec.ofChange mixedJoinsSpec)

/-- ITS FALSE NEIGHBOUR: 'it returns false'. Refute it at one input. -/
def mixedJoinsWrong : ChangeSpec := { name := "mixedJoins", fn := fun _ => fun
  | [d1, d2, d3] => { results := [.lit (.bool false)], args := [d1, d2, d3] }
  | _ => none }
def MixedJoinsWrongFalsely : Prop := mixedJoinsRow.holds Tryz.pinned (OpenSpec.ofChange mixedJoinsWrong)

/-- 'syllabarylaw23.MixedCosts': WHATEVER THE INPUT: true; the input reads as it did. -/
def mixedCostsSpec : ChangeSpec := { name := "mixedCosts", fn := fun _ => fun
  | [d1, d2, d3] => { results := [.lit (.bool true)], args := [d1, d2, d3] }
  | _ => none }
def mixedCostsRow : OpenClaim := { program := "ytojgjdcciojpeaagreat", sum := "cf12f6c46049e5790ab8769232969bfbbfac47031da6e4409fd5b71ad179243d", func := "syllabary/syllabarylaw23.MixedCosts", spec := "mixedCosts", unfollowed := true, recurses := true, apart := false }
def MixedCostsSaid : Prop := mixedCostsRow.holds Tryz.pinned (OpenSpec.ofChange mixedCostsSpec)

/-- ITS FALSE NEIGHBOUR: 'it returns false'. Refute it at one input. -/
def mixedCostsWrong : ChangeSpec := { name := "mixedCosts", fn := fun _ => fun
  | [d1, d2, d3] => { results := [.lit (.bool false)], args := [d1, d2, d3] }
  | _ => none }
def MixedCostsWrongFalsely : Prop := mixedCostsRow.holds Tryz.pinned (OpenSpec.ofChange mixedCostsWrong)

/-- 'syllabarylaw23.MixedSources': WHATEVER THE INPUT: true; the input reads as it did. -/
def mixedSourcesSpec : ChangeSpec := { name := "mixedSources", fn := fun _ => fun
  | [d1, d2, d3] => { results := [.lit (.bool true)], args := [d1, d2, d3] }
  | _ => none }
def mixedSourcesRow : OpenClaim := { program := "ytojgjdcciojpeaagreat", sum := "cf12f6c46049e5790ab8769232969bfbbfac47031da6e4409fd5b71ad179243d", func := "syllabary/syllabarylaw23.MixedSources", spec := "mixedSources", unfollowed := true, recurses := true, apart := false }
def MixedSourcesSaid : Prop := mixedSourcesRow.holds Tryz.pinned (OpenSpec.ofChange mixedSourcesSpec)

/-- ITS FALSE NEIGHBOUR: 'it returns false'. Refute it at one input. -/
def mixedSourcesWrong : ChangeSpec := { name := "mixedSources", fn := fun _ => fun
  | [d1, d2, d3] => { results := [.lit (.bool false)], args := [d1, d2, d3] }
  | _ => none }
def MixedSourcesWrongFalsely : Prop := mixedSourcesRow.holds Tryz.pinned (OpenSpec.ofChange mixedSourcesWrong)

/-- 'syllabarylaw31.ComposingMatchesReference': WHATEVER THE INPUT: true; the input reads as it did. -/
def composingMatchesReferenceSpec : ChangeSpec := { name := "composingMatchesReference", fn := fun _ => fun
  | [d1, d2, d3] => { results := [.lit (.bool true)], args := [d1, d2, d3] }
  | _ => none }
def composingMatchesReferenceRow : OpenClaim := { program := "ytojgjdcciojpeaagreat", sum := "cf12f6c46049e5790ab8769232969bfbbfac47031da6e4409fd5b71ad179243d", func := "syllabary/syllabarylaw31.ComposingMatchesReference", spec := "composingMatchesReference", unfollowed := true, recurses := true, apart := false }
def ComposingMatchesReferenceSaid : Prop := composingMatchesReferenceRow.holds Tryz.pinned (OpenSpec.ofChange composingMatchesReferenceSpec)

/-- ITS FALSE NEIGHBOUR: 'it returns false'. Refute it at one input. -/
def composingMatchesReferenceWrong : ChangeSpec := { name := "composingMatchesReference", fn := fun _ => fun
  | [d1, d2, d3] => { results := [.lit (.bool false)], args := [d1, d2, d3] }
  | _ => none }
def ComposingMatchesReferenceWrongFalsely : Prop := composingMatchesReferenceRow.holds Tryz.pinned (OpenSpec.ofChange composingMatchesReferenceWrong)

/-- 'syllabarylaw31.ComposingKeeps': WHATEVER THE INPUT: true; the input reads as it did. -/
def composingKeepsSpec : ChangeSpec := { name := "composingKeeps", fn := fun _ => fun
  | [d] => { results := [.lit (.bool true)], args := [d] }
  | _ => none }
def composingKeepsRow : OpenClaim := { program := "ytojgjdcciojpeaagreat", sum := "cf12f6c46049e5790ab8769232969bfbbfac47031da6e4409fd5b71ad179243d", func := "syllabary/syllabarylaw31.ComposingKeeps", spec := "composingKeeps", unfollowed := true, recurses := true, apart := false }
def ComposingKeepsSaid : Prop := composingKeepsRow.holds Tryz.pinned (OpenSpec.ofChange composingKeepsSpec)

/-- ITS FALSE NEIGHBOUR: 'it returns false'. Refute it at one input. -/
def composingKeepsWrong : ChangeSpec := { name := "composingKeeps", fn := fun _ => fun
  | [d] => { results := [.lit (.bool false)], args := [d] }
  | _ => none }
def ComposingKeepsWrongFalsely : Prop := composingKeepsRow.holds Tryz.pinned (OpenSpec.ofChange composingKeepsWrong)

/-- 'syllabarylaw31.ComposingErases': WHATEVER THE INPUT: true; the input reads as it did. -/
def composingErasesSpec : ChangeSpec := { name := "composingErases", fn := fun _ => fun
  | [d1, d2] => { results := [.lit (.bool true)], args := [d1, d2] }
  | _ => none }
def composingErasesRow : OpenClaim := { program := "ytojgjdcciojpeaagreat", sum := "cf12f6c46049e5790ab8769232969bfbbfac47031da6e4409fd5b71ad179243d", func := "syllabary/syllabarylaw31.ComposingErases", spec := "composingErases", unfollowed := true, recurses := true, apart := false }
def ComposingErasesSaid : Prop := composingErasesRow.holds Tryz.pinned (OpenSpec.ofChange composingErasesSpec)

/-- ITS FALSE NEIGHBOUR: 'it returns false'. Refute it at one input. -/
def composingErasesWrong : ChangeSpec := { name := "composingErases", fn := fun _ => fun
  | [d1, d2] => { results := [.lit (.bool false)], args := [d1, d2] }
  | _ => none }
def ComposingErasesWrongFalsely : Prop := composingErasesRow.holds Tryz.pinned (OpenSpec.ofChange composingErasesWrong)

/-- 'syllabarylaw31.ComposingMoves': WHATEVER THE INPUT: true; the input reads as it did. -/
def composingMovesSpec : ChangeSpec := { name := "composingMoves", fn := fun _ => fun
  | [d1, d2] => { results := [.lit (.bool true)], args := [d1, d2] }
  | _ => none }
def composingMovesRow : OpenClaim := { program := "ytojgjdcciojpeaagreat", sum := "cf12f6c46049e5790ab8769232969bfbbfac47031da6e4409fd5b71ad179243d", func := "syllabary/syllabarylaw31.ComposingMoves", spec := "composingMoves", unfollowed := true, recurses := true, apart := false }
def ComposingMovesSaid : Prop := composingMovesRow.holds Tryz.pinned (OpenSpec.ofChange composingMovesSpec)

/-- ITS FALSE NEIGHBOUR: 'it returns false'. Refute it at one input. -/
def composingMovesWrong : ChangeSpec := { name := "composingMoves", fn := fun _ => fun
  | [d1, d2] => { results := [.lit (.bool false)], args := [d1, d2] }
  | _ => none }
def ComposingMovesWrongFalsely : Prop := composingMovesRow.holds Tryz.pinned (OpenSpec.ofChange composingMovesWrong)

/-- 'syllabarylaw31.ComposingPastes': WHATEVER THE INPUT: true; the input reads as it did. -/
def composingPastesSpec : ChangeSpec := { name := "composingPastes", fn := fun _ => fun
  | [d1, d2, d3] => { results := [.lit (.bool true)], args := [d1, d2, d3] }
  | _ => none }
def composingPastesRow : OpenClaim := { program := "ytojgjdcciojpeaagreat", sum := "cf12f6c46049e5790ab8769232969bfbbfac47031da6e4409fd5b71ad179243d", func := "syllabary/syllabarylaw31.ComposingPastes", spec := "composingPastes", unfollowed := true, recurses := true, apart := false }
def ComposingPastesSaid : Prop := composingPastesRow.holds Tryz.pinned (OpenSpec.ofChange composingPastesSpec)

/-- ITS FALSE NEIGHBOUR: 'it returns false'. Refute it at one input. -/
def composingPastesWrong : ChangeSpec := { name := "composingPastes", fn := fun _ => fun
  | [d1, d2, d3] => { results := [.lit (.bool false)], args := [d1, d2, d3] }
  | _ => none }
def ComposingPastesWrongFalsely : Prop := composingPastesRow.holds Tryz.pinned (OpenSpec.ofChange composingPastesWrong)

/-- 'syllabarylaw31.ComposingHolds': WHATEVER THE INPUT: true; the input reads as it did. -/
def composingHoldsSpec : ChangeSpec := { name := "composingHolds", fn := fun _ => fun
  | [d1, d2, d3] => { results := [.lit (.bool true)], args := [d1, d2, d3] }
  | _ => none }
def composingHoldsRow : OpenClaim := { program := "ytojgjdcciojpeaagreat", sum := "cf12f6c46049e5790ab8769232969bfbbfac47031da6e4409fd5b71ad179243d", func := "syllabary/syllabarylaw31.ComposingHolds", spec := "composingHolds", unfollowed := true, recurses := true, apart := false }
def ComposingHoldsSaid : Prop := composingHoldsRow.holds Tryz.pinned (OpenSpec.ofChange composingHoldsSpec)

/-- ITS FALSE NEIGHBOUR: 'it returns false'. Refute it at one input. -/
def composingHoldsWrong : ChangeSpec := { name := "composingHolds", fn := fun _ => fun
  | [d1, d2, d3] => { results := [.lit (.bool false)], args := [d1, d2, d3] }
  | _ => none }
def ComposingHoldsWrongFalsely : Prop := composingHoldsRow.holds Tryz.pinned (OpenSpec.ofChange composingHoldsWrong)

/-- 'syllabarylaw31.ComposingTypes': WHATEVER THE INPUT: true; the input reads as it did. -/
def composingTypesSpec : ChangeSpec := { name := "composingTypes", fn := fun _ => fun
  | [d] => { results := [.lit (.bool true)], args := [d] }
  | _ => none }
def composingTypesRow : OpenClaim := { program := "ytojgjdcciojpeaagreat", sum := "cf12f6c46049e5790ab8769232969bfbbfac47031da6e4409fd5b71ad179243d", func := "syllabary/syllabarylaw31.ComposingTypes", spec := "composingTypes", unfollowed := true, recurses := true, apart := false }
def ComposingTypesSaid : Prop := composingTypesRow.holds Tryz.pinned (OpenSpec.ofChange composingTypesSpec)

/-- ITS FALSE NEIGHBOUR: 'it returns false'. Refute it at one input. -/
def composingTypesWrong : ChangeSpec := { name := "composingTypes", fn := fun _ => fun
  | [d] => { results := [.lit (.bool false)], args := [d] }
  | _ => none }
def ComposingTypesWrongFalsely : Prop := composingTypesRow.holds Tryz.pinned (OpenSpec.ofChange composingTypesWrong)

/- THE SECOND FORM. 'bulk': how many values and letters a reading holds, each counted each time it is reached (what is shared counts as often as it is met; a slice's spare places count too). A statement '..UptoSaid' is the law's where the arguments, and the package variables that the reading takes, are together of bulk at most 1048576: NARROWER than '..Said'. Prove '..Said' where nothing that the law and all that it calls make is longer than what came in: it says more and counts as full. Else prove '..UptoSaid'. A law counts once. -/
mutual
def uptoBulk {H : Type} : DataW H → Nat
  | .lit (.string bytes) => bytes.length + 1
  | .lit _ => 1
  | .nil => 1
  | .ptr d => uptoBulk d + 1
  | .slice elems spare => uptoBulkAll elems + uptoBulkAll spare + 1
  | .agg parts => uptoBulkAll parts + 1
  | .iface _ d => uptoBulk d + 1
  | .map entries => uptoBulkEntries entries + 1
  | .held _ => 1
def uptoBulkAll {H : Type} : List (DataW H) → Nat
  | [] => 0
  | d :: r => uptoBulk d + uptoBulkAll r
def uptoBulkEntries {H : Type} : List (Lit × DataW H) → Nat
  | [] => 0
  | x :: r => uptoBulkEntry x + uptoBulkEntries r
def uptoBulkEntry {H : Type} : Lit × DataW H → Nat
  | (.string bytes, d) => bytes.length + uptoBulk d + 1
  | (_, d) => uptoBulk d + 1
 end
def uptoSmall : (H : Type) → List (DataW H) → Bool := fun _ ds => decide (uptoBulkAll ds ≤ 1048576)
def OpenSpec.upto (s : _root_.Go.ChangeSpec) : _root_.Go.OpenSpec := { _root_.Go.OpenSpec.ofChange s with cond := some uptoSmall }

/-- 'syllabarylaw23.MixedMatchesReference', WHERE WHAT IT READS IS OF BULK AT MOST 1048576: true; the input reads as it did. -/
def mixedMatchesReferenceUptoRow : OpenClaim := { program := "ytojgjdcciojpeaagreat", sum := "cf12f6c46049e5790ab8769232969bfbbfac47031da6e4409fd5b71ad179243d", func := "syllabary/syllabarylaw23.MixedMatchesReference", spec := "mixedMatchesReference", unfollowed := true, recurses := true, apart := false, narrowed := true }
def MixedMatchesReferenceUptoSaid : Prop := mixedMatchesReferenceUptoRow.holds Tryz.pinned (OpenSpec.upto mixedMatchesReferenceSpec)

/-- 'syllabarylaw23.MixedSlots', WHERE WHAT IT READS IS OF BULK AT MOST 1048576: true; the input reads as it did. -/
def mixedSlotsUptoRow : OpenClaim := { program := "ytojgjdcciojpeaagreat", sum := "cf12f6c46049e5790ab8769232969bfbbfac47031da6e4409fd5b71ad179243d", func := "syllabary/syllabarylaw23.MixedSlots", spec := "mixedSlots", unfollowed := true, recurses := true, apart := false, narrowed := true }
def MixedSlotsUptoSaid : Prop := mixedSlotsUptoRow.holds Tryz.pinned (OpenSpec.upto mixedSlotsSpec)

/-- 'syllabarylaw23.MixedJoins', WHERE WHAT IT READS IS OF BULK AT MOST 1048576: true; the input reads as it did. -/
def mixedJoinsUptoRow : OpenClaim := { program := "ytojgjdcciojpeaagreat", sum := "cf12f6c46049e5790ab8769232969bfbbfac47031da6e4409fd5b71ad179243d", func := "syllabary/syllabarylaw23.MixedJoins", spec := "mixedJoins", unfollowed := true, recurses := true, apart := false, narrowed := true }
def MixedJoinsUptoSaid : Prop := mixedJoinsUptoRow.holds Tryz.pinned (OpenSpec.upto mixedJoinsSpec)

/-- 'syllabarylaw23.MixedCosts', WHERE WHAT IT READS IS OF BULK AT MOST 1048576: true; the input reads as it did. -/
def mixedCostsUptoRow : OpenClaim := { program := "ytojgjdcciojpeaagreat", sum := "cf12f6c46049e5790ab8769232969bfbbfac47031da6e4409fd5b71ad179243d", func := "syllabary/syllabarylaw23.MixedCosts", spec := "mixedCosts", unfollowed := true, recurses := true, apart := false, narrowed := true }
def MixedCostsUptoSaid : Prop := mixedCostsUptoRow.holds Tryz.pinned (OpenSpec.upto mixedCostsSpec)

/-- 'syllabarylaw23.MixedSources', WHERE WHAT IT READS IS OF BULK AT MOST 1048576: true; the input reads as it did. -/
def mixedSourcesUptoRow : OpenClaim := { program := "ytojgjdcciojpeaagreat", sum := "cf12f6c46049e5790ab8769232969bfbbfac47031da6e4409fd5b71ad179243d", func := "syllabary/syllabarylaw23.MixedSources", spec := "mixedSources", unfollowed := true, recurses := true, apart := false, narrowed := true }
def MixedSourcesUptoSaid : Prop := mixedSourcesUptoRow.holds Tryz.pinned (OpenSpec.upto mixedSourcesSpec)

/-- 'syllabarylaw31.ComposingMatchesReference', WHERE WHAT IT READS IS OF BULK AT MOST 1048576: true; the input reads as it did. -/
def composingMatchesReferenceUptoRow : OpenClaim := { program := "ytojgjdcciojpeaagreat", sum := "cf12f6c46049e5790ab8769232969bfbbfac47031da6e4409fd5b71ad179243d", func := "syllabary/syllabarylaw31.ComposingMatchesReference", spec := "composingMatchesReference", unfollowed := true, recurses := true, apart := false, narrowed := true }
def ComposingMatchesReferenceUptoSaid : Prop := composingMatchesReferenceUptoRow.holds Tryz.pinned (OpenSpec.upto composingMatchesReferenceSpec)

/-- 'syllabarylaw31.ComposingKeeps', WHERE WHAT IT READS IS OF BULK AT MOST 1048576: true; the input reads as it did. -/
def composingKeepsUptoRow : OpenClaim := { program := "ytojgjdcciojpeaagreat", sum := "cf12f6c46049e5790ab8769232969bfbbfac47031da6e4409fd5b71ad179243d", func := "syllabary/syllabarylaw31.ComposingKeeps", spec := "composingKeeps", unfollowed := true, recurses := true, apart := false, narrowed := true }
def ComposingKeepsUptoSaid : Prop := composingKeepsUptoRow.holds Tryz.pinned (OpenSpec.upto composingKeepsSpec)

/-- 'syllabarylaw31.ComposingErases', WHERE WHAT IT READS IS OF BULK AT MOST 1048576: true; the input reads as it did. -/
def composingErasesUptoRow : OpenClaim := { program := "ytojgjdcciojpeaagreat", sum := "cf12f6c46049e5790ab8769232969bfbbfac47031da6e4409fd5b71ad179243d", func := "syllabary/syllabarylaw31.ComposingErases", spec := "composingErases", unfollowed := true, recurses := true, apart := false, narrowed := true }
def ComposingErasesUptoSaid : Prop := composingErasesUptoRow.holds Tryz.pinned (OpenSpec.upto composingErasesSpec)

/-- 'syllabarylaw31.ComposingMoves', WHERE WHAT IT READS IS OF BULK AT MOST 1048576: true; the input reads as it did. -/
def composingMovesUptoRow : OpenClaim := { program := "ytojgjdcciojpeaagreat", sum := "cf12f6c46049e5790ab8769232969bfbbfac47031da6e4409fd5b71ad179243d", func := "syllabary/syllabarylaw31.ComposingMoves", spec := "composingMoves", unfollowed := true, recurses := true, apart := false, narrowed := true }
def ComposingMovesUptoSaid : Prop := composingMovesUptoRow.holds Tryz.pinned (OpenSpec.upto composingMovesSpec)

/-- 'syllabarylaw31.ComposingPastes', WHERE WHAT IT READS IS OF BULK AT MOST 1048576: true; the input reads as it did. -/
def composingPastesUptoRow : OpenClaim := { program := "ytojgjdcciojpeaagreat", sum := "cf12f6c46049e5790ab8769232969bfbbfac47031da6e4409fd5b71ad179243d", func := "syllabary/syllabarylaw31.ComposingPastes", spec := "composingPastes", unfollowed := true, recurses := true, apart := false, narrowed := true }
def ComposingPastesUptoSaid : Prop := composingPastesUptoRow.holds Tryz.pinned (OpenSpec.upto composingPastesSpec)

/-- 'syllabarylaw31.ComposingHolds', WHERE WHAT IT READS IS OF BULK AT MOST 1048576: true; the input reads as it did. -/
def composingHoldsUptoRow : OpenClaim := { program := "ytojgjdcciojpeaagreat", sum := "cf12f6c46049e5790ab8769232969bfbbfac47031da6e4409fd5b71ad179243d", func := "syllabary/syllabarylaw31.ComposingHolds", spec := "composingHolds", unfollowed := true, recurses := true, apart := false, narrowed := true }
def ComposingHoldsUptoSaid : Prop := composingHoldsUptoRow.holds Tryz.pinned (OpenSpec.upto composingHoldsSpec)

/-- 'syllabarylaw31.ComposingTypes', WHERE WHAT IT READS IS OF BULK AT MOST 1048576: true; the input reads as it did. -/
def composingTypesUptoRow : OpenClaim := { program := "ytojgjdcciojpeaagreat", sum := "cf12f6c46049e5790ab8769232969bfbbfac47031da6e4409fd5b71ad179243d", func := "syllabary/syllabarylaw31.ComposingTypes", spec := "composingTypes", unfollowed := true, recurses := true, apart := false, narrowed := true }
def ComposingTypesUptoSaid : Prop := composingTypesUptoRow.holds Tryz.pinned (OpenSpec.upto composingTypesSpec)

end Rows
end Go.Proofs.YtojgjdcciojpeaaGreat
