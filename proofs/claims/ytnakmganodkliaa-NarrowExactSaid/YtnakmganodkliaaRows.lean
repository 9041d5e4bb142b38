/-
  No cell of these rows narrows 'for every input' (looked for: loops, veiled, ifaces, maps, wideKeys, modest, calm, conditions, laid).
  DERIVED. THE GIVEN ROWS OF THIS SEAT. 21 by the template 'for every input the law returns true; each argument reads behind the call as it read before'; 0 by the template 'total and deterministic' (their statements: YtnakmganodkliaaTotals.lean).
  GIVEN WITH THE SEED: the statements are not yours to turn. If you find one false, say at which input.
  Laid BY PROGRAM, IN A SANDBOX (cutbox-rows.mjs): the forced cells as the released guide's own fill.sh prints them over the translation 9c973bd392d4f6c7… (all of the seat's roots in one cut). By AI agents, Wed Nov 11 2026. No macro, syntax, notation, axiom, sorry.
-/
import Derived.Test.YtnakmganodkliaaChecked
import GoSem.Claim
import GoSem.ClaimJoined
import GoSem.ClaimMapViews
import Derived.JoinedTies
import Derived.KernelRfl
namespace Go.Proofs.Ytnakmganodkliaa
/- THE CELL 'sum', in the pinned program and in every row, IS THE sha256 OF THE DUMP (.gsa) THAT YtnakmganodkliaaProg.lean LOADS. Nothing in Lean hashes anything: it is a label: what it is worth is what the hold of that sum in a sandbox is worth. -/
noncomputable def Try.pinned : Pinned := { name := "ytnakmganodkliaa", sum := "9c973bd392d4f6c74a439aeb789c804817b1bdc15927d3da4588c3dbb824e30c", checked := Try.checked }
namespace Rows
def none {H : Type} : Left H := { results := [], args := [] }

/-- 'rebuslaw06.TurnPlaces': WHATEVER THE INPUT: true; the input reads as it did. -/
def turnPlacesSpec : ChangeSpec := { name := "turnPlaces", fn := fun _ => fun
  | [d1, d2, d3] => { results := [.lit (.bool true)], args := [d1, d2, d3] }
  | _ => none }
def turnPlacesRow : OpenClaim := { program := "ytnakmganodkliaa", sum := "9c973bd392d4f6c74a439aeb789c804817b1bdc15927d3da4588c3dbb824e30c", func := "rebus/rebuslaw06.TurnPlaces", spec := "turnPlaces", apart := false }
def TurnPlacesSaid : Prop := turnPlacesRow.holds Try.pinned (OpenSpec.ofChange turnPlacesSpec)

/-- ITS FALSE NEIGHBOUR: 'it returns false'. Refute it at one input. -/
def turnPlacesWrong : ChangeSpec := { name := "turnPlaces", fn := fun _ => fun
  | [d1, d2, d3] => { results := [.lit (.bool false)], args := [d1, d2, d3] }
  | _ => none }
def TurnPlacesWrongFalsely : Prop := turnPlacesRow.holds Try.pinned (OpenSpec.ofChange turnPlacesWrong)

/-- 'rebuslaw06.TurnCells': WHATEVER THE INPUT: true; the input reads as it did. -/
def turnCellsSpec : ChangeSpec := { name := "turnCells", fn := fun _ => fun
  | [d1, d2, d3] => { results := [.lit (.bool true)], args := [d1, d2, d3] }
  | _ => none }
def turnCellsRow : OpenClaim := { program := "ytnakmganodkliaa", sum := "9c973bd392d4f6c74a439aeb789c804817b1bdc15927d3da4588c3dbb824e30c", func := "rebus/rebuslaw06.TurnCells", spec := "turnCells", apart := false }
def TurnCellsSaid : Prop := turnCellsRow.holds Try.pinned (OpenSpec.ofChange turnCellsSpec)

/-- ITS FALSE NEIGHBOUR: 'it returns false'. Refute it at one input. -/
def turnCellsWrong : ChangeSpec := { name := "turnCells", fn := fun _ => fun
  | [d1, d2, d3] => { results := [.lit (.bool false)], args := [d1, d2, d3] }
  | _ => none }
def TurnCellsWrongFalsely : Prop := turnCellsRow.holds Try.pinned (OpenSpec.ofChange turnCellsWrong)

/-- 'rebuslaw05.GridBlanks': WHATEVER THE INPUT: true; the input reads as it did. -/
def gridBlanksSpec : ChangeSpec := { name := "gridBlanks", fn := fun _ => fun
  | [d1, d2] => { results := [.lit (.bool true)], args := [d1, d2] }
  | _ => none }
def gridBlanksRow : OpenClaim := { program := "ytnakmganodkliaa", sum := "9c973bd392d4f6c74a439aeb789c804817b1bdc15927d3da4588c3dbb824e30c", func := "rebus/rebuslaw05.GridBlanks", spec := "gridBlanks", unfollowed := true, recurses := true, apart := false }
def GridBlanksSaid : Prop := gridBlanksRow.holds Try.pinned (OpenSpec.ofChange gridBlanksSpec)

/-- ITS FALSE NEIGHBOUR: 'it returns false'. Refute it at one input. -/
def gridBlanksWrong : ChangeSpec := { name := "gridBlanks", fn := fun _ => fun
  | [d1, d2] => { results := [.lit (.bool false)], args := [d1, d2] }
  | _ => none }
def GridBlanksWrongFalsely : Prop := gridBlanksRow.holds Try.pinned (OpenSpec.ofChange gridBlanksWrong)

/-- 'rebuslaw05.GridSteps': WHATEVER THE INPUT: true; the input reads as it did. -/
def gridStepsSpec : ChangeSpec := { name := "gridSteps", fn := fun _ => fun
  | [d1, d2, d3] => { results := [.lit (.bool true)], args := [d1, d2, d3] }
  | _ => none }
def gridStepsRow : OpenClaim := { program := "ytnakmganodkliaa", sum := "9c973bd392d4f6c74a439aeb789c804817b1bdc15927d3da4588c3dbb824e30c", func := "rebus/rebuslaw05.GridSteps", spec := "gridSteps", unfollowed := true, recurses := true, apart := false }
def GridStepsSaid : Prop := gridStepsRow.holds Try.pinned (OpenSpec.ofChange gridStepsSpec)

/-- ITS FALSE NEIGHBOUR: 'it returns false'. Refute it at one input. -/
def gridStepsWrong : ChangeSpec := { name := "gridSteps", fn := fun _ => fun
  | [d1, d2, d3] => { results := [.lit (.bool false)], args := [d1, d2, d3] }
  | _ => none }
def GridStepsWrongFalsely : Prop := gridStepsRow.holds Try.pinned (OpenSpec.ofChange gridStepsWrong)

/-- 'rebuslaw05.GridChecks': WHATEVER THE INPUT: true; the input reads as it did. -/
def gridChecksSpec : ChangeSpec := { name := "gridChecks", fn := fun _ => fun
  | [d1, d2, d3] => { results := [.lit (.bool true)], args := [d1, d2, d3] }
  | _ => none }
def gridChecksRow : OpenClaim := { program := "ytnakmganodkliaa", sum := "9c973bd392d4f6c74a439aeb789c804817b1bdc15927d3da4588c3dbb824e30c", func := "rebus/rebuslaw05.GridChecks", spec := "gridChecks", unfollowed := true, recurses := true, apart := false }
def GridChecksSaid : Prop := gridChecksRow.holds Try.pinned (OpenSpec.ofChange gridChecksSpec)

/-- ITS FALSE NEIGHBOUR: 'it returns false'. Refute it at one input. -/
def gridChecksWrong : ChangeSpec := { name := "gridChecks", fn := fun _ => fun
  | [d1, d2, d3] => { results := [.lit (.bool false)], args := [d1, d2, d3] }
  | _ => none }
def GridChecksWrongFalsely : Prop := gridChecksRow.holds Try.pinned (OpenSpec.ofChange gridChecksWrong)

/-- 'rebuslaw06.TurnGroup': WHATEVER THE INPUT: true; the input reads as it did. -/
def turnGroupSpec : ChangeSpec := { name := "turnGroup", fn := fun _ => fun
  | [d1, d2] => { results := [.lit (.bool true)], args := [d1, d2] }
  | _ => none }
def turnGroupRow : OpenClaim := { program := "ytnakmganodkliaa", sum := "9c973bd392d4f6c74a439aeb789c804817b1bdc15927d3da4588c3dbb824e30c", func := "rebus/rebuslaw06.TurnGroup", spec := "turnGroup", unfollowed := true, recurses := true, apart := false }
def TurnGroupSaid : Prop := turnGroupRow.holds Try.pinned (OpenSpec.ofChange turnGroupSpec)

/-- ITS FALSE NEIGHBOUR: 'it returns false'. Refute it at one input. -/
def turnGroupWrong : ChangeSpec := { name := "turnGroup", fn := fun _ => fun
  | [d1, d2] => { results := [.lit (.bool false)], args := [d1, d2] }
  | _ => none }
def TurnGroupWrongFalsely : Prop := turnGroupRow.holds Try.pinned (OpenSpec.ofChange turnGroupWrong)

/-- 'rebuslaw05.GridParts': WHATEVER THE INPUT: true; the input reads as it did. -/
def gridPartsSpec : ChangeSpec := { name := "gridParts", fn := fun _ => fun
  | [d] => { results := [.lit (.bool true)], args := [d] }
  | _ => none }
def gridPartsRow : OpenClaim := { program := "ytnakmganodkliaa", sum := "9c973bd392d4f6c74a439aeb789c804817b1bdc15927d3da4588c3dbb824e30c", func := "rebus/rebuslaw05.GridParts", spec := "gridParts", unfollowed := true, recurses := true, apart := false }
def GridPartsSaid : Prop := gridPartsRow.holds Try.pinned (OpenSpec.ofChange gridPartsSpec)

/-- ITS FALSE NEIGHBOUR: 'it returns false'. Refute it at one input. -/
def gridPartsWrong : ChangeSpec := { name := "gridParts", fn := fun _ => fun
  | [d] => { results := [.lit (.bool false)], args := [d] }
  | _ => none }
def GridPartsWrongFalsely : Prop := gridPartsRow.holds Try.pinned (OpenSpec.ofChange gridPartsWrong)

/-- 'rebuslaw05.GridReach': WHATEVER THE INPUT: true; the input reads as it did. -/
def gridReachSpec : ChangeSpec := { name := "gridReach", fn := fun _ => fun
  | [d1, d2] => { results := [.lit (.bool true)], args := [d1, d2] }
  | _ => none }
def gridReachRow : OpenClaim := { program := "ytnakmganodkliaa", sum := "9c973bd392d4f6c74a439aeb789c804817b1bdc15927d3da4588c3dbb824e30c", func := "rebus/rebuslaw05.GridReach", spec := "gridReach", unfollowed := true, recurses := true, apart := false }
def GridReachSaid : Prop := gridReachRow.holds Try.pinned (OpenSpec.ofChange gridReachSpec)

/-- ITS FALSE NEIGHBOUR: 'it returns false'. Refute it at one input. -/
def gridReachWrong : ChangeSpec := { name := "gridReach", fn := fun _ => fun
  | [d1, d2] => { results := [.lit (.bool false)], args := [d1, d2] }
  | _ => none }
def GridReachWrongFalsely : Prop := gridReachRow.holds Try.pinned (OpenSpec.ofChange gridReachWrong)

/-- 'rebuslaw06.TurnSymmetries': WHATEVER THE INPUT: true; the input reads as it did. -/
def turnSymmetriesSpec : ChangeSpec := { name := "turnSymmetries", fn := fun _ => fun
  | [d] => { results := [.lit (.bool true)], args := [d] }
  | _ => none }
def turnSymmetriesRow : OpenClaim := { program := "ytnakmganodkliaa", sum := "9c973bd392d4f6c74a439aeb789c804817b1bdc15927d3da4588c3dbb824e30c", func := "rebus/rebuslaw06.TurnSymmetries", spec := "turnSymmetries", unfollowed := true, recurses := true, apart := false }
def TurnSymmetriesSaid : Prop := turnSymmetriesRow.holds Try.pinned (OpenSpec.ofChange turnSymmetriesSpec)

/-- ITS FALSE NEIGHBOUR: 'it returns false'. Refute it at one input. -/
def turnSymmetriesWrong : ChangeSpec := { name := "turnSymmetries", fn := fun _ => fun
  | [d] => { results := [.lit (.bool false)], args := [d] }
  | _ => none }
def TurnSymmetriesWrongFalsely : Prop := turnSymmetriesRow.holds Try.pinned (OpenSpec.ofChange turnSymmetriesWrong)

/-- 'rebuslaw05.GridBack': WHATEVER THE INPUT: true; the input reads as it did. -/
def gridBackSpec : ChangeSpec := { name := "gridBack", fn := fun _ => fun
  | [d1, d2] => { results := [.lit (.bool true)], args := [d1, d2] }
  | _ => none }
def gridBackRow : OpenClaim := { program := "ytnakmganodkliaa", sum := "9c973bd392d4f6c74a439aeb789c804817b1bdc15927d3da4588c3dbb824e30c", func := "rebus/rebuslaw05.GridBack", spec := "gridBack", unfollowed := true, recurses := true, apart := false }
def GridBackSaid : Prop := gridBackRow.holds Try.pinned (OpenSpec.ofChange gridBackSpec)

/-- ITS FALSE NEIGHBOUR: 'it returns false'. Refute it at one input. -/
def gridBackWrong : ChangeSpec := { name := "gridBack", fn := fun _ => fun
  | [d1, d2] => { results := [.lit (.bool false)], args := [d1, d2] }
  | _ => none }
def GridBackWrongFalsely : Prop := gridBackRow.holds Try.pinned (OpenSpec.ofChange gridBackWrong)

/-- 'rebuslaw06.TurnCanon': WHATEVER THE INPUT: true; the input reads as it did. -/
def turnCanonSpec : ChangeSpec := { name := "turnCanon", fn := fun _ => fun
  | [d1, d2] => { results := [.lit (.bool true)], args := [d1, d2] }
  | _ => none }
def turnCanonRow : OpenClaim := { program := "ytnakmganodkliaa", sum := "9c973bd392d4f6c74a439aeb789c804817b1bdc15927d3da4588c3dbb824e30c", func := "rebus/rebuslaw06.TurnCanon", spec := "turnCanon", unfollowed := true, recurses := true, apart := false }
def TurnCanonSaid : Prop := turnCanonRow.holds Try.pinned (OpenSpec.ofChange turnCanonSpec)

/-- ITS FALSE NEIGHBOUR: 'it returns false'. Refute it at one input. -/
def turnCanonWrong : ChangeSpec := { name := "turnCanon", fn := fun _ => fun
  | [d1, d2] => { results := [.lit (.bool false)], args := [d1, d2] }
  | _ => none }
def TurnCanonWrongFalsely : Prop := turnCanonRow.holds Try.pinned (OpenSpec.ofChange turnCanonWrong)

/-- 'rebuslaw06.TurnGrids': WHATEVER THE INPUT: true; the input reads as it did. -/
def turnGridsSpec : ChangeSpec := { name := "turnGrids", fn := fun _ => fun
  | [d1, d2] => { results := [.lit (.bool true)], args := [d1, d2] }
  | _ => none }
def turnGridsRow : OpenClaim := { program := "ytnakmganodkliaa", sum := "9c973bd392d4f6c74a439aeb789c804817b1bdc15927d3da4588c3dbb824e30c", func := "rebus/rebuslaw06.TurnGrids", spec := "turnGrids", unfollowed := true, recurses := true, apart := false }
def TurnGridsSaid : Prop := turnGridsRow.holds Try.pinned (OpenSpec.ofChange turnGridsSpec)

/-- ITS FALSE NEIGHBOUR: 'it returns false'. Refute it at one input. -/
def turnGridsWrong : ChangeSpec := { name := "turnGrids", fn := fun _ => fun
  | [d1, d2] => { results := [.lit (.bool false)], args := [d1, d2] }
  | _ => none }
def TurnGridsWrongFalsely : Prop := turnGridsRow.holds Try.pinned (OpenSpec.ofChange turnGridsWrong)

/-- 'rebuslaw12.NarrowExact': WHATEVER THE INPUT: true; the input reads as it did. -/
def narrowExactSpec : ChangeSpec := { name := "narrowExact", fn := fun _ => fun
  | [d] => { results := [.lit (.bool true)], args := [d] }
  | _ => none }
def narrowExactRow : OpenClaim := { program := "ytnakmganodkliaa", sum := "9c973bd392d4f6c74a439aeb789c804817b1bdc15927d3da4588c3dbb824e30c", func := "rebus/rebuslaw12.NarrowExact", spec := "narrowExact", unfollowed := true, recurses := true, apart := false }
def NarrowExactSaid : Prop := narrowExactRow.holds Try.pinned (OpenSpec.ofChange narrowExactSpec)

/-- ITS FALSE NEIGHBOUR: 'it returns false'. Refute it at one input. -/
def narrowExactWrong : ChangeSpec := { name := "narrowExact", fn := fun _ => fun
  | [d] => { results := [.lit (.bool false)], args := [d] }
  | _ => none }
def NarrowExactWrongFalsely : Prop := narrowExactRow.holds Try.pinned (OpenSpec.ofChange narrowExactWrong)

/-- 'rebuslaw12.NarrowLess': WHATEVER THE INPUT: true; the input reads as it did. -/
def narrowLessSpec : ChangeSpec := { name := "narrowLess", fn := fun _ => fun
  | [d1, d2] => { results := [.lit (.bool true)], args := [d1, d2] }
  | _ => none }
def narrowLessRow : OpenClaim := { program := "ytnakmganodkliaa", sum := "9c973bd392d4f6c74a439aeb789c804817b1bdc15927d3da4588c3dbb824e30c", func := "rebus/rebuslaw12.NarrowLess", spec := "narrowLess", unfollowed := true, recurses := true, apart := false }
def NarrowLessSaid : Prop := narrowLessRow.holds Try.pinned (OpenSpec.ofChange narrowLessSpec)

/-- ITS FALSE NEIGHBOUR: 'it returns false'. Refute it at one input. -/
def narrowLessWrong : ChangeSpec := { name := "narrowLess", fn := fun _ => fun
  | [d1, d2] => { results := [.lit (.bool false)], args := [d1, d2] }
  | _ => none }
def NarrowLessWrongFalsely : Prop := narrowLessRow.holds Try.pinned (OpenSpec.ofChange narrowLessWrong)

/-- 'rebuslaw12.NarrowSafe': WHATEVER THE INPUT: true; the input reads as it did. -/
def narrowSafeSpec : ChangeSpec := { name := "narrowSafe", fn := fun _ => fun
  | [d1, d2] => { results := [.lit (.bool true)], args := [d1, d2] }
  | _ => none }
def narrowSafeRow : OpenClaim := { program := "ytnakmganodkliaa", sum := "9c973bd392d4f6c74a439aeb789c804817b1bdc15927d3da4588c3dbb824e30c", func := "rebus/rebuslaw12.NarrowSafe", spec := "narrowSafe", unfollowed := true, recurses := true, apart := false }
def NarrowSafeSaid : Prop := narrowSafeRow.holds Try.pinned (OpenSpec.ofChange narrowSafeSpec)

/-- ITS FALSE NEIGHBOUR: 'it returns false'. Refute it at one input. -/
def narrowSafeWrong : ChangeSpec := { name := "narrowSafe", fn := fun _ => fun
  | [d1, d2] => { results := [.lit (.bool false)], args := [d1, d2] }
  | _ => none }
def NarrowSafeWrongFalsely : Prop := narrowSafeRow.holds Try.pinned (OpenSpec.ofChange narrowSafeWrong)

/-- 'rebuslaw12.NarrowFixed': WHATEVER THE INPUT: true; the input reads as it did. -/
def narrowFixedSpec : ChangeSpec := { name := "narrowFixed", fn := fun _ => fun
  | [d] => { results := [.lit (.bool true)], args := [d] }
  | _ => none }
def narrowFixedRow : OpenClaim := { program := "ytnakmganodkliaa", sum := "9c973bd392d4f6c74a439aeb789c804817b1bdc15927d3da4588c3dbb824e30c", func := "rebus/rebuslaw12.NarrowFixed", spec := "narrowFixed", unfollowed := true, recurses := true, apart := false }
def NarrowFixedSaid : Prop := narrowFixedRow.holds Try.pinned (OpenSpec.ofChange narrowFixedSpec)

/-- ITS FALSE NEIGHBOUR: 'it returns false'. Refute it at one input. -/
def narrowFixedWrong : ChangeSpec := { name := "narrowFixed", fn := fun _ => fun
  | [d] => { results := [.lit (.bool false)], args := [d] }
  | _ => none }
def NarrowFixedWrongFalsely : Prop := narrowFixedRow.holds Try.pinned (OpenSpec.ofChange narrowFixedWrong)

/-- 'rebuslaw13.TallyChecks': WHATEVER THE INPUT: true; the input reads as it did. -/
def tallyChecksSpec : ChangeSpec := { name := "tallyChecks", fn := fun _ => fun
  | [d1, d2, d3] => { results := [.lit (.bool true)], args := [d1, d2, d3] }
  | _ => none }
def tallyChecksRow : OpenClaim := { program := "ytnakmganodkliaa", sum := "9c973bd392d4f6c74a439aeb789c804817b1bdc15927d3da4588c3dbb824e30c", func := "rebus/rebuslaw13.TallyChecks", spec := "tallyChecks", unfollowed := true, recurses := true, apart := false }
def TallyChecksSaid : Prop := tallyChecksRow.holds Try.pinned (OpenSpec.ofChange tallyChecksSpec)

/-- ITS FALSE NEIGHBOUR: 'it returns false'. Refute it at one input. -/
def tallyChecksWrong : ChangeSpec := { name := "tallyChecks", fn := fun _ => fun
  | [d1, d2, d3] => { results := [.lit (.bool false)], args := [d1, d2, d3] }
  | _ => none }
def TallyChecksWrongFalsely : Prop := tallyChecksRow.holds Try.pinned (OpenSpec.ofChange tallyChecksWrong)

/-- 'rebuslaw13.TallyCounts': WHATEVER THE INPUT: true; the input reads as it did. -/
def tallyCountsSpec : ChangeSpec := { name := "tallyCounts", fn := fun _ => fun
  | [d] => { results := [.lit (.bool true)], args := [d] }
  | _ => none }
def tallyCountsRow : OpenClaim := { program := "ytnakmganodkliaa", sum := "9c973bd392d4f6c74a439aeb789c804817b1bdc15927d3da4588c3dbb824e30c", func := "rebus/rebuslaw13.TallyCounts", spec := "tallyCounts", unfollowed := true, recurses := true, apart := false }
def TallyCountsSaid : Prop := tallyCountsRow.holds Try.pinned (OpenSpec.ofChange tallyCountsSpec)

/-- ITS FALSE NEIGHBOUR: 'it returns false'. Refute it at one input. -/
def tallyCountsWrong : ChangeSpec := { name := "tallyCounts", fn := fun _ => fun
  | [d] => { results := [.lit (.bool false)], args := [d] }
  | _ => none }
def TallyCountsWrongFalsely : Prop := tallyCountsRow.holds Try.pinned (OpenSpec.ofChange tallyCountsWrong)

/-- 'rebuslaw13.TallySums': WHATEVER THE INPUT: true; the input reads as it did. -/
def tallySumsSpec : ChangeSpec := { name := "tallySums", fn := fun _ => fun
  | [d1, d2] => { results := [.lit (.bool true)], args := [d1, d2] }
  | _ => none }
def tallySumsRow : OpenClaim := { program := "ytnakmganodkliaa", sum := "9c973bd392d4f6c74a439aeb789c804817b1bdc15927d3da4588c3dbb824e30c", func := "rebus/rebuslaw13.TallySums", spec := "tallySums", unfollowed := true, recurses := true, apart := false }
def TallySumsSaid : Prop := tallySumsRow.holds Try.pinned (OpenSpec.ofChange tallySumsSpec)

/-- ITS FALSE NEIGHBOUR: 'it returns false'. Refute it at one input. -/
def tallySumsWrong : ChangeSpec := { name := "tallySums", fn := fun _ => fun
  | [d1, d2] => { results := [.lit (.bool false)], args := [d1, d2] }
  | _ => none }
def TallySumsWrongFalsely : Prop := tallySumsRow.holds Try.pinned (OpenSpec.ofChange tallySumsWrong)

/-- 'rebuslaw13.TallySame': WHATEVER THE INPUT: true; the input reads as it did. -/
def tallySameSpec : ChangeSpec := { name := "tallySame", fn := fun _ => fun
  | [d] => { results := [.lit (.bool true)], args := [d] }
  | _ => none }
def tallySameRow : OpenClaim := { program := "ytnakmganodkliaa", sum := "9c973bd392d4f6c74a439aeb789c804817b1bdc15927d3da4588c3dbb824e30c", func := "rebus/rebuslaw13.TallySame", spec := "tallySame", unfollowed := true, recurses := true, apart := false }
def TallySameSaid : Prop := tallySameRow.holds Try.pinned (OpenSpec.ofChange tallySameSpec)

/-- ITS FALSE NEIGHBOUR: 'it returns false'. Refute it at one input. -/
def tallySameWrong : ChangeSpec := { name := "tallySame", fn := fun _ => fun
  | [d] => { results := [.lit (.bool false)], args := [d] }
  | _ => none }
def TallySameWrongFalsely : Prop := tallySameRow.holds Try.pinned (OpenSpec.ofChange tallySameWrong)

/-- 'rebuslaw13.TallyNone': WHATEVER THE INPUT: true; the input reads as it did. -/
def tallyNoneSpec : ChangeSpec := { name := "tallyNone", fn := fun _ => fun
  | [d] => { results := [.lit (.bool true)], args := [d] }
  | _ => none }
def tallyNoneRow : OpenClaim := { program := "ytnakmganodkliaa", sum := "9c973bd392d4f6c74a439aeb789c804817b1bdc15927d3da4588c3dbb824e30c", func := "rebus/rebuslaw13.TallyNone", spec := "tallyNone", unfollowed := true, recurses := true, apart := false }
def TallyNoneSaid : Prop := tallyNoneRow.holds Try.pinned (OpenSpec.ofChange tallyNoneSpec)

/-- ITS FALSE NEIGHBOUR: 'it returns false'. Refute it at one input. -/
def tallyNoneWrong : ChangeSpec := { name := "tallyNone", fn := fun _ => fun
  | [d] => { results := [.lit (.bool false)], args := [d] }
  | _ => none }
def TallyNoneWrongFalsely : Prop := tallyNoneRow.holds Try.pinned (OpenSpec.ofChange tallyNoneWrong)

/- THE SECOND FORM. 'bulk': how many values and letters a reading holds, each counted each time it is reached (what is shared counts as often as it is met; a slice's spare places count too). A statement '..UptoSaid' is the law's where the arguments, and the package variables that the reading takes, are together of bulk at most 1048576: NARROWER than '..Said'. Prove '..Said' where nothing that the law and all that it calls make is longer than what came in: it says more and counts as full. Else prove '..UptoSaid'. A law counts once. -/
mutual
def uptoBulk {H : Type} : DataW H → Nat
  | .lit (.string bytes) => bytes.length + 1
  | .lit _ => 1
  | .nil => 1
  | .ptr d => uptoBulk d + 1
  | .slice elems spare => uptoBulkAll elems + uptoBulkAll spare + 1
  | .agg parts => uptoBulkAll parts + 1
  | .iface _ d => uptoBulk d + 1
  | .map entries => uptoBulkEntries entries + 1
  | .held _ => 1
def uptoBulkAll {H : Type} : List (DataW H) → Nat
  | [] => 0
  | d :: r => uptoBulk d + uptoBulkAll r
def uptoBulkEntries {H : Type} : List (Lit × DataW H) → Nat
  | [] => 0
  | x :: r => uptoBulkEntry x + uptoBulkEntries r
def uptoBulkEntry {H : Type} : Lit × DataW H → Nat
  | (.string bytes, d) => bytes.length + uptoBulk d + 1
  | (_, d) => uptoBulk d + 1
 end
def uptoSmall : (H : Type) → List (DataW H) → Bool := fun _ ds => decide (uptoBulkAll ds ≤ 1048576)
def OpenSpec.upto (s : _root_.Go.ChangeSpec) : _root_.Go.OpenSpec := { _root_.Go.OpenSpec.ofChange s with cond := some uptoSmall }

/-- 'rebuslaw06.TurnPlaces', WHERE WHAT IT READS IS OF BULK AT MOST 1048576: true; the input reads as it did. -/
def turnPlacesUptoRow : OpenClaim := { program := "ytnakmganodkliaa", sum := "9c973bd392d4f6c74a439aeb789c804817b1bdc15927d3da4588c3dbb824e30c", func := "rebus/rebuslaw06.TurnPlaces", spec := "turnPlaces", apart := false, narrowed := true }
def TurnPlacesUptoSaid : Prop := turnPlacesUptoRow.holds Try.pinned (OpenSpec.upto turnPlacesSpec)

/-- 'rebuslaw06.TurnCells', WHERE WHAT IT READS IS OF BULK AT MOST 1048576: true; the input reads as it did. -/
def turnCellsUptoRow : OpenClaim := { program := "ytnakmganodkliaa", sum := "9c973bd392d4f6c74a439aeb789c804817b1bdc15927d3da4588c3dbb824e30c", func := "rebus/rebuslaw06.TurnCells", spec := "turnCells", apart := false, narrowed := true }
def TurnCellsUptoSaid : Prop := turnCellsUptoRow.holds Try.pinned (OpenSpec.upto turnCellsSpec)

/-- 'rebuslaw05.GridBlanks', WHERE WHAT IT READS IS OF BULK AT MOST 1048576: true; the input reads as it did. -/
def gridBlanksUptoRow : OpenClaim := { program := "ytnakmganodkliaa", sum := "9c973bd392d4f6c74a439aeb789c804817b1bdc15927d3da4588c3dbb824e30c", func := "rebus/rebuslaw05.GridBlanks", spec := "gridBlanks", unfollowed := true, recurses := true, apart := false, narrowed := true }
def GridBlanksUptoSaid : Prop := gridBlanksUptoRow.holds Try.pinned (OpenSpec.upto gridBlanksSpec)

/-- 'rebuslaw05.GridSteps', WHERE WHAT IT READS IS OF BULK AT MOST 1048576: true; the input reads as it did. -/
def gridStepsUptoRow : OpenClaim := { program := "ytnakmganodkliaa", sum := "9c973bd392d4f6c74a439aeb789c804817b1bdc15927d3da4588c3dbb824e30c", func := "rebus/rebuslaw05.GridSteps", spec := "gridSteps", unfollowed := true, recurses := true, apart := false, narrowed := true }
def GridStepsUptoSaid : Prop := gridStepsUptoRow.holds Try.pinned (OpenSpec.upto gridStepsSpec)

/-- 'rebuslaw05.GridChecks', WHERE WHAT IT READS IS OF BULK AT MOST 1048576: true; the input reads as it did. -/
def gridChecksUptoRow : OpenClaim := { program := "ytnakmganodkliaa", sum := "9c973bd392d4f6c74a439aeb789c804817b1bdc15927d3da4588c3dbb824e30c", func := "rebus/rebuslaw05.GridChecks", spec := "gridChecks", unfollowed := true, recurses := true, apart := false, narrowed := true }
def GridChecksUptoSaid : Prop := gridChecksUptoRow.holds Try.pinned (OpenSpec.upto gridChecksSpec)

/-- 'rebuslaw06.TurnGroup', WHERE WHAT IT READS IS OF BULK AT MOST 1048576: true; the input reads as it did. -/
def turnGroupUptoRow : OpenClaim := { program := "ytnakmganodkliaa", sum := "9c973bd392d4f6c74a439aeb789c804817b1bdc15927d3da4588c3dbb824e30c", func := "rebus/rebuslaw06.TurnGroup", spec := "turnGroup", unfollowed := true, recurses := true, apart := false, narrowed := true }
def TurnGroupUptoSaid : Prop := turnGroupUptoRow.holds Try.pinned (OpenSpec.upto turnGroupSpec)

/-- 'rebuslaw05.GridParts', WHERE WHAT IT READS IS OF BULK AT MOST 1048576: true; the input reads as it did. -/
def gridPartsUptoRow : OpenClaim := { program := "ytnakmganodkliaa", sum := "9c973bd392d4f6c74a439aeb789c804817b1bdc15927d3da4588c3dbb824e30c", func := "rebus/rebuslaw05.GridParts", spec := "gridParts", unfollowed := true, recurses := true, apart := false, narrowed := true }
def GridPartsUptoSaid : Prop := gridPartsUptoRow.holds Try.pinned (OpenSpec.upto gridPartsSpec)

/-- 'rebuslaw05.GridReach', WHERE WHAT IT READS IS OF BULK AT MOST 1048576: true; the input reads as it did. -/
def gridReachUptoRow : OpenClaim := { program := "ytnakmganodkliaa", sum := "9c973bd392d4f6c74a439aeb789c804817b1bdc15927d3da4588c3dbb824e30c", func := "rebus/rebuslaw05.GridReach", spec := "gridReach", unfollowed := true, recurses := true, apart := false, narrowed := true }
def GridReachUptoSaid : Prop := gridReachUptoRow.holds Try.pinned (OpenSpec.upto gridReachSpec)

/-- 'rebuslaw06.TurnSymmetries', WHERE WHAT IT READS IS OF BULK AT MOST 1048576: true; the input reads as it did. -/
def turnSymmetriesUptoRow : OpenClaim := { program := "ytnakmganodkliaa", sum := "9c973bd392d4f6c74a439aeb789c804817b1bdc15927d3da4588c3dbb824e30c", func := "rebus/rebuslaw06.TurnSymmetries", spec := "turnSymmetries", unfollowed := true, recurses := true, apart := false, narrowed := true }
def TurnSymmetriesUptoSaid : Prop := turnSymmetriesUptoRow.holds Try.pinned (OpenSpec.upto turnSymmetriesSpec)

/-- 'rebuslaw05.GridBack', WHERE WHAT IT READS IS OF BULK AT MOST 1048576: true; the input reads as it did. -/
def gridBackUptoRow : OpenClaim := { program := "ytnakmganodkliaa", sum := "9c973bd392d4f6c74a439aeb789c804817b1bdc15927d3da4588c3dbb824e30c", func := "rebus/rebuslaw05.GridBack", spec := "gridBack", unfollowed := true, recurses := true, apart := false, narrowed := true }
def GridBackUptoSaid : Prop := gridBackUptoRow.holds Try.pinned (OpenSpec.upto gridBackSpec)

/-- 'rebuslaw06.TurnCanon', WHERE WHAT IT READS IS OF BULK AT MOST 1048576: true; the input reads as it did. -/
def turnCanonUptoRow : OpenClaim := { program := "ytnakmganodkliaa", sum := "9c973bd392d4f6c74a439aeb789c804817b1bdc15927d3da4588c3dbb824e30c", func := "rebus/rebuslaw06.TurnCanon", spec := "turnCanon", unfollowed := true, recurses := true, apart := false, narrowed := true }
def TurnCanonUptoSaid : Prop := turnCanonUptoRow.holds Try.pinned (OpenSpec.upto turnCanonSpec)

/-- 'rebuslaw06.TurnGrids', WHERE WHAT IT READS IS OF BULK AT MOST 1048576: true; the input reads as it did. -/
def turnGridsUptoRow : OpenClaim := { program := "ytnakmganodkliaa", sum := "9c973bd392d4f6c74a439aeb789c804817b1bdc15927d3da4588c3dbb824e30c", func := "rebus/rebuslaw06.TurnGrids", spec := "turnGrids", unfollowed := true, recurses := true, apart := false, narrowed := true }
def TurnGridsUptoSaid : Prop := turnGridsUptoRow.holds Try.pinned (OpenSpec.upto turnGridsSpec)

/-- 'rebuslaw12.NarrowExact', WHERE WHAT IT READS IS OF BULK AT MOST 1048576: true; the input reads as it did. -/
def narrowExactUptoRow : OpenClaim := { program := "ytnakmganodkliaa", sum := "9c973bd392d4f6c74a439aeb789c804817b1bdc15927d3da4588c3dbb824e30c", func := "rebus/rebuslaw12.NarrowExact", spec := "narrowExact", unfollowed := true, recurses := true, apart := false, narrowed := true }
def NarrowExactUptoSaid : Prop := narrowExactUptoRow.holds Try.pinned (OpenSpec.upto narrowExactSpec)

/-- 'rebuslaw12.NarrowLess', WHERE WHAT IT READS IS OF BULK AT MOST 1048576: true; the input reads as it did. -/
def narrowLessUptoRow : OpenClaim := { program := "ytnakmganodkliaa", sum := "9c973bd392d4f6c74a439aeb789c804817b1bdc15927d3da4588c3dbb824e30c", func := "rebus/rebuslaw12.NarrowLess", spec := "narrowLess", unfollowed := true, recurses := true, apart := false, narrowed := true }
def NarrowLessUptoSaid : Prop := narrowLessUptoRow.holds Try.pinned (OpenSpec.upto narrowLessSpec)

/-- 'rebuslaw12.NarrowSafe', WHERE WHAT IT READS IS OF BULK AT MOST 1048576: true; the input reads as it did. -/
def narrowSafeUptoRow : OpenClaim := { program := "ytnakmganodkliaa", sum := "9c973bd392d4f6c74a439aeb789c804817b1bdc15927d3da4588c3dbb824e30c", func := "rebus/rebuslaw12.NarrowSafe", spec := "narrowSafe", unfollowed := true, recurses := true, apart := false, narrowed := true }
def NarrowSafeUptoSaid : Prop := narrowSafeUptoRow.holds Try.pinned (OpenSpec.upto narrowSafeSpec)

/-- 'rebuslaw12.NarrowFixed', WHERE WHAT IT READS IS OF BULK AT MOST 1048576: true; the input reads as it did. -/
def narrowFixedUptoRow : OpenClaim := { program := "ytnakmganodkliaa", sum := "9c973bd392d4f6c74a439aeb789c804817b1bdc15927d3da4588c3dbb824e30c", func := "rebus/rebuslaw12.NarrowFixed", spec := "narrowFixed", unfollowed := true, recurses := true, apart := false, narrowed := true }
def NarrowFixedUptoSaid : Prop := narrowFixedUptoRow.holds Try.pinned (OpenSpec.upto narrowFixedSpec)

/-- 'rebuslaw13.TallyChecks', WHERE WHAT IT READS IS OF BULK AT MOST 1048576: true; the input reads as it did. -/
def tallyChecksUptoRow : OpenClaim := { program := "ytnakmganodkliaa", sum := "9c973bd392d4f6c74a439aeb789c804817b1bdc15927d3da4588c3dbb824e30c", func := "rebus/rebuslaw13.TallyChecks", spec := "tallyChecks", unfollowed := true, recurses := true, apart := false, narrowed := true }
def TallyChecksUptoSaid : Prop := tallyChecksUptoRow.holds Try.pinned (OpenSpec.upto tallyChecksSpec)

/-- 'rebuslaw13.TallyCounts', WHERE WHAT IT READS IS OF BULK AT MOST 1048576: true; the input reads as it did. -/
def tallyCountsUptoRow : OpenClaim := { program := "ytnakmganodkliaa", sum := "9c973bd392d4f6c74a439aeb789c804817b1bdc15927d3da4588c3dbb824e30c", func := "rebus/rebuslaw13.TallyCounts", spec := "tallyCounts", unfollowed := true, recurses := true, apart := false, narrowed := true }
def TallyCountsUptoSaid : Prop := tallyCountsUptoRow.holds Try.pinned (OpenSpec.upto tallyCountsSpec)

/-- 'rebuslaw13.TallySums', WHERE WHAT IT READS IS OF BULK AT MOST 1048576: true; the input reads as it did. -/
def tallySumsUptoRow : OpenClaim := { program := "ytnakmganodkliaa", sum := "9c973bd392d4f6c74a439aeb789c804817b1bdc15927d3da4588c3dbb824e30c", func := "rebus/rebuslaw13.TallySums", spec := "tallySums", unfollowed := true, recurses := true, apart := false, narrowed := true }
def TallySumsUptoSaid : Prop := tallySumsUptoRow.holds Try.pinned (OpenSpec.upto tallySumsSpec)

/-- 'rebuslaw13.TallySame', WHERE WHAT IT READS IS OF BULK AT MOST 1048576: true; the input reads as it did. -/
def tallySameUptoRow : OpenClaim := { program := "ytnakmganodkliaa", sum := "9c973bd392d4f6c74a439aeb789c804817b1bdc15927d3da4588c3dbb824e30c", func := "rebus/rebuslaw13.TallySame", spec := "tallySame", unfollowed := true, recurses := true, apart := false, narrowed := true }
def TallySameUptoSaid : Prop := tallySameUptoRow.holds Try.pinned (OpenSpec.upto tallySameSpec)

/-- 'rebuslaw13.TallyNone', WHERE WHAT IT READS IS OF BULK AT MOST 1048576: true; the input reads as it did. -/
def tallyNoneUptoRow : OpenClaim := { program := "ytnakmganodkliaa", sum := "9c973bd392d4f6c74a439aeb789c804817b1bdc15927d3da4588c3dbb824e30c", func := "rebus/rebuslaw13.TallyNone", spec := "tallyNone", unfollowed := true, recurses := true, apart := false, narrowed := true }
def TallyNoneUptoSaid : Prop := tallyNoneUptoRow.holds Try.pinned (OpenSpec.upto tallyNoneSpec)

end Rows
end Go.Proofs.Ytnakmganodkliaa
