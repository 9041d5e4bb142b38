/-
  NARROWER THAN 'FOR EVERY INPUT', by the rows' own cells (each row's printed sentence says how): MaskEach: laid · MaskBack: laid · MaskSubs: laid · MaskExact: laid · SlotsRuns: laid · SlotsLists: laid · SlotsSeats: laid · SlotsAsks: laid · SlotsTurned: laid · RefuteChecks: laid · RefuteProves: laid · RefuteSteps: laid · RefuteMore: laid · FillOnly: laid · FillTrue: laid · RefuteSound: laid · FillNumbers: laid.
  DERIVED. THE GIVEN ROWS OF THIS SEAT. 17 by the template 'for every input the law returns true; each argument reads behind the call as it read before'; 0 by the template 'total and deterministic' (their statements: YtnakmganodkliaaDoorTotals.lean).
  GIVEN WITH THE SEED: the statements are not yours to turn. If you find one false, say at which input.
  Laid BY PROGRAM, IN A SANDBOX (cutbox-rows.mjs): the forced cells as the released guide's own fill.sh prints them over the translation afe6f3338c8e5597… (all of the seat's roots in one cut). By AI agents, Wed Nov 11 2026. No macro, syntax, notation, axiom, sorry.
-/
import Derived.Test.YtnakmganodkliaaDoorChecked
import GoSem.Claim
import GoSem.ClaimJoined
import GoSem.ClaimMapViews
import Derived.JoinedTies
import Derived.KernelRfl
namespace Go.Proofs.YtnakmganodkliaaDoor
/- THE CELL 'sum', in the pinned program and in every row, IS THE sha256 OF THE DUMP (.gsa) THAT YtnakmganodkliaaDoorProg.lean LOADS. Nothing in Lean hashes anything: it is a label: what it is worth is what the hold of that sum in a sandbox is worth. -/
noncomputable def Tryd.pinned : Pinned := { name := "ytnakmganodkliaadoor", sum := "afe6f3338c8e55971d94a3df1e9b020e3d5b612b8c620553ae5be2b5419307fc", checked := Tryd.checked }
namespace Rows
def none {H : Type} : Left H := { results := [], args := [] }

/- WHAT THE LISTED PACKAGE-LEVEL VARIABLES READ AS WHEN THE CALL BEGINS. Each datum BY PROGRAM (the guide's laid-datum.mjs) off the statement by which the dump's own 'gosem.cut.vars' lays the variable. In a bare row this is a premise. The card (YtnakmganodkliaaDoorCards.lean) ties it to the program's text. -/
def laid_math_bits_deBruijn64tab {H : Type} : DataW H := .agg [.lit (.int .u8 0), .lit (.int .u8 1), .lit (.int .u8 56), .lit (.int .u8 2), .lit (.int .u8 57), .lit (.int .u8 49), .lit (.int .u8 28), .lit (.int .u8 3), .lit (.int .u8 61), .lit (.int .u8 58), .lit (.int .u8 42), .lit (.int .u8 50), .lit (.int .u8 38), .lit (.int .u8 29), .lit (.int .u8 17), .lit (.int .u8 4), .lit (.int .u8 62), .lit (.int .u8 47), .lit (.int .u8 59), .lit (.int .u8 36), .lit (.int .u8 45), .lit (.int .u8 43), .lit (.int .u8 51), .lit (.int .u8 22), .lit (.int .u8 53), .lit (.int .u8 39), .lit (.int .u8 33), .lit (.int .u8 30), .lit (.int .u8 24), .lit (.int .u8 18), .lit (.int .u8 12), .lit (.int .u8 5), .lit (.int .u8 63), .lit (.int .u8 55), .lit (.int .u8 48), .lit (.int .u8 27), .lit (.int .u8 60), .lit (.int .u8 41), .lit (.int .u8 37), .lit (.int .u8 16), .lit (.int .u8 46), .lit (.int .u8 35), .lit (.int .u8 44), .lit (.int .u8 21), .lit (.int .u8 52), .lit (.int .u8 32), .lit (.int .u8 23), .lit (.int .u8 11), .lit (.int .u8 54), .lit (.int .u8 26), .lit (.int .u8 40), .lit (.int .u8 15), .lit (.int .u8 34), .lit (.int .u8 20), .lit (.int .u8 31), .lit (.int .u8 10), .lit (.int .u8 25), .lit (.int .u8 14), .lit (.int .u8 19), .lit (.int .u8 9), .lit (.int .u8 13), .lit (.int .u8 8), .lit (.int .u8 7), .lit (.int .u8 6)]
def laid_math_bits_deBruijn32tab {H : Type} : DataW H := .agg [.lit (.int .u8 0), .lit (.int .u8 1), .lit (.int .u8 28), .lit (.int .u8 2), .lit (.int .u8 29), .lit (.int .u8 14), .lit (.int .u8 24), .lit (.int .u8 3), .lit (.int .u8 30), .lit (.int .u8 22), .lit (.int .u8 20), .lit (.int .u8 15), .lit (.int .u8 25), .lit (.int .u8 17), .lit (.int .u8 4), .lit (.int .u8 8), .lit (.int .u8 31), .lit (.int .u8 27), .lit (.int .u8 13), .lit (.int .u8 23), .lit (.int .u8 21), .lit (.int .u8 19), .lit (.int .u8 16), .lit (.int .u8 7), .lit (.int .u8 26), .lit (.int .u8 12), .lit (.int .u8 18), .lit (.int .u8 6), .lit (.int .u8 11), .lit (.int .u8 5), .lit (.int .u8 10), .lit (.int .u8 9)]
def laid_internal_strconv_uint64pow10 {H : Type} : DataW H := .agg [.lit (.int .u64 1), .lit (.int .u64 10), .lit (.int .u64 100), .lit (.int .u64 1000), .lit (.int .u64 10000), .lit (.int .u64 100000), .lit (.int .u64 1000000), .lit (.int .u64 10000000), .lit (.int .u64 100000000), .lit (.int .u64 1000000000), .lit (.int .u64 10000000000), .lit (.int .u64 100000000000), .lit (.int .u64 1000000000000), .lit (.int .u64 10000000000000), .lit (.int .u64 100000000000000), .lit (.int .u64 1000000000000000), .lit (.int .u64 10000000000000000), .lit (.int .u64 100000000000000000), .lit (.int .u64 1000000000000000000), .lit (.int .u64 10000000000000000000)]

/-- 'rebuslaw04.MaskEach': WHATEVER THE INPUT: true; the input reads as it did. -/
def maskEachSpec : ChangeSpec := { name := "maskEach", fn := fun _ => fun
  | [d1, d2] => { results := [.lit (.bool true)], args := [d1, d2] }
  | _ => none }
def maskEachRow : OpenClaim := { program := "ytnakmganodkliaadoor", sum := "afe6f3338c8e55971d94a3df1e9b020e3d5b612b8c620553ae5be2b5419307fc", func := "rebus/rebuslaw04.MaskEach", spec := "maskEach", unfollowed := true, recurses := true, named := ["math/bits.deBruijn64tab"], apart := false, laid := [("math/bits.deBruijn64tab", laid_math_bits_deBruijn64tab)] }
def MaskEachSaid : Prop := maskEachRow.holds Tryd.pinned (OpenSpec.ofChange maskEachSpec)

/-- ITS FALSE NEIGHBOUR: 'it returns false'. Refute it at one input. -/
def maskEachWrong : ChangeSpec := { name := "maskEach", fn := fun _ => fun
  | [d1, d2] => { results := [.lit (.bool false)], args := [d1, d2] }
  | _ => none }
def MaskEachWrongFalsely : Prop := maskEachRow.holds Tryd.pinned (OpenSpec.ofChange maskEachWrong)

/-- 'rebuslaw04.MaskBack': WHATEVER THE INPUT: true; the input reads as it did. -/
def maskBackSpec : ChangeSpec := { name := "maskBack", fn := fun _ => fun
  | [d1, d2] => { results := [.lit (.bool true)], args := [d1, d2] }
  | _ => none }
def maskBackRow : OpenClaim := { program := "ytnakmganodkliaadoor", sum := "afe6f3338c8e55971d94a3df1e9b020e3d5b612b8c620553ae5be2b5419307fc", func := "rebus/rebuslaw04.MaskBack", spec := "maskBack", unfollowed := true, recurses := true, named := ["math/bits.deBruijn64tab"], apart := false, laid := [("math/bits.deBruijn64tab", laid_math_bits_deBruijn64tab)] }
def MaskBackSaid : Prop := maskBackRow.holds Tryd.pinned (OpenSpec.ofChange maskBackSpec)

/-- ITS FALSE NEIGHBOUR: 'it returns false'. Refute it at one input. -/
def maskBackWrong : ChangeSpec := { name := "maskBack", fn := fun _ => fun
  | [d1, d2] => { results := [.lit (.bool false)], args := [d1, d2] }
  | _ => none }
def MaskBackWrongFalsely : Prop := maskBackRow.holds Tryd.pinned (OpenSpec.ofChange maskBackWrong)

/-- 'rebuslaw04.MaskSubs': WHATEVER THE INPUT: true; the input reads as it did. -/
def maskSubsSpec : ChangeSpec := { name := "maskSubs", fn := fun _ => fun
  | [d] => { results := [.lit (.bool true)], args := [d] }
  | _ => none }
def maskSubsRow : OpenClaim := { program := "ytnakmganodkliaadoor", sum := "afe6f3338c8e55971d94a3df1e9b020e3d5b612b8c620553ae5be2b5419307fc", func := "rebus/rebuslaw04.MaskSubs", spec := "maskSubs", unfollowed := true, recurses := true, named := ["math/bits.deBruijn64tab"], apart := false, laid := [("math/bits.deBruijn64tab", laid_math_bits_deBruijn64tab)] }
def MaskSubsSaid : Prop := maskSubsRow.holds Tryd.pinned (OpenSpec.ofChange maskSubsSpec)

/-- ITS FALSE NEIGHBOUR: 'it returns false'. Refute it at one input. -/
def maskSubsWrong : ChangeSpec := { name := "maskSubs", fn := fun _ => fun
  | [d] => { results := [.lit (.bool false)], args := [d] }
  | _ => none }
def MaskSubsWrongFalsely : Prop := maskSubsRow.holds Tryd.pinned (OpenSpec.ofChange maskSubsWrong)

/-- 'rebuslaw04.MaskExact': WHATEVER THE INPUT: true; the input reads as it did. -/
def maskExactSpec : ChangeSpec := { name := "maskExact", fn := fun _ => fun
  | [d1, d2, d3] => { results := [.lit (.bool true)], args := [d1, d2, d3] }
  | _ => none }
def maskExactRow : OpenClaim := { program := "ytnakmganodkliaadoor", sum := "afe6f3338c8e55971d94a3df1e9b020e3d5b612b8c620553ae5be2b5419307fc", func := "rebus/rebuslaw04.MaskExact", spec := "maskExact", unfollowed := true, recurses := true, named := ["math/bits.deBruijn64tab"], apart := false, laid := [("math/bits.deBruijn64tab", laid_math_bits_deBruijn64tab)] }
def MaskExactSaid : Prop := maskExactRow.holds Tryd.pinned (OpenSpec.ofChange maskExactSpec)

/-- ITS FALSE NEIGHBOUR: 'it returns false'. Refute it at one input. -/
def maskExactWrong : ChangeSpec := { name := "maskExact", fn := fun _ => fun
  | [d1, d2, d3] => { results := [.lit (.bool false)], args := [d1, d2, d3] }
  | _ => none }
def MaskExactWrongFalsely : Prop := maskExactRow.holds Tryd.pinned (OpenSpec.ofChange maskExactWrong)

/-- 'rebuslaw07.SlotsRuns': WHATEVER THE INPUT: true; the input reads as it did. -/
def slotsRunsSpec : ChangeSpec := { name := "slotsRuns", fn := fun _ => fun
  | [d] => { results := [.lit (.bool true)], args := [d] }
  | _ => none }
def slotsRunsRow : OpenClaim := { program := "ytnakmganodkliaadoor", sum := "afe6f3338c8e55971d94a3df1e9b020e3d5b612b8c620553ae5be2b5419307fc", func := "rebus/rebuslaw07.SlotsRuns", spec := "slotsRuns", unfollowed := true, recurses := true, named := ["internal/strconv.uint64pow10", "math/bits.deBruijn32tab", "math/bits.deBruijn64tab"], apart := false, laid := [("math/bits.deBruijn32tab", laid_math_bits_deBruijn32tab), ("math/bits.deBruijn64tab", laid_math_bits_deBruijn64tab), ("internal/strconv.uint64pow10", laid_internal_strconv_uint64pow10)] }
def SlotsRunsSaid : Prop := slotsRunsRow.holds Tryd.pinned (OpenSpec.ofChange slotsRunsSpec)

/-- ITS FALSE NEIGHBOUR: 'it returns false'. Refute it at one input. -/
def slotsRunsWrong : ChangeSpec := { name := "slotsRuns", fn := fun _ => fun
  | [d] => { results := [.lit (.bool false)], args := [d] }
  | _ => none }
def SlotsRunsWrongFalsely : Prop := slotsRunsRow.holds Tryd.pinned (OpenSpec.ofChange slotsRunsWrong)

/-- 'rebuslaw07.SlotsLists': WHATEVER THE INPUT: true; the input reads as it did. -/
def slotsListsSpec : ChangeSpec := { name := "slotsLists", fn := fun _ => fun
  | [d] => { results := [.lit (.bool true)], args := [d] }
  | _ => none }
def slotsListsRow : OpenClaim := { program := "ytnakmganodkliaadoor", sum := "afe6f3338c8e55971d94a3df1e9b020e3d5b612b8c620553ae5be2b5419307fc", func := "rebus/rebuslaw07.SlotsLists", spec := "slotsLists", unfollowed := true, recurses := true, named := ["internal/strconv.uint64pow10", "math/bits.deBruijn32tab", "math/bits.deBruijn64tab"], apart := false, laid := [("math/bits.deBruijn32tab", laid_math_bits_deBruijn32tab), ("math/bits.deBruijn64tab", laid_math_bits_deBruijn64tab), ("internal/strconv.uint64pow10", laid_internal_strconv_uint64pow10)] }
def SlotsListsSaid : Prop := slotsListsRow.holds Tryd.pinned (OpenSpec.ofChange slotsListsSpec)

/-- ITS FALSE NEIGHBOUR: 'it returns false'. Refute it at one input. -/
def slotsListsWrong : ChangeSpec := { name := "slotsLists", fn := fun _ => fun
  | [d] => { results := [.lit (.bool false)], args := [d] }
  | _ => none }
def SlotsListsWrongFalsely : Prop := slotsListsRow.holds Tryd.pinned (OpenSpec.ofChange slotsListsWrong)

/-- 'rebuslaw07.SlotsSeats': WHATEVER THE INPUT: true; the input reads as it did. -/
def slotsSeatsSpec : ChangeSpec := { name := "slotsSeats", fn := fun _ => fun
  | [d] => { results := [.lit (.bool true)], args := [d] }
  | _ => none }
def slotsSeatsRow : OpenClaim := { program := "ytnakmganodkliaadoor", sum := "afe6f3338c8e55971d94a3df1e9b020e3d5b612b8c620553ae5be2b5419307fc", func := "rebus/rebuslaw07.SlotsSeats", spec := "slotsSeats", unfollowed := true, recurses := true, named := ["internal/strconv.uint64pow10", "math/bits.deBruijn32tab", "math/bits.deBruijn64tab"], apart := false, laid := [("math/bits.deBruijn32tab", laid_math_bits_deBruijn32tab), ("math/bits.deBruijn64tab", laid_math_bits_deBruijn64tab), ("internal/strconv.uint64pow10", laid_internal_strconv_uint64pow10)] }
def SlotsSeatsSaid : Prop := slotsSeatsRow.holds Tryd.pinned (OpenSpec.ofChange slotsSeatsSpec)

/-- ITS FALSE NEIGHBOUR: 'it returns false'. Refute it at one input. -/
def slotsSeatsWrong : ChangeSpec := { name := "slotsSeats", fn := fun _ => fun
  | [d] => { results := [.lit (.bool false)], args := [d] }
  | _ => none }
def SlotsSeatsWrongFalsely : Prop := slotsSeatsRow.holds Tryd.pinned (OpenSpec.ofChange slotsSeatsWrong)

/-- 'rebuslaw07.SlotsAsks': WHATEVER THE INPUT: true; the input reads as it did. -/
def slotsAsksSpec : ChangeSpec := { name := "slotsAsks", fn := fun _ => fun
  | [d1, d2, d3] => { results := [.lit (.bool true)], args := [d1, d2, d3] }
  | _ => none }
def slotsAsksRow : OpenClaim := { program := "ytnakmganodkliaadoor", sum := "afe6f3338c8e55971d94a3df1e9b020e3d5b612b8c620553ae5be2b5419307fc", func := "rebus/rebuslaw07.SlotsAsks", spec := "slotsAsks", unfollowed := true, recurses := true, named := ["internal/strconv.uint64pow10", "math/bits.deBruijn32tab", "math/bits.deBruijn64tab"], apart := false, laid := [("math/bits.deBruijn32tab", laid_math_bits_deBruijn32tab), ("math/bits.deBruijn64tab", laid_math_bits_deBruijn64tab), ("internal/strconv.uint64pow10", laid_internal_strconv_uint64pow10)] }
def SlotsAsksSaid : Prop := slotsAsksRow.holds Tryd.pinned (OpenSpec.ofChange slotsAsksSpec)

/-- ITS FALSE NEIGHBOUR: 'it returns false'. Refute it at one input. -/
def slotsAsksWrong : ChangeSpec := { name := "slotsAsks", fn := fun _ => fun
  | [d1, d2, d3] => { results := [.lit (.bool false)], args := [d1, d2, d3] }
  | _ => none }
def SlotsAsksWrongFalsely : Prop := slotsAsksRow.holds Tryd.pinned (OpenSpec.ofChange slotsAsksWrong)

/-- 'rebuslaw07.SlotsTurned': WHATEVER THE INPUT: true; the input reads as it did. -/
def slotsTurnedSpec : ChangeSpec := { name := "slotsTurned", fn := fun _ => fun
  | [d1, d2] => { results := [.lit (.bool true)], args := [d1, d2] }
  | _ => none }
def slotsTurnedRow : OpenClaim := { program := "ytnakmganodkliaadoor", sum := "afe6f3338c8e55971d94a3df1e9b020e3d5b612b8c620553ae5be2b5419307fc", func := "rebus/rebuslaw07.SlotsTurned", spec := "slotsTurned", unfollowed := true, recurses := true, named := ["internal/strconv.uint64pow10", "math/bits.deBruijn32tab", "math/bits.deBruijn64tab"], apart := false, laid := [("math/bits.deBruijn32tab", laid_math_bits_deBruijn32tab), ("math/bits.deBruijn64tab", laid_math_bits_deBruijn64tab), ("internal/strconv.uint64pow10", laid_internal_strconv_uint64pow10)] }
def SlotsTurnedSaid : Prop := slotsTurnedRow.holds Tryd.pinned (OpenSpec.ofChange slotsTurnedSpec)

/-- ITS FALSE NEIGHBOUR: 'it returns false'. Refute it at one input. -/
def slotsTurnedWrong : ChangeSpec := { name := "slotsTurned", fn := fun _ => fun
  | [d1, d2] => { results := [.lit (.bool false)], args := [d1, d2] }
  | _ => none }
def SlotsTurnedWrongFalsely : Prop := slotsTurnedRow.holds Tryd.pinned (OpenSpec.ofChange slotsTurnedWrong)

/-- 'rebuslaw15.RefuteChecks': WHATEVER THE INPUT: true; the input reads as it did. -/
def refuteChecksSpec : ChangeSpec := { name := "refuteChecks", fn := fun _ => fun
  | [d1, d2] => { results := [.lit (.bool true)], args := [d1, d2] }
  | _ => none }
def refuteChecksRow : OpenClaim := { program := "ytnakmganodkliaadoor", sum := "afe6f3338c8e55971d94a3df1e9b020e3d5b612b8c620553ae5be2b5419307fc", func := "rebus/rebuslaw15.RefuteChecks", spec := "refuteChecks", unfollowed := true, recurses := true, named := ["math/bits.deBruijn64tab"], apart := false, laid := [("math/bits.deBruijn64tab", laid_math_bits_deBruijn64tab)] }
def RefuteChecksSaid : Prop := refuteChecksRow.holds Tryd.pinned (OpenSpec.ofChange refuteChecksSpec)

/-- ITS FALSE NEIGHBOUR: 'it returns false'. Refute it at one input. -/
def refuteChecksWrong : ChangeSpec := { name := "refuteChecks", fn := fun _ => fun
  | [d1, d2] => { results := [.lit (.bool false)], args := [d1, d2] }
  | _ => none }
def RefuteChecksWrongFalsely : Prop := refuteChecksRow.holds Tryd.pinned (OpenSpec.ofChange refuteChecksWrong)

/-- 'rebuslaw15.RefuteProves': WHATEVER THE INPUT: true; the input reads as it did. -/
def refuteProvesSpec : ChangeSpec := { name := "refuteProves", fn := fun _ => fun
  | [d] => { results := [.lit (.bool true)], args := [d] }
  | _ => none }
def refuteProvesRow : OpenClaim := { program := "ytnakmganodkliaadoor", sum := "afe6f3338c8e55971d94a3df1e9b020e3d5b612b8c620553ae5be2b5419307fc", func := "rebus/rebuslaw15.RefuteProves", spec := "refuteProves", unfollowed := true, recurses := true, named := ["math/bits.deBruijn64tab"], apart := false, laid := [("math/bits.deBruijn64tab", laid_math_bits_deBruijn64tab)] }
def RefuteProvesSaid : Prop := refuteProvesRow.holds Tryd.pinned (OpenSpec.ofChange refuteProvesSpec)

/-- ITS FALSE NEIGHBOUR: 'it returns false'. Refute it at one input. -/
def refuteProvesWrong : ChangeSpec := { name := "refuteProves", fn := fun _ => fun
  | [d] => { results := [.lit (.bool false)], args := [d] }
  | _ => none }
def RefuteProvesWrongFalsely : Prop := refuteProvesRow.holds Tryd.pinned (OpenSpec.ofChange refuteProvesWrong)

/-- 'rebuslaw15.RefuteSteps': WHATEVER THE INPUT: true; the input reads as it did. -/
def refuteStepsSpec : ChangeSpec := { name := "refuteSteps", fn := fun _ => fun
  | [d1, d2] => { results := [.lit (.bool true)], args := [d1, d2] }
  | _ => none }
def refuteStepsRow : OpenClaim := { program := "ytnakmganodkliaadoor", sum := "afe6f3338c8e55971d94a3df1e9b020e3d5b612b8c620553ae5be2b5419307fc", func := "rebus/rebuslaw15.RefuteSteps", spec := "refuteSteps", unfollowed := true, recurses := true, named := ["math/bits.deBruijn64tab"], apart := false, laid := [("math/bits.deBruijn64tab", laid_math_bits_deBruijn64tab)] }
def RefuteStepsSaid : Prop := refuteStepsRow.holds Tryd.pinned (OpenSpec.ofChange refuteStepsSpec)

/-- ITS FALSE NEIGHBOUR: 'it returns false'. Refute it at one input. -/
def refuteStepsWrong : ChangeSpec := { name := "refuteSteps", fn := fun _ => fun
  | [d1, d2] => { results := [.lit (.bool false)], args := [d1, d2] }
  | _ => none }
def RefuteStepsWrongFalsely : Prop := refuteStepsRow.holds Tryd.pinned (OpenSpec.ofChange refuteStepsWrong)

/-- 'rebuslaw15.RefuteMore': WHATEVER THE INPUT: true; the input reads as it did. -/
def refuteMoreSpec : ChangeSpec := { name := "refuteMore", fn := fun _ => fun
  | [d1, d2] => { results := [.lit (.bool true)], args := [d1, d2] }
  | _ => none }
def refuteMoreRow : OpenClaim := { program := "ytnakmganodkliaadoor", sum := "afe6f3338c8e55971d94a3df1e9b020e3d5b612b8c620553ae5be2b5419307fc", func := "rebus/rebuslaw15.RefuteMore", spec := "refuteMore", unfollowed := true, recurses := true, named := ["math/bits.deBruijn64tab"], apart := false, laid := [("math/bits.deBruijn64tab", laid_math_bits_deBruijn64tab)] }
def RefuteMoreSaid : Prop := refuteMoreRow.holds Tryd.pinned (OpenSpec.ofChange refuteMoreSpec)

/-- ITS FALSE NEIGHBOUR: 'it returns false'. Refute it at one input. -/
def refuteMoreWrong : ChangeSpec := { name := "refuteMore", fn := fun _ => fun
  | [d1, d2] => { results := [.lit (.bool false)], args := [d1, d2] }
  | _ => none }
def RefuteMoreWrongFalsely : Prop := refuteMoreRow.holds Tryd.pinned (OpenSpec.ofChange refuteMoreWrong)

/-- 'rebuslaw14.FillOnly': WHATEVER THE INPUT: true; the input reads as it did. -/
def fillOnlySpec : ChangeSpec := { name := "fillOnly", fn := fun _ => fun
  | [d] => { results := [.lit (.bool true)], args := [d] }
  | _ => none }
def fillOnlyRow : OpenClaim := { program := "ytnakmganodkliaadoor", sum := "afe6f3338c8e55971d94a3df1e9b020e3d5b612b8c620553ae5be2b5419307fc", func := "rebus/rebuslaw14.FillOnly", spec := "fillOnly", unfollowed := true, recurses := true, named := ["math/bits.deBruijn64tab"], apart := false, laid := [("math/bits.deBruijn64tab", laid_math_bits_deBruijn64tab)] }
def FillOnlySaid : Prop := fillOnlyRow.holds Tryd.pinned (OpenSpec.ofChange fillOnlySpec)

/-- ITS FALSE NEIGHBOUR: 'it returns false'. Refute it at one input. -/
def fillOnlyWrong : ChangeSpec := { name := "fillOnly", fn := fun _ => fun
  | [d] => { results := [.lit (.bool false)], args := [d] }
  | _ => none }
def FillOnlyWrongFalsely : Prop := fillOnlyRow.holds Tryd.pinned (OpenSpec.ofChange fillOnlyWrong)

/-- 'rebuslaw14.FillTrue': WHATEVER THE INPUT: true; the input reads as it did. -/
def fillTrueSpec : ChangeSpec := { name := "fillTrue", fn := fun _ => fun
  | [d] => { results := [.lit (.bool true)], args := [d] }
  | _ => none }
def fillTrueRow : OpenClaim := { program := "ytnakmganodkliaadoor", sum := "afe6f3338c8e55971d94a3df1e9b020e3d5b612b8c620553ae5be2b5419307fc", func := "rebus/rebuslaw14.FillTrue", spec := "fillTrue", unfollowed := true, recurses := true, named := ["math/bits.deBruijn64tab"], apart := false, laid := [("math/bits.deBruijn64tab", laid_math_bits_deBruijn64tab)] }
def FillTrueSaid : Prop := fillTrueRow.holds Tryd.pinned (OpenSpec.ofChange fillTrueSpec)

/-- ITS FALSE NEIGHBOUR: 'it returns false'. Refute it at one input. -/
def fillTrueWrong : ChangeSpec := { name := "fillTrue", fn := fun _ => fun
  | [d] => { results := [.lit (.bool false)], args := [d] }
  | _ => none }
def FillTrueWrongFalsely : Prop := fillTrueRow.holds Tryd.pinned (OpenSpec.ofChange fillTrueWrong)

/-- 'rebuslaw15.RefuteSound': WHATEVER THE INPUT: true; the input reads as it did. -/
def refuteSoundSpec : ChangeSpec := { name := "refuteSound", fn := fun _ => fun
  | [d1, d2, d3] => { results := [.lit (.bool true)], args := [d1, d2, d3] }
  | _ => none }
def refuteSoundRow : OpenClaim := { program := "ytnakmganodkliaadoor", sum := "afe6f3338c8e55971d94a3df1e9b020e3d5b612b8c620553ae5be2b5419307fc", func := "rebus/rebuslaw15.RefuteSound", spec := "refuteSound", unfollowed := true, recurses := true, named := ["math/bits.deBruijn64tab"], apart := false, laid := [("math/bits.deBruijn64tab", laid_math_bits_deBruijn64tab)] }
def RefuteSoundSaid : Prop := refuteSoundRow.holds Tryd.pinned (OpenSpec.ofChange refuteSoundSpec)

/-- ITS FALSE NEIGHBOUR: 'it returns false'. Refute it at one input. -/
def refuteSoundWrong : ChangeSpec := { name := "refuteSound", fn := fun _ => fun
  | [d1, d2, d3] => { results := [.lit (.bool false)], args := [d1, d2, d3] }
  | _ => none }
def RefuteSoundWrongFalsely : Prop := refuteSoundRow.holds Tryd.pinned (OpenSpec.ofChange refuteSoundWrong)

/-- 'rebuslaw14.FillNumbers': WHATEVER THE INPUT: true; the input reads as it did. -/
def fillNumbersSpec : ChangeSpec := { name := "fillNumbers", fn := fun _ => fun
  | [d] => { results := [.lit (.bool true)], args := [d] }
  | _ => none }
def fillNumbersRow : OpenClaim := { program := "ytnakmganodkliaadoor", sum := "afe6f3338c8e55971d94a3df1e9b020e3d5b612b8c620553ae5be2b5419307fc", func := "rebus/rebuslaw14.FillNumbers", spec := "fillNumbers", unfollowed := true, recurses := true, named := ["math/bits.deBruijn64tab"], apart := false, laid := [("math/bits.deBruijn64tab", laid_math_bits_deBruijn64tab)] }
def FillNumbersSaid : Prop := fillNumbersRow.holds Tryd.pinned (OpenSpec.ofChange fillNumbersSpec)

/-- ITS FALSE NEIGHBOUR: 'it returns false'. Refute it at one input. -/
def fillNumbersWrong : ChangeSpec := { name := "fillNumbers", fn := fun _ => fun
  | [d] => { results := [.lit (.bool false)], args := [d] }
  | _ => none }
def FillNumbersWrongFalsely : Prop := fillNumbersRow.holds Tryd.pinned (OpenSpec.ofChange fillNumbersWrong)

/- THE SECOND FORM. 'bulk': how many values and letters a reading holds, each counted each time it is reached (what is shared counts as often as it is met; a slice's spare places count too). A statement '..UptoSaid' is the law's where the arguments, and the package variables that the reading takes, are together of bulk at most 1048576: NARROWER than '..Said'. Prove '..Said' where nothing that the law and all that it calls make is longer than what came in: it says more and counts as full. Else prove '..UptoSaid'. A law counts once. -/
mutual
def uptoBulk {H : Type} : DataW H → Nat
  | .lit (.string bytes) => bytes.length + 1
  | .lit _ => 1
  | .nil => 1
  | .ptr d => uptoBulk d + 1
  | .slice elems spare => uptoBulkAll elems + uptoBulkAll spare + 1
  | .agg parts => uptoBulkAll parts + 1
  | .iface _ d => uptoBulk d + 1
  | .map entries => uptoBulkEntries entries + 1
  | .held _ => 1
def uptoBulkAll {H : Type} : List (DataW H) → Nat
  | [] => 0
  | d :: r => uptoBulk d + uptoBulkAll r
def uptoBulkEntries {H : Type} : List (Lit × DataW H) → Nat
  | [] => 0
  | x :: r => uptoBulkEntry x + uptoBulkEntries r
def uptoBulkEntry {H : Type} : Lit × DataW H → Nat
  | (.string bytes, d) => bytes.length + uptoBulk d + 1
  | (_, d) => uptoBulk d + 1
 end
def uptoSmall : (H : Type) → List (DataW H) → Bool := fun _ ds => decide (uptoBulkAll ds ≤ 1048576)
def OpenSpec.upto (s : _root_.Go.ChangeSpec) : _root_.Go.OpenSpec := { _root_.Go.OpenSpec.ofChange s with cond := some uptoSmall }

/-- 'rebuslaw04.MaskEach', WHERE WHAT IT READS IS OF BULK AT MOST 1048576: true; the input reads as it did. -/
def maskEachUptoRow : OpenClaim := { program := "ytnakmganodkliaadoor", sum := "afe6f3338c8e55971d94a3df1e9b020e3d5b612b8c620553ae5be2b5419307fc", func := "rebus/rebuslaw04.MaskEach", spec := "maskEach", unfollowed := true, recurses := true, named := ["math/bits.deBruijn64tab"], apart := false, laid := [("math/bits.deBruijn64tab", laid_math_bits_deBruijn64tab)], narrowed := true }
def MaskEachUptoSaid : Prop := maskEachUptoRow.holds Tryd.pinned (OpenSpec.upto maskEachSpec)

/-- 'rebuslaw04.MaskBack', WHERE WHAT IT READS IS OF BULK AT MOST 1048576: true; the input reads as it did. -/
def maskBackUptoRow : OpenClaim := { program := "ytnakmganodkliaadoor", sum := "afe6f3338c8e55971d94a3df1e9b020e3d5b612b8c620553ae5be2b5419307fc", func := "rebus/rebuslaw04.MaskBack", spec := "maskBack", unfollowed := true, recurses := true, named := ["math/bits.deBruijn64tab"], apart := false, laid := [("math/bits.deBruijn64tab", laid_math_bits_deBruijn64tab)], narrowed := true }
def MaskBackUptoSaid : Prop := maskBackUptoRow.holds Tryd.pinned (OpenSpec.upto maskBackSpec)

/-- 'rebuslaw04.MaskSubs', WHERE WHAT IT READS IS OF BULK AT MOST 1048576: true; the input reads as it did. -/
def maskSubsUptoRow : OpenClaim := { program := "ytnakmganodkliaadoor", sum := "afe6f3338c8e55971d94a3df1e9b020e3d5b612b8c620553ae5be2b5419307fc", func := "rebus/rebuslaw04.MaskSubs", spec := "maskSubs", unfollowed := true, recurses := true, named := ["math/bits.deBruijn64tab"], apart := false, laid := [("math/bits.deBruijn64tab", laid_math_bits_deBruijn64tab)], narrowed := true }
def MaskSubsUptoSaid : Prop := maskSubsUptoRow.holds Tryd.pinned (OpenSpec.upto maskSubsSpec)

/-- 'rebuslaw04.MaskExact', WHERE WHAT IT READS IS OF BULK AT MOST 1048576: true; the input reads as it did. -/
def maskExactUptoRow : OpenClaim := { program := "ytnakmganodkliaadoor", sum := "afe6f3338c8e55971d94a3df1e9b020e3d5b612b8c620553ae5be2b5419307fc", func := "rebus/rebuslaw04.MaskExact", spec := "maskExact", unfollowed := true, recurses := true, named := ["math/bits.deBruijn64tab"], apart := false, laid := [("math/bits.deBruijn64tab", laid_math_bits_deBruijn64tab)], narrowed := true }
def MaskExactUptoSaid : Prop := maskExactUptoRow.holds Tryd.pinned (OpenSpec.upto maskExactSpec)

/-- 'rebuslaw07.SlotsRuns', WHERE WHAT IT READS IS OF BULK AT MOST 1048576: true; the input reads as it did. -/
def slotsRunsUptoRow : OpenClaim := { program := "ytnakmganodkliaadoor", sum := "afe6f3338c8e55971d94a3df1e9b020e3d5b612b8c620553ae5be2b5419307fc", func := "rebus/rebuslaw07.SlotsRuns", spec := "slotsRuns", unfollowed := true, recurses := true, named := ["internal/strconv.uint64pow10", "math/bits.deBruijn32tab", "math/bits.deBruijn64tab"], apart := false, laid := [("math/bits.deBruijn32tab", laid_math_bits_deBruijn32tab), ("math/bits.deBruijn64tab", laid_math_bits_deBruijn64tab), ("internal/strconv.uint64pow10", laid_internal_strconv_uint64pow10)], narrowed := true }
def SlotsRunsUptoSaid : Prop := slotsRunsUptoRow.holds Tryd.pinned (OpenSpec.upto slotsRunsSpec)

/-- 'rebuslaw07.SlotsLists', WHERE WHAT IT READS IS OF BULK AT MOST 1048576: true; the input reads as it did. -/
def slotsListsUptoRow : OpenClaim := { program := "ytnakmganodkliaadoor", sum := "afe6f3338c8e55971d94a3df1e9b020e3d5b612b8c620553ae5be2b5419307fc", func := "rebus/rebuslaw07.SlotsLists", spec := "slotsLists", unfollowed := true, recurses := true, named := ["internal/strconv.uint64pow10", "math/bits.deBruijn32tab", "math/bits.deBruijn64tab"], apart := false, laid := [("math/bits.deBruijn32tab", laid_math_bits_deBruijn32tab), ("math/bits.deBruijn64tab", laid_math_bits_deBruijn64tab), ("internal/strconv.uint64pow10", laid_internal_strconv_uint64pow10)], narrowed := true }
def SlotsListsUptoSaid : Prop := slotsListsUptoRow.holds Tryd.pinned (OpenSpec.upto slotsListsSpec)

/-- 'rebuslaw07.SlotsSeats', WHERE WHAT IT READS IS OF BULK AT MOST 1048576: true; the input reads as it did. -/
def slotsSeatsUptoRow : OpenClaim := { program := "ytnakmganodkliaadoor", sum := "afe6f3338c8e55971d94a3df1e9b020e3d5b612b8c620553ae5be2b5419307fc", func := "rebus/rebuslaw07.SlotsSeats", spec := "slotsSeats", unfollowed := true, recurses := true, named := ["internal/strconv.uint64pow10", "math/bits.deBruijn32tab", "math/bits.deBruijn64tab"], apart := false, laid := [("math/bits.deBruijn32tab", laid_math_bits_deBruijn32tab), ("math/bits.deBruijn64tab", laid_math_bits_deBruijn64tab), ("internal/strconv.uint64pow10", laid_internal_strconv_uint64pow10)], narrowed := true }
def SlotsSeatsUptoSaid : Prop := slotsSeatsUptoRow.holds Tryd.pinned (OpenSpec.upto slotsSeatsSpec)

/-- 'rebuslaw07.SlotsAsks', WHERE WHAT IT READS IS OF BULK AT MOST 1048576: true; the input reads as it did. -/
def slotsAsksUptoRow : OpenClaim := { program := "ytnakmganodkliaadoor", sum := "afe6f3338c8e55971d94a3df1e9b020e3d5b612b8c620553ae5be2b5419307fc", func := "rebus/rebuslaw07.SlotsAsks", spec := "slotsAsks", unfollowed := true, recurses := true, named := ["internal/strconv.uint64pow10", "math/bits.deBruijn32tab", "math/bits.deBruijn64tab"], apart := false, laid := [("math/bits.deBruijn32tab", laid_math_bits_deBruijn32tab), ("math/bits.deBruijn64tab", laid_math_bits_deBruijn64tab), ("internal/strconv.uint64pow10", laid_internal_strconv_uint64pow10)], narrowed := true }
def SlotsAsksUptoSaid : Prop := slotsAsksUptoRow.holds Tryd.pinned (OpenSpec.upto slotsAsksSpec)

/-- 'rebuslaw07.SlotsTurned', WHERE WHAT IT READS IS OF BULK AT MOST 1048576: true; the input reads as it did. -/
def slotsTurnedUptoRow : OpenClaim := { program := "ytnakmganodkliaadoor", sum := "afe6f3338c8e55971d94a3df1e9b020e3d5b612b8c620553ae5be2b5419307fc", func := "rebus/rebuslaw07.SlotsTurned", spec := "slotsTurned", unfollowed := true, recurses := true, named := ["internal/strconv.uint64pow10", "math/bits.deBruijn32tab", "math/bits.deBruijn64tab"], apart := false, laid := [("math/bits.deBruijn32tab", laid_math_bits_deBruijn32tab), ("math/bits.deBruijn64tab", laid_math_bits_deBruijn64tab), ("internal/strconv.uint64pow10", laid_internal_strconv_uint64pow10)], narrowed := true }
def SlotsTurnedUptoSaid : Prop := slotsTurnedUptoRow.holds Tryd.pinned (OpenSpec.upto slotsTurnedSpec)

/-- 'rebuslaw15.RefuteChecks', WHERE WHAT IT READS IS OF BULK AT MOST 1048576: true; the input reads as it did. -/
def refuteChecksUptoRow : OpenClaim := { program := "ytnakmganodkliaadoor", sum := "afe6f3338c8e55971d94a3df1e9b020e3d5b612b8c620553ae5be2b5419307fc", func := "rebus/rebuslaw15.RefuteChecks", spec := "refuteChecks", unfollowed := true, recurses := true, named := ["math/bits.deBruijn64tab"], apart := false, laid := [("math/bits.deBruijn64tab", laid_math_bits_deBruijn64tab)], narrowed := true }
def RefuteChecksUptoSaid : Prop := refuteChecksUptoRow.holds Tryd.pinned (OpenSpec.upto refuteChecksSpec)

/-- 'rebuslaw15.RefuteProves', WHERE WHAT IT READS IS OF BULK AT MOST 1048576: true; the input reads as it did. -/
def refuteProvesUptoRow : OpenClaim := { program := "ytnakmganodkliaadoor", sum := "afe6f3338c8e55971d94a3df1e9b020e3d5b612b8c620553ae5be2b5419307fc", func := "rebus/rebuslaw15.RefuteProves", spec := "refuteProves", unfollowed := true, recurses := true, named := ["math/bits.deBruijn64tab"], apart := false, laid := [("math/bits.deBruijn64tab", laid_math_bits_deBruijn64tab)], narrowed := true }
def RefuteProvesUptoSaid : Prop := refuteProvesUptoRow.holds Tryd.pinned (OpenSpec.upto refuteProvesSpec)

/-- 'rebuslaw15.RefuteSteps', WHERE WHAT IT READS IS OF BULK AT MOST 1048576: true; the input reads as it did. -/
def refuteStepsUptoRow : OpenClaim := { program := "ytnakmganodkliaadoor", sum := "afe6f3338c8e55971d94a3df1e9b020e3d5b612b8c620553ae5be2b5419307fc", func := "rebus/rebuslaw15.RefuteSteps", spec := "refuteSteps", unfollowed := true, recurses := true, named := ["math/bits.deBruijn64tab"], apart := false, laid := [("math/bits.deBruijn64tab", laid_math_bits_deBruijn64tab)], narrowed := true }
def RefuteStepsUptoSaid : Prop := refuteStepsUptoRow.holds Tryd.pinned (OpenSpec.upto refuteStepsSpec)

/-- 'rebuslaw15.RefuteMore', WHERE WHAT IT READS IS OF BULK AT MOST 1048576: true; the input reads as it did. -/
def refuteMoreUptoRow : OpenClaim := { program := "ytnakmganodkliaadoor", sum := "afe6f3338c8e55971d94a3df1e9b020e3d5b612b8c620553ae5be2b5419307fc", func := "rebus/rebuslaw15.RefuteMore", spec := "refuteMore", unfollowed := true, recurses := true, named := ["math/bits.deBruijn64tab"], apart := false, laid := [("math/bits.deBruijn64tab", laid_math_bits_deBruijn64tab)], narrowed := true }
def RefuteMoreUptoSaid : Prop := refuteMoreUptoRow.holds Tryd.pinned (OpenSpec.upto refuteMoreSpec)

/-- 'rebuslaw14.FillOnly', WHERE WHAT IT READS IS OF BULK AT MOST 1048576: true; the input reads as it did. -/
def fillOnlyUptoRow : OpenClaim := { program := "ytnakmganodkliaadoor", sum := "afe6f3338c8e55971d94a3df1e9b020e3d5b612b8c620553ae5be2b5419307fc", func := "rebus/rebuslaw14.FillOnly", spec := "fillOnly", unfollowed := true, recurses := true, named := ["math/bits.deBruijn64tab"], apart := false, laid := [("math/bits.deBruijn64tab", laid_math_bits_deBruijn64tab)], narrowed := true }
def FillOnlyUptoSaid : Prop := fillOnlyUptoRow.holds Tryd.pinned (OpenSpec.upto fillOnlySpec)

/-- 'rebuslaw14.FillTrue', WHERE WHAT IT READS IS OF BULK AT MOST 1048576: true; the input reads as it did. -/
def fillTrueUptoRow : OpenClaim := { program := "ytnakmganodkliaadoor", sum := "afe6f3338c8e55971d94a3df1e9b020e3d5b612b8c620553ae5be2b5419307fc", func := "rebus/rebuslaw14.FillTrue", spec := "fillTrue", unfollowed := true, recurses := true, named := ["math/bits.deBruijn64tab"], apart := false, laid := [("math/bits.deBruijn64tab", laid_math_bits_deBruijn64tab)], narrowed := true }
def FillTrueUptoSaid : Prop := fillTrueUptoRow.holds Tryd.pinned (OpenSpec.upto fillTrueSpec)

/-- 'rebuslaw15.RefuteSound', WHERE WHAT IT READS IS OF BULK AT MOST 1048576: true; the input reads as it did. -/
def refuteSoundUptoRow : OpenClaim := { program := "ytnakmganodkliaadoor", sum := "afe6f3338c8e55971d94a3df1e9b020e3d5b612b8c620553ae5be2b5419307fc", func := "rebus/rebuslaw15.RefuteSound", spec := "refuteSound", unfollowed := true, recurses := true, named := ["math/bits.deBruijn64tab"], apart := false, laid := [("math/bits.deBruijn64tab", laid_math_bits_deBruijn64tab)], narrowed := true }
def RefuteSoundUptoSaid : Prop := refuteSoundUptoRow.holds Tryd.pinned (OpenSpec.upto refuteSoundSpec)

/-- 'rebuslaw14.FillNumbers', WHERE WHAT IT READS IS OF BULK AT MOST 1048576: true; the input reads as it did. -/
def fillNumbersUptoRow : OpenClaim := { program := "ytnakmganodkliaadoor", sum := "afe6f3338c8e55971d94a3df1e9b020e3d5b612b8c620553ae5be2b5419307fc", func := "rebus/rebuslaw14.FillNumbers", spec := "fillNumbers", unfollowed := true, recurses := true, named := ["math/bits.deBruijn64tab"], apart := false, laid := [("math/bits.deBruijn64tab", laid_math_bits_deBruijn64tab)], narrowed := true }
def FillNumbersUptoSaid : Prop := fillNumbersUptoRow.holds Tryd.pinned (OpenSpec.upto fillNumbersSpec)

end Rows
end Go.Proofs.YtnakmganodkliaaDoor
