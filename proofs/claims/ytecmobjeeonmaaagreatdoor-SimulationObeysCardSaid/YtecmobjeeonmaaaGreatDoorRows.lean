/-
  NARROWER THAN 'FOR EVERY INPUT', by the rows' own cells (each row's printed sentence says how): ScanSingle: laid · ScanHandles: laid · ScanDelays: laid · ScanOrders: laid · ScanHolds: laid · ScanVerifies: laid · SimulationDifference: laid · SimulationRuns: laid · SimulationChecks: laid · SimulationAutomatic: laid · SimulationObeys: laid · SimulationScripts: laid.
  DERIVED. THE GIVEN ROWS OF THIS SEAT. 12 by the template 'for every input the law returns true; each argument reads behind the call as it read before'; 0 by the template 'total and deterministic' (their statements: YtecmobjeeonmaaaGreatDoorTotals.lean).
  GIVEN WITH THE SEED: the statements are not yours to turn. If you find one false, say at which input.
  Laid BY PROGRAM, IN A SANDBOX (cutbox-rows.mjs): the forced cells as the released guide's own fill.sh prints them over the translation 9aa295ea02f4a5d4… (all of the seat's roots in one cut). By AI agents, Wed Nov 11 2026. No macro, syntax, notation, axiom, sorry.
-/
import Derived.Test.YtecmobjeeonmaaaGreatDoorChecked
import GoSem.Claim
import GoSem.ClaimJoined
import GoSem.ClaimMapViews
import Derived.JoinedTies
import Derived.KernelRfl
namespace Go.Proofs.YtecmobjeeonmaaaGreatDoor
/- THE CELL 'sum', in the pinned program and in every row, IS THE sha256 OF THE DUMP (.gsa) THAT YtecmobjeeonmaaaGreatDoorProg.lean LOADS. Nothing in Lean hashes anything: it is a label: what it is worth is what the hold of that sum in a sandbox is worth. -/
noncomputable def Tryz.pinned : Pinned := { name := "ytecmobjeeonmaaagreatdoor", sum := "9aa295ea02f4a5d4ea6c5d676b8cb5d777b521ea9a6666da1b8592a6f6bc8209", checked := Tryz.checked }
namespace Rows
def none {H : Type} : Left H := { results := [], args := [] }

/- WHAT THE LISTED PACKAGE-LEVEL VARIABLES READ AS WHEN THE CALL BEGINS. Each datum BY PROGRAM (the guide's laid-datum.mjs) off the statement by which the dump's own 'gosem.cut.vars' lays the variable. In a bare row this is a premise. The card (YtecmobjeeonmaaaGreatDoorCards.lean) ties it to the program's text. -/
def laid_math_bits_deBruijn32tab {H : Type} : DataW H := .agg [.lit (.int .u8 0), .lit (.int .u8 1), .lit (.int .u8 28), .lit (.int .u8 2), .lit (.int .u8 29), .lit (.int .u8 14), .lit (.int .u8 24), .lit (.int .u8 3), .lit (.int .u8 30), .lit (.int .u8 22), .lit (.int .u8 20), .lit (.int .u8 15), .lit (.int .u8 25), .lit (.int .u8 17), .lit (.int .u8 4), .lit (.int .u8 8), .lit (.int .u8 31), .lit (.int .u8 27), .lit (.int .u8 13), .lit (.int .u8 23), .lit (.int .u8 21), .lit (.int .u8 19), .lit (.int .u8 16), .lit (.int .u8 7), .lit (.int .u8 26), .lit (.int .u8 12), .lit (.int .u8 18), .lit (.int .u8 6), .lit (.int .u8 11), .lit (.int .u8 5), .lit (.int .u8 10), .lit (.int .u8 9)]
def laid_math_bits_deBruijn64tab {H : Type} : DataW H := .agg [.lit (.int .u8 0), .lit (.int .u8 1), .lit (.int .u8 56), .lit (.int .u8 2), .lit (.int .u8 57), .lit (.int .u8 49), .lit (.int .u8 28), .lit (.int .u8 3), .lit (.int .u8 61), .lit (.int .u8 58), .lit (.int .u8 42), .lit (.int .u8 50), .lit (.int .u8 38), .lit (.int .u8 29), .lit (.int .u8 17), .lit (.int .u8 4), .lit (.int .u8 62), .lit (.int .u8 47), .lit (.int .u8 59), .lit (.int .u8 36), .lit (.int .u8 45), .lit (.int .u8 43), .lit (.int .u8 51), .lit (.int .u8 22), .lit (.int .u8 53), .lit (.int .u8 39), .lit (.int .u8 33), .lit (.int .u8 30), .lit (.int .u8 24), .lit (.int .u8 18), .lit (.int .u8 12), .lit (.int .u8 5), .lit (.int .u8 63), .lit (.int .u8 55), .lit (.int .u8 48), .lit (.int .u8 27), .lit (.int .u8 60), .lit (.int .u8 41), .lit (.int .u8 37), .lit (.int .u8 16), .lit (.int .u8 46), .lit (.int .u8 35), .lit (.int .u8 44), .lit (.int .u8 21), .lit (.int .u8 52), .lit (.int .u8 32), .lit (.int .u8 23), .lit (.int .u8 11), .lit (.int .u8 54), .lit (.int .u8 26), .lit (.int .u8 40), .lit (.int .u8 15), .lit (.int .u8 34), .lit (.int .u8 20), .lit (.int .u8 31), .lit (.int .u8 10), .lit (.int .u8 25), .lit (.int .u8 14), .lit (.int .u8 19), .lit (.int .u8 9), .lit (.int .u8 13), .lit (.int .u8 8), .lit (.int .u8 7), .lit (.int .u8 6)]
def laid_internal_strconv_uint64pow10 {H : Type} : DataW H := .agg [.lit (.int .u64 1), .lit (.int .u64 10), .lit (.int .u64 100), .lit (.int .u64 1000), .lit (.int .u64 10000), .lit (.int .u64 100000), .lit (.int .u64 1000000), .lit (.int .u64 10000000), .lit (.int .u64 100000000), .lit (.int .u64 1000000000), .lit (.int .u64 10000000000), .lit (.int .u64 100000000000), .lit (.int .u64 1000000000000), .lit (.int .u64 10000000000000), .lit (.int .u64 100000000000000), .lit (.int .u64 1000000000000000), .lit (.int .u64 10000000000000000), .lit (.int .u64 100000000000000000), .lit (.int .u64 1000000000000000000), .lit (.int .u64 10000000000000000000)]

/-- 'overseerlaw54.ScanSingle': WHATEVER THE INPUT: true; the input reads as it did. -/
def scanSingleSpec : ChangeSpec := { name := "scanSingle", fn := fun _ => fun
  | [d1, d2] => { results := [.lit (.bool true)], args := [d1, d2] }
  | _ => none }
def scanSingleRow : OpenClaim := { program := "ytecmobjeeonmaaagreatdoor", sum := "9aa295ea02f4a5d4ea6c5d676b8cb5d777b521ea9a6666da1b8592a6f6bc8209", func := "overseer/overseerlaw54.ScanSingle", spec := "scanSingle", inPlace := ["internal/abi.NoEscape"], unfollowed := true, recurses := true, named := ["internal/strconv.uint64pow10", "math/bits.deBruijn32tab", "math/bits.deBruijn64tab"], plainKeys := false, apart := false, laid := [("math/bits.deBruijn32tab", laid_math_bits_deBruijn32tab), ("math/bits.deBruijn64tab", laid_math_bits_deBruijn64tab), ("internal/strconv.uint64pow10", laid_internal_strconv_uint64pow10)] }
def ScanSingleSaid : Prop := scanSingleRow.holds Tryz.pinned (OpenSpec.ofChange scanSingleSpec)

/-- ITS FALSE NEIGHBOUR: 'it returns false'. Refute it at one input. -/
def scanSingleWrong : ChangeSpec := { name := "scanSingle", fn := fun _ => fun
  | [d1, d2] => { results := [.lit (.bool false)], args := [d1, d2] }
  | _ => none }
def ScanSingleWrongFalsely : Prop := scanSingleRow.holds Tryz.pinned (OpenSpec.ofChange scanSingleWrong)

/-- 'overseerlaw54.ScanHandles': WHATEVER THE INPUT: true; the input reads as it did. -/
def scanHandlesSpec : ChangeSpec := { name := "scanHandles", fn := fun _ => fun
  | [d1, d2, d3] => { results := [.lit (.bool true)], args := [d1, d2, d3] }
  | _ => none }
def scanHandlesRow : OpenClaim := { program := "ytecmobjeeonmaaagreatdoor", sum := "9aa295ea02f4a5d4ea6c5d676b8cb5d777b521ea9a6666da1b8592a6f6bc8209", func := "overseer/overseerlaw54.ScanHandles", spec := "scanHandles", inPlace := ["internal/abi.NoEscape"], unfollowed := true, recurses := true, named := ["internal/strconv.uint64pow10", "math/bits.deBruijn32tab", "math/bits.deBruijn64tab"], plainKeys := false, apart := false, laid := [("math/bits.deBruijn32tab", laid_math_bits_deBruijn32tab), ("math/bits.deBruijn64tab", laid_math_bits_deBruijn64tab), ("internal/strconv.uint64pow10", laid_internal_strconv_uint64pow10)] }
def ScanHandlesSaid : Prop := scanHandlesRow.holds Tryz.pinned (OpenSpec.ofChange scanHandlesSpec)

/-- ITS FALSE NEIGHBOUR: 'it returns false'. Refute it at one input. -/
def scanHandlesWrong : ChangeSpec := { name := "scanHandles", fn := fun _ => fun
  | [d1, d2, d3] => { results := [.lit (.bool false)], args := [d1, d2, d3] }
  | _ => none }
def ScanHandlesWrongFalsely : Prop := scanHandlesRow.holds Tryz.pinned (OpenSpec.ofChange scanHandlesWrong)

/-- 'overseerlaw54.ScanDelays': WHATEVER THE INPUT: true; the input reads as it did. -/
def scanDelaysSpec : ChangeSpec := { name := "scanDelays", fn := fun _ => fun
  | [d1, d2] => { results := [.lit (.bool true)], args := [d1, d2] }
  | _ => none }
def scanDelaysRow : OpenClaim := { program := "ytecmobjeeonmaaagreatdoor", sum := "9aa295ea02f4a5d4ea6c5d676b8cb5d777b521ea9a6666da1b8592a6f6bc8209", func := "overseer/overseerlaw54.ScanDelays", spec := "scanDelays", inPlace := ["internal/abi.NoEscape"], unfollowed := true, recurses := true, named := ["internal/strconv.uint64pow10", "math/bits.deBruijn32tab", "math/bits.deBruijn64tab"], plainKeys := false, apart := false, laid := [("math/bits.deBruijn32tab", laid_math_bits_deBruijn32tab), ("math/bits.deBruijn64tab", laid_math_bits_deBruijn64tab), ("internal/strconv.uint64pow10", laid_internal_strconv_uint64pow10)] }
def ScanDelaysSaid : Prop := scanDelaysRow.holds Tryz.pinned (OpenSpec.ofChange scanDelaysSpec)

/-- ITS FALSE NEIGHBOUR: 'it returns false'. Refute it at one input. -/
def scanDelaysWrong : ChangeSpec := { name := "scanDelays", fn := fun _ => fun
  | [d1, d2] => { results := [.lit (.bool false)], args := [d1, d2] }
  | _ => none }
def ScanDelaysWrongFalsely : Prop := scanDelaysRow.holds Tryz.pinned (OpenSpec.ofChange scanDelaysWrong)

/-- 'overseerlaw54.ScanOrders': WHATEVER THE INPUT: true; the input reads as it did. -/
def scanOrdersSpec : ChangeSpec := { name := "scanOrders", fn := fun _ => fun
  | [d1, d2, d3] => { results := [.lit (.bool true)], args := [d1, d2, d3] }
  | _ => none }
def scanOrdersRow : OpenClaim := { program := "ytecmobjeeonmaaagreatdoor", sum := "9aa295ea02f4a5d4ea6c5d676b8cb5d777b521ea9a6666da1b8592a6f6bc8209", func := "overseer/overseerlaw54.ScanOrders", spec := "scanOrders", inPlace := ["internal/abi.NoEscape"], unfollowed := true, recurses := true, named := ["internal/strconv.uint64pow10", "math/bits.deBruijn32tab", "math/bits.deBruijn64tab"], plainKeys := false, apart := false, laid := [("math/bits.deBruijn32tab", laid_math_bits_deBruijn32tab), ("math/bits.deBruijn64tab", laid_math_bits_deBruijn64tab), ("internal/strconv.uint64pow10", laid_internal_strconv_uint64pow10)] }
def ScanOrdersSaid : Prop := scanOrdersRow.holds Tryz.pinned (OpenSpec.ofChange scanOrdersSpec)

/-- ITS FALSE NEIGHBOUR: 'it returns false'. Refute it at one input. -/
def scanOrdersWrong : ChangeSpec := { name := "scanOrders", fn := fun _ => fun
  | [d1, d2, d3] => { results := [.lit (.bool false)], args := [d1, d2, d3] }
  | _ => none }
def ScanOrdersWrongFalsely : Prop := scanOrdersRow.holds Tryz.pinned (OpenSpec.ofChange scanOrdersWrong)

/-- 'overseerlaw54.ScanHolds': WHATEVER THE INPUT: true; the input reads as it did. -/
def scanHoldsSpec : ChangeSpec := { name := "scanHolds", fn := fun _ => fun
  | [d] => { results := [.lit (.bool true)], args := [d] }
  | _ => none }
def scanHoldsRow : OpenClaim := { program := "ytecmobjeeonmaaagreatdoor", sum := "9aa295ea02f4a5d4ea6c5d676b8cb5d777b521ea9a6666da1b8592a6f6bc8209", func := "overseer/overseerlaw54.ScanHolds", spec := "scanHolds", inPlace := ["internal/abi.NoEscape"], unfollowed := true, recurses := true, named := ["internal/strconv.uint64pow10", "math/bits.deBruijn32tab", "math/bits.deBruijn64tab"], plainKeys := false, apart := false, laid := [("math/bits.deBruijn32tab", laid_math_bits_deBruijn32tab), ("math/bits.deBruijn64tab", laid_math_bits_deBruijn64tab), ("internal/strconv.uint64pow10", laid_internal_strconv_uint64pow10)] }
def ScanHoldsSaid : Prop := scanHoldsRow.holds Tryz.pinned (OpenSpec.ofChange scanHoldsSpec)

/-- ITS FALSE NEIGHBOUR: 'it returns false'. Refute it at one input. -/
def scanHoldsWrong : ChangeSpec := { name := "scanHolds", fn := fun _ => fun
  | [d] => { results := [.lit (.bool false)], args := [d] }
  | _ => none }
def ScanHoldsWrongFalsely : Prop := scanHoldsRow.holds Tryz.pinned (OpenSpec.ofChange scanHoldsWrong)

/-- 'overseerlaw54.ScanVerifies': WHATEVER THE INPUT: true; the input reads as it did. -/
def scanVerifiesSpec : ChangeSpec := { name := "scanVerifies", fn := fun _ => fun
  | [d1, d2, d3] => { results := [.lit (.bool true)], args := [d1, d2, d3] }
  | _ => none }
def scanVerifiesRow : OpenClaim := { program := "ytecmobjeeonmaaagreatdoor", sum := "9aa295ea02f4a5d4ea6c5d676b8cb5d777b521ea9a6666da1b8592a6f6bc8209", func := "overseer/overseerlaw54.ScanVerifies", spec := "scanVerifies", inPlace := ["internal/abi.NoEscape"], unfollowed := true, recurses := true, named := ["internal/strconv.uint64pow10", "math/bits.deBruijn32tab", "math/bits.deBruijn64tab"], plainKeys := false, apart := false, laid := [("math/bits.deBruijn32tab", laid_math_bits_deBruijn32tab), ("math/bits.deBruijn64tab", laid_math_bits_deBruijn64tab), ("internal/strconv.uint64pow10", laid_internal_strconv_uint64pow10)] }
def ScanVerifiesSaid : Prop := scanVerifiesRow.holds Tryz.pinned (OpenSpec.ofChange scanVerifiesSpec)

/-- ITS FALSE NEIGHBOUR: 'it returns false'. Refute it at one input. -/
def scanVerifiesWrong : ChangeSpec := { name := "scanVerifies", fn := fun _ => fun
  | [d1, d2, d3] => { results := [.lit (.bool false)], args := [d1, d2, d3] }
  | _ => none }
def ScanVerifiesWrongFalsely : Prop := scanVerifiesRow.holds Tryz.pinned (OpenSpec.ofChange scanVerifiesWrong)

/-- 'overseerlaw55.SimulationDifference': WHATEVER THE INPUT: true; the input reads as it did. -/
def simulationDifferenceSpec : ChangeSpec := { name := "simulationDifference", fn := fun _ => fun
  | [d1, d2, d3] => { results := [.lit (.bool true)], args := [d1, d2, d3] }
  | _ => none }
def simulationDifferenceRow : OpenClaim := { program := "ytecmobjeeonmaaagreatdoor", sum := "9aa295ea02f4a5d4ea6c5d676b8cb5d777b521ea9a6666da1b8592a6f6bc8209", func := "overseer/overseerlaw55.SimulationDifference", spec := "simulationDifference", inPlace := ["internal/abi.NoEscape"], unfollowed := true, recurses := true, named := ["internal/strconv.uint64pow10", "math/bits.deBruijn32tab", "math/bits.deBruijn64tab"], plainKeys := false, apart := false, laid := [("math/bits.deBruijn32tab", laid_math_bits_deBruijn32tab), ("math/bits.deBruijn64tab", laid_math_bits_deBruijn64tab), ("internal/strconv.uint64pow10", laid_internal_strconv_uint64pow10)] }
def SimulationDifferenceSaid : Prop := simulationDifferenceRow.holds Tryz.pinned (OpenSpec.ofChange simulationDifferenceSpec)

/-- ITS FALSE NEIGHBOUR: 'it returns false'. Refute it at one input. -/
def simulationDifferenceWrong : ChangeSpec := { name := "simulationDifference", fn := fun _ => fun
  | [d1, d2, d3] => { results := [.lit (.bool false)], args := [d1, d2, d3] }
  | _ => none }
def SimulationDifferenceWrongFalsely : Prop := simulationDifferenceRow.holds Tryz.pinned (OpenSpec.ofChange simulationDifferenceWrong)

/-- 'overseerlaw55.SimulationRuns': WHATEVER THE INPUT: true; the input reads as it did. -/
def simulationRunsSpec : ChangeSpec := { name := "simulationRuns", fn := fun _ => fun
  | [d1, d2] => { results := [.lit (.bool true)], args := [d1, d2] }
  | _ => none }
def simulationRunsRow : OpenClaim := { program := "ytecmobjeeonmaaagreatdoor", sum := "9aa295ea02f4a5d4ea6c5d676b8cb5d777b521ea9a6666da1b8592a6f6bc8209", func := "overseer/overseerlaw55.SimulationRuns", spec := "simulationRuns", inPlace := ["internal/abi.NoEscape"], unfollowed := true, recurses := true, named := ["internal/strconv.uint64pow10", "math/bits.deBruijn32tab", "math/bits.deBruijn64tab"], plainKeys := false, apart := false, laid := [("math/bits.deBruijn32tab", laid_math_bits_deBruijn32tab), ("math/bits.deBruijn64tab", laid_math_bits_deBruijn64tab), ("internal/strconv.uint64pow10", laid_internal_strconv_uint64pow10)] }
def SimulationRunsSaid : Prop := simulationRunsRow.holds Tryz.pinned (OpenSpec.ofChange simulationRunsSpec)

/-- ITS FALSE NEIGHBOUR: 'it returns false'. Refute it at one input. -/
def simulationRunsWrong : ChangeSpec := { name := "simulationRuns", fn := fun _ => fun
  | [d1, d2] => { results := [.lit (.bool false)], args := [d1, d2] }
  | _ => none }
def SimulationRunsWrongFalsely : Prop := simulationRunsRow.holds Tryz.pinned (OpenSpec.ofChange simulationRunsWrong)

/-- 'overseerlaw55.SimulationChecks': WHATEVER THE INPUT: true; the input reads as it did. -/
def simulationChecksSpec : ChangeSpec := { name := "simulationChecks", fn := fun _ => fun
  | [d1, d2, d3] => { results := [.lit (.bool true)], args := [d1, d2, d3] }
  | _ => none }
def simulationChecksRow : OpenClaim := { program := "ytecmobjeeonmaaagreatdoor", sum := "9aa295ea02f4a5d4ea6c5d676b8cb5d777b521ea9a6666da1b8592a6f6bc8209", func := "overseer/overseerlaw55.SimulationChecks", spec := "simulationChecks", inPlace := ["internal/abi.NoEscape"], unfollowed := true, recurses := true, named := ["internal/strconv.uint64pow10", "math/bits.deBruijn32tab", "math/bits.deBruijn64tab"], plainKeys := false, apart := false, laid := [("math/bits.deBruijn32tab", laid_math_bits_deBruijn32tab), ("math/bits.deBruijn64tab", laid_math_bits_deBruijn64tab), ("internal/strconv.uint64pow10", laid_internal_strconv_uint64pow10)] }
def SimulationChecksSaid : Prop := simulationChecksRow.holds Tryz.pinned (OpenSpec.ofChange simulationChecksSpec)

/-- ITS FALSE NEIGHBOUR: 'it returns false'. Refute it at one input. -/
def simulationChecksWrong : ChangeSpec := { name := "simulationChecks", fn := fun _ => fun
  | [d1, d2, d3] => { results := [.lit (.bool false)], args := [d1, d2, d3] }
  | _ => none }
def SimulationChecksWrongFalsely : Prop := simulationChecksRow.holds Tryz.pinned (OpenSpec.ofChange simulationChecksWrong)

/-- 'overseerlaw55.SimulationAutomatic': WHATEVER THE INPUT: true; the input reads as it did. -/
def simulationAutomaticSpec : ChangeSpec := { name := "simulationAutomatic", fn := fun _ => fun
  | [d1, d2, d3] => { results := [.lit (.bool true)], args := [d1, d2, d3] }
  | _ => none }
def simulationAutomaticRow : OpenClaim := { program := "ytecmobjeeonmaaagreatdoor", sum := "9aa295ea02f4a5d4ea6c5d676b8cb5d777b521ea9a6666da1b8592a6f6bc8209", func := "overseer/overseerlaw55.SimulationAutomatic", spec := "simulationAutomatic", inPlace := ["internal/abi.NoEscape"], unfollowed := true, recurses := true, named := ["internal/strconv.uint64pow10", "math/bits.deBruijn32tab", "math/bits.deBruijn64tab"], plainKeys := false, apart := false, laid := [("math/bits.deBruijn32tab", laid_math_bits_deBruijn32tab), ("math/bits.deBruijn64tab", laid_math_bits_deBruijn64tab), ("internal/strconv.uint64pow10", laid_internal_strconv_uint64pow10)] }
def SimulationAutomaticSaid : Prop := simulationAutomaticRow.holds Tryz.pinned (OpenSpec.ofChange simulationAutomaticSpec)

/-- ITS FALSE NEIGHBOUR: 'it returns false'. Refute it at one input. -/
def simulationAutomaticWrong : ChangeSpec := { name := "simulationAutomatic", fn := fun _ => fun
  | [d1, d2, d3] => { results := [.lit (.bool false)], args := [d1, d2, d3] }
  | _ => none }
def SimulationAutomaticWrongFalsely : Prop := simulationAutomaticRow.holds Tryz.pinned (OpenSpec.ofChange simulationAutomaticWrong)

/-- 'overseerlaw55.SimulationObeys': WHATEVER THE INPUT: true; the input reads as it did. -/
def simulationObeysSpec : ChangeSpec := { name := "simulationObeys", fn := fun _ => fun
  | [d1, d2] => { results := [.lit (.bool true)], args := [d1, d2] }
  | _ => none }
def simulationObeysRow : OpenClaim := { program := "ytecmobjeeonmaaagreatdoor", sum := "9aa295ea02f4a5d4ea6c5d676b8cb5d777b521ea9a6666da1b8592a6f6bc8209", func := "overseer/overseerlaw55.SimulationObeys", spec := "simulationObeys", inPlace := ["internal/abi.NoEscape"], unfollowed := true, recurses := true, named := ["internal/strconv.uint64pow10", "math/bits.deBruijn32tab", "math/bits.deBruijn64tab"], plainKeys := false, apart := false, laid := [("math/bits.deBruijn32tab", laid_math_bits_deBruijn32tab), ("math/bits.deBruijn64tab", laid_math_bits_deBruijn64tab), ("internal/strconv.uint64pow10", laid_internal_strconv_uint64pow10)] }
def SimulationObeysSaid : Prop := simulationObeysRow.holds Tryz.pinned (OpenSpec.ofChange simulationObeysSpec)

/-- ITS FALSE NEIGHBOUR: 'it returns false'. Refute it at one input. -/
def simulationObeysWrong : ChangeSpec := { name := "simulationObeys", fn := fun _ => fun
  | [d1, d2] => { results := [.lit (.bool false)], args := [d1, d2] }
  | _ => none }
def SimulationObeysWrongFalsely : Prop := simulationObeysRow.holds Tryz.pinned (OpenSpec.ofChange simulationObeysWrong)

/-- 'overseerlaw55.SimulationScripts': WHATEVER THE INPUT: true; the input reads as it did. -/
def simulationScriptsSpec : ChangeSpec := { name := "simulationScripts", fn := fun _ => fun
  | [d1, d2, d3] => { results := [.lit (.bool true)], args := [d1, d2, d3] }
  | _ => none }
def simulationScriptsRow : OpenClaim := { program := "ytecmobjeeonmaaagreatdoor", sum := "9aa295ea02f4a5d4ea6c5d676b8cb5d777b521ea9a6666da1b8592a6f6bc8209", func := "overseer/overseerlaw55.SimulationScripts", spec := "simulationScripts", inPlace := ["internal/abi.NoEscape"], unfollowed := true, recurses := true, named := ["internal/strconv.uint64pow10", "math/bits.deBruijn32tab", "math/bits.deBruijn64tab"], plainKeys := false, apart := false, laid := [("math/bits.deBruijn32tab", laid_math_bits_deBruijn32tab), ("math/bits.deBruijn64tab", laid_math_bits_deBruijn64tab), ("internal/strconv.uint64pow10", laid_internal_strconv_uint64pow10)] }
def SimulationScriptsSaid : Prop := simulationScriptsRow.holds Tryz.pinned (OpenSpec.ofChange simulationScriptsSpec)

/-- ITS FALSE NEIGHBOUR: 'it returns false'. Refute it at one input. -/
def simulationScriptsWrong : ChangeSpec := { name := "simulationScripts", fn := fun _ => fun
  | [d1, d2, d3] => { results := [.lit (.bool false)], args := [d1, d2, d3] }
  | _ => none }
def SimulationScriptsWrongFalsely : Prop := simulationScriptsRow.holds Tryz.pinned (OpenSpec.ofChange simulationScriptsWrong)

/- THE SECOND FORM. 'bulk': how many values and letters a reading holds, each counted each time it is reached (what is shared counts as often as it is met; a slice's spare places count too). A statement '..UptoSaid' is the law's where the arguments, and the package variables that the reading takes, are together of bulk at most 1048576: NARROWER than '..Said'. Prove '..Said' where nothing that the law and all that it calls make is longer than what came in: it says more and counts as full. Else prove '..UptoSaid'. A law counts once. -/
mutual
def uptoBulk {H : Type} : DataW H → Nat
  | .lit (.string bytes) => bytes.length + 1
  | .lit _ => 1
  | .nil => 1
  | .ptr d => uptoBulk d + 1
  | .slice elems spare => uptoBulkAll elems + uptoBulkAll spare + 1
  | .agg parts => uptoBulkAll parts + 1
  | .iface _ d => uptoBulk d + 1
  | .map entries => uptoBulkEntries entries + 1
  | .held _ => 1
def uptoBulkAll {H : Type} : List (DataW H) → Nat
  | [] => 0
  | d :: r => uptoBulk d + uptoBulkAll r
def uptoBulkEntries {H : Type} : List (Lit × DataW H) → Nat
  | [] => 0
  | x :: r => uptoBulkEntry x + uptoBulkEntries r
def uptoBulkEntry {H : Type} : Lit × DataW H → Nat
  | (.string bytes, d) => bytes.length + uptoBulk d + 1
  | (_, d) => uptoBulk d + 1
 end
def uptoSmall : (H : Type) → List (DataW H) → Bool := fun _ ds => decide (uptoBulkAll ds ≤ 1048576)
def OpenSpec.upto (s : _root_.Go.ChangeSpec) : _root_.Go.OpenSpec := { _root_.Go.OpenSpec.ofChange s with cond := some uptoSmall }

/-- 'overseerlaw54.ScanSingle', WHERE WHAT IT READS IS OF BULK AT MOST 1048576: true; the input reads as it did. -/
def scanSingleUptoRow : OpenClaim := { program := "ytecmobjeeonmaaagreatdoor", sum := "9aa295ea02f4a5d4ea6c5d676b8cb5d777b521ea9a6666da1b8592a6f6bc8209", func := "overseer/overseerlaw54.ScanSingle", spec := "scanSingle", inPlace := ["internal/abi.NoEscape"], unfollowed := true, recurses := true, named := ["internal/strconv.uint64pow10", "math/bits.deBruijn32tab", "math/bits.deBruijn64tab"], plainKeys := false, apart := false, laid := [("math/bits.deBruijn32tab", laid_math_bits_deBruijn32tab), ("math/bits.deBruijn64tab", laid_math_bits_deBruijn64tab), ("internal/strconv.uint64pow10", laid_internal_strconv_uint64pow10)], narrowed := true }
def ScanSingleUptoSaid : Prop := scanSingleUptoRow.holds Tryz.pinned (OpenSpec.upto scanSingleSpec)

/-- 'overseerlaw54.ScanHandles', WHERE WHAT IT READS IS OF BULK AT MOST 1048576: true; the input reads as it did. -/
def scanHandlesUptoRow : OpenClaim := { program := "ytecmobjeeonmaaagreatdoor", sum := "9aa295ea02f4a5d4ea6c5d676b8cb5d777b521ea9a6666da1b8592a6f6bc8209", func := "overseer/overseerlaw54.ScanHandles", spec := "scanHandles", inPlace := ["internal/abi.NoEscape"], unfollowed := true, recurses := true, named := ["internal/strconv.uint64pow10", "math/bits.deBruijn32tab", "math/bits.deBruijn64tab"], plainKeys := false, apart := false, laid := [("math/bits.deBruijn32tab", laid_math_bits_deBruijn32tab), ("math/bits.deBruijn64tab", laid_math_bits_deBruijn64tab), ("internal/strconv.uint64pow10", laid_internal_strconv_uint64pow10)], narrowed := true }
def ScanHandlesUptoSaid : Prop := scanHandlesUptoRow.holds Tryz.pinned (OpenSpec.upto scanHandlesSpec)

/-- 'overseerlaw54.ScanDelays', WHERE WHAT IT READS IS OF BULK AT MOST 1048576: true; the input reads as it did. -/
def scanDelaysUptoRow : OpenClaim := { program := "ytecmobjeeonmaaagreatdoor", sum := "9aa295ea02f4a5d4ea6c5d676b8cb5d777b521ea9a6666da1b8592a6f6bc8209", func := "overseer/overseerlaw54.ScanDelays", spec := "scanDelays", inPlace := ["internal/abi.NoEscape"], unfollowed := true, recurses := true, named := ["internal/strconv.uint64pow10", "math/bits.deBruijn32tab", "math/bits.deBruijn64tab"], plainKeys := false, apart := false, laid := [("math/bits.deBruijn32tab", laid_math_bits_deBruijn32tab), ("math/bits.deBruijn64tab", laid_math_bits_deBruijn64tab), ("internal/strconv.uint64pow10", laid_internal_strconv_uint64pow10)], narrowed := true }
def ScanDelaysUptoSaid : Prop := scanDelaysUptoRow.holds Tryz.pinned (OpenSpec.upto scanDelaysSpec)

/-- 'overseerlaw54.ScanOrders', WHERE WHAT IT READS IS OF BULK AT MOST 1048576: true; the input reads as it did. -/
def scanOrdersUptoRow : OpenClaim := { program := "ytecmobjeeonmaaagreatdoor", sum := "9aa295ea02f4a5d4ea6c5d676b8cb5d777b521ea9a6666da1b8592a6f6bc8209", func := "overseer/overseerlaw54.ScanOrders", spec := "scanOrders", inPlace := ["internal/abi.NoEscape"], unfollowed := true, recurses := true, named := ["internal/strconv.uint64pow10", "math/bits.deBruijn32tab", "math/bits.deBruijn64tab"], plainKeys := false, apart := false, laid := [("math/bits.deBruijn32tab", laid_math_bits_deBruijn32tab), ("math/bits.deBruijn64tab", laid_math_bits_deBruijn64tab), ("internal/strconv.uint64pow10", laid_internal_strconv_uint64pow10)], narrowed := true }
def ScanOrdersUptoSaid : Prop := scanOrdersUptoRow.holds Tryz.pinned (OpenSpec.upto scanOrdersSpec)

/-- 'overseerlaw54.ScanHolds', WHERE WHAT IT READS IS OF BULK AT MOST 1048576: true; the input reads as it did. -/
def scanHoldsUptoRow : OpenClaim := { program := "ytecmobjeeonmaaagreatdoor", sum := "9aa295ea02f4a5d4ea6c5d676b8cb5d777b521ea9a6666da1b8592a6f6bc8209", func := "overseer/overseerlaw54.ScanHolds", spec := "scanHolds", inPlace := ["internal/abi.NoEscape"], unfollowed := true, recurses := true, named := ["internal/strconv.uint64pow10", "math/bits.deBruijn32tab", "math/bits.deBruijn64tab"], plainKeys := false, apart := false, laid := [("math/bits.deBruijn32tab", laid_math_bits_deBruijn32tab), ("math/bits.deBruijn64tab", laid_math_bits_deBruijn64tab), ("internal/strconv.uint64pow10", laid_internal_strconv_uint64pow10)], narrowed := true }
def ScanHoldsUptoSaid : Prop := scanHoldsUptoRow.holds Tryz.pinned (OpenSpec.upto scanHoldsSpec)

/-- 'overseerlaw54.ScanVerifies', WHERE WHAT IT READS IS OF BULK AT MOST 1048576: true; the input reads as it did. -/
def scanVerifiesUptoRow : OpenClaim := { program := "ytecmobjeeonmaaagreatdoor", sum := "9aa295ea02f4a5d4ea6c5d676b8cb5d777b521ea9a6666da1b8592a6f6bc8209", func := "overseer/overseerlaw54.ScanVerifies", spec := "scanVerifies", inPlace := ["internal/abi.NoEscape"], unfollowed := true, recurses := true, named := ["internal/strconv.uint64pow10", "math/bits.deBruijn32tab", "math/bits.deBruijn64tab"], plainKeys := false, apart := false, laid := [("math/bits.deBruijn32tab", laid_math_bits_deBruijn32tab), ("math/bits.deBruijn64tab", laid_math_bits_deBruijn64tab), ("internal/strconv.uint64pow10", laid_internal_strconv_uint64pow10)], narrowed := true }
def ScanVerifiesUptoSaid : Prop := scanVerifiesUptoRow.holds Tryz.pinned (OpenSpec.upto scanVerifiesSpec)

/-- 'overseerlaw55.SimulationDifference', WHERE WHAT IT READS IS OF BULK AT MOST 1048576: true; the input reads as it did. -/
def simulationDifferenceUptoRow : OpenClaim := { program := "ytecmobjeeonmaaagreatdoor", sum := "9aa295ea02f4a5d4ea6c5d676b8cb5d777b521ea9a6666da1b8592a6f6bc8209", func := "overseer/overseerlaw55.SimulationDifference", spec := "simulationDifference", inPlace := ["internal/abi.NoEscape"], unfollowed := true, recurses := true, named := ["internal/strconv.uint64pow10", "math/bits.deBruijn32tab", "math/bits.deBruijn64tab"], plainKeys := false, apart := false, laid := [("math/bits.deBruijn32tab", laid_math_bits_deBruijn32tab), ("math/bits.deBruijn64tab", laid_math_bits_deBruijn64tab), ("internal/strconv.uint64pow10", laid_internal_strconv_uint64pow10)], narrowed := true }
def SimulationDifferenceUptoSaid : Prop := simulationDifferenceUptoRow.holds Tryz.pinned (OpenSpec.upto simulationDifferenceSpec)

/-- 'overseerlaw55.SimulationRuns', WHERE WHAT IT READS IS OF BULK AT MOST 1048576: true; the input reads as it did. -/
def simulationRunsUptoRow : OpenClaim := { program := "ytecmobjeeonmaaagreatdoor", sum := "9aa295ea02f4a5d4ea6c5d676b8cb5d777b521ea9a6666da1b8592a6f6bc8209", func := "overseer/overseerlaw55.SimulationRuns", spec := "simulationRuns", inPlace := ["internal/abi.NoEscape"], unfollowed := true, recurses := true, named := ["internal/strconv.uint64pow10", "math/bits.deBruijn32tab", "math/bits.deBruijn64tab"], plainKeys := false, apart := false, laid := [("math/bits.deBruijn32tab", laid_math_bits_deBruijn32tab), ("math/bits.deBruijn64tab", laid_math_bits_deBruijn64tab), ("internal/strconv.uint64pow10", laid_internal_strconv_uint64pow10)], narrowed := true }
def SimulationRunsUptoSaid : Prop := simulationRunsUptoRow.holds Tryz.pinned (OpenSpec.upto simulationRunsSpec)

/-- 'overseerlaw55.SimulationChecks', WHERE WHAT IT READS IS OF BULK AT MOST 1048576: true; the input reads as it did. -/
def simulationChecksUptoRow : OpenClaim := { program := "ytecmobjeeonmaaagreatdoor", sum := "9aa295ea02f4a5d4ea6c5d676b8cb5d777b521ea9a6666da1b8592a6f6bc8209", func := "overseer/overseerlaw55.SimulationChecks", spec := "simulationChecks", inPlace := ["internal/abi.NoEscape"], unfollowed := true, recurses := true, named := ["internal/strconv.uint64pow10", "math/bits.deBruijn32tab", "math/bits.deBruijn64tab"], plainKeys := false, apart := false, laid := [("math/bits.deBruijn32tab", laid_math_bits_deBruijn32tab), ("math/bits.deBruijn64tab", laid_math_bits_deBruijn64tab), ("internal/strconv.uint64pow10", laid_internal_strconv_uint64pow10)], narrowed := true }
def SimulationChecksUptoSaid : Prop := simulationChecksUptoRow.holds Tryz.pinned (OpenSpec.upto simulationChecksSpec)

/-- 'overseerlaw55.SimulationAutomatic', WHERE WHAT IT READS IS OF BULK AT MOST 1048576: true; the input reads as it did. -/
def simulationAutomaticUptoRow : OpenClaim := { program := "ytecmobjeeonmaaagreatdoor", sum := "9aa295ea02f4a5d4ea6c5d676b8cb5d777b521ea9a6666da1b8592a6f6bc8209", func := "overseer/overseerlaw55.SimulationAutomatic", spec := "simulationAutomatic", inPlace := ["internal/abi.NoEscape"], unfollowed := true, recurses := true, named := ["internal/strconv.uint64pow10", "math/bits.deBruijn32tab", "math/bits.deBruijn64tab"], plainKeys := false, apart := false, laid := [("math/bits.deBruijn32tab", laid_math_bits_deBruijn32tab), ("math/bits.deBruijn64tab", laid_math_bits_deBruijn64tab), ("internal/strconv.uint64pow10", laid_internal_strconv_uint64pow10)], narrowed := true }
def SimulationAutomaticUptoSaid : Prop := simulationAutomaticUptoRow.holds Tryz.pinned (OpenSpec.upto simulationAutomaticSpec)

/-- 'overseerlaw55.SimulationObeys', WHERE WHAT IT READS IS OF BULK AT MOST 1048576: true; the input reads as it did. -/
def simulationObeysUptoRow : OpenClaim := { program := "ytecmobjeeonmaaagreatdoor", sum := "9aa295ea02f4a5d4ea6c5d676b8cb5d777b521ea9a6666da1b8592a6f6bc8209", func := "overseer/overseerlaw55.SimulationObeys", spec := "simulationObeys", inPlace := ["internal/abi.NoEscape"], unfollowed := true, recurses := true, named := ["internal/strconv.uint64pow10", "math/bits.deBruijn32tab", "math/bits.deBruijn64tab"], plainKeys := false, apart := false, laid := [("math/bits.deBruijn32tab", laid_math_bits_deBruijn32tab), ("math/bits.deBruijn64tab", laid_math_bits_deBruijn64tab), ("internal/strconv.uint64pow10", laid_internal_strconv_uint64pow10)], narrowed := true }
def SimulationObeysUptoSaid : Prop := simulationObeysUptoRow.holds Tryz.pinned (OpenSpec.upto simulationObeysSpec)

/-- 'overseerlaw55.SimulationScripts', WHERE WHAT IT READS IS OF BULK AT MOST 1048576: true; the input reads as it did. -/
def simulationScriptsUptoRow : OpenClaim := { program := "ytecmobjeeonmaaagreatdoor", sum := "9aa295ea02f4a5d4ea6c5d676b8cb5d777b521ea9a6666da1b8592a6f6bc8209", func := "overseer/overseerlaw55.SimulationScripts", spec := "simulationScripts", inPlace := ["internal/abi.NoEscape"], unfollowed := true, recurses := true, named := ["internal/strconv.uint64pow10", "math/bits.deBruijn32tab", "math/bits.deBruijn64tab"], plainKeys := false, apart := false, laid := [("math/bits.deBruijn32tab", laid_math_bits_deBruijn32tab), ("math/bits.deBruijn64tab", laid_math_bits_deBruijn64tab), ("internal/strconv.uint64pow10", laid_internal_strconv_uint64pow10)], narrowed := true }
def SimulationScriptsUptoSaid : Prop := simulationScriptsUptoRow.holds Tryz.pinned (OpenSpec.upto simulationScriptsSpec)

end Rows
end Go.Proofs.YtecmobjeeonmaaaGreatDoor
