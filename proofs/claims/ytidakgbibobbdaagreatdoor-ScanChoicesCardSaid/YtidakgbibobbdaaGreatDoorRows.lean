/-
  NARROWER THAN 'FOR EVERY INPUT', by the rows' own cells (each row's printed sentence says how): ScanErrors: laid · ScanSingle: laid · ScanHandles: laid · ScanDelays: laid · ScanOrders: laid · ScanHolds: laid · ScanVerifies: laid · ScanChoices: laid.
  DERIVED. THE GIVEN ROWS OF THIS SEAT. 8 by the template 'for every input the law returns true; each argument reads behind the call as it read before'; 0 by the template 'total and deterministic' (their statements: YtidakgbibobbdaaGreatDoorTotals.lean).
  GIVEN WITH THE SEED: the statements are not yours to turn. If you find one false, say at which input.
  Laid BY PROGRAM, IN A SANDBOX (cutbox-rows.mjs): the forced cells as the released guide's own fill.sh prints them over the translation 8c646c85a0a44c99… (all of the seat's roots in one cut). By AI agents, Wed Nov 11 2026. No macro, syntax, notation, axiom, sorry.
-/
import Derived.Test.YtidakgbibobbdaaGreatDoorChecked
import GoSem.Claim
import GoSem.ClaimJoined
import GoSem.ClaimMapViews
import Derived.JoinedTies
import Derived.KernelRfl
namespace Go.Proofs.YtidakgbibobbdaaGreatDoor
/- THE CELL 'sum', in the pinned program and in every row, IS THE sha256 OF THE DUMP (.gsa) THAT YtidakgbibobbdaaGreatDoorProg.lean LOADS. Nothing in Lean hashes anything: it is a label: what it is worth is what the hold of that sum in a sandbox is worth. -/
noncomputable def Tryz.pinned : Pinned := { name := "ytidakgbibobbdaagreatdoor", sum := "8c646c85a0a44c990d5385dbb7f5e4d282e4a6de5ce46097487e2612b6cca4ed", checked := Tryz.checked }
namespace Rows
def none {H : Type} : Left H := { results := [], args := [] }

/- WHAT THE LISTED PACKAGE-LEVEL VARIABLES READ AS WHEN THE CALL BEGINS. Each datum BY PROGRAM (the guide's laid-datum.mjs) off the statement by which the dump's own 'gosem.cut.vars' lays the variable. In a bare row this is a premise. The card (YtidakgbibobbdaaGreatDoorCards.lean) ties it to the program's text. -/
def laid_math_bits_deBruijn32tab {H : Type} : DataW H := .agg [.lit (.int .u8 0), .lit (.int .u8 1), .lit (.int .u8 28), .lit (.int .u8 2), .lit (.int .u8 29), .lit (.int .u8 14), .lit (.int .u8 24), .lit (.int .u8 3), .lit (.int .u8 30), .lit (.int .u8 22), .lit (.int .u8 20), .lit (.int .u8 15), .lit (.int .u8 25), .lit (.int .u8 17), .lit (.int .u8 4), .lit (.int .u8 8), .lit (.int .u8 31), .lit (.int .u8 27), .lit (.int .u8 13), .lit (.int .u8 23), .lit (.int .u8 21), .lit (.int .u8 19), .lit (.int .u8 16), .lit (.int .u8 7), .lit (.int .u8 26), .lit (.int .u8 12), .lit (.int .u8 18), .lit (.int .u8 6), .lit (.int .u8 11), .lit (.int .u8 5), .lit (.int .u8 10), .lit (.int .u8 9)]
def laid_math_bits_deBruijn64tab {H : Type} : DataW H := .agg [.lit (.int .u8 0), .lit (.int .u8 1), .lit (.int .u8 56), .lit (.int .u8 2), .lit (.int .u8 57), .lit (.int .u8 49), .lit (.int .u8 28), .lit (.int .u8 3), .lit (.int .u8 61), .lit (.int .u8 58), .lit (.int .u8 42), .lit (.int .u8 50), .lit (.int .u8 38), .lit (.int .u8 29), .lit (.int .u8 17), .lit (.int .u8 4), .lit (.int .u8 62), .lit (.int .u8 47), .lit (.int .u8 59), .lit (.int .u8 36), .lit (.int .u8 45), .lit (.int .u8 43), .lit (.int .u8 51), .lit (.int .u8 22), .lit (.int .u8 53), .lit (.int .u8 39), .lit (.int .u8 33), .lit (.int .u8 30), .lit (.int .u8 24), .lit (.int .u8 18), .lit (.int .u8 12), .lit (.int .u8 5), .lit (.int .u8 63), .lit (.int .u8 55), .lit (.int .u8 48), .lit (.int .u8 27), .lit (.int .u8 60), .lit (.int .u8 41), .lit (.int .u8 37), .lit (.int .u8 16), .lit (.int .u8 46), .lit (.int .u8 35), .lit (.int .u8 44), .lit (.int .u8 21), .lit (.int .u8 52), .lit (.int .u8 32), .lit (.int .u8 23), .lit (.int .u8 11), .lit (.int .u8 54), .lit (.int .u8 26), .lit (.int .u8 40), .lit (.int .u8 15), .lit (.int .u8 34), .lit (.int .u8 20), .lit (.int .u8 31), .lit (.int .u8 10), .lit (.int .u8 25), .lit (.int .u8 14), .lit (.int .u8 19), .lit (.int .u8 9), .lit (.int .u8 13), .lit (.int .u8 8), .lit (.int .u8 7), .lit (.int .u8 6)]
def laid_internal_strconv_uint64pow10 {H : Type} : DataW H := .agg [.lit (.int .u64 1), .lit (.int .u64 10), .lit (.int .u64 100), .lit (.int .u64 1000), .lit (.int .u64 10000), .lit (.int .u64 100000), .lit (.int .u64 1000000), .lit (.int .u64 10000000), .lit (.int .u64 100000000), .lit (.int .u64 1000000000), .lit (.int .u64 10000000000), .lit (.int .u64 100000000000), .lit (.int .u64 1000000000000), .lit (.int .u64 10000000000000), .lit (.int .u64 100000000000000), .lit (.int .u64 1000000000000000), .lit (.int .u64 10000000000000000), .lit (.int .u64 100000000000000000), .lit (.int .u64 1000000000000000000), .lit (.int .u64 10000000000000000000)]

/-- 'overseerlaw54.ScanErrors': WHATEVER THE INPUT: true; the input reads as it did. -/
def scanErrorsSpec : ChangeSpec := { name := "scanErrors", fn := fun _ => fun
  | [d1, d2, d3] => { results := [.lit (.bool true)], args := [d1, d2, d3] }
  | _ => none }
def scanErrorsRow : OpenClaim := { program := "ytidakgbibobbdaagreatdoor", sum := "8c646c85a0a44c990d5385dbb7f5e4d282e4a6de5ce46097487e2612b6cca4ed", func := "overseer/overseerlaw54.ScanErrors", spec := "scanErrors", inPlace := ["internal/abi.NoEscape"], unfollowed := true, recurses := true, named := ["internal/strconv.uint64pow10", "math/bits.deBruijn32tab", "math/bits.deBruijn64tab"], plainKeys := false, apart := false, laid := [("math/bits.deBruijn32tab", laid_math_bits_deBruijn32tab), ("math/bits.deBruijn64tab", laid_math_bits_deBruijn64tab), ("internal/strconv.uint64pow10", laid_internal_strconv_uint64pow10)] }
def ScanErrorsSaid : Prop := scanErrorsRow.holds Tryz.pinned (OpenSpec.ofChange scanErrorsSpec)

/-- ITS FALSE NEIGHBOUR: 'it returns false'. Refute it at one input. -/
def scanErrorsWrong : ChangeSpec := { name := "scanErrors", fn := fun _ => fun
  | [d1, d2, d3] => { results := [.lit (.bool false)], args := [d1, d2, d3] }
  | _ => none }
def ScanErrorsWrongFalsely : Prop := scanErrorsRow.holds Tryz.pinned (OpenSpec.ofChange scanErrorsWrong)

/-- 'overseerlaw54.ScanSingle': WHATEVER THE INPUT: true; the input reads as it did. -/
def scanSingleSpec : ChangeSpec := { name := "scanSingle", fn := fun _ => fun
  | [d1, d2] => { results := [.lit (.bool true)], args := [d1, d2] }
  | _ => none }
def scanSingleRow : OpenClaim := { program := "ytidakgbibobbdaagreatdoor", sum := "8c646c85a0a44c990d5385dbb7f5e4d282e4a6de5ce46097487e2612b6cca4ed", func := "overseer/overseerlaw54.ScanSingle", spec := "scanSingle", inPlace := ["internal/abi.NoEscape"], unfollowed := true, recurses := true, named := ["internal/strconv.uint64pow10", "math/bits.deBruijn32tab", "math/bits.deBruijn64tab"], plainKeys := false, apart := false, laid := [("math/bits.deBruijn32tab", laid_math_bits_deBruijn32tab), ("math/bits.deBruijn64tab", laid_math_bits_deBruijn64tab), ("internal/strconv.uint64pow10", laid_internal_strconv_uint64pow10)] }
def ScanSingleSaid : Prop := scanSingleRow.holds Tryz.pinned (OpenSpec.ofChange scanSingleSpec)

/-- ITS FALSE NEIGHBOUR: 'it returns false'. Refute it at one input. -/
def scanSingleWrong : ChangeSpec := { name := "scanSingle", fn := fun _ => fun
  | [d1, d2] => { results := [.lit (.bool false)], args := [d1, d2] }
  | _ => none }
def ScanSingleWrongFalsely : Prop := scanSingleRow.holds Tryz.pinned (OpenSpec.ofChange scanSingleWrong)

/-- 'overseerlaw54.ScanHandles': WHATEVER THE INPUT: true; the input reads as it did. -/
def scanHandlesSpec : ChangeSpec := { name := "scanHandles", fn := fun _ => fun
  | [d1, d2, d3] => { results := [.lit (.bool true)], args := [d1, d2, d3] }
  | _ => none }
def scanHandlesRow : OpenClaim := { program := "ytidakgbibobbdaagreatdoor", sum := "8c646c85a0a44c990d5385dbb7f5e4d282e4a6de5ce46097487e2612b6cca4ed", func := "overseer/overseerlaw54.ScanHandles", spec := "scanHandles", inPlace := ["internal/abi.NoEscape"], unfollowed := true, recurses := true, named := ["internal/strconv.uint64pow10", "math/bits.deBruijn32tab", "math/bits.deBruijn64tab"], plainKeys := false, apart := false, laid := [("math/bits.deBruijn32tab", laid_math_bits_deBruijn32tab), ("math/bits.deBruijn64tab", laid_math_bits_deBruijn64tab), ("internal/strconv.uint64pow10", laid_internal_strconv_uint64pow10)] }
def ScanHandlesSaid : Prop := scanHandlesRow.holds Tryz.pinned (OpenSpec.ofChange scanHandlesSpec)

/-- ITS FALSE NEIGHBOUR: 'it returns false'. Refute it at one input. -/
def scanHandlesWrong : ChangeSpec := { name := "scanHandles", fn := fun _ => fun
  | [d1, d2, d3] => { results := [.lit (.bool false)], args := [d1, d2, d3] }
  | _ => none }
def ScanHandlesWrongFalsely : Prop := scanHandlesRow.holds Tryz.pinned (OpenSpec.ofChange scanHandlesWrong)

/-- 'overseerlaw54.ScanDelays': WHATEVER THE INPUT: true; the input reads as it did. -/
def scanDelaysSpec : ChangeSpec := { name := "scanDelays", fn := fun _ => fun
  | [d1, d2] => { results := [.lit (.bool true)], args := [d1, d2] }
  | _ => none }
def scanDelaysRow : OpenClaim := { program := "ytidakgbibobbdaagreatdoor", sum := "8c646c85a0a44c990d5385dbb7f5e4d282e4a6de5ce46097487e2612b6cca4ed", func := "overseer/overseerlaw54.ScanDelays", spec := "scanDelays", inPlace := ["internal/abi.NoEscape"], unfollowed := true, recurses := true, named := ["internal/strconv.uint64pow10", "math/bits.deBruijn32tab", "math/bits.deBruijn64tab"], plainKeys := false, apart := false, laid := [("math/bits.deBruijn32tab", laid_math_bits_deBruijn32tab), ("math/bits.deBruijn64tab", laid_math_bits_deBruijn64tab), ("internal/strconv.uint64pow10", laid_internal_strconv_uint64pow10)] }
def ScanDelaysSaid : Prop := scanDelaysRow.holds Tryz.pinned (OpenSpec.ofChange scanDelaysSpec)

/-- ITS FALSE NEIGHBOUR: 'it returns false'. Refute it at one input. -/
def scanDelaysWrong : ChangeSpec := { name := "scanDelays", fn := fun _ => fun
  | [d1, d2] => { results := [.lit (.bool false)], args := [d1, d2] }
  | _ => none }
def ScanDelaysWrongFalsely : Prop := scanDelaysRow.holds Tryz.pinned (OpenSpec.ofChange scanDelaysWrong)

/-- 'overseerlaw54.ScanOrders': WHATEVER THE INPUT: true; the input reads as it did. -/
def scanOrdersSpec : ChangeSpec := { name := "scanOrders", fn := fun _ => fun
  | [d1, d2, d3] => { results := [.lit (.bool true)], args := [d1, d2, d3] }
  | _ => none }
def scanOrdersRow : OpenClaim := { program := "ytidakgbibobbdaagreatdoor", sum := "8c646c85a0a44c990d5385dbb7f5e4d282e4a6de5ce46097487e2612b6cca4ed", func := "overseer/overseerlaw54.ScanOrders", spec := "scanOrders", inPlace := ["internal/abi.NoEscape"], unfollowed := true, recurses := true, named := ["internal/strconv.uint64pow10", "math/bits.deBruijn32tab", "math/bits.deBruijn64tab"], plainKeys := false, apart := false, laid := [("math/bits.deBruijn32tab", laid_math_bits_deBruijn32tab), ("math/bits.deBruijn64tab", laid_math_bits_deBruijn64tab), ("internal/strconv.uint64pow10", laid_internal_strconv_uint64pow10)] }
def ScanOrdersSaid : Prop := scanOrdersRow.holds Tryz.pinned (OpenSpec.ofChange scanOrdersSpec)

/-- ITS FALSE NEIGHBOUR: 'it returns false'. Refute it at one input. -/
def scanOrdersWrong : ChangeSpec := { name := "scanOrders", fn := fun _ => fun
  | [d1, d2, d3] => { results := [.lit (.bool false)], args := [d1, d2, d3] }
  | _ => none }
def ScanOrdersWrongFalsely : Prop := scanOrdersRow.holds Tryz.pinned (OpenSpec.ofChange scanOrdersWrong)

/-- 'overseerlaw54.ScanHolds': WHATEVER THE INPUT: true; the input reads as it did. -/
def scanHoldsSpec : ChangeSpec := { name := "scanHolds", fn := fun _ => fun
  | [d] => { results := [.lit (.bool true)], args := [d] }
  | _ => none }
def scanHoldsRow : OpenClaim := { program := "ytidakgbibobbdaagreatdoor", sum := "8c646c85a0a44c990d5385dbb7f5e4d282e4a6de5ce46097487e2612b6cca4ed", func := "overseer/overseerlaw54.ScanHolds", spec := "scanHolds", inPlace := ["internal/abi.NoEscape"], unfollowed := true, recurses := true, named := ["internal/strconv.uint64pow10", "math/bits.deBruijn32tab", "math/bits.deBruijn64tab"], plainKeys := false, apart := false, laid := [("math/bits.deBruijn32tab", laid_math_bits_deBruijn32tab), ("math/bits.deBruijn64tab", laid_math_bits_deBruijn64tab), ("internal/strconv.uint64pow10", laid_internal_strconv_uint64pow10)] }
def ScanHoldsSaid : Prop := scanHoldsRow.holds Tryz.pinned (OpenSpec.ofChange scanHoldsSpec)

/-- ITS FALSE NEIGHBOUR: 'it returns false'. Refute it at one input. -/
def scanHoldsWrong : ChangeSpec := { name := "scanHolds", fn := fun _ => fun
  | [d] => { results := [.lit (.bool false)], args := [d] }
  | _ => none }
def ScanHoldsWrongFalsely : Prop := scanHoldsRow.holds Tryz.pinned (OpenSpec.ofChange scanHoldsWrong)

/-- 'overseerlaw54.ScanVerifies': WHATEVER THE INPUT: true; the input reads as it did. -/
def scanVerifiesSpec : ChangeSpec := { name := "scanVerifies", fn := fun _ => fun
  | [d1, d2, d3] => { results := [.lit (.bool true)], args := [d1, d2, d3] }
  | _ => none }
def scanVerifiesRow : OpenClaim := { program := "ytidakgbibobbdaagreatdoor", sum := "8c646c85a0a44c990d5385dbb7f5e4d282e4a6de5ce46097487e2612b6cca4ed", func := "overseer/overseerlaw54.ScanVerifies", spec := "scanVerifies", inPlace := ["internal/abi.NoEscape"], unfollowed := true, recurses := true, named := ["internal/strconv.uint64pow10", "math/bits.deBruijn32tab", "math/bits.deBruijn64tab"], plainKeys := false, apart := false, laid := [("math/bits.deBruijn32tab", laid_math_bits_deBruijn32tab), ("math/bits.deBruijn64tab", laid_math_bits_deBruijn64tab), ("internal/strconv.uint64pow10", laid_internal_strconv_uint64pow10)] }
def ScanVerifiesSaid : Prop := scanVerifiesRow.holds Tryz.pinned (OpenSpec.ofChange scanVerifiesSpec)

/-- ITS FALSE NEIGHBOUR: 'it returns false'. Refute it at one input. -/
def scanVerifiesWrong : ChangeSpec := { name := "scanVerifies", fn := fun _ => fun
  | [d1, d2, d3] => { results := [.lit (.bool false)], args := [d1, d2, d3] }
  | _ => none }
def ScanVerifiesWrongFalsely : Prop := scanVerifiesRow.holds Tryz.pinned (OpenSpec.ofChange scanVerifiesWrong)

/-- 'overseerlaw54.ScanChoices': WHATEVER THE INPUT: true; the input reads as it did. -/
def scanChoicesSpec : ChangeSpec := { name := "scanChoices", fn := fun _ => fun
  | [d1, d2, d3] => { results := [.lit (.bool true)], args := [d1, d2, d3] }
  | _ => none }
def scanChoicesRow : OpenClaim := { program := "ytidakgbibobbdaagreatdoor", sum := "8c646c85a0a44c990d5385dbb7f5e4d282e4a6de5ce46097487e2612b6cca4ed", func := "overseer/overseerlaw54.ScanChoices", spec := "scanChoices", inPlace := ["internal/abi.NoEscape"], unfollowed := true, recurses := true, named := ["internal/strconv.uint64pow10", "math/bits.deBruijn32tab", "math/bits.deBruijn64tab"], plainKeys := false, apart := false, laid := [("math/bits.deBruijn32tab", laid_math_bits_deBruijn32tab), ("math/bits.deBruijn64tab", laid_math_bits_deBruijn64tab), ("internal/strconv.uint64pow10", laid_internal_strconv_uint64pow10)] }
def ScanChoicesSaid : Prop := scanChoicesRow.holds Tryz.pinned (OpenSpec.ofChange scanChoicesSpec)

/-- ITS FALSE NEIGHBOUR: 'it returns false'. Refute it at one input. -/
def scanChoicesWrong : ChangeSpec := { name := "scanChoices", fn := fun _ => fun
  | [d1, d2, d3] => { results := [.lit (.bool false)], args := [d1, d2, d3] }
  | _ => none }
def ScanChoicesWrongFalsely : Prop := scanChoicesRow.holds Tryz.pinned (OpenSpec.ofChange scanChoicesWrong)

/- THE SECOND FORM. 'bulk': how many values and letters a reading holds, each counted each time it is reached (what is shared counts as often as it is met; a slice's spare places count too). A statement '..UptoSaid' is the law's where the arguments, and the package variables that the reading takes, are together of bulk at most 1048576: NARROWER than '..Said'. Prove '..Said' where nothing that the law and all that it calls make is longer than what came in: it says more and counts as full. Else prove '..UptoSaid'. A law counts once. -/
mutual
def uptoBulk {H : Type} : DataW H → Nat
  | .lit (.string bytes) => bytes.length + 1
  | .lit _ => 1
  | .nil => 1
  | .ptr d => uptoBulk d + 1
  | .slice elems spare => uptoBulkAll elems + uptoBulkAll spare + 1
  | .agg parts => uptoBulkAll parts + 1
  | .iface _ d => uptoBulk d + 1
  | .map entries => uptoBulkEntries entries + 1
  | .held _ => 1
def uptoBulkAll {H : Type} : List (DataW H) → Nat
  | [] => 0
  | d :: r => uptoBulk d + uptoBulkAll r
def uptoBulkEntries {H : Type} : List (Lit × DataW H) → Nat
  | [] => 0
  | x :: r => uptoBulkEntry x + uptoBulkEntries r
def uptoBulkEntry {H : Type} : Lit × DataW H → Nat
  | (.string bytes, d) => bytes.length + uptoBulk d + 1
  | (_, d) => uptoBulk d + 1
 end
def uptoSmall : (H : Type) → List (DataW H) → Bool := fun _ ds => decide (uptoBulkAll ds ≤ 1048576)
def OpenSpec.upto (s : _root_.Go.ChangeSpec) : _root_.Go.OpenSpec := { _root_.Go.OpenSpec.ofChange s with cond := some uptoSmall }

/-- 'overseerlaw54.ScanErrors', WHERE WHAT IT READS IS OF BULK AT MOST 1048576: true; the input reads as it did. -/
def scanErrorsUptoRow : OpenClaim := { program := "ytidakgbibobbdaagreatdoor", sum := "8c646c85a0a44c990d5385dbb7f5e4d282e4a6de5ce46097487e2612b6cca4ed", func := "overseer/overseerlaw54.ScanErrors", spec := "scanErrors", inPlace := ["internal/abi.NoEscape"], unfollowed := true, recurses := true, named := ["internal/strconv.uint64pow10", "math/bits.deBruijn32tab", "math/bits.deBruijn64tab"], plainKeys := false, apart := false, laid := [("math/bits.deBruijn32tab", laid_math_bits_deBruijn32tab), ("math/bits.deBruijn64tab", laid_math_bits_deBruijn64tab), ("internal/strconv.uint64pow10", laid_internal_strconv_uint64pow10)], narrowed := true }
def ScanErrorsUptoSaid : Prop := scanErrorsUptoRow.holds Tryz.pinned (OpenSpec.upto scanErrorsSpec)

/-- 'overseerlaw54.ScanSingle', WHERE WHAT IT READS IS OF BULK AT MOST 1048576: true; the input reads as it did. -/
def scanSingleUptoRow : OpenClaim := { program := "ytidakgbibobbdaagreatdoor", sum := "8c646c85a0a44c990d5385dbb7f5e4d282e4a6de5ce46097487e2612b6cca4ed", func := "overseer/overseerlaw54.ScanSingle", spec := "scanSingle", inPlace := ["internal/abi.NoEscape"], unfollowed := true, recurses := true, named := ["internal/strconv.uint64pow10", "math/bits.deBruijn32tab", "math/bits.deBruijn64tab"], plainKeys := false, apart := false, laid := [("math/bits.deBruijn32tab", laid_math_bits_deBruijn32tab), ("math/bits.deBruijn64tab", laid_math_bits_deBruijn64tab), ("internal/strconv.uint64pow10", laid_internal_strconv_uint64pow10)], narrowed := true }
def ScanSingleUptoSaid : Prop := scanSingleUptoRow.holds Tryz.pinned (OpenSpec.upto scanSingleSpec)

/-- 'overseerlaw54.ScanHandles', WHERE WHAT IT READS IS OF BULK AT MOST 1048576: true; the input reads as it did. -/
def scanHandlesUptoRow : OpenClaim := { program := "ytidakgbibobbdaagreatdoor", sum := "8c646c85a0a44c990d5385dbb7f5e4d282e4a6de5ce46097487e2612b6cca4ed", func := "overseer/overseerlaw54.ScanHandles", spec := "scanHandles", inPlace := ["internal/abi.NoEscape"], unfollowed := true, recurses := true, named := ["internal/strconv.uint64pow10", "math/bits.deBruijn32tab", "math/bits.deBruijn64tab"], plainKeys := false, apart := false, laid := [("math/bits.deBruijn32tab", laid_math_bits_deBruijn32tab), ("math/bits.deBruijn64tab", laid_math_bits_deBruijn64tab), ("internal/strconv.uint64pow10", laid_internal_strconv_uint64pow10)], narrowed := true }
def ScanHandlesUptoSaid : Prop := scanHandlesUptoRow.holds Tryz.pinned (OpenSpec.upto scanHandlesSpec)

/-- 'overseerlaw54.ScanDelays', WHERE WHAT IT READS IS OF BULK AT MOST 1048576: true; the input reads as it did. -/
def scanDelaysUptoRow : OpenClaim := { program := "ytidakgbibobbdaagreatdoor", sum := "8c646c85a0a44c990d5385dbb7f5e4d282e4a6de5ce46097487e2612b6cca4ed", func := "overseer/overseerlaw54.ScanDelays", spec := "scanDelays", inPlace := ["internal/abi.NoEscape"], unfollowed := true, recurses := true, named := ["internal/strconv.uint64pow10", "math/bits.deBruijn32tab", "math/bits.deBruijn64tab"], plainKeys := false, apart := false, laid := [("math/bits.deBruijn32tab", laid_math_bits_deBruijn32tab), ("math/bits.deBruijn64tab", laid_math_bits_deBruijn64tab), ("internal/strconv.uint64pow10", laid_internal_strconv_uint64pow10)], narrowed := true }
def ScanDelaysUptoSaid : Prop := scanDelaysUptoRow.holds Tryz.pinned (OpenSpec.upto scanDelaysSpec)

/-- 'overseerlaw54.ScanOrders', WHERE WHAT IT READS IS OF BULK AT MOST 1048576: true; the input reads as it did. -/
def scanOrdersUptoRow : OpenClaim := { program := "ytidakgbibobbdaagreatdoor", sum := "8c646c85a0a44c990d5385dbb7f5e4d282e4a6de5ce46097487e2612b6cca4ed", func := "overseer/overseerlaw54.ScanOrders", spec := "scanOrders", inPlace := ["internal/abi.NoEscape"], unfollowed := true, recurses := true, named := ["internal/strconv.uint64pow10", "math/bits.deBruijn32tab", "math/bits.deBruijn64tab"], plainKeys := false, apart := false, laid := [("math/bits.deBruijn32tab", laid_math_bits_deBruijn32tab), ("math/bits.deBruijn64tab", laid_math_bits_deBruijn64tab), ("internal/strconv.uint64pow10", laid_internal_strconv_uint64pow10)], narrowed := true }
def ScanOrdersUptoSaid : Prop := scanOrdersUptoRow.holds Tryz.pinned (OpenSpec.upto scanOrdersSpec)

/-- 'overseerlaw54.ScanHolds', WHERE WHAT IT READS IS OF BULK AT MOST 1048576: true; the input reads as it did. -/
def scanHoldsUptoRow : OpenClaim := { program := "ytidakgbibobbdaagreatdoor", sum := "8c646c85a0a44c990d5385dbb7f5e4d282e4a6de5ce46097487e2612b6cca4ed", func := "overseer/overseerlaw54.ScanHolds", spec := "scanHolds", inPlace := ["internal/abi.NoEscape"], unfollowed := true, recurses := true, named := ["internal/strconv.uint64pow10", "math/bits.deBruijn32tab", "math/bits.deBruijn64tab"], plainKeys := false, apart := false, laid := [("math/bits.deBruijn32tab", laid_math_bits_deBruijn32tab), ("math/bits.deBruijn64tab", laid_math_bits_deBruijn64tab), ("internal/strconv.uint64pow10", laid_internal_strconv_uint64pow10)], narrowed := true }
def ScanHoldsUptoSaid : Prop := scanHoldsUptoRow.holds Tryz.pinned (OpenSpec.upto scanHoldsSpec)

/-- 'overseerlaw54.ScanVerifies', WHERE WHAT IT READS IS OF BULK AT MOST 1048576: true; the input reads as it did. -/
def scanVerifiesUptoRow : OpenClaim := { program := "ytidakgbibobbdaagreatdoor", sum := "8c646c85a0a44c990d5385dbb7f5e4d282e4a6de5ce46097487e2612b6cca4ed", func := "overseer/overseerlaw54.ScanVerifies", spec := "scanVerifies", inPlace := ["internal/abi.NoEscape"], unfollowed := true, recurses := true, named := ["internal/strconv.uint64pow10", "math/bits.deBruijn32tab", "math/bits.deBruijn64tab"], plainKeys := false, apart := false, laid := [("math/bits.deBruijn32tab", laid_math_bits_deBruijn32tab), ("math/bits.deBruijn64tab", laid_math_bits_deBruijn64tab), ("internal/strconv.uint64pow10", laid_internal_strconv_uint64pow10)], narrowed := true }
def ScanVerifiesUptoSaid : Prop := scanVerifiesUptoRow.holds Tryz.pinned (OpenSpec.upto scanVerifiesSpec)

/-- 'overseerlaw54.ScanChoices', WHERE WHAT IT READS IS OF BULK AT MOST 1048576: true; the input reads as it did. -/
def scanChoicesUptoRow : OpenClaim := { program := "ytidakgbibobbdaagreatdoor", sum := "8c646c85a0a44c990d5385dbb7f5e4d282e4a6de5ce46097487e2612b6cca4ed", func := "overseer/overseerlaw54.ScanChoices", spec := "scanChoices", inPlace := ["internal/abi.NoEscape"], unfollowed := true, recurses := true, named := ["internal/strconv.uint64pow10", "math/bits.deBruijn32tab", "math/bits.deBruijn64tab"], plainKeys := false, apart := false, laid := [("math/bits.deBruijn32tab", laid_math_bits_deBruijn32tab), ("math/bits.deBruijn64tab", laid_math_bits_deBruijn64tab), ("internal/strconv.uint64pow10", laid_internal_strconv_uint64pow10)], narrowed := true }
def ScanChoicesUptoSaid : Prop := scanChoicesUptoRow.holds Tryz.pinned (OpenSpec.upto scanChoicesSpec)

end Rows
end Go.Proofs.YtidakgbibobbdaaGreatDoor
