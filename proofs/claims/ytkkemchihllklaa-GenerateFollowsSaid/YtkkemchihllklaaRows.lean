/-
  No cell of these rows narrows 'for every input' (looked for: loops, veiled, ifaces, maps, wideKeys, modest, calm, conditions, laid).
  DERIVED. THE GIVEN ROWS OF THIS SEAT. 8 by the template 'for every input the law returns true; each argument reads behind the call as it read before'; 0 by the template 'total and deterministic' (their statements: YtkkemchihllklaaTotals.lean).
  GIVEN WITH THE SEED: the statements are not yours to turn. If you find one false, say at which input.
  Laid BY PROGRAM, IN A SANDBOX (cutbox-rows.mjs): the forced cells as the released guide's own fill.sh prints them over the translation a6c87f81f48696b0… (all of the seat's roots in one cut). By AI agents, Wed Nov 11 2026. No macro, syntax, notation, axiom, sorry.
-/
import Derived.Test.YtkkemchihllklaaChecked
import GoSem.Claim
import GoSem.ClaimJoined
import GoSem.ClaimMapViews
import Derived.JoinedTies
import Derived.KernelRfl
namespace Go.Proofs.Ytkkemchihllklaa
/- THE CELL 'sum', in the pinned program and in every row, IS THE sha256 OF THE DUMP (.gsa) THAT YtkkemchihllklaaProg.lean LOADS. Nothing in Lean hashes anything: it is a label: what it is worth is what the hold of that sum in a sandbox is worth. -/
noncomputable def Try.pinned : Pinned := { name := "ytkkemchihllklaa", sum := "a6c87f81f48696b0ab970300675e8e534c3b5b5bf42ec9768282a5ebd1019812", checked := Try.checked }
namespace Rows
def none {H : Type} : Left H := { results := [], args := [] }

/-- 'overseerlaw53.GenerateLimits': WHATEVER THE INPUT: true; the input reads as it did. -/
def generateLimitsSpec : ChangeSpec := { name := "generateLimits", fn := fun _ => fun
  | [d1, d2] => { results := [.lit (.bool true)], args := [d1, d2] }
  | _ => none }
def generateLimitsRow : OpenClaim := { program := "ytkkemchihllklaa", sum := "a6c87f81f48696b0ab970300675e8e534c3b5b5bf42ec9768282a5ebd1019812", func := "overseer/overseerlaw53.GenerateLimits", spec := "generateLimits", unfollowed := true, recurses := true, apart := false }
def GenerateLimitsSaid : Prop := generateLimitsRow.holds Try.pinned (OpenSpec.ofChange generateLimitsSpec)

/-- ITS FALSE NEIGHBOUR: 'it returns false'. Refute it at one input. -/
def generateLimitsWrong : ChangeSpec := { name := "generateLimits", fn := fun _ => fun
  | [d1, d2] => { results := [.lit (.bool false)], args := [d1, d2] }
  | _ => none }
def GenerateLimitsWrongFalsely : Prop := generateLimitsRow.holds Try.pinned (OpenSpec.ofChange generateLimitsWrong)

/-- 'overseerlaw53.GenerateRests': WHATEVER THE INPUT: true; the input reads as it did. -/
def generateRestsSpec : ChangeSpec := { name := "generateRests", fn := fun _ => fun
  | [d1, d2, d3] => { results := [.lit (.bool true)], args := [d1, d2, d3] }
  | _ => none }
def generateRestsRow : OpenClaim := { program := "ytkkemchihllklaa", sum := "a6c87f81f48696b0ab970300675e8e534c3b5b5bf42ec9768282a5ebd1019812", func := "overseer/overseerlaw53.GenerateRests", spec := "generateRests", unfollowed := true, recurses := true, apart := false }
def GenerateRestsSaid : Prop := generateRestsRow.holds Try.pinned (OpenSpec.ofChange generateRestsSpec)

/-- ITS FALSE NEIGHBOUR: 'it returns false'. Refute it at one input. -/
def generateRestsWrong : ChangeSpec := { name := "generateRests", fn := fun _ => fun
  | [d1, d2, d3] => { results := [.lit (.bool false)], args := [d1, d2, d3] }
  | _ => none }
def GenerateRestsWrongFalsely : Prop := generateRestsRow.holds Try.pinned (OpenSpec.ofChange generateRestsWrong)

/-- 'overseerlaw53.GenerateScans': WHATEVER THE INPUT: true; the input reads as it did. -/
def generateScansSpec : ChangeSpec := { name := "generateScans", fn := fun _ => fun
  | [d1, d2] => { results := [.lit (.bool true)], args := [d1, d2] }
  | _ => none }
def generateScansRow : OpenClaim := { program := "ytkkemchihllklaa", sum := "a6c87f81f48696b0ab970300675e8e534c3b5b5bf42ec9768282a5ebd1019812", func := "overseer/overseerlaw53.GenerateScans", spec := "generateScans", unfollowed := true, recurses := true, apart := false }
def GenerateScansSaid : Prop := generateScansRow.holds Try.pinned (OpenSpec.ofChange generateScansSpec)

/-- ITS FALSE NEIGHBOUR: 'it returns false'. Refute it at one input. -/
def generateScansWrong : ChangeSpec := { name := "generateScans", fn := fun _ => fun
  | [d1, d2] => { results := [.lit (.bool false)], args := [d1, d2] }
  | _ => none }
def GenerateScansWrongFalsely : Prop := generateScansRow.holds Try.pinned (OpenSpec.ofChange generateScansWrong)

/-- 'overseerlaw53.GenerateMakes': WHATEVER THE INPUT: true; the input reads as it did. -/
def generateMakesSpec : ChangeSpec := { name := "generateMakes", fn := fun _ => fun
  | [d] => { results := [.lit (.bool true)], args := [d] }
  | _ => none }
def generateMakesRow : OpenClaim := { program := "ytkkemchihllklaa", sum := "a6c87f81f48696b0ab970300675e8e534c3b5b5bf42ec9768282a5ebd1019812", func := "overseer/overseerlaw53.GenerateMakes", spec := "generateMakes", unfollowed := true, recurses := true, apart := false }
def GenerateMakesSaid : Prop := generateMakesRow.holds Try.pinned (OpenSpec.ofChange generateMakesSpec)

/-- ITS FALSE NEIGHBOUR: 'it returns false'. Refute it at one input. -/
def generateMakesWrong : ChangeSpec := { name := "generateMakes", fn := fun _ => fun
  | [d] => { results := [.lit (.bool false)], args := [d] }
  | _ => none }
def GenerateMakesWrongFalsely : Prop := generateMakesRow.holds Try.pinned (OpenSpec.ofChange generateMakesWrong)

/-- 'overseerlaw53.GenerateReads': WHATEVER THE INPUT: true; the input reads as it did. -/
def generateReadsSpec : ChangeSpec := { name := "generateReads", fn := fun _ => fun
  | [d1, d2, d3] => { results := [.lit (.bool true)], args := [d1, d2, d3] }
  | _ => none }
def generateReadsRow : OpenClaim := { program := "ytkkemchihllklaa", sum := "a6c87f81f48696b0ab970300675e8e534c3b5b5bf42ec9768282a5ebd1019812", func := "overseer/overseerlaw53.GenerateReads", spec := "generateReads", unfollowed := true, recurses := true, apart := false }
def GenerateReadsSaid : Prop := generateReadsRow.holds Try.pinned (OpenSpec.ofChange generateReadsSpec)

/-- ITS FALSE NEIGHBOUR: 'it returns false'. Refute it at one input. -/
def generateReadsWrong : ChangeSpec := { name := "generateReads", fn := fun _ => fun
  | [d1, d2, d3] => { results := [.lit (.bool false)], args := [d1, d2, d3] }
  | _ => none }
def GenerateReadsWrongFalsely : Prop := generateReadsRow.holds Try.pinned (OpenSpec.ofChange generateReadsWrong)

/-- 'overseerlaw53.GenerateRefuses': WHATEVER THE INPUT: true; the input reads as it did. -/
def generateRefusesSpec : ChangeSpec := { name := "generateRefuses", fn := fun _ => fun
  | [d1, d2] => { results := [.lit (.bool true)], args := [d1, d2] }
  | _ => none }
def generateRefusesRow : OpenClaim := { program := "ytkkemchihllklaa", sum := "a6c87f81f48696b0ab970300675e8e534c3b5b5bf42ec9768282a5ebd1019812", func := "overseer/overseerlaw53.GenerateRefuses", spec := "generateRefuses", unfollowed := true, recurses := true, apart := false }
def GenerateRefusesSaid : Prop := generateRefusesRow.holds Try.pinned (OpenSpec.ofChange generateRefusesSpec)

/-- ITS FALSE NEIGHBOUR: 'it returns false'. Refute it at one input. -/
def generateRefusesWrong : ChangeSpec := { name := "generateRefuses", fn := fun _ => fun
  | [d1, d2] => { results := [.lit (.bool false)], args := [d1, d2] }
  | _ => none }
def GenerateRefusesWrongFalsely : Prop := generateRefusesRow.holds Try.pinned (OpenSpec.ofChange generateRefusesWrong)

/-- 'overseerlaw53.GenerateWords': WHATEVER THE INPUT: true; the input reads as it did. -/
def generateWordsSpec : ChangeSpec := { name := "generateWords", fn := fun _ => fun
  | [d1, d2] => { results := [.lit (.bool true)], args := [d1, d2] }
  | _ => none }
def generateWordsRow : OpenClaim := { program := "ytkkemchihllklaa", sum := "a6c87f81f48696b0ab970300675e8e534c3b5b5bf42ec9768282a5ebd1019812", func := "overseer/overseerlaw53.GenerateWords", spec := "generateWords", unfollowed := true, recurses := true, apart := false }
def GenerateWordsSaid : Prop := generateWordsRow.holds Try.pinned (OpenSpec.ofChange generateWordsSpec)

/-- ITS FALSE NEIGHBOUR: 'it returns false'. Refute it at one input. -/
def generateWordsWrong : ChangeSpec := { name := "generateWords", fn := fun _ => fun
  | [d1, d2] => { results := [.lit (.bool false)], args := [d1, d2] }
  | _ => none }
def GenerateWordsWrongFalsely : Prop := generateWordsRow.holds Try.pinned (OpenSpec.ofChange generateWordsWrong)

/-- 'overseerlaw53.GenerateFollows': WHATEVER THE INPUT: true; the input reads as it did. -/
def generateFollowsSpec : ChangeSpec := { name := "generateFollows", fn := fun _ => fun
  | [d1, d2, d3] => { results := [.lit (.bool true)], args := [d1, d2, d3] }
  | _ => none }
def generateFollowsRow : OpenClaim := { program := "ytkkemchihllklaa", sum := "a6c87f81f48696b0ab970300675e8e534c3b5b5bf42ec9768282a5ebd1019812", func := "overseer/overseerlaw53.GenerateFollows", spec := "generateFollows", unfollowed := true, recurses := true, apart := false }
def GenerateFollowsSaid : Prop := generateFollowsRow.holds Try.pinned (OpenSpec.ofChange generateFollowsSpec)

/-- ITS FALSE NEIGHBOUR: 'it returns false'. Refute it at one input. -/
def generateFollowsWrong : ChangeSpec := { name := "generateFollows", fn := fun _ => fun
  | [d1, d2, d3] => { results := [.lit (.bool false)], args := [d1, d2, d3] }
  | _ => none }
def GenerateFollowsWrongFalsely : Prop := generateFollowsRow.holds Try.pinned (OpenSpec.ofChange generateFollowsWrong)

/- THE SECOND FORM. 'bulk': how many values and letters a reading holds, each counted each time it is reached (what is shared counts as often as it is met; a slice's spare places count too). A statement '..UptoSaid' is the law's where the arguments, and the package variables that the reading takes, are together of bulk at most 1048576: NARROWER than '..Said'. Prove '..Said' where nothing that the law and all that it calls make is longer than what came in: it says more and counts as full. Else prove '..UptoSaid'. A law counts once. -/
mutual
def uptoBulk {H : Type} : DataW H → Nat
  | .lit (.string bytes) => bytes.length + 1
  | .lit _ => 1
  | .nil => 1
  | .ptr d => uptoBulk d + 1
  | .slice elems spare => uptoBulkAll elems + uptoBulkAll spare + 1
  | .agg parts => uptoBulkAll parts + 1
  | .iface _ d => uptoBulk d + 1
  | .map entries => uptoBulkEntries entries + 1
  | .held _ => 1
def uptoBulkAll {H : Type} : List (DataW H) → Nat
  | [] => 0
  | d :: r => uptoBulk d + uptoBulkAll r
def uptoBulkEntries {H : Type} : List (Lit × DataW H) → Nat
  | [] => 0
  | x :: r => uptoBulkEntry x + uptoBulkEntries r
def uptoBulkEntry {H : Type} : Lit × DataW H → Nat
  | (.string bytes, d) => bytes.length + uptoBulk d + 1
  | (_, d) => uptoBulk d + 1
 end
def uptoSmall : (H : Type) → List (DataW H) → Bool := fun _ ds => decide (uptoBulkAll ds ≤ 1048576)
def OpenSpec.upto (s : _root_.Go.ChangeSpec) : _root_.Go.OpenSpec := { _root_.Go.OpenSpec.ofChange s with cond := some uptoSmall }

/-- 'overseerlaw53.GenerateLimits', WHERE WHAT IT READS IS OF BULK AT MOST 1048576: true; the input reads as it did. -/
def generateLimitsUptoRow : OpenClaim := { program := "ytkkemchihllklaa", sum := "a6c87f81f48696b0ab970300675e8e534c3b5b5bf42ec9768282a5ebd1019812", func := "overseer/overseerlaw53.GenerateLimits", spec := "generateLimits", unfollowed := true, recurses := true, apart := false, narrowed := true }
def GenerateLimitsUptoSaid : Prop := generateLimitsUptoRow.holds Try.pinned (OpenSpec.upto generateLimitsSpec)

/-- 'overseerlaw53.GenerateRests', WHERE WHAT IT READS IS OF BULK AT MOST 1048576: true; the input reads as it did. -/
def generateRestsUptoRow : OpenClaim := { program := "ytkkemchihllklaa", sum := "a6c87f81f48696b0ab970300675e8e534c3b5b5bf42ec9768282a5ebd1019812", func := "overseer/overseerlaw53.GenerateRests", spec := "generateRests", unfollowed := true, recurses := true, apart := false, narrowed := true }
def GenerateRestsUptoSaid : Prop := generateRestsUptoRow.holds Try.pinned (OpenSpec.upto generateRestsSpec)

/-- 'overseerlaw53.GenerateScans', WHERE WHAT IT READS IS OF BULK AT MOST 1048576: true; the input reads as it did. -/
def generateScansUptoRow : OpenClaim := { program := "ytkkemchihllklaa", sum := "a6c87f81f48696b0ab970300675e8e534c3b5b5bf42ec9768282a5ebd1019812", func := "overseer/overseerlaw53.GenerateScans", spec := "generateScans", unfollowed := true, recurses := true, apart := false, narrowed := true }
def GenerateScansUptoSaid : Prop := generateScansUptoRow.holds Try.pinned (OpenSpec.upto generateScansSpec)

/-- 'overseerlaw53.GenerateMakes', WHERE WHAT IT READS IS OF BULK AT MOST 1048576: true; the input reads as it did. -/
def generateMakesUptoRow : OpenClaim := { program := "ytkkemchihllklaa", sum := "a6c87f81f48696b0ab970300675e8e534c3b5b5bf42ec9768282a5ebd1019812", func := "overseer/overseerlaw53.GenerateMakes", spec := "generateMakes", unfollowed := true, recurses := true, apart := false, narrowed := true }
def GenerateMakesUptoSaid : Prop := generateMakesUptoRow.holds Try.pinned (OpenSpec.upto generateMakesSpec)

/-- 'overseerlaw53.GenerateReads', WHERE WHAT IT READS IS OF BULK AT MOST 1048576: true; the input reads as it did. -/
def generateReadsUptoRow : OpenClaim := { program := "ytkkemchihllklaa", sum := "a6c87f81f48696b0ab970300675e8e534c3b5b5bf42ec9768282a5ebd1019812", func := "overseer/overseerlaw53.GenerateReads", spec := "generateReads", unfollowed := true, recurses := true, apart := false, narrowed := true }
def GenerateReadsUptoSaid : Prop := generateReadsUptoRow.holds Try.pinned (OpenSpec.upto generateReadsSpec)

/-- 'overseerlaw53.GenerateRefuses', WHERE WHAT IT READS IS OF BULK AT MOST 1048576: true; the input reads as it did. -/
def generateRefusesUptoRow : OpenClaim := { program := "ytkkemchihllklaa", sum := "a6c87f81f48696b0ab970300675e8e534c3b5b5bf42ec9768282a5ebd1019812", func := "overseer/overseerlaw53.GenerateRefuses", spec := "generateRefuses", unfollowed := true, recurses := true, apart := false, narrowed := true }
def GenerateRefusesUptoSaid : Prop := generateRefusesUptoRow.holds Try.pinned (OpenSpec.upto generateRefusesSpec)

/-- 'overseerlaw53.GenerateWords', WHERE WHAT IT READS IS OF BULK AT MOST 1048576: true; the input reads as it did. -/
def generateWordsUptoRow : OpenClaim := { program := "ytkkemchihllklaa", sum := "a6c87f81f48696b0ab970300675e8e534c3b5b5bf42ec9768282a5ebd1019812", func := "overseer/overseerlaw53.GenerateWords", spec := "generateWords", unfollowed := true, recurses := true, apart := false, narrowed := true }
def GenerateWordsUptoSaid : Prop := generateWordsUptoRow.holds Try.pinned (OpenSpec.upto generateWordsSpec)

/-- 'overseerlaw53.GenerateFollows', WHERE WHAT IT READS IS OF BULK AT MOST 1048576: true; the input reads as it did. -/
def generateFollowsUptoRow : OpenClaim := { program := "ytkkemchihllklaa", sum := "a6c87f81f48696b0ab970300675e8e534c3b5b5bf42ec9768282a5ebd1019812", func := "overseer/overseerlaw53.GenerateFollows", spec := "generateFollows", unfollowed := true, recurses := true, apart := false, narrowed := true }
def GenerateFollowsUptoSaid : Prop := generateFollowsUptoRow.holds Try.pinned (OpenSpec.upto generateFollowsSpec)

end Rows
end Go.Proofs.Ytkkemchihllklaa
