/-
  No cell of these rows narrows 'for every input' (looked for: loops, veiled, ifaces, maps, wideKeys, modest, calm, conditions, laid).
  DERIVED. THE GIVEN ROWS OF THIS SEAT. 9 by the template 'for every input the law returns true; each argument reads behind the call as it read before'; 0 by the template 'total and deterministic' (their statements: YthchkddhibhenaaTotals.lean).
  GIVEN WITH THE SEED: the statements are not yours to turn. If you find one false, say at which input.
  Laid BY PROGRAM, IN A SANDBOX (cutbox-rows.mjs): the forced cells as the released guide's own fill.sh prints them over the translation 0eea62660b0f7ccf… (all of the seat's roots in one cut). By AI agents, Wed Nov 11 2026. No macro, syntax, notation, axiom, sorry.
-/
import Derived.Test.YthchkddhibhenaaChecked
import GoSem.Claim
import GoSem.ClaimJoined
import GoSem.ClaimMapViews
import Derived.JoinedTies
import Derived.KernelRfl
namespace Go.Proofs.Ythchkddhibhenaa
/- THE CELL 'sum', in the pinned program and in every row, IS THE sha256 OF THE DUMP (.gsa) THAT YthchkddhibhenaaProg.lean LOADS. Nothing in Lean hashes anything: it is a label: what it is worth is what the hold of that sum in a sandbox is worth. -/
noncomputable def Try.pinned : Pinned := { name := "ythchkddhibhenaa", sum := "0eea62660b0f7ccfa60436fae9f6a7116d949724719f459c9d342ddafade3b24", checked := Try.checked }
namespace Rows
def none {H : Type} : Left H := { results := [], args := [] }

/-- 'overseerlaw04.ReachDistances': WHATEVER THE INPUT: true; the input reads as it did. -/
def reachDistancesSpec : ChangeSpec := { name := "reachDistances", fn := fun _ => fun
  | [d1, d2, d3] => { results := [.lit (.bool true)], args := [d1, d2, d3] }
  | _ => none }
def reachDistancesRow : OpenClaim := { program := "ythchkddhibhenaa", sum := "0eea62660b0f7ccfa60436fae9f6a7116d949724719f459c9d342ddafade3b24", func := "overseer/overseerlaw04.ReachDistances", spec := "reachDistances", unfollowed := true, recurses := true, apart := false }
def ReachDistancesSaid : Prop := reachDistancesRow.holds Try.pinned (OpenSpec.ofChange reachDistancesSpec)

/-- ITS FALSE NEIGHBOUR: 'it returns false'. Refute it at one input. -/
def reachDistancesWrong : ChangeSpec := { name := "reachDistances", fn := fun _ => fun
  | [d1, d2, d3] => { results := [.lit (.bool false)], args := [d1, d2, d3] }
  | _ => none }
def ReachDistancesWrongFalsely : Prop := reachDistancesRow.holds Try.pinned (OpenSpec.ofChange reachDistancesWrong)

/-- 'overseerlaw04.ReachSteps': WHATEVER THE INPUT: true; the input reads as it did. -/
def reachStepsSpec : ChangeSpec := { name := "reachSteps", fn := fun _ => fun
  | [d1, d2] => { results := [.lit (.bool true)], args := [d1, d2] }
  | _ => none }
def reachStepsRow : OpenClaim := { program := "ythchkddhibhenaa", sum := "0eea62660b0f7ccfa60436fae9f6a7116d949724719f459c9d342ddafade3b24", func := "overseer/overseerlaw04.ReachSteps", spec := "reachSteps", unfollowed := true, recurses := true, apart := false }
def ReachStepsSaid : Prop := reachStepsRow.holds Try.pinned (OpenSpec.ofChange reachStepsSpec)

/-- ITS FALSE NEIGHBOUR: 'it returns false'. Refute it at one input. -/
def reachStepsWrong : ChangeSpec := { name := "reachSteps", fn := fun _ => fun
  | [d1, d2] => { results := [.lit (.bool false)], args := [d1, d2] }
  | _ => none }
def ReachStepsWrongFalsely : Prop := reachStepsRow.holds Try.pinned (OpenSpec.ofChange reachStepsWrong)

/-- 'overseerlaw04.ReachCloses': WHATEVER THE INPUT: true; the input reads as it did. -/
def reachClosesSpec : ChangeSpec := { name := "reachCloses", fn := fun _ => fun
  | [d1, d2, d3] => { results := [.lit (.bool true)], args := [d1, d2, d3] }
  | _ => none }
def reachClosesRow : OpenClaim := { program := "ythchkddhibhenaa", sum := "0eea62660b0f7ccfa60436fae9f6a7116d949724719f459c9d342ddafade3b24", func := "overseer/overseerlaw04.ReachCloses", spec := "reachCloses", unfollowed := true, recurses := true, apart := false }
def ReachClosesSaid : Prop := reachClosesRow.holds Try.pinned (OpenSpec.ofChange reachClosesSpec)

/-- ITS FALSE NEIGHBOUR: 'it returns false'. Refute it at one input. -/
def reachClosesWrong : ChangeSpec := { name := "reachCloses", fn := fun _ => fun
  | [d1, d2, d3] => { results := [.lit (.bool false)], args := [d1, d2, d3] }
  | _ => none }
def ReachClosesWrongFalsely : Prop := reachClosesRow.holds Try.pinned (OpenSpec.ofChange reachClosesWrong)

/-- 'overseerlaw04.ReachStates': WHATEVER THE INPUT: true; the input reads as it did. -/
def reachStatesSpec : ChangeSpec := { name := "reachStates", fn := fun _ => fun
  | [d] => { results := [.lit (.bool true)], args := [d] }
  | _ => none }
def reachStatesRow : OpenClaim := { program := "ythchkddhibhenaa", sum := "0eea62660b0f7ccfa60436fae9f6a7116d949724719f459c9d342ddafade3b24", func := "overseer/overseerlaw04.ReachStates", spec := "reachStates", unfollowed := true, recurses := true, apart := false }
def ReachStatesSaid : Prop := reachStatesRow.holds Try.pinned (OpenSpec.ofChange reachStatesSpec)

/-- ITS FALSE NEIGHBOUR: 'it returns false'. Refute it at one input. -/
def reachStatesWrong : ChangeSpec := { name := "reachStates", fn := fun _ => fun
  | [d] => { results := [.lit (.bool false)], args := [d] }
  | _ => none }
def ReachStatesWrongFalsely : Prop := reachStatesRow.holds Try.pinned (OpenSpec.ofChange reachStatesWrong)

/-- 'overseerlaw04.ReachCycles': WHATEVER THE INPUT: true; the input reads as it did. -/
def reachCyclesSpec : ChangeSpec := { name := "reachCycles", fn := fun _ => fun
  | [d1, d2] => { results := [.lit (.bool true)], args := [d1, d2] }
  | _ => none }
def reachCyclesRow : OpenClaim := { program := "ythchkddhibhenaa", sum := "0eea62660b0f7ccfa60436fae9f6a7116d949724719f459c9d342ddafade3b24", func := "overseer/overseerlaw04.ReachCycles", spec := "reachCycles", unfollowed := true, recurses := true, apart := false }
def ReachCyclesSaid : Prop := reachCyclesRow.holds Try.pinned (OpenSpec.ofChange reachCyclesSpec)

/-- ITS FALSE NEIGHBOUR: 'it returns false'. Refute it at one input. -/
def reachCyclesWrong : ChangeSpec := { name := "reachCycles", fn := fun _ => fun
  | [d1, d2] => { results := [.lit (.bool false)], args := [d1, d2] }
  | _ => none }
def ReachCyclesWrongFalsely : Prop := reachCyclesRow.holds Try.pinned (OpenSpec.ofChange reachCyclesWrong)

/-- 'overseerlaw04.ReachTrims': WHATEVER THE INPUT: true; the input reads as it did. -/
def reachTrimsSpec : ChangeSpec := { name := "reachTrims", fn := fun _ => fun
  | [d] => { results := [.lit (.bool true)], args := [d] }
  | _ => none }
def reachTrimsRow : OpenClaim := { program := "ythchkddhibhenaa", sum := "0eea62660b0f7ccfa60436fae9f6a7116d949724719f459c9d342ddafade3b24", func := "overseer/overseerlaw04.ReachTrims", spec := "reachTrims", unfollowed := true, recurses := true, apart := false }
def ReachTrimsSaid : Prop := reachTrimsRow.holds Try.pinned (OpenSpec.ofChange reachTrimsSpec)

/-- ITS FALSE NEIGHBOUR: 'it returns false'. Refute it at one input. -/
def reachTrimsWrong : ChangeSpec := { name := "reachTrims", fn := fun _ => fun
  | [d] => { results := [.lit (.bool false)], args := [d] }
  | _ => none }
def ReachTrimsWrongFalsely : Prop := reachTrimsRow.holds Try.pinned (OpenSpec.ofChange reachTrimsWrong)

/-- 'overseerlaw04.ReachRestricts': WHATEVER THE INPUT: true; the input reads as it did. -/
def reachRestrictsSpec : ChangeSpec := { name := "reachRestricts", fn := fun _ => fun
  | [d1, d2] => { results := [.lit (.bool true)], args := [d1, d2] }
  | _ => none }
def reachRestrictsRow : OpenClaim := { program := "ythchkddhibhenaa", sum := "0eea62660b0f7ccfa60436fae9f6a7116d949724719f459c9d342ddafade3b24", func := "overseer/overseerlaw04.ReachRestricts", spec := "reachRestricts", unfollowed := true, recurses := true, apart := false }
def ReachRestrictsSaid : Prop := reachRestrictsRow.holds Try.pinned (OpenSpec.ofChange reachRestrictsSpec)

/-- ITS FALSE NEIGHBOUR: 'it returns false'. Refute it at one input. -/
def reachRestrictsWrong : ChangeSpec := { name := "reachRestricts", fn := fun _ => fun
  | [d1, d2] => { results := [.lit (.bool false)], args := [d1, d2] }
  | _ => none }
def ReachRestrictsWrongFalsely : Prop := reachRestrictsRow.holds Try.pinned (OpenSpec.ofChange reachRestrictsWrong)

/-- 'overseerlaw04.ReachComponents': WHATEVER THE INPUT: true; the input reads as it did. -/
def reachComponentsSpec : ChangeSpec := { name := "reachComponents", fn := fun _ => fun
  | [d] => { results := [.lit (.bool true)], args := [d] }
  | _ => none }
def reachComponentsRow : OpenClaim := { program := "ythchkddhibhenaa", sum := "0eea62660b0f7ccfa60436fae9f6a7116d949724719f459c9d342ddafade3b24", func := "overseer/overseerlaw04.ReachComponents", spec := "reachComponents", unfollowed := true, recurses := true, apart := false }
def ReachComponentsSaid : Prop := reachComponentsRow.holds Try.pinned (OpenSpec.ofChange reachComponentsSpec)

/-- ITS FALSE NEIGHBOUR: 'it returns false'. Refute it at one input. -/
def reachComponentsWrong : ChangeSpec := { name := "reachComponents", fn := fun _ => fun
  | [d] => { results := [.lit (.bool false)], args := [d] }
  | _ => none }
def ReachComponentsWrongFalsely : Prop := reachComponentsRow.holds Try.pinned (OpenSpec.ofChange reachComponentsWrong)

/-- 'overseerlaw04.ReachRefuses': WHATEVER THE INPUT: true; the input reads as it did. -/
def reachRefusesSpec : ChangeSpec := { name := "reachRefuses", fn := fun _ => fun
  | [d1, d2, d3] => { results := [.lit (.bool true)], args := [d1, d2, d3] }
  | _ => none }
def reachRefusesRow : OpenClaim := { program := "ythchkddhibhenaa", sum := "0eea62660b0f7ccfa60436fae9f6a7116d949724719f459c9d342ddafade3b24", func := "overseer/overseerlaw04.ReachRefuses", spec := "reachRefuses", unfollowed := true, recurses := true, apart := false }
def ReachRefusesSaid : Prop := reachRefusesRow.holds Try.pinned (OpenSpec.ofChange reachRefusesSpec)

/-- ITS FALSE NEIGHBOUR: 'it returns false'. Refute it at one input. -/
def reachRefusesWrong : ChangeSpec := { name := "reachRefuses", fn := fun _ => fun
  | [d1, d2, d3] => { results := [.lit (.bool false)], args := [d1, d2, d3] }
  | _ => none }
def ReachRefusesWrongFalsely : Prop := reachRefusesRow.holds Try.pinned (OpenSpec.ofChange reachRefusesWrong)

/- THE SECOND FORM. 'bulk': how many values and letters a reading holds, each counted each time it is reached (what is shared counts as often as it is met; a slice's spare places count too). A statement '..UptoSaid' is the law's where the arguments, and the package variables that the reading takes, are together of bulk at most 1048576: NARROWER than '..Said'. Prove '..Said' where nothing that the law and all that it calls make is longer than what came in: it says more and counts as full. Else prove '..UptoSaid'. A law counts once. -/
mutual
def uptoBulk {H : Type} : DataW H → Nat
  | .lit (.string bytes) => bytes.length + 1
  | .lit _ => 1
  | .nil => 1
  | .ptr d => uptoBulk d + 1
  | .slice elems spare => uptoBulkAll elems + uptoBulkAll spare + 1
  | .agg parts => uptoBulkAll parts + 1
  | .iface _ d => uptoBulk d + 1
  | .map entries => uptoBulkEntries entries + 1
  | .held _ => 1
def uptoBulkAll {H : Type} : List (DataW H) → Nat
  | [] => 0
  | d :: r => uptoBulk d + uptoBulkAll r
def uptoBulkEntries {H : Type} : List (Lit × DataW H) → Nat
  | [] => 0
  | x :: r => uptoBulkEntry x + uptoBulkEntries r
def uptoBulkEntry {H : Type} : Lit × DataW H → Nat
  | (.string bytes, d) => bytes.length + uptoBulk d + 1
  | (_, d) => uptoBulk d + 1
 end
def uptoSmall : (H : Type) → List (DataW H) → Bool := fun _ ds => decide (uptoBulkAll ds ≤ 1048576)
def OpenSpec.upto (s : _root_.Go.ChangeSpec) : _root_.Go.OpenSpec := { _root_.Go.OpenSpec.ofChange s with cond := some uptoSmall }

/-- 'overseerlaw04.ReachDistances', WHERE WHAT IT READS IS OF BULK AT MOST 1048576: true; the input reads as it did. -/
def reachDistancesUptoRow : OpenClaim := { program := "ythchkddhibhenaa", sum := "0eea62660b0f7ccfa60436fae9f6a7116d949724719f459c9d342ddafade3b24", func := "overseer/overseerlaw04.ReachDistances", spec := "reachDistances", unfollowed := true, recurses := true, apart := false, narrowed := true }
def ReachDistancesUptoSaid : Prop := reachDistancesUptoRow.holds Try.pinned (OpenSpec.upto reachDistancesSpec)

/-- 'overseerlaw04.ReachSteps', WHERE WHAT IT READS IS OF BULK AT MOST 1048576: true; the input reads as it did. -/
def reachStepsUptoRow : OpenClaim := { program := "ythchkddhibhenaa", sum := "0eea62660b0f7ccfa60436fae9f6a7116d949724719f459c9d342ddafade3b24", func := "overseer/overseerlaw04.ReachSteps", spec := "reachSteps", unfollowed := true, recurses := true, apart := false, narrowed := true }
def ReachStepsUptoSaid : Prop := reachStepsUptoRow.holds Try.pinned (OpenSpec.upto reachStepsSpec)

/-- 'overseerlaw04.ReachCloses', WHERE WHAT IT READS IS OF BULK AT MOST 1048576: true; the input reads as it did. -/
def reachClosesUptoRow : OpenClaim := { program := "ythchkddhibhenaa", sum := "0eea62660b0f7ccfa60436fae9f6a7116d949724719f459c9d342ddafade3b24", func := "overseer/overseerlaw04.ReachCloses", spec := "reachCloses", unfollowed := true, recurses := true, apart := false, narrowed := true }
def ReachClosesUptoSaid : Prop := reachClosesUptoRow.holds Try.pinned (OpenSpec.upto reachClosesSpec)

/-- 'overseerlaw04.ReachStates', WHERE WHAT IT READS IS OF BULK AT MOST 1048576: true; the input reads as it did. -/
def reachStatesUptoRow : OpenClaim := { program := "ythchkddhibhenaa", sum := "0eea62660b0f7ccfa60436fae9f6a7116d949724719f459c9d342ddafade3b24", func := "overseer/overseerlaw04.ReachStates", spec := "reachStates", unfollowed := true, recurses := true, apart := false, narrowed := true }
def ReachStatesUptoSaid : Prop := reachStatesUptoRow.holds Try.pinned (OpenSpec.upto reachStatesSpec)

/-- 'overseerlaw04.ReachCycles', WHERE WHAT IT READS IS OF BULK AT MOST 1048576: true; the input reads as it did. -/
def reachCyclesUptoRow : OpenClaim := { program := "ythchkddhibhenaa", sum := "0eea62660b0f7ccfa60436fae9f6a7116d949724719f459c9d342ddafade3b24", func := "overseer/overseerlaw04.ReachCycles", spec := "reachCycles", unfollowed := true, recurses := true, apart := false, narrowed := true }
def ReachCyclesUptoSaid : Prop := reachCyclesUptoRow.holds Try.pinned (OpenSpec.upto reachCyclesSpec)

/-- 'overseerlaw04.ReachTrims', WHERE WHAT IT READS IS OF BULK AT MOST 1048576: true; the input reads as it did. -/
def reachTrimsUptoRow : OpenClaim := { program := "ythchkddhibhenaa", sum := "0eea62660b0f7ccfa60436fae9f6a7116d949724719f459c9d342ddafade3b24", func := "overseer/overseerlaw04.ReachTrims", spec := "reachTrims", unfollowed := true, recurses := true, apart := false, narrowed := true }
def ReachTrimsUptoSaid : Prop := reachTrimsUptoRow.holds Try.pinned (OpenSpec.upto reachTrimsSpec)

/-- 'overseerlaw04.ReachRestricts', WHERE WHAT IT READS IS OF BULK AT MOST 1048576: true; the input reads as it did. -/
def reachRestrictsUptoRow : OpenClaim := { program := "ythchkddhibhenaa", sum := "0eea62660b0f7ccfa60436fae9f6a7116d949724719f459c9d342ddafade3b24", func := "overseer/overseerlaw04.ReachRestricts", spec := "reachRestricts", unfollowed := true, recurses := true, apart := false, narrowed := true }
def ReachRestrictsUptoSaid : Prop := reachRestrictsUptoRow.holds Try.pinned (OpenSpec.upto reachRestrictsSpec)

/-- 'overseerlaw04.ReachComponents', WHERE WHAT IT READS IS OF BULK AT MOST 1048576: true; the input reads as it did. -/
def reachComponentsUptoRow : OpenClaim := { program := "ythchkddhibhenaa", sum := "0eea62660b0f7ccfa60436fae9f6a7116d949724719f459c9d342ddafade3b24", func := "overseer/overseerlaw04.ReachComponents", spec := "reachComponents", unfollowed := true, recurses := true, apart := false, narrowed := true }
def ReachComponentsUptoSaid : Prop := reachComponentsUptoRow.holds Try.pinned (OpenSpec.upto reachComponentsSpec)

/-- 'overseerlaw04.ReachRefuses', WHERE WHAT IT READS IS OF BULK AT MOST 1048576: true; the input reads as it did. -/
def reachRefusesUptoRow : OpenClaim := { program := "ythchkddhibhenaa", sum := "0eea62660b0f7ccfa60436fae9f6a7116d949724719f459c9d342ddafade3b24", func := "overseer/overseerlaw04.ReachRefuses", spec := "reachRefuses", unfollowed := true, recurses := true, apart := false, narrowed := true }
def ReachRefusesUptoSaid : Prop := reachRefusesUptoRow.holds Try.pinned (OpenSpec.upto reachRefusesSpec)

end Rows
end Go.Proofs.Ythchkddhibhenaa
