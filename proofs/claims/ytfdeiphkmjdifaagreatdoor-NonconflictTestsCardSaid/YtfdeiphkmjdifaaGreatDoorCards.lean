/-
  DERIVED. GIVEN WITH THE SEED: THE CARDS: each row of YtfdeiphkmjdifaaGreatDoorRows.lean that lists a variable, with what it lists TIED to the program's text (the seventh form; the later family's looks); each row that meets fmt, with fmt's text TOLD by the authors' own Lean function (tested against real Go, not proved from fmt's source: count such statements apart). THE CARD IS WHAT COUNTS. Prove the row's statement (the work); the ties are given (YtfdeiphkmjdifaaGreatDoorTie.lean); close each card by the builder's one call (the guide's Derived/Test/ToyasCard.lean, 'card_holds'). Laid BY PROGRAM, IN A SANDBOX (cutbox-door.mjs). By AI agents, Wed Nov 11 2026. No macro, syntax, notation, axiom, sorry.
-/
import Derived.Test.YtfdeiphkmjdifaaGreatDoorRows
import GoSem.ClaimSeven
namespace Go.Proofs.YtfdeiphkmjdifaaGreatDoor
namespace Rows

/-- THE TIED CARD OF 'overseerlaw33.NonconflictPreserves'. -/
def nonconflictPreservesCard : Claim7 := { stood := { row := nonconflictPreservesRow, standIns := [], harness := (true, "4cd13b88502750bc18458f7fa518e830551b2e239d6ee3f930e0a03ee93e4028"), looks := false }, kinds := [], alts := [], laidByText := true, laidKinds := [.data, .data, .data], laidTests := true, laidLooks := .later }
def NonconflictPreservesCardSaid : Prop := Claim7.holds Tryz.pinned (.plain (OpenSpec.ofChange nonconflictPreservesSpec)) nonconflictPreservesCard

/-- THE TIED CARD OF 'overseerlaw33.NonconflictTests'. -/
def nonconflictTestsCard : Claim7 := { stood := { row := nonconflictTestsRow, standIns := [], harness := (true, "4cd13b88502750bc18458f7fa518e830551b2e239d6ee3f930e0a03ee93e4028"), looks := false }, kinds := [], alts := [], laidByText := true, laidKinds := [.data, .data, .data], laidTests := true, laidLooks := .later }
def NonconflictTestsCardSaid : Prop := Claim7.holds Tryz.pinned (.plain (OpenSpec.ofChange nonconflictTestsSpec)) nonconflictTestsCard

/-- THE TIED CARD OF 'overseerlaw33.NonconflictAbstracts'. -/
def nonconflictAbstractsCard : Claim7 := { stood := { row := nonconflictAbstractsRow, standIns := [], harness := (true, "4cd13b88502750bc18458f7fa518e830551b2e239d6ee3f930e0a03ee93e4028"), looks := false }, kinds := [], alts := [], laidByText := true, laidKinds := [.data, .data, .data], laidTests := true, laidLooks := .later }
def NonconflictAbstractsCardSaid : Prop := Claim7.holds Tryz.pinned (.plain (OpenSpec.ofChange nonconflictAbstractsSpec)) nonconflictAbstractsCard

/-- THE TIED CARD OF 'overseerlaw33.NonconflictComposes'. -/
def nonconflictComposesCard : Claim7 := { stood := { row := nonconflictComposesRow, standIns := [], harness := (true, "4cd13b88502750bc18458f7fa518e830551b2e239d6ee3f930e0a03ee93e4028"), looks := false }, kinds := [], alts := [], laidByText := true, laidKinds := [.data, .data, .data], laidTests := true, laidLooks := .later }
def NonconflictComposesCardSaid : Prop := Claim7.holds Tryz.pinned (.plain (OpenSpec.ofChange nonconflictComposesSpec)) nonconflictComposesCard

/-- THE TIED CARD OF 'overseerlaw33.NonconflictPairs'. -/
def nonconflictPairsCard : Claim7 := { stood := { row := nonconflictPairsRow, standIns := [], harness := (true, "4cd13b88502750bc18458f7fa518e830551b2e239d6ee3f930e0a03ee93e4028"), looks := false }, kinds := [], alts := [], laidByText := true, laidKinds := [.data, .data, .data], laidTests := true, laidLooks := .later }
def NonconflictPairsCardSaid : Prop := Claim7.holds Tryz.pinned (.plain (OpenSpec.ofChange nonconflictPairsSpec)) nonconflictPairsCard

/-- THE TIED CARD OF 'overseerlaw33.NonconflictMinimal'. -/
def nonconflictMinimalCard : Claim7 := { stood := { row := nonconflictMinimalRow, standIns := [], harness := (true, "4cd13b88502750bc18458f7fa518e830551b2e239d6ee3f930e0a03ee93e4028"), looks := false }, kinds := [], alts := [], laidByText := true, laidKinds := [.data, .data, .data], laidTests := true, laidLooks := .later }
def NonconflictMinimalCardSaid : Prop := Claim7.holds Tryz.pinned (.plain (OpenSpec.ofChange nonconflictMinimalSpec)) nonconflictMinimalCard

/-- THE TIED CARD OF 'overseerlaw33.NonconflictRefuses'. -/
def nonconflictRefusesCard : Claim7 := { stood := { row := nonconflictRefusesRow, standIns := [], harness := (true, "4cd13b88502750bc18458f7fa518e830551b2e239d6ee3f930e0a03ee93e4028"), looks := false }, kinds := [], alts := [], laidByText := true, laidKinds := [.data, .data, .data], laidTests := true, laidLooks := .later }
def NonconflictRefusesCardSaid : Prop := Claim7.holds Tryz.pinned (.plain (OpenSpec.ofChange nonconflictRefusesSpec)) nonconflictRefusesCard

/-- THE TIED CARD OF 'overseerlaw55.SimulationScripts'. -/
def simulationScriptsCard : Claim7 := { stood := { row := simulationScriptsRow, standIns := [], harness := (true, "4cd13b88502750bc18458f7fa518e830551b2e239d6ee3f930e0a03ee93e4028"), looks := false }, kinds := [], alts := [], laidByText := true, laidKinds := [.data, .data, .data], laidTests := true, laidLooks := .later }
def SimulationScriptsCardSaid : Prop := Claim7.holds Tryz.pinned (.plain (OpenSpec.ofChange simulationScriptsSpec)) simulationScriptsCard

/-- THE SECOND FORM's CARD OF 'overseerlaw33.NonconflictPreserves'. -/
def nonconflictPreservesUptoCard : Claim7 := { stood := { row := nonconflictPreservesUptoRow, standIns := [], harness := (true, "4cd13b88502750bc18458f7fa518e830551b2e239d6ee3f930e0a03ee93e4028"), looks := false }, kinds := [], alts := [], laidByText := true, laidKinds := [.data, .data, .data], laidTests := true, laidLooks := .later }
def NonconflictPreservesUptoCardSaid : Prop := Claim7.holds Tryz.pinned (.plain (OpenSpec.upto nonconflictPreservesSpec)) nonconflictPreservesUptoCard

/-- THE SECOND FORM's CARD OF 'overseerlaw33.NonconflictTests'. -/
def nonconflictTestsUptoCard : Claim7 := { stood := { row := nonconflictTestsUptoRow, standIns := [], harness := (true, "4cd13b88502750bc18458f7fa518e830551b2e239d6ee3f930e0a03ee93e4028"), looks := false }, kinds := [], alts := [], laidByText := true, laidKinds := [.data, .data, .data], laidTests := true, laidLooks := .later }
def NonconflictTestsUptoCardSaid : Prop := Claim7.holds Tryz.pinned (.plain (OpenSpec.upto nonconflictTestsSpec)) nonconflictTestsUptoCard

/-- THE SECOND FORM's CARD OF 'overseerlaw33.NonconflictAbstracts'. -/
def nonconflictAbstractsUptoCard : Claim7 := { stood := { row := nonconflictAbstractsUptoRow, standIns := [], harness := (true, "4cd13b88502750bc18458f7fa518e830551b2e239d6ee3f930e0a03ee93e4028"), looks := false }, kinds := [], alts := [], laidByText := true, laidKinds := [.data, .data, .data], laidTests := true, laidLooks := .later }
def NonconflictAbstractsUptoCardSaid : Prop := Claim7.holds Tryz.pinned (.plain (OpenSpec.upto nonconflictAbstractsSpec)) nonconflictAbstractsUptoCard

/-- THE SECOND FORM's CARD OF 'overseerlaw33.NonconflictComposes'. -/
def nonconflictComposesUptoCard : Claim7 := { stood := { row := nonconflictComposesUptoRow, standIns := [], harness := (true, "4cd13b88502750bc18458f7fa518e830551b2e239d6ee3f930e0a03ee93e4028"), looks := false }, kinds := [], alts := [], laidByText := true, laidKinds := [.data, .data, .data], laidTests := true, laidLooks := .later }
def NonconflictComposesUptoCardSaid : Prop := Claim7.holds Tryz.pinned (.plain (OpenSpec.upto nonconflictComposesSpec)) nonconflictComposesUptoCard

/-- THE SECOND FORM's CARD OF 'overseerlaw33.NonconflictPairs'. -/
def nonconflictPairsUptoCard : Claim7 := { stood := { row := nonconflictPairsUptoRow, standIns := [], harness := (true, "4cd13b88502750bc18458f7fa518e830551b2e239d6ee3f930e0a03ee93e4028"), looks := false }, kinds := [], alts := [], laidByText := true, laidKinds := [.data, .data, .data], laidTests := true, laidLooks := .later }
def NonconflictPairsUptoCardSaid : Prop := Claim7.holds Tryz.pinned (.plain (OpenSpec.upto nonconflictPairsSpec)) nonconflictPairsUptoCard

/-- THE SECOND FORM's CARD OF 'overseerlaw33.NonconflictMinimal'. -/
def nonconflictMinimalUptoCard : Claim7 := { stood := { row := nonconflictMinimalUptoRow, standIns := [], harness := (true, "4cd13b88502750bc18458f7fa518e830551b2e239d6ee3f930e0a03ee93e4028"), looks := false }, kinds := [], alts := [], laidByText := true, laidKinds := [.data, .data, .data], laidTests := true, laidLooks := .later }
def NonconflictMinimalUptoCardSaid : Prop := Claim7.holds Tryz.pinned (.plain (OpenSpec.upto nonconflictMinimalSpec)) nonconflictMinimalUptoCard

/-- THE SECOND FORM's CARD OF 'overseerlaw33.NonconflictRefuses'. -/
def nonconflictRefusesUptoCard : Claim7 := { stood := { row := nonconflictRefusesUptoRow, standIns := [], harness := (true, "4cd13b88502750bc18458f7fa518e830551b2e239d6ee3f930e0a03ee93e4028"), looks := false }, kinds := [], alts := [], laidByText := true, laidKinds := [.data, .data, .data], laidTests := true, laidLooks := .later }
def NonconflictRefusesUptoCardSaid : Prop := Claim7.holds Tryz.pinned (.plain (OpenSpec.upto nonconflictRefusesSpec)) nonconflictRefusesUptoCard

/-- THE SECOND FORM's CARD OF 'overseerlaw55.SimulationScripts'. -/
def simulationScriptsUptoCard : Claim7 := { stood := { row := simulationScriptsUptoRow, standIns := [], harness := (true, "4cd13b88502750bc18458f7fa518e830551b2e239d6ee3f930e0a03ee93e4028"), looks := false }, kinds := [], alts := [], laidByText := true, laidKinds := [.data, .data, .data], laidTests := true, laidLooks := .later }
def SimulationScriptsUptoCardSaid : Prop := Claim7.holds Tryz.pinned (.plain (OpenSpec.upto simulationScriptsSpec)) simulationScriptsUptoCard
end Rows
end Go.Proofs.YtfdeiphkmjdifaaGreatDoor
