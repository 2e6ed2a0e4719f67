/-
  DERIVED. GIVEN WITH THE SEED: THE CARDS: each row of YtecmobjeeonmaaaGreatDoorRows.lean that lists a variable, with what it lists TIED to the program's text (the seventh form; the later family's looks); each row that meets fmt, with fmt's text TOLD by the authors' own Lean function (tested against real Go, not proved from fmt's source: count such statements apart). THE CARD IS WHAT COUNTS. Prove the row's statement (the work); the ties are given (YtecmobjeeonmaaaGreatDoorTie.lean); close each card by the builder's one call (the guide's Derived/Test/ToyasCard.lean, 'card_holds'). Laid BY PROGRAM, IN A SANDBOX (cutbox-door.mjs). By AI agents, Wed Nov 11 2026. No macro, syntax, notation, axiom, sorry.
-/
import Derived.Test.YtecmobjeeonmaaaGreatDoorRows
import GoSem.ClaimSeven
namespace Go.Proofs.YtecmobjeeonmaaaGreatDoor
namespace Rows

/-- THE TIED CARD OF 'overseerlaw54.ScanSingle'. -/
def scanSingleCard : Claim7 := { stood := { row := scanSingleRow, standIns := [], harness := (true, "ff58e2445188f82e2962d57eead38bf9a2d00edb42f02d0c8b7971afad415dfa"), looks := false }, kinds := [], alts := [], laidByText := true, laidKinds := [.data, .data, .data], laidTests := true, laidLooks := .later }
def ScanSingleCardSaid : Prop := Claim7.holds Tryz.pinned (.plain (OpenSpec.ofChange scanSingleSpec)) scanSingleCard

/-- THE TIED CARD OF 'overseerlaw54.ScanHandles'. -/
def scanHandlesCard : Claim7 := { stood := { row := scanHandlesRow, standIns := [], harness := (true, "ff58e2445188f82e2962d57eead38bf9a2d00edb42f02d0c8b7971afad415dfa"), looks := false }, kinds := [], alts := [], laidByText := true, laidKinds := [.data, .data, .data], laidTests := true, laidLooks := .later }
def ScanHandlesCardSaid : Prop := Claim7.holds Tryz.pinned (.plain (OpenSpec.ofChange scanHandlesSpec)) scanHandlesCard

/-- THE TIED CARD OF 'overseerlaw54.ScanDelays'. -/
def scanDelaysCard : Claim7 := { stood := { row := scanDelaysRow, standIns := [], harness := (true, "ff58e2445188f82e2962d57eead38bf9a2d00edb42f02d0c8b7971afad415dfa"), looks := false }, kinds := [], alts := [], laidByText := true, laidKinds := [.data, .data, .data], laidTests := true, laidLooks := .later }
def ScanDelaysCardSaid : Prop := Claim7.holds Tryz.pinned (.plain (OpenSpec.ofChange scanDelaysSpec)) scanDelaysCard

/-- THE TIED CARD OF 'overseerlaw54.ScanOrders'. -/
def scanOrdersCard : Claim7 := { stood := { row := scanOrdersRow, standIns := [], harness := (true, "ff58e2445188f82e2962d57eead38bf9a2d00edb42f02d0c8b7971afad415dfa"), looks := false }, kinds := [], alts := [], laidByText := true, laidKinds := [.data, .data, .data], laidTests := true, laidLooks := .later }
def ScanOrdersCardSaid : Prop := Claim7.holds Tryz.pinned (.plain (OpenSpec.ofChange scanOrdersSpec)) scanOrdersCard

/-- THE TIED CARD OF 'overseerlaw54.ScanHolds'. -/
def scanHoldsCard : Claim7 := { stood := { row := scanHoldsRow, standIns := [], harness := (true, "ff58e2445188f82e2962d57eead38bf9a2d00edb42f02d0c8b7971afad415dfa"), looks := false }, kinds := [], alts := [], laidByText := true, laidKinds := [.data, .data, .data], laidTests := true, laidLooks := .later }
def ScanHoldsCardSaid : Prop := Claim7.holds Tryz.pinned (.plain (OpenSpec.ofChange scanHoldsSpec)) scanHoldsCard

/-- THE TIED CARD OF 'overseerlaw54.ScanVerifies'. -/
def scanVerifiesCard : Claim7 := { stood := { row := scanVerifiesRow, standIns := [], harness := (true, "ff58e2445188f82e2962d57eead38bf9a2d00edb42f02d0c8b7971afad415dfa"), looks := false }, kinds := [], alts := [], laidByText := true, laidKinds := [.data, .data, .data], laidTests := true, laidLooks := .later }
def ScanVerifiesCardSaid : Prop := Claim7.holds Tryz.pinned (.plain (OpenSpec.ofChange scanVerifiesSpec)) scanVerifiesCard

/-- THE TIED CARD OF 'overseerlaw55.SimulationDifference'. -/
def simulationDifferenceCard : Claim7 := { stood := { row := simulationDifferenceRow, standIns := [], harness := (true, "ff58e2445188f82e2962d57eead38bf9a2d00edb42f02d0c8b7971afad415dfa"), looks := false }, kinds := [], alts := [], laidByText := true, laidKinds := [.data, .data, .data], laidTests := true, laidLooks := .later }
def SimulationDifferenceCardSaid : Prop := Claim7.holds Tryz.pinned (.plain (OpenSpec.ofChange simulationDifferenceSpec)) simulationDifferenceCard

/-- THE TIED CARD OF 'overseerlaw55.SimulationRuns'. -/
def simulationRunsCard : Claim7 := { stood := { row := simulationRunsRow, standIns := [], harness := (true, "ff58e2445188f82e2962d57eead38bf9a2d00edb42f02d0c8b7971afad415dfa"), looks := false }, kinds := [], alts := [], laidByText := true, laidKinds := [.data, .data, .data], laidTests := true, laidLooks := .later }
def SimulationRunsCardSaid : Prop := Claim7.holds Tryz.pinned (.plain (OpenSpec.ofChange simulationRunsSpec)) simulationRunsCard

/-- THE TIED CARD OF 'overseerlaw55.SimulationChecks'. -/
def simulationChecksCard : Claim7 := { stood := { row := simulationChecksRow, standIns := [], harness := (true, "ff58e2445188f82e2962d57eead38bf9a2d00edb42f02d0c8b7971afad415dfa"), looks := false }, kinds := [], alts := [], laidByText := true, laidKinds := [.data, .data, .data], laidTests := true, laidLooks := .later }
def SimulationChecksCardSaid : Prop := Claim7.holds Tryz.pinned (.plain (OpenSpec.ofChange simulationChecksSpec)) simulationChecksCard

/-- THE TIED CARD OF 'overseerlaw55.SimulationAutomatic'. -/
def simulationAutomaticCard : Claim7 := { stood := { row := simulationAutomaticRow, standIns := [], harness := (true, "ff58e2445188f82e2962d57eead38bf9a2d00edb42f02d0c8b7971afad415dfa"), looks := false }, kinds := [], alts := [], laidByText := true, laidKinds := [.data, .data, .data], laidTests := true, laidLooks := .later }
def SimulationAutomaticCardSaid : Prop := Claim7.holds Tryz.pinned (.plain (OpenSpec.ofChange simulationAutomaticSpec)) simulationAutomaticCard

/-- THE TIED CARD OF 'overseerlaw55.SimulationObeys'. -/
def simulationObeysCard : Claim7 := { stood := { row := simulationObeysRow, standIns := [], harness := (true, "ff58e2445188f82e2962d57eead38bf9a2d00edb42f02d0c8b7971afad415dfa"), looks := false }, kinds := [], alts := [], laidByText := true, laidKinds := [.data, .data, .data], laidTests := true, laidLooks := .later }
def SimulationObeysCardSaid : Prop := Claim7.holds Tryz.pinned (.plain (OpenSpec.ofChange simulationObeysSpec)) simulationObeysCard

/-- THE TIED CARD OF 'overseerlaw55.SimulationScripts'. -/
def simulationScriptsCard : Claim7 := { stood := { row := simulationScriptsRow, standIns := [], harness := (true, "ff58e2445188f82e2962d57eead38bf9a2d00edb42f02d0c8b7971afad415dfa"), looks := false }, kinds := [], alts := [], laidByText := true, laidKinds := [.data, .data, .data], laidTests := true, laidLooks := .later }
def SimulationScriptsCardSaid : Prop := Claim7.holds Tryz.pinned (.plain (OpenSpec.ofChange simulationScriptsSpec)) simulationScriptsCard

/-- THE SECOND FORM's CARD OF 'overseerlaw54.ScanSingle'. -/
def scanSingleUptoCard : Claim7 := { stood := { row := scanSingleUptoRow, standIns := [], harness := (true, "ff58e2445188f82e2962d57eead38bf9a2d00edb42f02d0c8b7971afad415dfa"), looks := false }, kinds := [], alts := [], laidByText := true, laidKinds := [.data, .data, .data], laidTests := true, laidLooks := .later }
def ScanSingleUptoCardSaid : Prop := Claim7.holds Tryz.pinned (.plain (OpenSpec.upto scanSingleSpec)) scanSingleUptoCard

/-- THE SECOND FORM's CARD OF 'overseerlaw54.ScanHandles'. -/
def scanHandlesUptoCard : Claim7 := { stood := { row := scanHandlesUptoRow, standIns := [], harness := (true, "ff58e2445188f82e2962d57eead38bf9a2d00edb42f02d0c8b7971afad415dfa"), looks := false }, kinds := [], alts := [], laidByText := true, laidKinds := [.data, .data, .data], laidTests := true, laidLooks := .later }
def ScanHandlesUptoCardSaid : Prop := Claim7.holds Tryz.pinned (.plain (OpenSpec.upto scanHandlesSpec)) scanHandlesUptoCard

/-- THE SECOND FORM's CARD OF 'overseerlaw54.ScanDelays'. -/
def scanDelaysUptoCard : Claim7 := { stood := { row := scanDelaysUptoRow, standIns := [], harness := (true, "ff58e2445188f82e2962d57eead38bf9a2d00edb42f02d0c8b7971afad415dfa"), looks := false }, kinds := [], alts := [], laidByText := true, laidKinds := [.data, .data, .data], laidTests := true, laidLooks := .later }
def ScanDelaysUptoCardSaid : Prop := Claim7.holds Tryz.pinned (.plain (OpenSpec.upto scanDelaysSpec)) scanDelaysUptoCard

/-- THE SECOND FORM's CARD OF 'overseerlaw54.ScanOrders'. -/
def scanOrdersUptoCard : Claim7 := { stood := { row := scanOrdersUptoRow, standIns := [], harness := (true, "ff58e2445188f82e2962d57eead38bf9a2d00edb42f02d0c8b7971afad415dfa"), looks := false }, kinds := [], alts := [], laidByText := true, laidKinds := [.data, .data, .data], laidTests := true, laidLooks := .later }
def ScanOrdersUptoCardSaid : Prop := Claim7.holds Tryz.pinned (.plain (OpenSpec.upto scanOrdersSpec)) scanOrdersUptoCard

/-- THE SECOND FORM's CARD OF 'overseerlaw54.ScanHolds'. -/
def scanHoldsUptoCard : Claim7 := { stood := { row := scanHoldsUptoRow, standIns := [], harness := (true, "ff58e2445188f82e2962d57eead38bf9a2d00edb42f02d0c8b7971afad415dfa"), looks := false }, kinds := [], alts := [], laidByText := true, laidKinds := [.data, .data, .data], laidTests := true, laidLooks := .later }
def ScanHoldsUptoCardSaid : Prop := Claim7.holds Tryz.pinned (.plain (OpenSpec.upto scanHoldsSpec)) scanHoldsUptoCard

/-- THE SECOND FORM's CARD OF 'overseerlaw54.ScanVerifies'. -/
def scanVerifiesUptoCard : Claim7 := { stood := { row := scanVerifiesUptoRow, standIns := [], harness := (true, "ff58e2445188f82e2962d57eead38bf9a2d00edb42f02d0c8b7971afad415dfa"), looks := false }, kinds := [], alts := [], laidByText := true, laidKinds := [.data, .data, .data], laidTests := true, laidLooks := .later }
def ScanVerifiesUptoCardSaid : Prop := Claim7.holds Tryz.pinned (.plain (OpenSpec.upto scanVerifiesSpec)) scanVerifiesUptoCard

/-- THE SECOND FORM's CARD OF 'overseerlaw55.SimulationDifference'. -/
def simulationDifferenceUptoCard : Claim7 := { stood := { row := simulationDifferenceUptoRow, standIns := [], harness := (true, "ff58e2445188f82e2962d57eead38bf9a2d00edb42f02d0c8b7971afad415dfa"), looks := false }, kinds := [], alts := [], laidByText := true, laidKinds := [.data, .data, .data], laidTests := true, laidLooks := .later }
def SimulationDifferenceUptoCardSaid : Prop := Claim7.holds Tryz.pinned (.plain (OpenSpec.upto simulationDifferenceSpec)) simulationDifferenceUptoCard

/-- THE SECOND FORM's CARD OF 'overseerlaw55.SimulationRuns'. -/
def simulationRunsUptoCard : Claim7 := { stood := { row := simulationRunsUptoRow, standIns := [], harness := (true, "ff58e2445188f82e2962d57eead38bf9a2d00edb42f02d0c8b7971afad415dfa"), looks := false }, kinds := [], alts := [], laidByText := true, laidKinds := [.data, .data, .data], laidTests := true, laidLooks := .later }
def SimulationRunsUptoCardSaid : Prop := Claim7.holds Tryz.pinned (.plain (OpenSpec.upto simulationRunsSpec)) simulationRunsUptoCard

/-- THE SECOND FORM's CARD OF 'overseerlaw55.SimulationChecks'. -/
def simulationChecksUptoCard : Claim7 := { stood := { row := simulationChecksUptoRow, standIns := [], harness := (true, "ff58e2445188f82e2962d57eead38bf9a2d00edb42f02d0c8b7971afad415dfa"), looks := false }, kinds := [], alts := [], laidByText := true, laidKinds := [.data, .data, .data], laidTests := true, laidLooks := .later }
def SimulationChecksUptoCardSaid : Prop := Claim7.holds Tryz.pinned (.plain (OpenSpec.upto simulationChecksSpec)) simulationChecksUptoCard

/-- THE SECOND FORM's CARD OF 'overseerlaw55.SimulationAutomatic'. -/
def simulationAutomaticUptoCard : Claim7 := { stood := { row := simulationAutomaticUptoRow, standIns := [], harness := (true, "ff58e2445188f82e2962d57eead38bf9a2d00edb42f02d0c8b7971afad415dfa"), looks := false }, kinds := [], alts := [], laidByText := true, laidKinds := [.data, .data, .data], laidTests := true, laidLooks := .later }
def SimulationAutomaticUptoCardSaid : Prop := Claim7.holds Tryz.pinned (.plain (OpenSpec.upto simulationAutomaticSpec)) simulationAutomaticUptoCard

/-- THE SECOND FORM's CARD OF 'overseerlaw55.SimulationObeys'. -/
def simulationObeysUptoCard : Claim7 := { stood := { row := simulationObeysUptoRow, standIns := [], harness := (true, "ff58e2445188f82e2962d57eead38bf9a2d00edb42f02d0c8b7971afad415dfa"), looks := false }, kinds := [], alts := [], laidByText := true, laidKinds := [.data, .data, .data], laidTests := true, laidLooks := .later }
def SimulationObeysUptoCardSaid : Prop := Claim7.holds Tryz.pinned (.plain (OpenSpec.upto simulationObeysSpec)) simulationObeysUptoCard

/-- THE SECOND FORM's CARD OF 'overseerlaw55.SimulationScripts'. -/
def simulationScriptsUptoCard : Claim7 := { stood := { row := simulationScriptsUptoRow, standIns := [], harness := (true, "ff58e2445188f82e2962d57eead38bf9a2d00edb42f02d0c8b7971afad415dfa"), looks := false }, kinds := [], alts := [], laidByText := true, laidKinds := [.data, .data, .data], laidTests := true, laidLooks := .later }
def SimulationScriptsUptoCardSaid : Prop := Claim7.holds Tryz.pinned (.plain (OpenSpec.upto simulationScriptsSpec)) simulationScriptsUptoCard
end Rows
end Go.Proofs.YtecmobjeeonmaaaGreatDoor
