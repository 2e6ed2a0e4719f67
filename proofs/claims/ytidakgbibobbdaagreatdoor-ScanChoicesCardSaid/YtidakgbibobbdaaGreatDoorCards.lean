/-
  DERIVED. GIVEN WITH THE SEED: THE CARDS: each row of YtidakgbibobbdaaGreatDoorRows.lean that lists a variable, with what it lists TIED to the program's text (the seventh form; the later family's looks); each row that meets fmt, with fmt's text TOLD by the authors' own Lean function (tested against real Go, not proved from fmt's source: count such statements apart). THE CARD IS WHAT COUNTS. Prove the row's statement (the work); the ties are given (YtidakgbibobbdaaGreatDoorTie.lean); close each card by the builder's one call (the guide's Derived/Test/ToyasCard.lean, 'card_holds'). Laid BY PROGRAM, IN A SANDBOX (cutbox-door.mjs). By AI agents, Wed Nov 11 2026. No macro, syntax, notation, axiom, sorry.
-/
import Derived.Test.YtidakgbibobbdaaGreatDoorRows
import GoSem.ClaimSeven
namespace Go.Proofs.YtidakgbibobbdaaGreatDoor
namespace Rows

/-- THE TIED CARD OF 'overseerlaw54.ScanErrors'. -/
def scanErrorsCard : Claim7 := { stood := { row := scanErrorsRow, standIns := [], harness := (true, "3b6d8a840045bcb92af1b2ebe25ebd74a9b1892dbbfab4b9df2f38ebbba4e761"), looks := false }, kinds := [], alts := [], laidByText := true, laidKinds := [.data, .data, .data], laidTests := true, laidLooks := .later }
def ScanErrorsCardSaid : Prop := Claim7.holds Tryz.pinned (.plain (OpenSpec.ofChange scanErrorsSpec)) scanErrorsCard

/-- THE TIED CARD OF 'overseerlaw54.ScanSingle'. -/
def scanSingleCard : Claim7 := { stood := { row := scanSingleRow, standIns := [], harness := (true, "3b6d8a840045bcb92af1b2ebe25ebd74a9b1892dbbfab4b9df2f38ebbba4e761"), looks := false }, kinds := [], alts := [], laidByText := true, laidKinds := [.data, .data, .data], laidTests := true, laidLooks := .later }
def ScanSingleCardSaid : Prop := Claim7.holds Tryz.pinned (.plain (OpenSpec.ofChange scanSingleSpec)) scanSingleCard

/-- THE TIED CARD OF 'overseerlaw54.ScanHandles'. -/
def scanHandlesCard : Claim7 := { stood := { row := scanHandlesRow, standIns := [], harness := (true, "3b6d8a840045bcb92af1b2ebe25ebd74a9b1892dbbfab4b9df2f38ebbba4e761"), looks := false }, kinds := [], alts := [], laidByText := true, laidKinds := [.data, .data, .data], laidTests := true, laidLooks := .later }
def ScanHandlesCardSaid : Prop := Claim7.holds Tryz.pinned (.plain (OpenSpec.ofChange scanHandlesSpec)) scanHandlesCard

/-- THE TIED CARD OF 'overseerlaw54.ScanDelays'. -/
def scanDelaysCard : Claim7 := { stood := { row := scanDelaysRow, standIns := [], harness := (true, "3b6d8a840045bcb92af1b2ebe25ebd74a9b1892dbbfab4b9df2f38ebbba4e761"), looks := false }, kinds := [], alts := [], laidByText := true, laidKinds := [.data, .data, .data], laidTests := true, laidLooks := .later }
def ScanDelaysCardSaid : Prop := Claim7.holds Tryz.pinned (.plain (OpenSpec.ofChange scanDelaysSpec)) scanDelaysCard

/-- THE TIED CARD OF 'overseerlaw54.ScanOrders'. -/
def scanOrdersCard : Claim7 := { stood := { row := scanOrdersRow, standIns := [], harness := (true, "3b6d8a840045bcb92af1b2ebe25ebd74a9b1892dbbfab4b9df2f38ebbba4e761"), looks := false }, kinds := [], alts := [], laidByText := true, laidKinds := [.data, .data, .data], laidTests := true, laidLooks := .later }
def ScanOrdersCardSaid : Prop := Claim7.holds Tryz.pinned (.plain (OpenSpec.ofChange scanOrdersSpec)) scanOrdersCard

/-- THE TIED CARD OF 'overseerlaw54.ScanHolds'. -/
def scanHoldsCard : Claim7 := { stood := { row := scanHoldsRow, standIns := [], harness := (true, "3b6d8a840045bcb92af1b2ebe25ebd74a9b1892dbbfab4b9df2f38ebbba4e761"), looks := false }, kinds := [], alts := [], laidByText := true, laidKinds := [.data, .data, .data], laidTests := true, laidLooks := .later }
def ScanHoldsCardSaid : Prop := Claim7.holds Tryz.pinned (.plain (OpenSpec.ofChange scanHoldsSpec)) scanHoldsCard

/-- THE TIED CARD OF 'overseerlaw54.ScanVerifies'. -/
def scanVerifiesCard : Claim7 := { stood := { row := scanVerifiesRow, standIns := [], harness := (true, "3b6d8a840045bcb92af1b2ebe25ebd74a9b1892dbbfab4b9df2f38ebbba4e761"), looks := false }, kinds := [], alts := [], laidByText := true, laidKinds := [.data, .data, .data], laidTests := true, laidLooks := .later }
def ScanVerifiesCardSaid : Prop := Claim7.holds Tryz.pinned (.plain (OpenSpec.ofChange scanVerifiesSpec)) scanVerifiesCard

/-- THE TIED CARD OF 'overseerlaw54.ScanChoices'. -/
def scanChoicesCard : Claim7 := { stood := { row := scanChoicesRow, standIns := [], harness := (true, "3b6d8a840045bcb92af1b2ebe25ebd74a9b1892dbbfab4b9df2f38ebbba4e761"), looks := false }, kinds := [], alts := [], laidByText := true, laidKinds := [.data, .data, .data], laidTests := true, laidLooks := .later }
def ScanChoicesCardSaid : Prop := Claim7.holds Tryz.pinned (.plain (OpenSpec.ofChange scanChoicesSpec)) scanChoicesCard

/-- THE SECOND FORM's CARD OF 'overseerlaw54.ScanErrors'. -/
def scanErrorsUptoCard : Claim7 := { stood := { row := scanErrorsUptoRow, standIns := [], harness := (true, "3b6d8a840045bcb92af1b2ebe25ebd74a9b1892dbbfab4b9df2f38ebbba4e761"), looks := false }, kinds := [], alts := [], laidByText := true, laidKinds := [.data, .data, .data], laidTests := true, laidLooks := .later }
def ScanErrorsUptoCardSaid : Prop := Claim7.holds Tryz.pinned (.plain (OpenSpec.upto scanErrorsSpec)) scanErrorsUptoCard

/-- THE SECOND FORM's CARD OF 'overseerlaw54.ScanSingle'. -/
def scanSingleUptoCard : Claim7 := { stood := { row := scanSingleUptoRow, standIns := [], harness := (true, "3b6d8a840045bcb92af1b2ebe25ebd74a9b1892dbbfab4b9df2f38ebbba4e761"), looks := false }, kinds := [], alts := [], laidByText := true, laidKinds := [.data, .data, .data], laidTests := true, laidLooks := .later }
def ScanSingleUptoCardSaid : Prop := Claim7.holds Tryz.pinned (.plain (OpenSpec.upto scanSingleSpec)) scanSingleUptoCard

/-- THE SECOND FORM's CARD OF 'overseerlaw54.ScanHandles'. -/
def scanHandlesUptoCard : Claim7 := { stood := { row := scanHandlesUptoRow, standIns := [], harness := (true, "3b6d8a840045bcb92af1b2ebe25ebd74a9b1892dbbfab4b9df2f38ebbba4e761"), looks := false }, kinds := [], alts := [], laidByText := true, laidKinds := [.data, .data, .data], laidTests := true, laidLooks := .later }
def ScanHandlesUptoCardSaid : Prop := Claim7.holds Tryz.pinned (.plain (OpenSpec.upto scanHandlesSpec)) scanHandlesUptoCard

/-- THE SECOND FORM's CARD OF 'overseerlaw54.ScanDelays'. -/
def scanDelaysUptoCard : Claim7 := { stood := { row := scanDelaysUptoRow, standIns := [], harness := (true, "3b6d8a840045bcb92af1b2ebe25ebd74a9b1892dbbfab4b9df2f38ebbba4e761"), looks := false }, kinds := [], alts := [], laidByText := true, laidKinds := [.data, .data, .data], laidTests := true, laidLooks := .later }
def ScanDelaysUptoCardSaid : Prop := Claim7.holds Tryz.pinned (.plain (OpenSpec.upto scanDelaysSpec)) scanDelaysUptoCard

/-- THE SECOND FORM's CARD OF 'overseerlaw54.ScanOrders'. -/
def scanOrdersUptoCard : Claim7 := { stood := { row := scanOrdersUptoRow, standIns := [], harness := (true, "3b6d8a840045bcb92af1b2ebe25ebd74a9b1892dbbfab4b9df2f38ebbba4e761"), looks := false }, kinds := [], alts := [], laidByText := true, laidKinds := [.data, .data, .data], laidTests := true, laidLooks := .later }
def ScanOrdersUptoCardSaid : Prop := Claim7.holds Tryz.pinned (.plain (OpenSpec.upto scanOrdersSpec)) scanOrdersUptoCard

/-- THE SECOND FORM's CARD OF 'overseerlaw54.ScanHolds'. -/
def scanHoldsUptoCard : Claim7 := { stood := { row := scanHoldsUptoRow, standIns := [], harness := (true, "3b6d8a840045bcb92af1b2ebe25ebd74a9b1892dbbfab4b9df2f38ebbba4e761"), looks := false }, kinds := [], alts := [], laidByText := true, laidKinds := [.data, .data, .data], laidTests := true, laidLooks := .later }
def ScanHoldsUptoCardSaid : Prop := Claim7.holds Tryz.pinned (.plain (OpenSpec.upto scanHoldsSpec)) scanHoldsUptoCard

/-- THE SECOND FORM's CARD OF 'overseerlaw54.ScanVerifies'. -/
def scanVerifiesUptoCard : Claim7 := { stood := { row := scanVerifiesUptoRow, standIns := [], harness := (true, "3b6d8a840045bcb92af1b2ebe25ebd74a9b1892dbbfab4b9df2f38ebbba4e761"), looks := false }, kinds := [], alts := [], laidByText := true, laidKinds := [.data, .data, .data], laidTests := true, laidLooks := .later }
def ScanVerifiesUptoCardSaid : Prop := Claim7.holds Tryz.pinned (.plain (OpenSpec.upto scanVerifiesSpec)) scanVerifiesUptoCard

/-- THE SECOND FORM's CARD OF 'overseerlaw54.ScanChoices'. -/
def scanChoicesUptoCard : Claim7 := { stood := { row := scanChoicesUptoRow, standIns := [], harness := (true, "3b6d8a840045bcb92af1b2ebe25ebd74a9b1892dbbfab4b9df2f38ebbba4e761"), looks := false }, kinds := [], alts := [], laidByText := true, laidKinds := [.data, .data, .data], laidTests := true, laidLooks := .later }
def ScanChoicesUptoCardSaid : Prop := Claim7.holds Tryz.pinned (.plain (OpenSpec.upto scanChoicesSpec)) scanChoicesUptoCard
end Rows
end Go.Proofs.YtidakgbibobbdaaGreatDoor
