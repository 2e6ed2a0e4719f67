/-
  DERIVED. GIVEN WITH THE SEED: THE CARDS: each row of YtfbapajcheammaaGreatDoorRows.lean that lists a variable, with what it lists TIED to the program's text (the seventh form; the later family's looks); each row that meets fmt, with fmt's text TOLD by the authors' own Lean function (tested against real Go, not proved from fmt's source: count such statements apart). THE CARD IS WHAT COUNTS. Prove the row's statement (the work); the ties are given (YtfbapajcheammaaGreatDoorTie.lean); close each card by the builder's one call (the guide's Derived/Test/ToyasCard.lean, 'card_holds'). Laid BY PROGRAM, IN A SANDBOX (cutbox-door.mjs). By AI agents, Wed Nov 11 2026. No macro, syntax, notation, axiom, sorry.
-/
import Derived.Test.YtfbapajcheammaaGreatDoorRows
import GoSem.ClaimSeven
namespace Go.Proofs.YtfbapajcheammaaGreatDoor
namespace Rows

/-- THE TIED CARD OF 'overseerlaw24.BlockingTrims'. -/
def blockingTrimsCard : Claim7 := { stood := { row := blockingTrimsRow, standIns := [], harness := (true, "ef0a450e5b5650f094be5e3e14a99296c24c962927f3672d8926ed23326d0a91"), looks := false }, kinds := [], alts := [], laidByText := true, laidKinds := [.data, .data, .data], laidTests := true, laidLooks := .later }
def BlockingTrimsCardSaid : Prop := Claim7.holds Tryz.pinned (.plain (OpenSpec.ofChange blockingTrimsSpec)) blockingTrimsCard

/-- THE TIED CARD OF 'overseerlaw24.BlockingRefuses'. -/
def blockingRefusesCard : Claim7 := { stood := { row := blockingRefusesRow, standIns := [], harness := (true, "ef0a450e5b5650f094be5e3e14a99296c24c962927f3672d8926ed23326d0a91"), looks := false }, kinds := [], alts := [], laidByText := true, laidKinds := [.data, .data, .data], laidTests := true, laidLooks := .later }
def BlockingRefusesCardSaid : Prop := Claim7.holds Tryz.pinned (.plain (OpenSpec.ofChange blockingRefusesSpec)) blockingRefusesCard

/-- THE TIED CARD OF 'overseerlaw24.BlockingTraps'. -/
def blockingTrapsCard : Claim7 := { stood := { row := blockingTrapsRow, standIns := [], harness := (true, "ef0a450e5b5650f094be5e3e14a99296c24c962927f3672d8926ed23326d0a91"), looks := false }, kinds := [], alts := [], laidByText := true, laidKinds := [.data, .data, .data], laidTests := true, laidLooks := .later }
def BlockingTrapsCardSaid : Prop := Claim7.holds Tryz.pinned (.plain (OpenSpec.ofChange blockingTrapsSpec)) blockingTrapsCard

/-- THE SECOND FORM's CARD OF 'overseerlaw24.BlockingTrims'. -/
def blockingTrimsUptoCard : Claim7 := { stood := { row := blockingTrimsUptoRow, standIns := [], harness := (true, "ef0a450e5b5650f094be5e3e14a99296c24c962927f3672d8926ed23326d0a91"), looks := false }, kinds := [], alts := [], laidByText := true, laidKinds := [.data, .data, .data], laidTests := true, laidLooks := .later }
def BlockingTrimsUptoCardSaid : Prop := Claim7.holds Tryz.pinned (.plain (OpenSpec.upto blockingTrimsSpec)) blockingTrimsUptoCard

/-- THE SECOND FORM's CARD OF 'overseerlaw24.BlockingRefuses'. -/
def blockingRefusesUptoCard : Claim7 := { stood := { row := blockingRefusesUptoRow, standIns := [], harness := (true, "ef0a450e5b5650f094be5e3e14a99296c24c962927f3672d8926ed23326d0a91"), looks := false }, kinds := [], alts := [], laidByText := true, laidKinds := [.data, .data, .data], laidTests := true, laidLooks := .later }
def BlockingRefusesUptoCardSaid : Prop := Claim7.holds Tryz.pinned (.plain (OpenSpec.upto blockingRefusesSpec)) blockingRefusesUptoCard

/-- THE SECOND FORM's CARD OF 'overseerlaw24.BlockingTraps'. -/
def blockingTrapsUptoCard : Claim7 := { stood := { row := blockingTrapsUptoRow, standIns := [], harness := (true, "ef0a450e5b5650f094be5e3e14a99296c24c962927f3672d8926ed23326d0a91"), looks := false }, kinds := [], alts := [], laidByText := true, laidKinds := [.data, .data, .data], laidTests := true, laidLooks := .later }
def BlockingTrapsUptoCardSaid : Prop := Claim7.holds Tryz.pinned (.plain (OpenSpec.upto blockingTrapsSpec)) blockingTrapsUptoCard
end Rows
end Go.Proofs.YtfbapajcheammaaGreatDoor
