/-
  DERIVED. GIVEN WITH THE SEED: THE CARDS: each row of YtfbapajcheammaaDoorRows.lean that lists a variable, with what it lists TIED to the program's text (the seventh form; the later family's looks); each row that meets fmt, with fmt's text TOLD by the authors' own Lean function (tested against real Go, not proved from fmt's source: count such statements apart). THE CARD IS WHAT COUNTS. Prove the row's statement (the work); the ties are given (YtfbapajcheammaaDoorTie.lean); close each card by the builder's one call (the guide's Derived/Test/ToyasCard.lean, 'card_holds'). Laid BY PROGRAM, IN A SANDBOX (cutbox-door.mjs). By AI agents, Wed Nov 11 2026. No macro, syntax, notation, axiom, sorry.
-/
import Derived.Test.YtfbapajcheammaaDoorRows
import GoSem.ClaimSeven
namespace Go.Proofs.YtfbapajcheammaaDoor
namespace Rows

/-- THE TIED CARD OF 'overseerlaw24.BlockingProducts'. -/
def blockingProductsCard : Claim7 := { stood := { row := blockingProductsRow, standIns := [], harness := (true, "04b4984385588a06ce930520a54a8f7a5b96a2dbce59b8f279a2e7206054670f"), looks := false }, kinds := [], alts := [], laidByText := true, laidKinds := [.data, .data, .data], laidTests := true, laidLooks := .later }
def BlockingProductsCardSaid : Prop := Claim7.holds Tryd.pinned (.plain (OpenSpec.ofChange blockingProductsSpec)) blockingProductsCard

/-- THE TIED CARD OF 'overseerlaw24.BlockingCulprits'. -/
def blockingCulpritsCard : Claim7 := { stood := { row := blockingCulpritsRow, standIns := [], harness := (true, "04b4984385588a06ce930520a54a8f7a5b96a2dbce59b8f279a2e7206054670f"), looks := false }, kinds := [], alts := [], laidByText := true, laidKinds := [.data, .data, .data], laidTests := true, laidLooks := .later }
def BlockingCulpritsCardSaid : Prop := Claim7.holds Tryd.pinned (.plain (OpenSpec.ofChange blockingCulpritsSpec)) blockingCulpritsCard

/-- THE TIED CARD OF 'overseerlaw24.BlockingKinds'. -/
def blockingKindsCard : Claim7 := { stood := { row := blockingKindsRow, standIns := [], harness := (true, "04b4984385588a06ce930520a54a8f7a5b96a2dbce59b8f279a2e7206054670f"), looks := false }, kinds := [], alts := [], laidByText := true, laidKinds := [.data, .data, .data], laidTests := true, laidLooks := .later }
def BlockingKindsCardSaid : Prop := Claim7.holds Tryd.pinned (.plain (OpenSpec.ofChange blockingKindsSpec)) blockingKindsCard

/-- THE TIED CARD OF 'overseerlaw24.BlockingEscapes'. -/
def blockingEscapesCard : Claim7 := { stood := { row := blockingEscapesRow, standIns := [], harness := (true, "04b4984385588a06ce930520a54a8f7a5b96a2dbce59b8f279a2e7206054670f"), looks := false }, kinds := [], alts := [], laidByText := true, laidKinds := [.data, .data, .data], laidTests := true, laidLooks := .later }
def BlockingEscapesCardSaid : Prop := Claim7.holds Tryd.pinned (.plain (OpenSpec.ofChange blockingEscapesSpec)) blockingEscapesCard

/-- THE TIED CARD OF 'overseerlaw24.BlockingVerifies'. -/
def blockingVerifiesCard : Claim7 := { stood := { row := blockingVerifiesRow, standIns := [], harness := (true, "04b4984385588a06ce930520a54a8f7a5b96a2dbce59b8f279a2e7206054670f"), looks := false }, kinds := [], alts := [], laidByText := true, laidKinds := [.data, .data, .data], laidTests := true, laidLooks := .later }
def BlockingVerifiesCardSaid : Prop := Claim7.holds Tryd.pinned (.plain (OpenSpec.ofChange blockingVerifiesSpec)) blockingVerifiesCard

/-- THE SECOND FORM's CARD OF 'overseerlaw24.BlockingProducts'. -/
def blockingProductsUptoCard : Claim7 := { stood := { row := blockingProductsUptoRow, standIns := [], harness := (true, "04b4984385588a06ce930520a54a8f7a5b96a2dbce59b8f279a2e7206054670f"), looks := false }, kinds := [], alts := [], laidByText := true, laidKinds := [.data, .data, .data], laidTests := true, laidLooks := .later }
def BlockingProductsUptoCardSaid : Prop := Claim7.holds Tryd.pinned (.plain (OpenSpec.upto blockingProductsSpec)) blockingProductsUptoCard

/-- THE SECOND FORM's CARD OF 'overseerlaw24.BlockingCulprits'. -/
def blockingCulpritsUptoCard : Claim7 := { stood := { row := blockingCulpritsUptoRow, standIns := [], harness := (true, "04b4984385588a06ce930520a54a8f7a5b96a2dbce59b8f279a2e7206054670f"), looks := false }, kinds := [], alts := [], laidByText := true, laidKinds := [.data, .data, .data], laidTests := true, laidLooks := .later }
def BlockingCulpritsUptoCardSaid : Prop := Claim7.holds Tryd.pinned (.plain (OpenSpec.upto blockingCulpritsSpec)) blockingCulpritsUptoCard

/-- THE SECOND FORM's CARD OF 'overseerlaw24.BlockingKinds'. -/
def blockingKindsUptoCard : Claim7 := { stood := { row := blockingKindsUptoRow, standIns := [], harness := (true, "04b4984385588a06ce930520a54a8f7a5b96a2dbce59b8f279a2e7206054670f"), looks := false }, kinds := [], alts := [], laidByText := true, laidKinds := [.data, .data, .data], laidTests := true, laidLooks := .later }
def BlockingKindsUptoCardSaid : Prop := Claim7.holds Tryd.pinned (.plain (OpenSpec.upto blockingKindsSpec)) blockingKindsUptoCard

/-- THE SECOND FORM's CARD OF 'overseerlaw24.BlockingEscapes'. -/
def blockingEscapesUptoCard : Claim7 := { stood := { row := blockingEscapesUptoRow, standIns := [], harness := (true, "04b4984385588a06ce930520a54a8f7a5b96a2dbce59b8f279a2e7206054670f"), looks := false }, kinds := [], alts := [], laidByText := true, laidKinds := [.data, .data, .data], laidTests := true, laidLooks := .later }
def BlockingEscapesUptoCardSaid : Prop := Claim7.holds Tryd.pinned (.plain (OpenSpec.upto blockingEscapesSpec)) blockingEscapesUptoCard

/-- THE SECOND FORM's CARD OF 'overseerlaw24.BlockingVerifies'. -/
def blockingVerifiesUptoCard : Claim7 := { stood := { row := blockingVerifiesUptoRow, standIns := [], harness := (true, "04b4984385588a06ce930520a54a8f7a5b96a2dbce59b8f279a2e7206054670f"), looks := false }, kinds := [], alts := [], laidByText := true, laidKinds := [.data, .data, .data], laidTests := true, laidLooks := .later }
def BlockingVerifiesUptoCardSaid : Prop := Claim7.holds Tryd.pinned (.plain (OpenSpec.upto blockingVerifiesSpec)) blockingVerifiesUptoCard
end Rows
end Go.Proofs.YtfbapajcheammaaDoor
