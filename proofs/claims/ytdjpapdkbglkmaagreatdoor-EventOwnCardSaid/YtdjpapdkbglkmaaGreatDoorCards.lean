/-
  DERIVED. GIVEN WITH THE SEED: THE CARDS: each row of YtdjpapdkbglkmaaGreatDoorRows.lean that lists a variable, with what it lists TIED to the program's text (the seventh form; the later family's looks); each row that meets fmt, with fmt's text TOLD by the authors' own Lean function (tested against real Go, not proved from fmt's source: count such statements apart). THE CARD IS WHAT COUNTS. Prove the row's statement (the work); the ties are given (YtdjpapdkbglkmaaGreatDoorTie.lean); close each card by the builder's one call (the guide's Derived/Test/ToyasCard.lean, 'card_holds'). Laid BY PROGRAM, IN A SANDBOX (cutbox-door.mjs). By AI agents, Wed Nov 11 2026. No macro, syntax, notation, axiom, sorry.
-/
import Derived.Test.YtdjpapdkbglkmaaGreatDoorRows
import GoSem.ClaimSeven
namespace Go.Proofs.YtdjpapdkbglkmaaGreatDoor
namespace Rows

/-- THE TIED CARD OF 'foliotlaw09.EventChecks'. -/
def eventChecksCard : Claim7 := { stood := { row := eventChecksRow, standIns := [], harness := (true, "6d79a8b92579eb92e2beacc91967be91d1cc85e19c53bf97907fdbeeb66c64be"), looks := false }, kinds := [], alts := [], laidByText := true, laidKinds := [.data, .data, .data], laidTests := true, laidLooks := .later }
def EventChecksCardSaid : Prop := Claim7.holds Tryz.pinned (.plain (OpenSpec.ofChange eventChecksSpec)) eventChecksCard

/-- THE TIED CARD OF 'foliotlaw09.EventPrints'. -/
def eventPrintsCard : Claim7 := { stood := { row := eventPrintsRow, standIns := [], harness := (true, "6d79a8b92579eb92e2beacc91967be91d1cc85e19c53bf97907fdbeeb66c64be"), looks := false }, kinds := [], alts := [], laidByText := true, laidKinds := [.data, .data, .data], laidTests := true, laidLooks := .later }
def EventPrintsCardSaid : Prop := Claim7.holds Tryz.pinned (.plain (OpenSpec.ofChange eventPrintsSpec)) eventPrintsCard

/-- THE TIED CARD OF 'foliotlaw09.EventErases'. -/
def eventErasesCard : Claim7 := { stood := { row := eventErasesRow, standIns := [], harness := (true, "6d79a8b92579eb92e2beacc91967be91d1cc85e19c53bf97907fdbeeb66c64be"), looks := false }, kinds := [], alts := [], laidByText := true, laidKinds := [.data, .data, .data], laidTests := true, laidLooks := .later }
def EventErasesCardSaid : Prop := Claim7.holds Tryz.pinned (.plain (OpenSpec.ofChange eventErasesSpec)) eventErasesCard

/-- THE TIED CARD OF 'foliotlaw09.EventOwn'. -/
def eventOwnCard : Claim7 := { stood := { row := eventOwnRow, standIns := [], harness := (true, "6d79a8b92579eb92e2beacc91967be91d1cc85e19c53bf97907fdbeeb66c64be"), looks := false }, kinds := [], alts := [], laidByText := true, laidKinds := [.data, .data, .data], laidTests := true, laidLooks := .later }
def EventOwnCardSaid : Prop := Claim7.holds Tryz.pinned (.plain (OpenSpec.ofChange eventOwnSpec)) eventOwnCard

/-- THE TIED CARD OF 'foliotlaw09.EventLinks'. -/
def eventLinksCard : Claim7 := { stood := { row := eventLinksRow, standIns := [], harness := (true, "6d79a8b92579eb92e2beacc91967be91d1cc85e19c53bf97907fdbeeb66c64be"), looks := false }, kinds := [], alts := [], laidByText := true, laidKinds := [.data, .data, .data], laidTests := true, laidLooks := .later }
def EventLinksCardSaid : Prop := Claim7.holds Tryz.pinned (.plain (OpenSpec.ofChange eventLinksSpec)) eventLinksCard

/-- THE SECOND FORM's CARD OF 'foliotlaw09.EventChecks'. -/
def eventChecksUptoCard : Claim7 := { stood := { row := eventChecksUptoRow, standIns := [], harness := (true, "6d79a8b92579eb92e2beacc91967be91d1cc85e19c53bf97907fdbeeb66c64be"), looks := false }, kinds := [], alts := [], laidByText := true, laidKinds := [.data, .data, .data], laidTests := true, laidLooks := .later }
def EventChecksUptoCardSaid : Prop := Claim7.holds Tryz.pinned (.plain (OpenSpec.upto eventChecksSpec)) eventChecksUptoCard

/-- THE SECOND FORM's CARD OF 'foliotlaw09.EventPrints'. -/
def eventPrintsUptoCard : Claim7 := { stood := { row := eventPrintsUptoRow, standIns := [], harness := (true, "6d79a8b92579eb92e2beacc91967be91d1cc85e19c53bf97907fdbeeb66c64be"), looks := false }, kinds := [], alts := [], laidByText := true, laidKinds := [.data, .data, .data], laidTests := true, laidLooks := .later }
def EventPrintsUptoCardSaid : Prop := Claim7.holds Tryz.pinned (.plain (OpenSpec.upto eventPrintsSpec)) eventPrintsUptoCard

/-- THE SECOND FORM's CARD OF 'foliotlaw09.EventErases'. -/
def eventErasesUptoCard : Claim7 := { stood := { row := eventErasesUptoRow, standIns := [], harness := (true, "6d79a8b92579eb92e2beacc91967be91d1cc85e19c53bf97907fdbeeb66c64be"), looks := false }, kinds := [], alts := [], laidByText := true, laidKinds := [.data, .data, .data], laidTests := true, laidLooks := .later }
def EventErasesUptoCardSaid : Prop := Claim7.holds Tryz.pinned (.plain (OpenSpec.upto eventErasesSpec)) eventErasesUptoCard

/-- THE SECOND FORM's CARD OF 'foliotlaw09.EventOwn'. -/
def eventOwnUptoCard : Claim7 := { stood := { row := eventOwnUptoRow, standIns := [], harness := (true, "6d79a8b92579eb92e2beacc91967be91d1cc85e19c53bf97907fdbeeb66c64be"), looks := false }, kinds := [], alts := [], laidByText := true, laidKinds := [.data, .data, .data], laidTests := true, laidLooks := .later }
def EventOwnUptoCardSaid : Prop := Claim7.holds Tryz.pinned (.plain (OpenSpec.upto eventOwnSpec)) eventOwnUptoCard

/-- THE SECOND FORM's CARD OF 'foliotlaw09.EventLinks'. -/
def eventLinksUptoCard : Claim7 := { stood := { row := eventLinksUptoRow, standIns := [], harness := (true, "6d79a8b92579eb92e2beacc91967be91d1cc85e19c53bf97907fdbeeb66c64be"), looks := false }, kinds := [], alts := [], laidByText := true, laidKinds := [.data, .data, .data], laidTests := true, laidLooks := .later }
def EventLinksUptoCardSaid : Prop := Claim7.holds Tryz.pinned (.plain (OpenSpec.upto eventLinksSpec)) eventLinksUptoCard
end Rows
end Go.Proofs.YtdjpapdkbglkmaaGreatDoor
