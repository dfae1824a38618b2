/-
  DERIVED. GIVEN WITH THE SEED: THE CARDS: each row of YtnoopajedgllhaaGreatDoorRows.lean that lists a variable, with what it lists TIED to the program's text (the seventh form; the later family's looks); each row that meets fmt, with fmt's text TOLD by the authors' own Lean function (tested against real Go, not proved from fmt's source: count such statements apart). THE CARD IS WHAT COUNTS. Prove the row's statement (the work); the ties are given (YtnoopajedgllhaaGreatDoorTie.lean); close each card by the builder's one call (the guide's Derived/Test/ToyasCard.lean, 'card_holds'). Laid BY PROGRAM, IN A SANDBOX (cutbox-door.mjs). By AI agents, Wed Nov 11 2026. No macro, syntax, notation, axiom, sorry.
-/
import Derived.Test.YtnoopajedgllhaaGreatDoorRows
import GoSem.ClaimSeven
namespace Go.Proofs.YtnoopajedgllhaaGreatDoor
namespace Rows

/-- THE TIED CARD OF 'foliotlaw09.EventLinks'. -/
def eventLinksCard : Claim7 := { stood := { row := eventLinksRow, standIns := [], harness := (true, "4b3218cb5e3d7a7725387545c9162fb28d96c5128efddd2631008384ba05d9fe"), looks := false }, kinds := [], alts := [], laidByText := true, laidKinds := [.data, .data, .data], laidTests := true, laidLooks := .later }
def EventLinksCardSaid : Prop := Claim7.holds Tryz.pinned (.plain (OpenSpec.ofChange eventLinksSpec)) eventLinksCard

/-- THE SECOND FORM's CARD OF 'foliotlaw09.EventLinks'. -/
def eventLinksUptoCard : Claim7 := { stood := { row := eventLinksUptoRow, standIns := [], harness := (true, "4b3218cb5e3d7a7725387545c9162fb28d96c5128efddd2631008384ba05d9fe"), looks := false }, kinds := [], alts := [], laidByText := true, laidKinds := [.data, .data, .data], laidTests := true, laidLooks := .later }
def EventLinksUptoCardSaid : Prop := Claim7.holds Tryz.pinned (.plain (OpenSpec.upto eventLinksSpec)) eventLinksUptoCard
end Rows
end Go.Proofs.YtnoopajedgllhaaGreatDoor
