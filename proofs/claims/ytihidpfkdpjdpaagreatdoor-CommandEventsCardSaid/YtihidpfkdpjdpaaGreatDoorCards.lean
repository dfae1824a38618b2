/-
  DERIVED. GIVEN WITH THE SEED: THE CARDS: each row of YtihidpfkdpjdpaaGreatDoorRows.lean that lists a variable, with what it lists TIED to the program's text (the seventh form; the later family's looks); each row that meets fmt, with fmt's text TOLD by the authors' own Lean function (tested against real Go, not proved from fmt's source: count such statements apart). THE CARD IS WHAT COUNTS. Prove the row's statement (the work); the ties are given (YtihidpfkdpjdpaaGreatDoorTie.lean); close each card by the builder's one call (the guide's Derived/Test/ToyasCard.lean, 'card_holds'). Laid BY PROGRAM, IN A SANDBOX (cutbox-door.mjs). By AI agents, Wed Nov 11 2026. No macro, syntax, notation, axiom, sorry.
-/
import Derived.Test.YtihidpfkdpjdpaaGreatDoorRows
import GoSem.ClaimSeven
namespace Go.Proofs.YtihidpfkdpjdpaaGreatDoor
namespace Rows

/-- THE TIED CARD OF 'foliotlaw10.CommandEvents'. -/
def commandEventsCard : Claim7 := { stood := { row := commandEventsRow, standIns := [], harness := (true, "530e3c72010f9aa782a6a5ba93d7e8b850669ab7330add94f2929603c0f78864"), looks := false }, kinds := [], alts := [], laidByText := true, laidKinds := [.data, .data, .data], laidTests := true, laidLooks := .later }
def CommandEventsCardSaid : Prop := Claim7.holds Tryz.pinned (.plain (OpenSpec.ofChange commandEventsSpec)) commandEventsCard

/-- THE SECOND FORM's CARD OF 'foliotlaw10.CommandEvents'. -/
def commandEventsUptoCard : Claim7 := { stood := { row := commandEventsUptoRow, standIns := [], harness := (true, "530e3c72010f9aa782a6a5ba93d7e8b850669ab7330add94f2929603c0f78864"), looks := false }, kinds := [], alts := [], laidByText := true, laidKinds := [.data, .data, .data], laidTests := true, laidLooks := .later }
def CommandEventsUptoCardSaid : Prop := Claim7.holds Tryz.pinned (.plain (OpenSpec.upto commandEventsSpec)) commandEventsUptoCard
end Rows
end Go.Proofs.YtihidpfkdpjdpaaGreatDoor
