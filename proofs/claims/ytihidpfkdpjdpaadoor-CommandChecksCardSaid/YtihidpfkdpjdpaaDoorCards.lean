/-
  DERIVED. GIVEN WITH THE SEED: THE CARDS: each row of YtihidpfkdpjdpaaDoorRows.lean that lists a variable, with what it lists TIED to the program's text (the seventh form; the later family's looks); each row that meets fmt, with fmt's text TOLD by the authors' own Lean function (tested against real Go, not proved from fmt's source: count such statements apart). THE CARD IS WHAT COUNTS. Prove the row's statement (the work); the ties are given (YtihidpfkdpjdpaaDoorTie.lean); close each card by the builder's one call (the guide's Derived/Test/ToyasCard.lean, 'card_holds'). Laid BY PROGRAM, IN A SANDBOX (cutbox-door.mjs). By AI agents, Wed Nov 11 2026. No macro, syntax, notation, axiom, sorry.
-/
import Derived.Test.YtihidpfkdpjdpaaDoorRows
import GoSem.ClaimSeven
namespace Go.Proofs.YtihidpfkdpjdpaaDoor
namespace Rows

/-- THE TIED CARD OF 'foliotlaw10.CommandChecks'. -/
def commandChecksCard : Claim7 := { stood := { row := commandChecksRow, standIns := [], harness := (true, "abb1f3779c7642cfecd4b00963b7bdad733a766e87092ff112feda44086efec1"), looks := false }, kinds := [], alts := [], laidByText := true, laidKinds := [.data, .data, .data], laidTests := true, laidLooks := .later }
def CommandChecksCardSaid : Prop := Claim7.holds Tryd.pinned (.plain (OpenSpec.ofChange commandChecksSpec)) commandChecksCard

/-- THE TIED CARD OF 'foliotlaw10.CommandDecodes'. -/
def commandDecodesCard : Claim7 := { stood := { row := commandDecodesRow, standIns := [], harness := (true, "abb1f3779c7642cfecd4b00963b7bdad733a766e87092ff112feda44086efec1"), looks := false }, kinds := [], alts := [], laidByText := true, laidKinds := [.data, .data, .data], laidTests := true, laidLooks := .later }
def CommandDecodesCardSaid : Prop := Claim7.holds Tryd.pinned (.plain (OpenSpec.ofChange commandDecodesSpec)) commandDecodesCard

/-- THE TIED CARD OF 'foliotlaw10.CommandMany'. -/
def commandManyCard : Claim7 := { stood := { row := commandManyRow, standIns := [], harness := (true, "abb1f3779c7642cfecd4b00963b7bdad733a766e87092ff112feda44086efec1"), looks := false }, kinds := [], alts := [], laidByText := true, laidKinds := [.data, .data, .data], laidTests := true, laidLooks := .later }
def CommandManyCardSaid : Prop := Claim7.holds Tryd.pinned (.plain (OpenSpec.ofChange commandManySpec)) commandManyCard

/-- THE TIED CARD OF 'foliotlaw10.CommandPrints'. -/
def commandPrintsCard : Claim7 := { stood := { row := commandPrintsRow, standIns := [], harness := (true, "abb1f3779c7642cfecd4b00963b7bdad733a766e87092ff112feda44086efec1"), looks := false }, kinds := [], alts := [], laidByText := true, laidKinds := [.data, .data, .data], laidTests := true, laidLooks := .later }
def CommandPrintsCardSaid : Prop := Claim7.holds Tryd.pinned (.plain (OpenSpec.ofChange commandPrintsSpec)) commandPrintsCard

/-- THE TIED CARD OF 'foliotlaw10.CommandKinds'. -/
def commandKindsCard : Claim7 := { stood := { row := commandKindsRow, standIns := [], harness := (true, "abb1f3779c7642cfecd4b00963b7bdad733a766e87092ff112feda44086efec1"), looks := false }, kinds := [], alts := [], laidByText := true, laidKinds := [.data, .data, .data], laidTests := true, laidLooks := .later }
def CommandKindsCardSaid : Prop := Claim7.holds Tryd.pinned (.plain (OpenSpec.ofChange commandKindsSpec)) commandKindsCard

/-- THE TIED CARD OF 'foliotlaw10.CommandSaturates'. -/
def commandSaturatesCard : Claim7 := { stood := { row := commandSaturatesRow, standIns := [], harness := (true, "abb1f3779c7642cfecd4b00963b7bdad733a766e87092ff112feda44086efec1"), looks := false }, kinds := [], alts := [], laidByText := true, laidKinds := [.data, .data, .data], laidTests := true, laidLooks := .later }
def CommandSaturatesCardSaid : Prop := Claim7.holds Tryd.pinned (.plain (OpenSpec.ofChange commandSaturatesSpec)) commandSaturatesCard

/-- THE TIED CARD OF 'foliotlaw10.CommandOwn'. -/
def commandOwnCard : Claim7 := { stood := { row := commandOwnRow, standIns := [], harness := (true, "abb1f3779c7642cfecd4b00963b7bdad733a766e87092ff112feda44086efec1"), looks := false }, kinds := [], alts := [], laidByText := true, laidKinds := [.data, .data, .data], laidTests := true, laidLooks := .later }
def CommandOwnCardSaid : Prop := Claim7.holds Tryd.pinned (.plain (OpenSpec.ofChange commandOwnSpec)) commandOwnCard

/-- THE SECOND FORM's CARD OF 'foliotlaw10.CommandChecks'. -/
def commandChecksUptoCard : Claim7 := { stood := { row := commandChecksUptoRow, standIns := [], harness := (true, "abb1f3779c7642cfecd4b00963b7bdad733a766e87092ff112feda44086efec1"), looks := false }, kinds := [], alts := [], laidByText := true, laidKinds := [.data, .data, .data], laidTests := true, laidLooks := .later }
def CommandChecksUptoCardSaid : Prop := Claim7.holds Tryd.pinned (.plain (OpenSpec.upto commandChecksSpec)) commandChecksUptoCard

/-- THE SECOND FORM's CARD OF 'foliotlaw10.CommandDecodes'. -/
def commandDecodesUptoCard : Claim7 := { stood := { row := commandDecodesUptoRow, standIns := [], harness := (true, "abb1f3779c7642cfecd4b00963b7bdad733a766e87092ff112feda44086efec1"), looks := false }, kinds := [], alts := [], laidByText := true, laidKinds := [.data, .data, .data], laidTests := true, laidLooks := .later }
def CommandDecodesUptoCardSaid : Prop := Claim7.holds Tryd.pinned (.plain (OpenSpec.upto commandDecodesSpec)) commandDecodesUptoCard

/-- THE SECOND FORM's CARD OF 'foliotlaw10.CommandMany'. -/
def commandManyUptoCard : Claim7 := { stood := { row := commandManyUptoRow, standIns := [], harness := (true, "abb1f3779c7642cfecd4b00963b7bdad733a766e87092ff112feda44086efec1"), looks := false }, kinds := [], alts := [], laidByText := true, laidKinds := [.data, .data, .data], laidTests := true, laidLooks := .later }
def CommandManyUptoCardSaid : Prop := Claim7.holds Tryd.pinned (.plain (OpenSpec.upto commandManySpec)) commandManyUptoCard

/-- THE SECOND FORM's CARD OF 'foliotlaw10.CommandPrints'. -/
def commandPrintsUptoCard : Claim7 := { stood := { row := commandPrintsUptoRow, standIns := [], harness := (true, "abb1f3779c7642cfecd4b00963b7bdad733a766e87092ff112feda44086efec1"), looks := false }, kinds := [], alts := [], laidByText := true, laidKinds := [.data, .data, .data], laidTests := true, laidLooks := .later }
def CommandPrintsUptoCardSaid : Prop := Claim7.holds Tryd.pinned (.plain (OpenSpec.upto commandPrintsSpec)) commandPrintsUptoCard

/-- THE SECOND FORM's CARD OF 'foliotlaw10.CommandKinds'. -/
def commandKindsUptoCard : Claim7 := { stood := { row := commandKindsUptoRow, standIns := [], harness := (true, "abb1f3779c7642cfecd4b00963b7bdad733a766e87092ff112feda44086efec1"), looks := false }, kinds := [], alts := [], laidByText := true, laidKinds := [.data, .data, .data], laidTests := true, laidLooks := .later }
def CommandKindsUptoCardSaid : Prop := Claim7.holds Tryd.pinned (.plain (OpenSpec.upto commandKindsSpec)) commandKindsUptoCard

/-- THE SECOND FORM's CARD OF 'foliotlaw10.CommandSaturates'. -/
def commandSaturatesUptoCard : Claim7 := { stood := { row := commandSaturatesUptoRow, standIns := [], harness := (true, "abb1f3779c7642cfecd4b00963b7bdad733a766e87092ff112feda44086efec1"), looks := false }, kinds := [], alts := [], laidByText := true, laidKinds := [.data, .data, .data], laidTests := true, laidLooks := .later }
def CommandSaturatesUptoCardSaid : Prop := Claim7.holds Tryd.pinned (.plain (OpenSpec.upto commandSaturatesSpec)) commandSaturatesUptoCard

/-- THE SECOND FORM's CARD OF 'foliotlaw10.CommandOwn'. -/
def commandOwnUptoCard : Claim7 := { stood := { row := commandOwnUptoRow, standIns := [], harness := (true, "abb1f3779c7642cfecd4b00963b7bdad733a766e87092ff112feda44086efec1"), looks := false }, kinds := [], alts := [], laidByText := true, laidKinds := [.data, .data, .data], laidTests := true, laidLooks := .later }
def CommandOwnUptoCardSaid : Prop := Claim7.holds Tryd.pinned (.plain (OpenSpec.upto commandOwnSpec)) commandOwnUptoCard
end Rows
end Go.Proofs.YtihidpfkdpjdpaaDoor
