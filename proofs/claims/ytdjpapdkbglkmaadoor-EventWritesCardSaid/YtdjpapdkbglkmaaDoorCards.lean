/-
  DERIVED. GIVEN WITH THE SEED: THE CARDS: each row of YtdjpapdkbglkmaaDoorRows.lean that lists a variable, with what it lists TIED to the program's text (the seventh form; the later family's looks); each row that meets fmt, with fmt's text TOLD by the authors' own Lean function (tested against real Go, not proved from fmt's source: count such statements apart). THE CARD IS WHAT COUNTS. Prove the row's statement (the work); the ties are given (YtdjpapdkbglkmaaDoorTie.lean); close each card by the builder's one call (the guide's Derived/Test/ToyasCard.lean, 'card_holds'). Laid BY PROGRAM, IN A SANDBOX (cutbox-door.mjs). By AI agents, Wed Nov 11 2026. No macro, syntax, notation, axiom, sorry.
-/
import Derived.Test.YtdjpapdkbglkmaaDoorRows
import GoSem.ClaimSeven
namespace Go.Proofs.YtdjpapdkbglkmaaDoor
namespace Rows

/-- THE TIED CARD OF 'foliotlaw09.EventDecodes'. -/
def eventDecodesCard : Claim7 := { stood := { row := eventDecodesRow, standIns := [], harness := (true, "176da70cdf22c4082bb0f9d92db956d8a3dc5662f355ecb395d336ddafcfb0c2"), looks := false }, kinds := [], alts := [], laidByText := true, laidKinds := [.data, .data, .data], laidTests := true, laidLooks := .later }
def EventDecodesCardSaid : Prop := Claim7.holds Tryd.pinned (.plain (OpenSpec.ofChange eventDecodesSpec)) eventDecodesCard

/-- THE TIED CARD OF 'foliotlaw09.EventCuts'. -/
def eventCutsCard : Claim7 := { stood := { row := eventCutsRow, standIns := [], harness := (true, "176da70cdf22c4082bb0f9d92db956d8a3dc5662f355ecb395d336ddafcfb0c2"), looks := false }, kinds := [], alts := [], laidByText := true, laidKinds := [.data, .data, .data], laidTests := true, laidLooks := .later }
def EventCutsCardSaid : Prop := Claim7.holds Tryd.pinned (.plain (OpenSpec.ofChange eventCutsSpec)) eventCutsCard

/-- THE TIED CARD OF 'foliotlaw09.EventNames'. -/
def eventNamesCard : Claim7 := { stood := { row := eventNamesRow, standIns := [], harness := (true, "176da70cdf22c4082bb0f9d92db956d8a3dc5662f355ecb395d336ddafcfb0c2"), looks := false }, kinds := [], alts := [], laidByText := true, laidKinds := [.data, .data, .data], laidTests := true, laidLooks := .later }
def EventNamesCardSaid : Prop := Claim7.holds Tryd.pinned (.plain (OpenSpec.ofChange eventNamesSpec)) eventNamesCard

/-- THE TIED CARD OF 'foliotlaw09.EventWrites'. -/
def eventWritesCard : Claim7 := { stood := { row := eventWritesRow, standIns := [], harness := (true, "176da70cdf22c4082bb0f9d92db956d8a3dc5662f355ecb395d336ddafcfb0c2"), looks := false }, kinds := [], alts := [], laidByText := true, laidKinds := [.data, .data, .data], laidTests := true, laidLooks := .later }
def EventWritesCardSaid : Prop := Claim7.holds Tryd.pinned (.plain (OpenSpec.ofChange eventWritesSpec)) eventWritesCard

/-- THE SECOND FORM's CARD OF 'foliotlaw09.EventDecodes'. -/
def eventDecodesUptoCard : Claim7 := { stood := { row := eventDecodesUptoRow, standIns := [], harness := (true, "176da70cdf22c4082bb0f9d92db956d8a3dc5662f355ecb395d336ddafcfb0c2"), looks := false }, kinds := [], alts := [], laidByText := true, laidKinds := [.data, .data, .data], laidTests := true, laidLooks := .later }
def EventDecodesUptoCardSaid : Prop := Claim7.holds Tryd.pinned (.plain (OpenSpec.upto eventDecodesSpec)) eventDecodesUptoCard

/-- THE SECOND FORM's CARD OF 'foliotlaw09.EventCuts'. -/
def eventCutsUptoCard : Claim7 := { stood := { row := eventCutsUptoRow, standIns := [], harness := (true, "176da70cdf22c4082bb0f9d92db956d8a3dc5662f355ecb395d336ddafcfb0c2"), looks := false }, kinds := [], alts := [], laidByText := true, laidKinds := [.data, .data, .data], laidTests := true, laidLooks := .later }
def EventCutsUptoCardSaid : Prop := Claim7.holds Tryd.pinned (.plain (OpenSpec.upto eventCutsSpec)) eventCutsUptoCard

/-- THE SECOND FORM's CARD OF 'foliotlaw09.EventNames'. -/
def eventNamesUptoCard : Claim7 := { stood := { row := eventNamesUptoRow, standIns := [], harness := (true, "176da70cdf22c4082bb0f9d92db956d8a3dc5662f355ecb395d336ddafcfb0c2"), looks := false }, kinds := [], alts := [], laidByText := true, laidKinds := [.data, .data, .data], laidTests := true, laidLooks := .later }
def EventNamesUptoCardSaid : Prop := Claim7.holds Tryd.pinned (.plain (OpenSpec.upto eventNamesSpec)) eventNamesUptoCard

/-- THE SECOND FORM's CARD OF 'foliotlaw09.EventWrites'. -/
def eventWritesUptoCard : Claim7 := { stood := { row := eventWritesUptoRow, standIns := [], harness := (true, "176da70cdf22c4082bb0f9d92db956d8a3dc5662f355ecb395d336ddafcfb0c2"), looks := false }, kinds := [], alts := [], laidByText := true, laidKinds := [.data, .data, .data], laidTests := true, laidLooks := .later }
def EventWritesUptoCardSaid : Prop := Claim7.holds Tryd.pinned (.plain (OpenSpec.upto eventWritesSpec)) eventWritesUptoCard
end Rows
end Go.Proofs.YtdjpapdkbglkmaaDoor
