/-
  NARROWER THAN 'FOR EVERY INPUT', by the rows' own cells (each row's printed sentence says how): HistoryPages: loops · HistoryVerifies: loops · HistoryOwn: loops · HistoryCuts: loops · HistoryPlays: loops · HistoryReads: loops.
  DERIVED. THE GIVEN ROWS OF THIS SEAT. 8 by the template 'for every input the law returns true; each argument reads behind the call as it read before'; 0 by the template 'total and deterministic' (their statements: YtnoopajedgllhaaTotals.lean).
  GIVEN WITH THE SEED: the statements are not yours to turn. If you find one false, say at which input.
  Laid BY PROGRAM, IN A SANDBOX (cutbox-rows.mjs): the forced cells as the released guide's own fill.sh prints them over the translation cb5bb138ba22d7ae… (all of the seat's roots in one cut). By AI agents, Wed Nov 11 2026. No macro, syntax, notation, axiom, sorry.
-/
import Derived.Test.YtnoopajedgllhaaChecked
import GoSem.Claim
import GoSem.ClaimJoined
import GoSem.ClaimMapViews
import Derived.JoinedTies
import Derived.KernelRfl
namespace Go.Proofs.Ytnoopajedgllhaa
/- THE CELL 'sum', in the pinned program and in every row, IS THE sha256 OF THE DUMP (.gsa) THAT YtnoopajedgllhaaProg.lean LOADS. Nothing in Lean hashes anything: it is a label: what it is worth is what the hold of that sum in a sandbox is worth. -/
noncomputable def Try.pinned : Pinned := { name := "ytnoopajedgllhaa", sum := "cb5bb138ba22d7aefdf0a913adf8f2b451ed4125375f6a11c0f7976e2faed371", checked := Try.checked }
namespace Rows
def none {H : Type} : Left H := { results := [], args := [] }

/-- 'foliotlaw18.HistoryPages': WHATEVER THE INPUT: true; the input reads as it did. -/
def historyPagesSpec : ChangeSpec := { name := "historyPages", fn := fun _ => fun
  | [d1, d2, d3] => { results := [.lit (.bool true)], args := [d1, d2, d3] }
  | _ => none }
def historyPagesRow : OpenClaim := { program := "ytnoopajedgllhaa", sum := "cb5bb138ba22d7aefdf0a913adf8f2b451ed4125375f6a11c0f7976e2faed371", func := "foliot/foliotlaw18.HistoryPages", spec := "historyPages", inPlace := ["internal/bytealg.IndexByteString", "internal/bytealg.IndexString"], recurses := true, named := ["internal/bytealg.MaxLen"], loops := true, apart := false }
def HistoryPagesSaid : Prop := historyPagesRow.holds Try.pinned (OpenSpec.ofChange historyPagesSpec)

/-- ITS FALSE NEIGHBOUR: 'it returns false'. Refute it at one input. -/
def historyPagesWrong : ChangeSpec := { name := "historyPages", fn := fun _ => fun
  | [d1, d2, d3] => { results := [.lit (.bool false)], args := [d1, d2, d3] }
  | _ => none }
def HistoryPagesWrongFalsely : Prop := historyPagesRow.holds Try.pinned (OpenSpec.ofChange historyPagesWrong)

/-- 'foliotlaw18.HistoryVerifies': WHATEVER THE INPUT: true; the input reads as it did. -/
def historyVerifiesSpec : ChangeSpec := { name := "historyVerifies", fn := fun _ => fun
  | [d1, d2, d3] => { results := [.lit (.bool true)], args := [d1, d2, d3] }
  | _ => none }
def historyVerifiesRow : OpenClaim := { program := "ytnoopajedgllhaa", sum := "cb5bb138ba22d7aefdf0a913adf8f2b451ed4125375f6a11c0f7976e2faed371", func := "foliot/foliotlaw18.HistoryVerifies", spec := "historyVerifies", inPlace := ["internal/bytealg.IndexByteString", "internal/bytealg.IndexString"], recurses := true, named := ["internal/bytealg.MaxLen"], loops := true, apart := false }
def HistoryVerifiesSaid : Prop := historyVerifiesRow.holds Try.pinned (OpenSpec.ofChange historyVerifiesSpec)

/-- ITS FALSE NEIGHBOUR: 'it returns false'. Refute it at one input. -/
def historyVerifiesWrong : ChangeSpec := { name := "historyVerifies", fn := fun _ => fun
  | [d1, d2, d3] => { results := [.lit (.bool false)], args := [d1, d2, d3] }
  | _ => none }
def HistoryVerifiesWrongFalsely : Prop := historyVerifiesRow.holds Try.pinned (OpenSpec.ofChange historyVerifiesWrong)

/-- 'foliotlaw18.HistoryOwn': WHATEVER THE INPUT: true; the input reads as it did. -/
def historyOwnSpec : ChangeSpec := { name := "historyOwn", fn := fun _ => fun
  | [d] => { results := [.lit (.bool true)], args := [d] }
  | _ => none }
def historyOwnRow : OpenClaim := { program := "ytnoopajedgllhaa", sum := "cb5bb138ba22d7aefdf0a913adf8f2b451ed4125375f6a11c0f7976e2faed371", func := "foliot/foliotlaw18.HistoryOwn", spec := "historyOwn", inPlace := ["internal/bytealg.IndexByteString", "internal/bytealg.IndexString"], recurses := true, named := ["internal/bytealg.MaxLen"], loops := true, apart := false }
def HistoryOwnSaid : Prop := historyOwnRow.holds Try.pinned (OpenSpec.ofChange historyOwnSpec)

/-- ITS FALSE NEIGHBOUR: 'it returns false'. Refute it at one input. -/
def historyOwnWrong : ChangeSpec := { name := "historyOwn", fn := fun _ => fun
  | [d] => { results := [.lit (.bool false)], args := [d] }
  | _ => none }
def HistoryOwnWrongFalsely : Prop := historyOwnRow.holds Try.pinned (OpenSpec.ofChange historyOwnWrong)

/-- 'foliotlaw18.HistorySeeds': WHATEVER THE INPUT: true; the input reads as it did. -/
def historySeedsSpec : ChangeSpec := { name := "historySeeds", fn := fun _ => fun
  | [d1, d2] => { results := [.lit (.bool true)], args := [d1, d2] }
  | _ => none }
def historySeedsRow : OpenClaim := { program := "ytnoopajedgllhaa", sum := "cb5bb138ba22d7aefdf0a913adf8f2b451ed4125375f6a11c0f7976e2faed371", func := "foliot/foliotlaw18.HistorySeeds", spec := "historySeeds", inPlace := ["internal/bytealg.IndexByteString", "internal/bytealg.IndexString"], recurses := true, named := ["internal/bytealg.MaxLen"], apart := false }
def HistorySeedsSaid : Prop := historySeedsRow.holds Try.pinned (OpenSpec.ofChange historySeedsSpec)

/-- ITS FALSE NEIGHBOUR: 'it returns false'. Refute it at one input. -/
def historySeedsWrong : ChangeSpec := { name := "historySeeds", fn := fun _ => fun
  | [d1, d2] => { results := [.lit (.bool false)], args := [d1, d2] }
  | _ => none }
def HistorySeedsWrongFalsely : Prop := historySeedsRow.holds Try.pinned (OpenSpec.ofChange historySeedsWrong)

/-- 'foliotlaw18.HistoryCuts': WHATEVER THE INPUT: true; the input reads as it did. -/
def historyCutsSpec : ChangeSpec := { name := "historyCuts", fn := fun _ => fun
  | [d1, d2, d3] => { results := [.lit (.bool true)], args := [d1, d2, d3] }
  | _ => none }
def historyCutsRow : OpenClaim := { program := "ytnoopajedgllhaa", sum := "cb5bb138ba22d7aefdf0a913adf8f2b451ed4125375f6a11c0f7976e2faed371", func := "foliot/foliotlaw18.HistoryCuts", spec := "historyCuts", inPlace := ["internal/bytealg.IndexByteString", "internal/bytealg.IndexString"], recurses := true, named := ["internal/bytealg.MaxLen"], loops := true, apart := false }
def HistoryCutsSaid : Prop := historyCutsRow.holds Try.pinned (OpenSpec.ofChange historyCutsSpec)

/-- ITS FALSE NEIGHBOUR: 'it returns false'. Refute it at one input. -/
def historyCutsWrong : ChangeSpec := { name := "historyCuts", fn := fun _ => fun
  | [d1, d2, d3] => { results := [.lit (.bool false)], args := [d1, d2, d3] }
  | _ => none }
def HistoryCutsWrongFalsely : Prop := historyCutsRow.holds Try.pinned (OpenSpec.ofChange historyCutsWrong)

/-- 'foliotlaw18.HistoryPlays': WHATEVER THE INPUT: true; the input reads as it did. -/
def historyPlaysSpec : ChangeSpec := { name := "historyPlays", fn := fun _ => fun
  | [d1, d2] => { results := [.lit (.bool true)], args := [d1, d2] }
  | _ => none }
def historyPlaysRow : OpenClaim := { program := "ytnoopajedgllhaa", sum := "cb5bb138ba22d7aefdf0a913adf8f2b451ed4125375f6a11c0f7976e2faed371", func := "foliot/foliotlaw18.HistoryPlays", spec := "historyPlays", inPlace := ["internal/bytealg.IndexByteString", "internal/bytealg.IndexString"], recurses := true, named := ["internal/bytealg.MaxLen"], loops := true, apart := false }
def HistoryPlaysSaid : Prop := historyPlaysRow.holds Try.pinned (OpenSpec.ofChange historyPlaysSpec)

/-- ITS FALSE NEIGHBOUR: 'it returns false'. Refute it at one input. -/
def historyPlaysWrong : ChangeSpec := { name := "historyPlays", fn := fun _ => fun
  | [d1, d2] => { results := [.lit (.bool false)], args := [d1, d2] }
  | _ => none }
def HistoryPlaysWrongFalsely : Prop := historyPlaysRow.holds Try.pinned (OpenSpec.ofChange historyPlaysWrong)

/-- 'foliotlaw18.HistoryDecodes': WHATEVER THE INPUT: true; the input reads as it did. -/
def historyDecodesSpec : ChangeSpec := { name := "historyDecodes", fn := fun _ => fun
  | [d] => { results := [.lit (.bool true)], args := [d] }
  | _ => none }
def historyDecodesRow : OpenClaim := { program := "ytnoopajedgllhaa", sum := "cb5bb138ba22d7aefdf0a913adf8f2b451ed4125375f6a11c0f7976e2faed371", func := "foliot/foliotlaw18.HistoryDecodes", spec := "historyDecodes", inPlace := ["internal/bytealg.IndexByteString", "internal/bytealg.IndexString"], recurses := true, named := ["internal/bytealg.MaxLen"], apart := false }
def HistoryDecodesSaid : Prop := historyDecodesRow.holds Try.pinned (OpenSpec.ofChange historyDecodesSpec)

/-- ITS FALSE NEIGHBOUR: 'it returns false'. Refute it at one input. -/
def historyDecodesWrong : ChangeSpec := { name := "historyDecodes", fn := fun _ => fun
  | [d] => { results := [.lit (.bool false)], args := [d] }
  | _ => none }
def HistoryDecodesWrongFalsely : Prop := historyDecodesRow.holds Try.pinned (OpenSpec.ofChange historyDecodesWrong)

/-- 'foliotlaw18.HistoryReads': WHATEVER THE INPUT: true; the input reads as it did. -/
def historyReadsSpec : ChangeSpec := { name := "historyReads", fn := fun _ => fun
  | [d1, d2] => { results := [.lit (.bool true)], args := [d1, d2] }
  | _ => none }
def historyReadsRow : OpenClaim := { program := "ytnoopajedgllhaa", sum := "cb5bb138ba22d7aefdf0a913adf8f2b451ed4125375f6a11c0f7976e2faed371", func := "foliot/foliotlaw18.HistoryReads", spec := "historyReads", inPlace := ["internal/bytealg.IndexByteString", "internal/bytealg.IndexString"], recurses := true, named := ["internal/bytealg.MaxLen"], loops := true, apart := false }
def HistoryReadsSaid : Prop := historyReadsRow.holds Try.pinned (OpenSpec.ofChange historyReadsSpec)

/-- ITS FALSE NEIGHBOUR: 'it returns false'. Refute it at one input. -/
def historyReadsWrong : ChangeSpec := { name := "historyReads", fn := fun _ => fun
  | [d1, d2] => { results := [.lit (.bool false)], args := [d1, d2] }
  | _ => none }
def HistoryReadsWrongFalsely : Prop := historyReadsRow.holds Try.pinned (OpenSpec.ofChange historyReadsWrong)

/- THE SECOND FORM. 'bulk': how many values and letters a reading holds, each counted each time it is reached (what is shared counts as often as it is met; a slice's spare places count too). A statement '..UptoSaid' is the law's where the arguments, and the package variables that the reading takes, are together of bulk at most 1048576: NARROWER than '..Said'. Prove '..Said' where nothing that the law and all that it calls make is longer than what came in: it says more and counts as full. Else prove '..UptoSaid'. A law counts once. -/
mutual
def uptoBulk {H : Type} : DataW H → Nat
  | .lit (.string bytes) => bytes.length + 1
  | .lit _ => 1
  | .nil => 1
  | .ptr d => uptoBulk d + 1
  | .slice elems spare => uptoBulkAll elems + uptoBulkAll spare + 1
  | .agg parts => uptoBulkAll parts + 1
  | .iface _ d => uptoBulk d + 1
  | .map entries => uptoBulkEntries entries + 1
  | .held _ => 1
def uptoBulkAll {H : Type} : List (DataW H) → Nat
  | [] => 0
  | d :: r => uptoBulk d + uptoBulkAll r
def uptoBulkEntries {H : Type} : List (Lit × DataW H) → Nat
  | [] => 0
  | x :: r => uptoBulkEntry x + uptoBulkEntries r
def uptoBulkEntry {H : Type} : Lit × DataW H → Nat
  | (.string bytes, d) => bytes.length + uptoBulk d + 1
  | (_, d) => uptoBulk d + 1
 end
def uptoSmall : (H : Type) → List (DataW H) → Bool := fun _ ds => decide (uptoBulkAll ds ≤ 1048576)
def OpenSpec.upto (s : _root_.Go.ChangeSpec) : _root_.Go.OpenSpec := { _root_.Go.OpenSpec.ofChange s with cond := some uptoSmall }

/-- 'foliotlaw18.HistoryPages', WHERE WHAT IT READS IS OF BULK AT MOST 1048576: true; the input reads as it did. -/
def historyPagesUptoRow : OpenClaim := { program := "ytnoopajedgllhaa", sum := "cb5bb138ba22d7aefdf0a913adf8f2b451ed4125375f6a11c0f7976e2faed371", func := "foliot/foliotlaw18.HistoryPages", spec := "historyPages", inPlace := ["internal/bytealg.IndexByteString", "internal/bytealg.IndexString"], recurses := true, named := ["internal/bytealg.MaxLen"], loops := true, apart := false, narrowed := true }
def HistoryPagesUptoSaid : Prop := historyPagesUptoRow.holds Try.pinned (OpenSpec.upto historyPagesSpec)

/-- 'foliotlaw18.HistoryVerifies', WHERE WHAT IT READS IS OF BULK AT MOST 1048576: true; the input reads as it did. -/
def historyVerifiesUptoRow : OpenClaim := { program := "ytnoopajedgllhaa", sum := "cb5bb138ba22d7aefdf0a913adf8f2b451ed4125375f6a11c0f7976e2faed371", func := "foliot/foliotlaw18.HistoryVerifies", spec := "historyVerifies", inPlace := ["internal/bytealg.IndexByteString", "internal/bytealg.IndexString"], recurses := true, named := ["internal/bytealg.MaxLen"], loops := true, apart := false, narrowed := true }
def HistoryVerifiesUptoSaid : Prop := historyVerifiesUptoRow.holds Try.pinned (OpenSpec.upto historyVerifiesSpec)

/-- 'foliotlaw18.HistoryOwn', WHERE WHAT IT READS IS OF BULK AT MOST 1048576: true; the input reads as it did. -/
def historyOwnUptoRow : OpenClaim := { program := "ytnoopajedgllhaa", sum := "cb5bb138ba22d7aefdf0a913adf8f2b451ed4125375f6a11c0f7976e2faed371", func := "foliot/foliotlaw18.HistoryOwn", spec := "historyOwn", inPlace := ["internal/bytealg.IndexByteString", "internal/bytealg.IndexString"], recurses := true, named := ["internal/bytealg.MaxLen"], loops := true, apart := false, narrowed := true }
def HistoryOwnUptoSaid : Prop := historyOwnUptoRow.holds Try.pinned (OpenSpec.upto historyOwnSpec)

/-- 'foliotlaw18.HistorySeeds', WHERE WHAT IT READS IS OF BULK AT MOST 1048576: true; the input reads as it did. -/
def historySeedsUptoRow : OpenClaim := { program := "ytnoopajedgllhaa", sum := "cb5bb138ba22d7aefdf0a913adf8f2b451ed4125375f6a11c0f7976e2faed371", func := "foliot/foliotlaw18.HistorySeeds", spec := "historySeeds", inPlace := ["internal/bytealg.IndexByteString", "internal/bytealg.IndexString"], recurses := true, named := ["internal/bytealg.MaxLen"], apart := false, narrowed := true }
def HistorySeedsUptoSaid : Prop := historySeedsUptoRow.holds Try.pinned (OpenSpec.upto historySeedsSpec)

/-- 'foliotlaw18.HistoryCuts', WHERE WHAT IT READS IS OF BULK AT MOST 1048576: true; the input reads as it did. -/
def historyCutsUptoRow : OpenClaim := { program := "ytnoopajedgllhaa", sum := "cb5bb138ba22d7aefdf0a913adf8f2b451ed4125375f6a11c0f7976e2faed371", func := "foliot/foliotlaw18.HistoryCuts", spec := "historyCuts", inPlace := ["internal/bytealg.IndexByteString", "internal/bytealg.IndexString"], recurses := true, named := ["internal/bytealg.MaxLen"], loops := true, apart := false, narrowed := true }
def HistoryCutsUptoSaid : Prop := historyCutsUptoRow.holds Try.pinned (OpenSpec.upto historyCutsSpec)

/-- 'foliotlaw18.HistoryPlays', WHERE WHAT IT READS IS OF BULK AT MOST 1048576: true; the input reads as it did. -/
def historyPlaysUptoRow : OpenClaim := { program := "ytnoopajedgllhaa", sum := "cb5bb138ba22d7aefdf0a913adf8f2b451ed4125375f6a11c0f7976e2faed371", func := "foliot/foliotlaw18.HistoryPlays", spec := "historyPlays", inPlace := ["internal/bytealg.IndexByteString", "internal/bytealg.IndexString"], recurses := true, named := ["internal/bytealg.MaxLen"], loops := true, apart := false, narrowed := true }
def HistoryPlaysUptoSaid : Prop := historyPlaysUptoRow.holds Try.pinned (OpenSpec.upto historyPlaysSpec)

/-- 'foliotlaw18.HistoryDecodes', WHERE WHAT IT READS IS OF BULK AT MOST 1048576: true; the input reads as it did. -/
def historyDecodesUptoRow : OpenClaim := { program := "ytnoopajedgllhaa", sum := "cb5bb138ba22d7aefdf0a913adf8f2b451ed4125375f6a11c0f7976e2faed371", func := "foliot/foliotlaw18.HistoryDecodes", spec := "historyDecodes", inPlace := ["internal/bytealg.IndexByteString", "internal/bytealg.IndexString"], recurses := true, named := ["internal/bytealg.MaxLen"], apart := false, narrowed := true }
def HistoryDecodesUptoSaid : Prop := historyDecodesUptoRow.holds Try.pinned (OpenSpec.upto historyDecodesSpec)

/-- 'foliotlaw18.HistoryReads', WHERE WHAT IT READS IS OF BULK AT MOST 1048576: true; the input reads as it did. -/
def historyReadsUptoRow : OpenClaim := { program := "ytnoopajedgllhaa", sum := "cb5bb138ba22d7aefdf0a913adf8f2b451ed4125375f6a11c0f7976e2faed371", func := "foliot/foliotlaw18.HistoryReads", spec := "historyReads", inPlace := ["internal/bytealg.IndexByteString", "internal/bytealg.IndexString"], recurses := true, named := ["internal/bytealg.MaxLen"], loops := true, apart := false, narrowed := true }
def HistoryReadsUptoSaid : Prop := historyReadsUptoRow.holds Try.pinned (OpenSpec.upto historyReadsSpec)

end Rows
end Go.Proofs.Ytnoopajedgllhaa
