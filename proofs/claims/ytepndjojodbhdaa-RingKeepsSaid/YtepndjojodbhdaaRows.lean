/-
  No cell of these rows narrows 'for every input' (looked for: loops, veiled, ifaces, maps, wideKeys, modest, calm, conditions, laid).
  DERIVED. THE GIVEN ROWS OF THIS SEAT. 20 by the template 'for every input the law returns true; each argument reads behind the call as it read before'; 0 by the template 'total and deterministic' (their statements: YtepndjojodbhdaaTotals.lean).
  GIVEN WITH THE SEED: the statements are not yours to turn. If you find one false, say at which input.
  Laid BY PROGRAM, IN A SANDBOX (cutbox-rows.mjs): the forced cells as the released guide's own fill.sh prints them over the translation ac7404377b827d5e… (all of the seat's roots in one cut). By AI agents, Wed Nov 11 2026. No macro, syntax, notation, axiom, sorry.
-/
import Derived.Test.YtepndjojodbhdaaChecked
import GoSem.Claim
import GoSem.ClaimJoined
import GoSem.ClaimMapViews
import Derived.JoinedTies
import Derived.KernelRfl
namespace Go.Proofs.Ytepndjojodbhdaa
/- THE CELL 'sum', in the pinned program and in every row, IS THE sha256 OF THE DUMP (.gsa) THAT YtepndjojodbhdaaProg.lean LOADS. Nothing in Lean hashes anything: it is a label: what it is worth is what the hold of that sum in a sandbox is worth. -/
noncomputable def Try.pinned : Pinned := { name := "ytepndjojodbhdaa", sum := "ac7404377b827d5e10267d4e05dcf6f6303a8ce8a01b516eeaff4e7108be1276", checked := Try.checked }
namespace Rows
def none {H : Type} : Left H := { results := [], args := [] }

/-- 'foliotlaw05.DiskFuse': WHATEVER THE INPUT: true; the input reads as it did. -/
def diskFuseSpec : ChangeSpec := { name := "diskFuse", fn := fun _ => fun
  | [d1, d2] => { results := [.lit (.bool true)], args := [d1, d2] }
  | _ => none }
def diskFuseRow : OpenClaim := { program := "ytepndjojodbhdaa", sum := "ac7404377b827d5e10267d4e05dcf6f6303a8ce8a01b516eeaff4e7108be1276", func := "foliot/foliotlaw05.DiskFuse", spec := "diskFuse", inPlace := ["sync/atomic.AddInt64", "sync/atomic.LoadInt64"], apart := false }
def DiskFuseSaid : Prop := diskFuseRow.holds Try.pinned (OpenSpec.ofChange diskFuseSpec)

/-- ITS FALSE NEIGHBOUR: 'it returns false'. Refute it at one input. -/
def diskFuseWrong : ChangeSpec := { name := "diskFuse", fn := fun _ => fun
  | [d1, d2] => { results := [.lit (.bool false)], args := [d1, d2] }
  | _ => none }
def DiskFuseWrongFalsely : Prop := diskFuseRow.holds Try.pinned (OpenSpec.ofChange diskFuseWrong)

/-- 'foliotlaw05.DiskOwn': WHATEVER THE INPUT: true; the input reads as it did. -/
def diskOwnSpec : ChangeSpec := { name := "diskOwn", fn := fun _ => fun
  | [d] => { results := [.lit (.bool true)], args := [d] }
  | _ => none }
def diskOwnRow : OpenClaim := { program := "ytepndjojodbhdaa", sum := "ac7404377b827d5e10267d4e05dcf6f6303a8ce8a01b516eeaff4e7108be1276", func := "foliot/foliotlaw05.DiskOwn", spec := "diskOwn", inPlace := ["sync/atomic.AddInt64", "sync/atomic.LoadInt64"], apart := false }
def DiskOwnSaid : Prop := diskOwnRow.holds Try.pinned (OpenSpec.ofChange diskOwnSpec)

/-- ITS FALSE NEIGHBOUR: 'it returns false'. Refute it at one input. -/
def diskOwnWrong : ChangeSpec := { name := "diskOwn", fn := fun _ => fun
  | [d] => { results := [.lit (.bool false)], args := [d] }
  | _ => none }
def DiskOwnWrongFalsely : Prop := diskOwnRow.holds Try.pinned (OpenSpec.ofChange diskOwnWrong)

/-- 'foliotlaw07.RingOpens': WHATEVER THE INPUT: true; the input reads as it did. -/
def ringOpensSpec : ChangeSpec := { name := "ringOpens", fn := fun _ => fun
  | [d1, d2, d3] => { results := [.lit (.bool true)], args := [d1, d2, d3] }
  | _ => none }
def ringOpensRow : OpenClaim := { program := "ytepndjojodbhdaa", sum := "ac7404377b827d5e10267d4e05dcf6f6303a8ce8a01b516eeaff4e7108be1276", func := "foliot/foliotlaw07.RingOpens", spec := "ringOpens", inPlace := ["sync/atomic.AddInt64"], apart := false }
def RingOpensSaid : Prop := ringOpensRow.holds Try.pinned (OpenSpec.ofChange ringOpensSpec)

/-- ITS FALSE NEIGHBOUR: 'it returns false'. Refute it at one input. -/
def ringOpensWrong : ChangeSpec := { name := "ringOpens", fn := fun _ => fun
  | [d1, d2, d3] => { results := [.lit (.bool false)], args := [d1, d2, d3] }
  | _ => none }
def RingOpensWrongFalsely : Prop := ringOpensRow.holds Try.pinned (OpenSpec.ofChange ringOpensWrong)

/-- 'foliotlaw07.RingParts': WHATEVER THE INPUT: true; the input reads as it did. -/
def ringPartsSpec : ChangeSpec := { name := "ringParts", fn := fun _ => fun
  | [d] => { results := [.lit (.bool true)], args := [d] }
  | _ => none }
def ringPartsRow : OpenClaim := { program := "ytepndjojodbhdaa", sum := "ac7404377b827d5e10267d4e05dcf6f6303a8ce8a01b516eeaff4e7108be1276", func := "foliot/foliotlaw07.RingParts", spec := "ringParts", inPlace := ["sync/atomic.AddInt64"], apart := false }
def RingPartsSaid : Prop := ringPartsRow.holds Try.pinned (OpenSpec.ofChange ringPartsSpec)

/-- ITS FALSE NEIGHBOUR: 'it returns false'. Refute it at one input. -/
def ringPartsWrong : ChangeSpec := { name := "ringParts", fn := fun _ => fun
  | [d] => { results := [.lit (.bool false)], args := [d] }
  | _ => none }
def RingPartsWrongFalsely : Prop := ringPartsRow.holds Try.pinned (OpenSpec.ofChange ringPartsWrong)

/-- 'foliotlaw07.RingPlays': WHATEVER THE INPUT: true; the input reads as it did. -/
def ringPlaysSpec : ChangeSpec := { name := "ringPlays", fn := fun _ => fun
  | [d1, d2] => { results := [.lit (.bool true)], args := [d1, d2] }
  | _ => none }
def ringPlaysRow : OpenClaim := { program := "ytepndjojodbhdaa", sum := "ac7404377b827d5e10267d4e05dcf6f6303a8ce8a01b516eeaff4e7108be1276", func := "foliot/foliotlaw07.RingPlays", spec := "ringPlays", inPlace := ["sync/atomic.AddInt64"], apart := false }
def RingPlaysSaid : Prop := ringPlaysRow.holds Try.pinned (OpenSpec.ofChange ringPlaysSpec)

/-- ITS FALSE NEIGHBOUR: 'it returns false'. Refute it at one input. -/
def ringPlaysWrong : ChangeSpec := { name := "ringPlays", fn := fun _ => fun
  | [d1, d2] => { results := [.lit (.bool false)], args := [d1, d2] }
  | _ => none }
def RingPlaysWrongFalsely : Prop := ringPlaysRow.holds Try.pinned (OpenSpec.ofChange ringPlaysWrong)

/-- 'foliotlaw06.MarkReads': WHATEVER THE INPUT: true; the input reads as it did. -/
def markReadsSpec : ChangeSpec := { name := "markReads", fn := fun _ => fun
  | [d1, d2, d3] => { results := [.lit (.bool true)], args := [d1, d2, d3] }
  | _ => none }
def markReadsRow : OpenClaim := { program := "ytepndjojodbhdaa", sum := "ac7404377b827d5e10267d4e05dcf6f6303a8ce8a01b516eeaff4e7108be1276", func := "foliot/foliotlaw06.MarkReads", spec := "markReads", inPlace := ["sync/atomic.AddInt64"], apart := false }
def MarkReadsSaid : Prop := markReadsRow.holds Try.pinned (OpenSpec.ofChange markReadsSpec)

/-- ITS FALSE NEIGHBOUR: 'it returns false'. Refute it at one input. -/
def markReadsWrong : ChangeSpec := { name := "markReads", fn := fun _ => fun
  | [d1, d2, d3] => { results := [.lit (.bool false)], args := [d1, d2, d3] }
  | _ => none }
def MarkReadsWrongFalsely : Prop := markReadsRow.holds Try.pinned (OpenSpec.ofChange markReadsWrong)

/-- 'foliotlaw06.MarkSpoilt': WHATEVER THE INPUT: true; the input reads as it did. -/
def markSpoiltSpec : ChangeSpec := { name := "markSpoilt", fn := fun _ => fun
  | [d1, d2, d3] => { results := [.lit (.bool true)], args := [d1, d2, d3] }
  | _ => none }
def markSpoiltRow : OpenClaim := { program := "ytepndjojodbhdaa", sum := "ac7404377b827d5e10267d4e05dcf6f6303a8ce8a01b516eeaff4e7108be1276", func := "foliot/foliotlaw06.MarkSpoilt", spec := "markSpoilt", inPlace := ["sync/atomic.AddInt64"], apart := false }
def MarkSpoiltSaid : Prop := markSpoiltRow.holds Try.pinned (OpenSpec.ofChange markSpoiltSpec)

/-- ITS FALSE NEIGHBOUR: 'it returns false'. Refute it at one input. -/
def markSpoiltWrong : ChangeSpec := { name := "markSpoilt", fn := fun _ => fun
  | [d1, d2, d3] => { results := [.lit (.bool false)], args := [d1, d2, d3] }
  | _ => none }
def MarkSpoiltWrongFalsely : Prop := markSpoiltRow.holds Try.pinned (OpenSpec.ofChange markSpoiltWrong)

/-- 'foliotlaw06.MarkDown': WHATEVER THE INPUT: true; the input reads as it did. -/
def markDownSpec : ChangeSpec := { name := "markDown", fn := fun _ => fun
  | [d1, d2] => { results := [.lit (.bool true)], args := [d1, d2] }
  | _ => none }
def markDownRow : OpenClaim := { program := "ytepndjojodbhdaa", sum := "ac7404377b827d5e10267d4e05dcf6f6303a8ce8a01b516eeaff4e7108be1276", func := "foliot/foliotlaw06.MarkDown", spec := "markDown", inPlace := ["sync/atomic.AddInt64"], apart := false }
def MarkDownSaid : Prop := markDownRow.holds Try.pinned (OpenSpec.ofChange markDownSpec)

/-- ITS FALSE NEIGHBOUR: 'it returns false'. Refute it at one input. -/
def markDownWrong : ChangeSpec := { name := "markDown", fn := fun _ => fun
  | [d1, d2] => { results := [.lit (.bool false)], args := [d1, d2] }
  | _ => none }
def MarkDownWrongFalsely : Prop := markDownRow.holds Try.pinned (OpenSpec.ofChange markDownWrong)

/-- 'foliotlaw08.WalNone': WHATEVER THE INPUT: true; the input reads as it did. -/
def walNoneSpec : ChangeSpec := { name := "walNone", fn := fun _ => fun
  | [d] => { results := [.lit (.bool true)], args := [d] }
  | _ => none }
def walNoneRow : OpenClaim := { program := "ytepndjojodbhdaa", sum := "ac7404377b827d5e10267d4e05dcf6f6303a8ce8a01b516eeaff4e7108be1276", func := "foliot/foliotlaw08.WalNone", spec := "walNone", inPlace := ["sync/atomic.AddInt64"], apart := false }
def WalNoneSaid : Prop := walNoneRow.holds Try.pinned (OpenSpec.ofChange walNoneSpec)

/-- ITS FALSE NEIGHBOUR: 'it returns false'. Refute it at one input. -/
def walNoneWrong : ChangeSpec := { name := "walNone", fn := fun _ => fun
  | [d] => { results := [.lit (.bool false)], args := [d] }
  | _ => none }
def WalNoneWrongFalsely : Prop := walNoneRow.holds Try.pinned (OpenSpec.ofChange walNoneWrong)

/-- 'foliotlaw08.WalOwn': WHATEVER THE INPUT: true; the input reads as it did. -/
def walOwnSpec : ChangeSpec := { name := "walOwn", fn := fun _ => fun
  | [d] => { results := [.lit (.bool true)], args := [d] }
  | _ => none }
def walOwnRow : OpenClaim := { program := "ytepndjojodbhdaa", sum := "ac7404377b827d5e10267d4e05dcf6f6303a8ce8a01b516eeaff4e7108be1276", func := "foliot/foliotlaw08.WalOwn", spec := "walOwn", inPlace := ["sync/atomic.AddInt64"], apart := false }
def WalOwnSaid : Prop := walOwnRow.holds Try.pinned (OpenSpec.ofChange walOwnSpec)

/-- ITS FALSE NEIGHBOUR: 'it returns false'. Refute it at one input. -/
def walOwnWrong : ChangeSpec := { name := "walOwn", fn := fun _ => fun
  | [d] => { results := [.lit (.bool false)], args := [d] }
  | _ => none }
def WalOwnWrongFalsely : Prop := walOwnRow.holds Try.pinned (OpenSpec.ofChange walOwnWrong)

/-- 'foliotlaw08.WalPlays': WHATEVER THE INPUT: true; the input reads as it did. -/
def walPlaysSpec : ChangeSpec := { name := "walPlays", fn := fun _ => fun
  | [d1, d2] => { results := [.lit (.bool true)], args := [d1, d2] }
  | _ => none }
def walPlaysRow : OpenClaim := { program := "ytepndjojodbhdaa", sum := "ac7404377b827d5e10267d4e05dcf6f6303a8ce8a01b516eeaff4e7108be1276", func := "foliot/foliotlaw08.WalPlays", spec := "walPlays", inPlace := ["sync/atomic.AddInt64"], apart := false }
def WalPlaysSaid : Prop := walPlaysRow.holds Try.pinned (OpenSpec.ofChange walPlaysSpec)

/-- ITS FALSE NEIGHBOUR: 'it returns false'. Refute it at one input. -/
def walPlaysWrong : ChangeSpec := { name := "walPlays", fn := fun _ => fun
  | [d1, d2] => { results := [.lit (.bool false)], args := [d1, d2] }
  | _ => none }
def WalPlaysWrongFalsely : Prop := walPlaysRow.holds Try.pinned (OpenSpec.ofChange walPlaysWrong)

/-- 'foliotlaw08.WalSpoilt': WHATEVER THE INPUT: true; the input reads as it did. -/
def walSpoiltSpec : ChangeSpec := { name := "walSpoilt", fn := fun _ => fun
  | [d1, d2, d3] => { results := [.lit (.bool true)], args := [d1, d2, d3] }
  | _ => none }
def walSpoiltRow : OpenClaim := { program := "ytepndjojodbhdaa", sum := "ac7404377b827d5e10267d4e05dcf6f6303a8ce8a01b516eeaff4e7108be1276", func := "foliot/foliotlaw08.WalSpoilt", spec := "walSpoilt", inPlace := ["sync/atomic.AddInt64"], apart := false }
def WalSpoiltSaid : Prop := walSpoiltRow.holds Try.pinned (OpenSpec.ofChange walSpoiltSpec)

/-- ITS FALSE NEIGHBOUR: 'it returns false'. Refute it at one input. -/
def walSpoiltWrong : ChangeSpec := { name := "walSpoilt", fn := fun _ => fun
  | [d1, d2, d3] => { results := [.lit (.bool false)], args := [d1, d2, d3] }
  | _ => none }
def WalSpoiltWrongFalsely : Prop := walSpoiltRow.holds Try.pinned (OpenSpec.ofChange walSpoiltWrong)

/-- 'foliotlaw05.DiskSure': WHATEVER THE INPUT: true; the input reads as it did. -/
def diskSureSpec : ChangeSpec := { name := "diskSure", fn := fun _ => fun
  | [d1, d2, d3] => { results := [.lit (.bool true)], args := [d1, d2, d3] }
  | _ => none }
def diskSureRow : OpenClaim := { program := "ytepndjojodbhdaa", sum := "ac7404377b827d5e10267d4e05dcf6f6303a8ce8a01b516eeaff4e7108be1276", func := "foliot/foliotlaw05.DiskSure", spec := "diskSure", inPlace := ["sync/atomic.AddInt64", "sync/atomic.LoadInt64"], recurses := true, apart := false }
def DiskSureSaid : Prop := diskSureRow.holds Try.pinned (OpenSpec.ofChange diskSureSpec)

/-- ITS FALSE NEIGHBOUR: 'it returns false'. Refute it at one input. -/
def diskSureWrong : ChangeSpec := { name := "diskSure", fn := fun _ => fun
  | [d1, d2, d3] => { results := [.lit (.bool false)], args := [d1, d2, d3] }
  | _ => none }
def DiskSureWrongFalsely : Prop := diskSureRow.holds Try.pinned (OpenSpec.ofChange diskSureWrong)

/-- 'foliotlaw05.DiskPlays': WHATEVER THE INPUT: true; the input reads as it did. -/
def diskPlaysSpec : ChangeSpec := { name := "diskPlays", fn := fun _ => fun
  | [d1, d2] => { results := [.lit (.bool true)], args := [d1, d2] }
  | _ => none }
def diskPlaysRow : OpenClaim := { program := "ytepndjojodbhdaa", sum := "ac7404377b827d5e10267d4e05dcf6f6303a8ce8a01b516eeaff4e7108be1276", func := "foliot/foliotlaw05.DiskPlays", spec := "diskPlays", inPlace := ["sync/atomic.AddInt64", "sync/atomic.LoadInt64"], recurses := true, apart := false }
def DiskPlaysSaid : Prop := diskPlaysRow.holds Try.pinned (OpenSpec.ofChange diskPlaysSpec)

/-- ITS FALSE NEIGHBOUR: 'it returns false'. Refute it at one input. -/
def diskPlaysWrong : ChangeSpec := { name := "diskPlays", fn := fun _ => fun
  | [d1, d2] => { results := [.lit (.bool false)], args := [d1, d2] }
  | _ => none }
def DiskPlaysWrongFalsely : Prop := diskPlaysRow.holds Try.pinned (OpenSpec.ofChange diskPlaysWrong)

/-- 'foliotlaw08.WalAgain': WHATEVER THE INPUT: true; the input reads as it did. -/
def walAgainSpec : ChangeSpec := { name := "walAgain", fn := fun _ => fun
  | [d1, d2] => { results := [.lit (.bool true)], args := [d1, d2] }
  | _ => none }
def walAgainRow : OpenClaim := { program := "ytepndjojodbhdaa", sum := "ac7404377b827d5e10267d4e05dcf6f6303a8ce8a01b516eeaff4e7108be1276", func := "foliot/foliotlaw08.WalAgain", spec := "walAgain", inPlace := ["sync/atomic.AddInt64", "sync/atomic.LoadInt64"], apart := false }
def WalAgainSaid : Prop := walAgainRow.holds Try.pinned (OpenSpec.ofChange walAgainSpec)

/-- ITS FALSE NEIGHBOUR: 'it returns false'. Refute it at one input. -/
def walAgainWrong : ChangeSpec := { name := "walAgain", fn := fun _ => fun
  | [d1, d2] => { results := [.lit (.bool false)], args := [d1, d2] }
  | _ => none }
def WalAgainWrongFalsely : Prop := walAgainRow.holds Try.pinned (OpenSpec.ofChange walAgainWrong)

/-- 'foliotlaw05.DiskClone': WHATEVER THE INPUT: true; the input reads as it did. -/
def diskCloneSpec : ChangeSpec := { name := "diskClone", fn := fun _ => fun
  | [d1, d2] => { results := [.lit (.bool true)], args := [d1, d2] }
  | _ => none }
def diskCloneRow : OpenClaim := { program := "ytepndjojodbhdaa", sum := "ac7404377b827d5e10267d4e05dcf6f6303a8ce8a01b516eeaff4e7108be1276", func := "foliot/foliotlaw05.DiskClone", spec := "diskClone", inPlace := ["sync/atomic.AddInt64", "sync/atomic.LoadInt64"], recurses := true, apart := false }
def DiskCloneSaid : Prop := diskCloneRow.holds Try.pinned (OpenSpec.ofChange diskCloneSpec)

/-- ITS FALSE NEIGHBOUR: 'it returns false'. Refute it at one input. -/
def diskCloneWrong : ChangeSpec := { name := "diskClone", fn := fun _ => fun
  | [d1, d2] => { results := [.lit (.bool false)], args := [d1, d2] }
  | _ => none }
def DiskCloneWrongFalsely : Prop := diskCloneRow.holds Try.pinned (OpenSpec.ofChange diskCloneWrong)

/-- 'foliotlaw06.MarkPuts': WHATEVER THE INPUT: true; the input reads as it did. -/
def markPutsSpec : ChangeSpec := { name := "markPuts", fn := fun _ => fun
  | [d1, d2] => { results := [.lit (.bool true)], args := [d1, d2] }
  | _ => none }
def markPutsRow : OpenClaim := { program := "ytepndjojodbhdaa", sum := "ac7404377b827d5e10267d4e05dcf6f6303a8ce8a01b516eeaff4e7108be1276", func := "foliot/foliotlaw06.MarkPuts", spec := "markPuts", inPlace := ["sync/atomic.AddInt64"], recurses := true, apart := false }
def MarkPutsSaid : Prop := markPutsRow.holds Try.pinned (OpenSpec.ofChange markPutsSpec)

/-- ITS FALSE NEIGHBOUR: 'it returns false'. Refute it at one input. -/
def markPutsWrong : ChangeSpec := { name := "markPuts", fn := fun _ => fun
  | [d1, d2] => { results := [.lit (.bool false)], args := [d1, d2] }
  | _ => none }
def MarkPutsWrongFalsely : Prop := markPutsRow.holds Try.pinned (OpenSpec.ofChange markPutsWrong)

/-- 'foliotlaw07.RingKeeps': WHATEVER THE INPUT: true; the input reads as it did. -/
def ringKeepsSpec : ChangeSpec := { name := "ringKeeps", fn := fun _ => fun
  | [d1, d2, d3] => { results := [.lit (.bool true)], args := [d1, d2, d3] }
  | _ => none }
def ringKeepsRow : OpenClaim := { program := "ytepndjojodbhdaa", sum := "ac7404377b827d5e10267d4e05dcf6f6303a8ce8a01b516eeaff4e7108be1276", func := "foliot/foliotlaw07.RingKeeps", spec := "ringKeeps", inPlace := ["sync/atomic.AddInt64"], recurses := true, apart := false }
def RingKeepsSaid : Prop := ringKeepsRow.holds Try.pinned (OpenSpec.ofChange ringKeepsSpec)

/-- ITS FALSE NEIGHBOUR: 'it returns false'. Refute it at one input. -/
def ringKeepsWrong : ChangeSpec := { name := "ringKeeps", fn := fun _ => fun
  | [d1, d2, d3] => { results := [.lit (.bool false)], args := [d1, d2, d3] }
  | _ => none }
def RingKeepsWrongFalsely : Prop := ringKeepsRow.holds Try.pinned (OpenSpec.ofChange ringKeepsWrong)

/-- 'foliotlaw06.MarkTorn': WHATEVER THE INPUT: true; the input reads as it did. -/
def markTornSpec : ChangeSpec := { name := "markTorn", fn := fun _ => fun
  | [d] => { results := [.lit (.bool true)], args := [d] }
  | _ => none }
def markTornRow : OpenClaim := { program := "ytepndjojodbhdaa", sum := "ac7404377b827d5e10267d4e05dcf6f6303a8ce8a01b516eeaff4e7108be1276", func := "foliot/foliotlaw06.MarkTorn", spec := "markTorn", inPlace := ["sync/atomic.AddInt64"], recurses := true, apart := false }
def MarkTornSaid : Prop := markTornRow.holds Try.pinned (OpenSpec.ofChange markTornSpec)

/-- ITS FALSE NEIGHBOUR: 'it returns false'. Refute it at one input. -/
def markTornWrong : ChangeSpec := { name := "markTorn", fn := fun _ => fun
  | [d] => { results := [.lit (.bool false)], args := [d] }
  | _ => none }
def MarkTornWrongFalsely : Prop := markTornRow.holds Try.pinned (OpenSpec.ofChange markTornWrong)

/-- 'foliotlaw08.WalCrash': WHATEVER THE INPUT: true; the input reads as it did. -/
def walCrashSpec : ChangeSpec := { name := "walCrash", fn := fun _ => fun
  | [d1, d2, d3] => { results := [.lit (.bool true)], args := [d1, d2, d3] }
  | _ => none }
def walCrashRow : OpenClaim := { program := "ytepndjojodbhdaa", sum := "ac7404377b827d5e10267d4e05dcf6f6303a8ce8a01b516eeaff4e7108be1276", func := "foliot/foliotlaw08.WalCrash", spec := "walCrash", inPlace := ["sync/atomic.AddInt64"], recurses := true, apart := false }
def WalCrashSaid : Prop := walCrashRow.holds Try.pinned (OpenSpec.ofChange walCrashSpec)

/-- ITS FALSE NEIGHBOUR: 'it returns false'. Refute it at one input. -/
def walCrashWrong : ChangeSpec := { name := "walCrash", fn := fun _ => fun
  | [d1, d2, d3] => { results := [.lit (.bool false)], args := [d1, d2, d3] }
  | _ => none }
def WalCrashWrongFalsely : Prop := walCrashRow.holds Try.pinned (OpenSpec.ofChange walCrashWrong)

/- THE SECOND FORM. 'bulk': how many values and letters a reading holds, each counted each time it is reached (what is shared counts as often as it is met; a slice's spare places count too). A statement '..UptoSaid' is the law's where the arguments, and the package variables that the reading takes, are together of bulk at most 1048576: NARROWER than '..Said'. Prove '..Said' where nothing that the law and all that it calls make is longer than what came in: it says more and counts as full. Else prove '..UptoSaid'. A law counts once. -/
mutual
def uptoBulk {H : Type} : DataW H → Nat
  | .lit (.string bytes) => bytes.length + 1
  | .lit _ => 1
  | .nil => 1
  | .ptr d => uptoBulk d + 1
  | .slice elems spare => uptoBulkAll elems + uptoBulkAll spare + 1
  | .agg parts => uptoBulkAll parts + 1
  | .iface _ d => uptoBulk d + 1
  | .map entries => uptoBulkEntries entries + 1
  | .held _ => 1
def uptoBulkAll {H : Type} : List (DataW H) → Nat
  | [] => 0
  | d :: r => uptoBulk d + uptoBulkAll r
def uptoBulkEntries {H : Type} : List (Lit × DataW H) → Nat
  | [] => 0
  | x :: r => uptoBulkEntry x + uptoBulkEntries r
def uptoBulkEntry {H : Type} : Lit × DataW H → Nat
  | (.string bytes, d) => bytes.length + uptoBulk d + 1
  | (_, d) => uptoBulk d + 1
 end
def uptoSmall : (H : Type) → List (DataW H) → Bool := fun _ ds => decide (uptoBulkAll ds ≤ 1048576)
def OpenSpec.upto (s : _root_.Go.ChangeSpec) : _root_.Go.OpenSpec := { _root_.Go.OpenSpec.ofChange s with cond := some uptoSmall }

/-- 'foliotlaw05.DiskFuse', WHERE WHAT IT READS IS OF BULK AT MOST 1048576: true; the input reads as it did. -/
def diskFuseUptoRow : OpenClaim := { program := "ytepndjojodbhdaa", sum := "ac7404377b827d5e10267d4e05dcf6f6303a8ce8a01b516eeaff4e7108be1276", func := "foliot/foliotlaw05.DiskFuse", spec := "diskFuse", inPlace := ["sync/atomic.AddInt64", "sync/atomic.LoadInt64"], apart := false, narrowed := true }
def DiskFuseUptoSaid : Prop := diskFuseUptoRow.holds Try.pinned (OpenSpec.upto diskFuseSpec)

/-- 'foliotlaw05.DiskOwn', WHERE WHAT IT READS IS OF BULK AT MOST 1048576: true; the input reads as it did. -/
def diskOwnUptoRow : OpenClaim := { program := "ytepndjojodbhdaa", sum := "ac7404377b827d5e10267d4e05dcf6f6303a8ce8a01b516eeaff4e7108be1276", func := "foliot/foliotlaw05.DiskOwn", spec := "diskOwn", inPlace := ["sync/atomic.AddInt64", "sync/atomic.LoadInt64"], apart := false, narrowed := true }
def DiskOwnUptoSaid : Prop := diskOwnUptoRow.holds Try.pinned (OpenSpec.upto diskOwnSpec)

/-- 'foliotlaw07.RingOpens', WHERE WHAT IT READS IS OF BULK AT MOST 1048576: true; the input reads as it did. -/
def ringOpensUptoRow : OpenClaim := { program := "ytepndjojodbhdaa", sum := "ac7404377b827d5e10267d4e05dcf6f6303a8ce8a01b516eeaff4e7108be1276", func := "foliot/foliotlaw07.RingOpens", spec := "ringOpens", inPlace := ["sync/atomic.AddInt64"], apart := false, narrowed := true }
def RingOpensUptoSaid : Prop := ringOpensUptoRow.holds Try.pinned (OpenSpec.upto ringOpensSpec)

/-- 'foliotlaw07.RingParts', WHERE WHAT IT READS IS OF BULK AT MOST 1048576: true; the input reads as it did. -/
def ringPartsUptoRow : OpenClaim := { program := "ytepndjojodbhdaa", sum := "ac7404377b827d5e10267d4e05dcf6f6303a8ce8a01b516eeaff4e7108be1276", func := "foliot/foliotlaw07.RingParts", spec := "ringParts", inPlace := ["sync/atomic.AddInt64"], apart := false, narrowed := true }
def RingPartsUptoSaid : Prop := ringPartsUptoRow.holds Try.pinned (OpenSpec.upto ringPartsSpec)

/-- 'foliotlaw07.RingPlays', WHERE WHAT IT READS IS OF BULK AT MOST 1048576: true; the input reads as it did. -/
def ringPlaysUptoRow : OpenClaim := { program := "ytepndjojodbhdaa", sum := "ac7404377b827d5e10267d4e05dcf6f6303a8ce8a01b516eeaff4e7108be1276", func := "foliot/foliotlaw07.RingPlays", spec := "ringPlays", inPlace := ["sync/atomic.AddInt64"], apart := false, narrowed := true }
def RingPlaysUptoSaid : Prop := ringPlaysUptoRow.holds Try.pinned (OpenSpec.upto ringPlaysSpec)

/-- 'foliotlaw06.MarkReads', WHERE WHAT IT READS IS OF BULK AT MOST 1048576: true; the input reads as it did. -/
def markReadsUptoRow : OpenClaim := { program := "ytepndjojodbhdaa", sum := "ac7404377b827d5e10267d4e05dcf6f6303a8ce8a01b516eeaff4e7108be1276", func := "foliot/foliotlaw06.MarkReads", spec := "markReads", inPlace := ["sync/atomic.AddInt64"], apart := false, narrowed := true }
def MarkReadsUptoSaid : Prop := markReadsUptoRow.holds Try.pinned (OpenSpec.upto markReadsSpec)

/-- 'foliotlaw06.MarkSpoilt', WHERE WHAT IT READS IS OF BULK AT MOST 1048576: true; the input reads as it did. -/
def markSpoiltUptoRow : OpenClaim := { program := "ytepndjojodbhdaa", sum := "ac7404377b827d5e10267d4e05dcf6f6303a8ce8a01b516eeaff4e7108be1276", func := "foliot/foliotlaw06.MarkSpoilt", spec := "markSpoilt", inPlace := ["sync/atomic.AddInt64"], apart := false, narrowed := true }
def MarkSpoiltUptoSaid : Prop := markSpoiltUptoRow.holds Try.pinned (OpenSpec.upto markSpoiltSpec)

/-- 'foliotlaw06.MarkDown', WHERE WHAT IT READS IS OF BULK AT MOST 1048576: true; the input reads as it did. -/
def markDownUptoRow : OpenClaim := { program := "ytepndjojodbhdaa", sum := "ac7404377b827d5e10267d4e05dcf6f6303a8ce8a01b516eeaff4e7108be1276", func := "foliot/foliotlaw06.MarkDown", spec := "markDown", inPlace := ["sync/atomic.AddInt64"], apart := false, narrowed := true }
def MarkDownUptoSaid : Prop := markDownUptoRow.holds Try.pinned (OpenSpec.upto markDownSpec)

/-- 'foliotlaw08.WalNone', WHERE WHAT IT READS IS OF BULK AT MOST 1048576: true; the input reads as it did. -/
def walNoneUptoRow : OpenClaim := { program := "ytepndjojodbhdaa", sum := "ac7404377b827d5e10267d4e05dcf6f6303a8ce8a01b516eeaff4e7108be1276", func := "foliot/foliotlaw08.WalNone", spec := "walNone", inPlace := ["sync/atomic.AddInt64"], apart := false, narrowed := true }
def WalNoneUptoSaid : Prop := walNoneUptoRow.holds Try.pinned (OpenSpec.upto walNoneSpec)

/-- 'foliotlaw08.WalOwn', WHERE WHAT IT READS IS OF BULK AT MOST 1048576: true; the input reads as it did. -/
def walOwnUptoRow : OpenClaim := { program := "ytepndjojodbhdaa", sum := "ac7404377b827d5e10267d4e05dcf6f6303a8ce8a01b516eeaff4e7108be1276", func := "foliot/foliotlaw08.WalOwn", spec := "walOwn", inPlace := ["sync/atomic.AddInt64"], apart := false, narrowed := true }
def WalOwnUptoSaid : Prop := walOwnUptoRow.holds Try.pinned (OpenSpec.upto walOwnSpec)

/-- 'foliotlaw08.WalPlays', WHERE WHAT IT READS IS OF BULK AT MOST 1048576: true; the input reads as it did. -/
def walPlaysUptoRow : OpenClaim := { program := "ytepndjojodbhdaa", sum := "ac7404377b827d5e10267d4e05dcf6f6303a8ce8a01b516eeaff4e7108be1276", func := "foliot/foliotlaw08.WalPlays", spec := "walPlays", inPlace := ["sync/atomic.AddInt64"], apart := false, narrowed := true }
def WalPlaysUptoSaid : Prop := walPlaysUptoRow.holds Try.pinned (OpenSpec.upto walPlaysSpec)

/-- 'foliotlaw08.WalSpoilt', WHERE WHAT IT READS IS OF BULK AT MOST 1048576: true; the input reads as it did. -/
def walSpoiltUptoRow : OpenClaim := { program := "ytepndjojodbhdaa", sum := "ac7404377b827d5e10267d4e05dcf6f6303a8ce8a01b516eeaff4e7108be1276", func := "foliot/foliotlaw08.WalSpoilt", spec := "walSpoilt", inPlace := ["sync/atomic.AddInt64"], apart := false, narrowed := true }
def WalSpoiltUptoSaid : Prop := walSpoiltUptoRow.holds Try.pinned (OpenSpec.upto walSpoiltSpec)

/-- 'foliotlaw05.DiskSure', WHERE WHAT IT READS IS OF BULK AT MOST 1048576: true; the input reads as it did. -/
def diskSureUptoRow : OpenClaim := { program := "ytepndjojodbhdaa", sum := "ac7404377b827d5e10267d4e05dcf6f6303a8ce8a01b516eeaff4e7108be1276", func := "foliot/foliotlaw05.DiskSure", spec := "diskSure", inPlace := ["sync/atomic.AddInt64", "sync/atomic.LoadInt64"], recurses := true, apart := false, narrowed := true }
def DiskSureUptoSaid : Prop := diskSureUptoRow.holds Try.pinned (OpenSpec.upto diskSureSpec)

/-- 'foliotlaw05.DiskPlays', WHERE WHAT IT READS IS OF BULK AT MOST 1048576: true; the input reads as it did. -/
def diskPlaysUptoRow : OpenClaim := { program := "ytepndjojodbhdaa", sum := "ac7404377b827d5e10267d4e05dcf6f6303a8ce8a01b516eeaff4e7108be1276", func := "foliot/foliotlaw05.DiskPlays", spec := "diskPlays", inPlace := ["sync/atomic.AddInt64", "sync/atomic.LoadInt64"], recurses := true, apart := false, narrowed := true }
def DiskPlaysUptoSaid : Prop := diskPlaysUptoRow.holds Try.pinned (OpenSpec.upto diskPlaysSpec)

/-- 'foliotlaw08.WalAgain', WHERE WHAT IT READS IS OF BULK AT MOST 1048576: true; the input reads as it did. -/
def walAgainUptoRow : OpenClaim := { program := "ytepndjojodbhdaa", sum := "ac7404377b827d5e10267d4e05dcf6f6303a8ce8a01b516eeaff4e7108be1276", func := "foliot/foliotlaw08.WalAgain", spec := "walAgain", inPlace := ["sync/atomic.AddInt64", "sync/atomic.LoadInt64"], apart := false, narrowed := true }
def WalAgainUptoSaid : Prop := walAgainUptoRow.holds Try.pinned (OpenSpec.upto walAgainSpec)

/-- 'foliotlaw05.DiskClone', WHERE WHAT IT READS IS OF BULK AT MOST 1048576: true; the input reads as it did. -/
def diskCloneUptoRow : OpenClaim := { program := "ytepndjojodbhdaa", sum := "ac7404377b827d5e10267d4e05dcf6f6303a8ce8a01b516eeaff4e7108be1276", func := "foliot/foliotlaw05.DiskClone", spec := "diskClone", inPlace := ["sync/atomic.AddInt64", "sync/atomic.LoadInt64"], recurses := true, apart := false, narrowed := true }
def DiskCloneUptoSaid : Prop := diskCloneUptoRow.holds Try.pinned (OpenSpec.upto diskCloneSpec)

/-- 'foliotlaw06.MarkPuts', WHERE WHAT IT READS IS OF BULK AT MOST 1048576: true; the input reads as it did. -/
def markPutsUptoRow : OpenClaim := { program := "ytepndjojodbhdaa", sum := "ac7404377b827d5e10267d4e05dcf6f6303a8ce8a01b516eeaff4e7108be1276", func := "foliot/foliotlaw06.MarkPuts", spec := "markPuts", inPlace := ["sync/atomic.AddInt64"], recurses := true, apart := false, narrowed := true }
def MarkPutsUptoSaid : Prop := markPutsUptoRow.holds Try.pinned (OpenSpec.upto markPutsSpec)

/-- 'foliotlaw07.RingKeeps', WHERE WHAT IT READS IS OF BULK AT MOST 1048576: true; the input reads as it did. -/
def ringKeepsUptoRow : OpenClaim := { program := "ytepndjojodbhdaa", sum := "ac7404377b827d5e10267d4e05dcf6f6303a8ce8a01b516eeaff4e7108be1276", func := "foliot/foliotlaw07.RingKeeps", spec := "ringKeeps", inPlace := ["sync/atomic.AddInt64"], recurses := true, apart := false, narrowed := true }
def RingKeepsUptoSaid : Prop := ringKeepsUptoRow.holds Try.pinned (OpenSpec.upto ringKeepsSpec)

/-- 'foliotlaw06.MarkTorn', WHERE WHAT IT READS IS OF BULK AT MOST 1048576: true; the input reads as it did. -/
def markTornUptoRow : OpenClaim := { program := "ytepndjojodbhdaa", sum := "ac7404377b827d5e10267d4e05dcf6f6303a8ce8a01b516eeaff4e7108be1276", func := "foliot/foliotlaw06.MarkTorn", spec := "markTorn", inPlace := ["sync/atomic.AddInt64"], recurses := true, apart := false, narrowed := true }
def MarkTornUptoSaid : Prop := markTornUptoRow.holds Try.pinned (OpenSpec.upto markTornSpec)

/-- 'foliotlaw08.WalCrash', WHERE WHAT IT READS IS OF BULK AT MOST 1048576: true; the input reads as it did. -/
def walCrashUptoRow : OpenClaim := { program := "ytepndjojodbhdaa", sum := "ac7404377b827d5e10267d4e05dcf6f6303a8ce8a01b516eeaff4e7108be1276", func := "foliot/foliotlaw08.WalCrash", spec := "walCrash", inPlace := ["sync/atomic.AddInt64"], recurses := true, apart := false, narrowed := true }
def WalCrashUptoSaid : Prop := walCrashUptoRow.holds Try.pinned (OpenSpec.upto walCrashSpec)

end Rows
end Go.Proofs.Ytepndjojodbhdaa
