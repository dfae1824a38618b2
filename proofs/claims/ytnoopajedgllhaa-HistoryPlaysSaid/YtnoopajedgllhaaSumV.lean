/- wire.Writer.Sum. Sums (32 bytes) inside structs: built, made into a slice, loaded. -/
import Derived.Test.YtnoopajedgllhaaWire
import Derived.Test.YtnoopajedgllhaaWhole
import Derived.Deep.MidRow
namespace Go.Proofs.Ytnoopajedgllhaa
open Go.RowKit
section
variable {w : World} {b : Nat} {F G : Nat → Prop} {bs : List UInt8}
/-- A sum's 32 bytes as a value. -/
def sumV (s : List UInt8) : Value := .agg (bytesV s).toArray
set_option maxRecDepth 100000 in
set_option maxHeartbeats 800000 in
theorem wsum_c (h : Wr w b F bs) (s : List UInt8) (hs : s.length = 32) (hl : bs.length ≤ 999990000) :
    Calls Try.prog 71 #[.pointer (some ⟨b, 0, none⟩), sumV s] w fun e w' => e = .returned (.tuple #[]) ∧ WStep w w' b F (bs ++ s) := by
  obtain ⟨ao, cap, hp, hf⟩ := h
  have h0 : w.cell? ⟨b, 0, none⟩ = some (.slice ao bs.length cap) := cell_blk hp.1 0
  have hz := frozen_blk hp.1
  have HP := hid hp; have HF := hid hf; have HS := hid hs
  clear hp hf hs
  unfold sumV
  go_enter Try.func71, Try.ntmps71
  go_wp2_with fail
  have Hw1 : Hid (Only (fun _ => False) w (w.alloc (.cells (bytesV s).toArray 29)).drew) := hid (only_new w _).drew
  have HG : Hid (SrcG (w.alloc (.cells (bytesV s).toArray 29)).drew (some ⟨w.heap.size, 0, none⟩) 32 1 (bytesV s)) := hid (SrcG.new (T := 29) (fr := (0, 0)) (blk_new w _) (by simp [HS.out]) (oneCell_bytesV s))
  have HR : Hid (Gr (w.alloc (.cells (bytesV s).toArray 29)).drew 5 1 ao bs.length cap (bytesV bs)) := hid (HP.out.2.1.only Hw1.out (fun _ _ e => e))
  have hsz := blk_lt HP.out.1
  go_region_law (first
    | (refine step_of rfl (wp_gr (o := ⟨some 10, _, _, _, _, _⟩) el8 (.tmp 8) (.tmp 9) rfl HR.out rfl _ 32 32 rfl _ HG.out (by omega) (by omega) ?_); intro ao' cap' w' hg' ha' ho'; have hb' := blk_only (blk_only HP.out.1 Hw1.out (fun e => e)) ho' HP.out.2.2; have hc' := cell_blk hb' 0; have hz' := frozen_blk hb'; have Hg := hid hg'; have Ha := hid ha'; have Ho := hid ho'; clear hg' ha' ho' hb'))
  all_goals
    go_wp2
    go_end0
    exact ⟨rfl, wr_fin HP.out HF.out Hw1.out Hg.out Ha.out Ho.out⟩
end
end Go.Proofs.Ytnoopajedgllhaa
namespace Go.Proofs.Ytnoopajedgllhaa
open Go.RowKit
/-- A history's cells. -/
def hcells (l : Option Addr) (n c : Nat) (l' : Option Addr) (n' c' : Nat) (s : List UInt8) (t : Int) : List Value := [.slice l n c, .slice l' n' c'] ++ (bytesV s ++ [.int .i64 t])
theorem build_hist (w : World) (s : List UInt8) (hs : s.length = 32) : (Instr.build 88 #[(2, .agg (bytesV s).toArray)]).run Try.prog w = .ok (.agg (hcells none 0 0 none 0 0 s 0).toArray) w := by
  match s, hs with
  | [a0, a1, a2, a3, a4, a5, a6, a7, a8, a9, a10, a11, a12, a13, a14, a15, a16, a17, a18, a19, a20, a21, a22, a23, a24, a25, a26, a27, a28, a29, a30, a31], _ => show _ = _; kernel_rfl
theorem bslice_sum (w : World) (s : List UInt8) (hs : s.length = 32) : (Instr.buildSlice 64 1 #[(0, .agg (bytesV s).toArray)]).run Try.prog w = .ok (.slice (some ⟨w.heap.size, 0, none⟩) 1 1) (w.alloc (.cells (bytesV s).toArray 29)) := by
  match s, hs with
  | [a0, a1, a2, a3, a4, a5, a6, a7, a8, a9, a10, a11, a12, a13, a14, a15, a16, a17, a18, a19, a20, a21, a22, a23, a24, a25, a26, a27, a28, a29, a30, a31], _ => show _ = _; kernel_rfl
theorem info_sum : (Try.prog.info? 29).map (·.size) = some 32 := by kernel_rfl
theorem info_hist : (Try.prog.info? 88).map (·.size) = some 35 := by kernel_rfl
end Go.Proofs.Ytnoopajedgllhaa
