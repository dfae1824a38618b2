/- slices.Clone at bytes: a new row with the same bytes; nothing that was there has turned. -/
import Derived.Test.YtfmdngeooelcpaaGreatProg
import Derived.Test.YtfmdngeooelcpaaGreatLaws
import Derived.Test.YtfmdngeooelcpaaGreatGrow
namespace Go.Proofs.YtfmdngeooelcpaaGreat
open Go.RowKit

/-- A new row of bytes that a call has made, at address g, of capacity c. -/
structure MadeC (w w' : World) (v : Value) (l : List UInt8) (g c : Nat) : Prop where
  val : v = .slice (some ⟨g, 0, none⟩) l.length c
  lo : w.heap.size ≤ g
  hi : g < w'.heap.size
  row : Row w' g 5 c (bytesV l)

theorem MadeC.src {w w' : World} {v : Value} {l : List UInt8} {g c : Nat} (h : MadeC w w' v l g c) : Src w' v l := by rw [h.val]; exact h.row.src

theorem info8 : (Tryz.prog.info? 5).map (fun i => (i.zero, i.size, i.bytes)) = some (some (.int .u8 0), 1, 1) := by kernel_rfl

set_option maxHeartbeats 400000 in
theorem clone_any (w : World) (v : Value) (l : List UInt8) (hs : Src w v l) (hl : l ≠ []) (hb : l.length ≤ 1000000) :
    Calls Tryz.prog 74 #[v] w fun e w' => ∃ v' g c, e = .returned v' ∧ MadeC w w' v' l g c ∧ Only (fun _ => False) w w' := by
  obtain ⟨a, c, rfl, hsrc⟩ := hs
  obtain ⟨g, o, rfl, hcell⟩ := hsrc hl
  obtain ⟨i0, hi, hz0, hz1, hz2⟩ := info_parts info8
  have hpos : 0 < l.length := List.length_pos_iff.2 hl
  have hne := fun (W : World) => Lib.run_eql_slice_nil (P := Tryz.prog) W 31 5 (some ⟨g, o, none⟩) l.length c 0 0 Tryz.underlying31
  clear hsrc
  have Hc := hid hcell; clear hcell
  go_enter Tryz.func74, Tryz.ntmps74
  go_wp2_with (at_builtin; refine wpList_app rfl _ _ 31 rfl 5 i0 (.int .u8 0) 1 1 Tryz.underlying31 hi hz0 hz1 hz2 rfl w.heap.size 0 0 [] rfl ?hrow rfl _ l.length c rfl (bytesV l) ?hl ?hnews (oneCell_bytesV l) ?h63 ?hby ?_; rotate_right 1; intro g' cap' w1 hcap hrow' hg' honly)
  case hrow => exact ⟨[], blk_new w _, rfl⟩
  case hl => simp
  case h63 => omega
  case hby => omega
  case hnews =>
    intro j u hj
    have h1 := Hc.out j u hj
    rw [addr_add, World.cell?_alloc_lt]
    · exact h1
    · exact World.block_lt_of_cell? _ _ h1
  go_wp2
  go_ret
  exact ⟨_, g', cap', rfl, ⟨rfl, by rcases hg' with rfl | rfl <;> simp, hrow'.lt, by simpa using hrow'⟩, ((Only.refl _ w).alloc _).trans honly (fun k hk e => by omega)⟩
end Go.Proofs.YtfmdngeooelcpaaGreat
