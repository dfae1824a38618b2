/- The law's own helpers on bytes: full, sector. -/
import Derived.Test.YthodcbhejjbhaaaDiskX
namespace Go.Proofs.Ythodcbhejjbhaaa
open Go.RowKit

theorem make128 : ∀ w, (Instr.makeSlice 33 (.int .i64 128) (.int .i64 128)).run Try.prog w = .ok (.slice (some ⟨w.heap.size, 0, none⟩) 128 128) (w.alloc (.cells (bytesV (zeros 128)).toArray 5)) := fun w => make_bytes w 128 (by decide)

def fill (x : UInt8) (k : Nat) : List UInt8 := List.replicate k x ++ List.replicate (128 - k) 0
@[simp] theorem length_fill (x : UInt8) (k : Nat) (h : k ≤ 128) : (fill x k).length = 128 := by simp [fill]; omega
theorem fill_set (x : UInt8) (k : Nat) (h : k < 128) : (fill x k).set k x = fill x (k + 1) := by
  unfold fill
  rw [List.set_append_right _ _ (by simp)]
  simp only [List.length_replicate, Nat.sub_self]
  have : 128 - k = (128 - (k + 1)) + 1 := by omega
  rw [this, List.replicate_succ, List.set_cons_zero, List.replicate_succ']
  simp
theorem bytesV_set (l : List UInt8) (i : Nat) (x : UInt8) : (bytesV l).set i (.int .u8 x.toNat) = bytesV (l.set i x) := by simp [bytesV, List.map_set]


/-- Bytes, noughts behind them, of a sector's length. -/
def sectorL (l : List UInt8) : List UInt8 := l.take 128 ++ zeros (128 - l.length)
@[simp] theorem length_sectorL (l : List UInt8) : (sectorL l).length = 128 := by simp [sectorL]; omega

theorem lay_zeros (n : Nat) (l : List UInt8) : lay (bytesV (zeros n)) 0 (bytesV l) = bytesV (l ++ zeros (n - l.length)) := by
  simp [lay, bytesV, zeros]

theorem MadeC.apart {w w' : World} {v : Value} {l : List UInt8} {g c b : Nat} {D : DiskM} {F : Nat → Prop} (hm : MadeC w w' v l g c) (h : DiskAt w b D F) : ∀ g' o c', v = .slice (some ⟨g', o, none⟩) l.length c' → ¬ F g' := by
  intro g' o c' e hf
  have := hm.val.symm.trans e
  cases this
  have := h.lt hf
  have := hm.lo
  omega


def W1 : DiskM := ((DiskM.new 2).write 1 (List.replicate 128 7)).1
def W2 : DiskM := W1.flush.1
def W3 : DiskM := (W2.write 1 (List.replicate 128 9)).1
def W5 : DiskM := (W3.crash [] 1 3).up
theorem w1_code : ((DiskM.new 2).write 1 (List.replicate 128 7)).2 = 0 := by kernel_rfl
theorem w2_code : W1.flush.2 = 0 := by kernel_rfl
theorem w3_code : (W2.write 1 (List.replicate 128 9)).2 = 0 := by kernel_rfl
theorem w5_down : W5.down = false := by kernel_rfl
theorem w5_n : W5.n = 2 := by kernel_rfl
theorem w5_nw : W5.nw = 2 := by kernel_rfl
theorem w5_nf : W5.nf = 1 := by kernel_rfl
theorem w5_2 : (bytesV (W5.cur 1))[2]? = some (.int .u8 9) := by kernel_rfl
theorem w5_3 : (bytesV (W5.cur 1))[3]? = some (.int .u8 7) := by kernel_rfl

end Go.Proofs.Ythodcbhejjbhaaa
