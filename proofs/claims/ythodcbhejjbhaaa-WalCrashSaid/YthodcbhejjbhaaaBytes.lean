/- Bytes as strings; rows whose bytes are turned. -/
import Derived.Test.YthodcbhejjbhaaaDiskL
namespace Go.Proofs.Ythodcbhejjbhaaa
open Go.RowKit

/-- A row of bytes that is turned, byte by byte: whatever they are. -/
def IncInv (w1 wr : World) (g c n : Nat) : Prop := ∃ ns : List Int, Row wr g 5 c (ns.map (Value.int .u8)) ∧ ns.length = n ∧ Only (fun j => j = g) w1 wr
theorem IncInv.start {w1 : World} {g c : Nat} {l : List UInt8} (h : Row w1 g 5 c (bytesV l)) : IncInv w1 w1 g c l.length :=
  ⟨l.map fun x => (x.toNat : Int), by have : ((l.map fun x => (x.toNat : Int)).map (Value.int .u8)) = bytesV l := by simp [bytesV]
                                      rw [this]; exact h, by simp, Only.refl _ _⟩
theorem IncInv.cell {w1 wr : World} {g c n : Nat} (h : IncInv w1 wr g c n) (k : Nat) (hk : k < n) : ∃ x : Int, wr.cell? ⟨g, k, none⟩ = some (.int .u8 x) ∧ wr.frozen? ⟨g, k, none⟩ = false ∧ ∀ y, IncInv w1 (wr.setCell ⟨g, k, none⟩ (.int .u8 y)) g c n := by
  obtain ⟨ns, hr, hl, ho⟩ := h
  refine ⟨ns[k]'(by omega), ?_, hr.frozen k, fun y => ⟨ns.set k y, ?_, by simpa using hl, ho.trans (only_set _ _ _) (fun _ _ e => e)⟩⟩
  · rw [hr.cell k (by simp; omega)]; simp [show k < ns.length by omega]
  · have := hr.set k (.int .u8 y) (by simp; omega)
    rw [List.map_set]; exact this
end Go.Proofs.Ythodcbhejjbhaaa
