/- Bytes as strings; rows whose bytes are turned. -/
import Derived.Test.YtepndjojodbhdaaDiskL
namespace Go.Proofs.Ytepndjojodbhdaa
open Go.RowKit

def strOf (l : List UInt8) : ByteArray := ⟨l.toArray⟩
theorem strOf_inj {a b : List UInt8} (h : strOf a = strOf b) : a = b := by
  have := congrArg (fun s : ByteArray => s.data.toList) h
  simpa [strOf] using this
theorem strOf_list (l : List UInt8) : (strOf l).toList = l := by rw [ByteArray.toList_eq]; simp [strOf]

set_option maxRecDepth 100000 in
theorem conv_str {w : World} {v : Value} {l : List UInt8} (h : Src w v l) : (convert 30 9 v).run Try.prog w = .ok (.string (strOf l)) w := by
  obtain ⟨a, c, rfl, hs⟩ := h
  by_cases hne : l = []
  · subst hne
    cases a with
    | none => exact run_convert_bytes_nil (P := Try.prog) w 30 5 Try.underlying30 Try.underlying5 _ _ 9 Try.underlying9
    | some a =>
      rw [run_convert_bytes_string w 30 9 5 _ _ _ Try.underlying30 Try.underlying5 Try.underlying9]
      simp [Conv.bytesToString, loadCells, loadCellsFrom]
      rfl
  · obtain ⟨g, o, rfl, hc⟩ := hs hne
    have := run_convert_bytes_arg (P := Try.prog) w 30 5 Try.underlying30 Try.underlying5 g o l.length c (l.map fun x => (x.toNat : Int)) (by simp) (fun i hi => by
      rw [hc i (.int .u8 (l[i]).toNat) (by rw [bytesV_get, List.getElem?_eq_getElem hi]; rfl)]
      simp [hi]) 9 Try.underlying9
    rw [this]
    congr 2
    simp only [strOfNums, strOf, List.map_map]
    congr 2
    conv => rhs; rw [← List.map_id l]
    exact List.map_congr_left fun x _ => by simp

/-- A row of bytes that is turned, byte by byte: whatever they are. -/
def IncInv (w1 wr : World) (g c n : Nat) : Prop := ∃ ns : List Int, Row wr g 5 c (ns.map (Value.int .u8)) ∧ ns.length = n ∧ Only (fun j => j = g) w1 wr
theorem IncInv.start {w1 : World} {g c : Nat} {l : List UInt8} (h : Row w1 g 5 c (bytesV l)) : IncInv w1 w1 g c l.length :=
  ⟨l.map fun x => (x.toNat : Int), by have : ((l.map fun x => (x.toNat : Int)).map (Value.int .u8)) = bytesV l := by simp [bytesV]
                                      rw [this]; exact h, by simp, Only.refl _ _⟩
theorem IncInv.cell {w1 wr : World} {g c n : Nat} (h : IncInv w1 wr g c n) (k : Nat) (hk : k < n) : ∃ x : Int, wr.cell? ⟨g, k, none⟩ = some (.int .u8 x) ∧ wr.frozen? ⟨g, k, none⟩ = false ∧ ∀ y, IncInv w1 (wr.setCell ⟨g, k, none⟩ (.int .u8 y)) g c n := by
  obtain ⟨ns, hr, hl, ho⟩ := h
  refine ⟨ns[k]'(by omega), ?_, hr.frozen k, fun y => ⟨ns.set k y, ?_, by simpa using hl, ho.trans (only_set _ _ _) (fun _ _ e => e)⟩⟩
  · rw [hr.cell k (by simp; omega)]; simp [show k < ns.length by omega]
  · have := hr.set k (.int .u8 y) (by simp; omega)
    rw [List.map_set]; exact this
end Go.Proofs.Ytepndjojodbhdaa
