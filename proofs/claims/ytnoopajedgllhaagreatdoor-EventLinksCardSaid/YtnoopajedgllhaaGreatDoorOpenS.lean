/- What an argument reads as: a sum (an array of 32 bytes). -/
import Derived.Test.YtnoopajedgllhaaGreatDoorOpenV
import Derived.OpenShut
namespace Go.Proofs.YtnoopajedgllhaaGreatDoor
open Go.RowKit Go.ChangeShapes Go.WideShapes Go.ChangeAt
section
variable {H : Type} {enc : TypeId × Value → H} {W : World} {base : Nat} {spare : Nat → Bool} {held : Bool} {fuel : Nat} {x : DataW H × List MemPlace} {v : Value} {cs : List Value}
set_option maxRecDepth 100000 in
theorem okWide_sum {r : Reach} {b0 : Nat} (h : Value.okWide Tryz.prog W r b0 23 v) : ∃ cs, v = .agg cs ∧ cs.size = Tryz.prog.cellsOf 23 := by
  simp only [Value.okWide, Tryz.underlying23] at h
  obtain ⟨cs, h1, h2, _⟩ := h
  exact ⟨cs, h1, h2⟩
set_option maxRecDepth 100000 in
theorem read_sum (h : DataW.trod enc Tryz.prog W base spare held fuel 23 cs = some x) : ∃ l : List UInt8, l.length = 32 ∧ cs = bytesV l := by
  obtain ⟨xs, m, -, -, hcl, hxl, hf⟩ := DataW.trod_array Tryz.underlying23 h
  have hc32 : cs.length = 32 := by rw [hcl]; kernel_rfl
  have h8 : Tryz.prog.cellsOf 5 = 1 := by kernel_rfl
  have hel : ∀ i, i < 32 → ∃ u : UInt8, cs[i]? = some (.int .u8 u.toNat) := by
    intro i hi
    have h1 := hf i hi
    rw [h8, Nat.mul_one] at h1
    obtain ⟨y, hy⟩ : ∃ y, xs[i]? = some y := ⟨_, List.getElem?_eq_getElem (by omega)⟩
    rw [hy] at h1
    obtain ⟨n, hn, -, hw⟩ := DataW.trod_int Tryz.underlying5 h1
    refine ⟨UInt8.ofNat n.toNat, ?_⟩
    rw [u8_back hw]
    have h2 : ((cs.drop i).take 1)[0]? = some (.int .u8 n) := by rw [hn]; rfl
    rw [List.getElem?_take_of_lt (by omega), List.getElem?_drop, Nat.add_zero] at h2
    exact h2
  obtain ⟨f, hf2⟩ : ∃ f : Nat → UInt8, ∀ i, i < 32 → cs[i]? = some (.int .u8 (f i).toNat) := by
    refine ⟨fun i => if hi : i < 32 then (hel i hi).choose else 0, fun i hi => ?_⟩
    simp only [hi, dite_true]
    exact (hel i hi).choose_spec
  refine ⟨(List.range 32).map f, by simp, ?_⟩
  apply List.ext_getElem?
  intro i
  rw [bytesV_get]
  by_cases hi : i < 32
  · rw [hf2 i hi]; simp [hi]
  · rw [List.getElem?_eq_none (by omega), List.getElem?_eq_none (by simp; omega)]; rfl
end
end Go.Proofs.YtnoopajedgllhaaGreatDoor
