/- What an argument reads as: a slice of arrays of three numbers. -/
import Derived.Test.YthodcbhejjbhaaaOpen
import Derived.Test.YthodcbhejjbhaaaDiskO
import Derived.Test.YthodcbhejjbhaaaGrow
import Derived.OpenShut
namespace Go.Proofs.Ythodcbhejjbhaaa
open Go.RowKit Go.ChangeShapes Go.WideShapes Go.ChangeAt
def c3 (x : Int × Int × Int) : List Value := [.int .i64 x.1, .int .i64 x.2.1, .int .i64 x.2.2]
def CrsAt (w : World) (v : Value) (l : List (Int × Int × Int)) : Prop :=
  ∃ a c, v = .slice a l.length c ∧ l.length ≤ 9223372036854775807 ∧ ∀ i x, l[i]? = some x → ∃ g of, a = some ⟨g, of, none⟩ ∧ g < w.heap.size ∧ ∀ j u, (c3 x)[j]? = some u → w.cell? ⟨g, of + i * 3 + j, none⟩ = some u
section
variable {H : Type} {enc : TypeId × Value → H} {W : World} {base : Nat} {spare : Nat → Bool} {held : Bool} {fuel : Nat} {x : DataW H × List MemPlace} {v : Value} {cs : List Value}
theorem cells3 : Try.prog.cellsOf 73 = 3 := by kernel_rfl
set_option maxRecDepth 100000 in
theorem read_int3 (h : DataW.trod enc Try.prog W base spare held fuel 73 cs = some x) : ∃ a b c : Int, cs = [.int .i64 a, .int .i64 b, .int .i64 c] := by
  obtain ⟨xs, m, -, -, hcl, hxl, hf⟩ := DataW.trod_array Try.underlying73 h
  have hc2 : cs.length = 3 := by rw [hcl]; kernel_rfl
  have h8 : Try.prog.cellsOf 3 = 1 := by kernel_rfl
  have hel : ∀ i, i < 3 → ∃ n : Int, cs[i]? = some (.int .i64 n) ∧ -9223372036854775808 ≤ n ∧ n ≤ 9223372036854775807 := by
    intro i hi
    have h1 := hf i hi
    rw [h8, Nat.mul_one] at h1
    obtain ⟨y, hy⟩ : ∃ y, xs[i]? = some y := ⟨_, List.getElem?_eq_getElem (by omega)⟩
    rw [hy] at h1
    obtain ⟨n, hn, -, hw⟩ := DataW.trod_int Try.underlying3 h1
    refine ⟨n, ?_, bounds_i64 hw⟩
    have h2 : ((cs.drop i).take 1)[0]? = some (.int .i64 n) := by rw [hn]; rfl
    rw [List.getElem?_take_of_lt (by omega), List.getElem?_drop, Nat.add_zero] at h2
    exact h2
  obtain ⟨n, h1, h2⟩ := hel 0 (by decide)
  obtain ⟨m, h3, h4⟩ := hel 1 (by decide)
  obtain ⟨p, h5, h6⟩ := hel 2 (by decide)
  refine ⟨n, m, p, ?_⟩
  apply List.ext_getElem?
  intro i
  match i with
  | 0 => exact h1
  | 1 => exact h3
  | 2 => exact h5
  | i + 3 => rw [List.getElem?_eq_none (by omega)]; simp
theorem read_crs (h : DataW.trod enc Try.prog W base spare held fuel 60 [v] = some x) : ∃ l : List (Int × Int × Int), CrsAt W v l := by
  rcases Go.Deep.open_slice Try.underlying60 h with ⟨hcs, _⟩ | ⟨a, len, cap, m, n, D, Pl, hcs, _, hlc, hm, hmm, _, hel⟩
  · simp at hcs; subst hcs
    exact ⟨[], none, 0, rfl, by simp, by simp⟩
  · simp at hcs; subst hcs
    have hlm : len ≤ m := by rw [hmm]; split <;> omega
    have hex : ∀ i, ∃ o : Int × Int × Int, i < len → ∀ j u, (c3 o)[j]? = some u → W.cell? ((a.add (i * 3)).add j) = some u := by
      intro i
      by_cases hi : i < len
      · obtain ⟨cs', hcs', htr⟩ := hel i (by omega)
        obtain ⟨a1, a2, a3, rfl⟩ := read_int3 htr
        obtain ⟨_, hl7, hc⟩ := World.cells?_some hcs'
        rw [cells3] at hc
        refine ⟨(a1, a2, a3), fun _ j u hj => ?_⟩
        have hj7 : j < 3 := by
          rcases Nat.lt_or_ge j 3 with h | h
          · exact h
          · rw [List.getElem?_eq_none (by simpa [c3] using h)] at hj; cases hj
        rw [hc j hj7]; exact hj
      · exact ⟨(0, 0, 0), fun h => absurd h hi⟩
    obtain ⟨f, hf⟩ := Classical.axiomOfChoice hex
    refine ⟨(List.range len).map f, some a, cap, by simp, by simp; unfold maxLen at hm; omega, fun i o hi => ?_⟩
    have hil : i < len := by
      rcases Nat.lt_or_ge i len with h | h
      · exact h
      · rw [List.getElem?_eq_none (by simpa using h)] at hi; cases hi
    simp only [List.getElem?_map, List.getElem?_range hil, Option.map_some, Option.some.injEq] at hi
    subst hi
    have hc := hf i hil
    have hc0 := hf 0 (by omega)
    have hs : a.spot = none := by have := World.cell?_spot (hc0 0 _ rfl); simpa [Addr.add] using this
    obtain ⟨g, o, s⟩ := a
    simp only at hs
    subst hs
    refine ⟨g, o, rfl, by have := World.block_lt_of_cell? _ _ (hc0 0 _ rfl); simpa [Addr.add] using this, fun j u hj => ?_⟩
    have := hc j u hj
    rw [addr_add, addr_add] at this
    exact this
end
end Go.Proofs.Ythodcbhejjbhaaa
