/- What the ring's law's operations read as. -/
import Derived.Test.YtepndjojodbhdaaOpen
import Derived.Test.YtepndjojodbhdaaDiskO
namespace Go.Proofs.Ytepndjojodbhdaa
open Go.RowKit Go.ChangeShapes Go.WideShapes Go.ChangeAt

structure ROp where
  kind : Int
  head : Int
  at' : Int
  n : Int
  often : Int
  dv : Value
  data : List UInt8
def ROp.cells (o : ROp) : List Value := [.int .i64 o.kind, .int .i64 o.head, .int .i64 o.at', .int .i64 o.n, .int .i64 o.often, o.dv]
structure ROpAt (w : World) (o : ROp) : Prop where
  data : Src w o.dv o.data
  dlen : o.data.length ≤ 9223372036854775807
  n0 : -9223372036854775808 ≤ o.n ∧ o.n ≤ 9223372036854775807
  head0 : -9223372036854775808 ≤ o.head ∧ o.head ≤ 9223372036854775807
  at0 : -9223372036854775808 ≤ o.at' ∧ o.at' ≤ 9223372036854775807
  often0 : -9223372036854775808 ≤ o.often ∧ o.often ≤ 9223372036854775807

/-- A slice value that reads as these operations. -/
def ROpsAt (w : World) (v : Value) (l : List ROp) : Prop :=
  ∃ a c, v = .slice a l.length c ∧ l.length ≤ 9223372036854775807 ∧ ∀ i o, l[i]? = some o → ROpAt w o ∧ ∃ g of, a = some ⟨g, of, none⟩ ∧ g < w.heap.size ∧ ∀ j u, o.cells[j]? = some u → w.cell? ⟨g, of + i * 6 + j, none⟩ = some u

section
variable {H : Type} {enc : TypeId × Value → H} {W : World} {base : Nat} {spare : Nat → Bool} {held : Bool} {fuel : Nat} {x : DataW H × List MemPlace} {v : Value} {cs : List Value}

theorem cellsR56 : Try.prog.cellsOf 56 = 6 := by kernel_rfl
theorem cellsR3 : Try.prog.cellsOf 3 = 1 := by kernel_rfl
theorem cellsR30 : Try.prog.cellsOf 30 = 1 := by kernel_rfl

theorem list6 {α : Type} {l : List α} (h : l.length = 6) : ∃ a b c d e f, l = [a, b, c, d, e, f] := by
  match l, h with
  | [a, b, c, d, e, f], _ => exact ⟨a, b, c, d, e, f, rfl⟩

theorem read_rop (h : DataW.trod enc Try.prog W base spare held fuel 56 cs = some x) : ∃ o : ROp, cs = o.cells ∧ ROpAt W o := by
  obtain ⟨xs, n, rfl, _, hlen, hxl, hf⟩ := DataW.trod_struct Try.underlying56 h
  rw [cellsR56] at hlen
  obtain ⟨a, b, c, d, e, f, rfl⟩ := list6 hlen
  obtain ⟨x0, x1, x2, x3, x4, x5, rfl⟩ := list6 (by simpa using hxl)
  have f0 := hf 0
  have f1 := hf 1
  have f2 := hf 2
  have f3 := hf 3
  have f4 := hf 4
  have f5 := hf 5
  simp [cellsR3, cellsR30] at f0 f1 f2 f3 f4 f5
  obtain ⟨n0, e0, -, -⟩ := DataW.trod_int Try.underlying3 f0
  obtain ⟨n1, e1, -, w1⟩ := DataW.trod_int Try.underlying3 f1
  obtain ⟨n2, e2, -, w2⟩ := DataW.trod_int Try.underlying3 f2
  obtain ⟨n3, e3, -, w3⟩ := DataW.trod_int Try.underlying3 f3
  obtain ⟨n4, e4, -, w4⟩ := DataW.trod_int Try.underlying3 f4
  obtain ⟨l5, s5, b5⟩ := read_bytes f5
  simp only [List.cons.injEq, and_true] at e0 e1 e2 e3 e4
  subst e0 e1 e2 e3 e4
  exact ⟨⟨n0, n1, n2, n3, n4, f, l5⟩, rfl, s5, b5, bounds_i64 w3, bounds_i64 w1, bounds_i64 w2, bounds_i64 w4⟩

theorem read_rops (h : DataW.trod enc Try.prog W base spare held fuel 54 [v] = some x) : ∃ l : List ROp, ROpsAt W v l := by
  rcases Go.Deep.open_slice Try.underlying54 h with ⟨hcs, _⟩ | ⟨a, len, cap, m, n, D, Pl, hcs, _, hlc, hm, hmm, _, hel⟩
  · simp at hcs; subst hcs
    exact ⟨[], none, 0, rfl, by simp, by simp⟩
  · simp at hcs; subst hcs
    have hlm : len ≤ m := by rw [hmm]; split <;> omega
    have hex : ∀ i, ∃ o : ROp, i < len → ROpAt W o ∧ ∀ j u, o.cells[j]? = some u → W.cell? ((a.add (i * 6)).add j) = some u := by
      intro i
      by_cases hi : i < len
      · obtain ⟨cs', hcs', htr⟩ := hel i (by omega)
        obtain ⟨o, rfl, hat⟩ := read_rop htr
        obtain ⟨_, hl7, hc⟩ := World.cells?_some hcs'
        rw [cellsR56] at hc
        refine ⟨o, fun _ => ⟨hat, fun j u hj => ?_⟩⟩
        have hj7 : j < 6 := by
          rcases Nat.lt_or_ge j 6 with h | h
          · exact h
          · rw [List.getElem?_eq_none (by simpa [ROp.cells] using h)] at hj; cases hj
        rw [hc j hj7]; exact hj
      · exact ⟨⟨0, 0, 0, 0, 0, .slice none 0 0, []⟩, fun h => absurd h hi⟩
    obtain ⟨f, hf⟩ := Classical.axiomOfChoice hex
    refine ⟨(List.range len).map f, some a, cap, by simp, by simp; unfold maxLen at hm; omega, fun i o hi => ?_⟩
    have hil : i < len := by
      rcases Nat.lt_or_ge i len with h | h
      · exact h
      · rw [List.getElem?_eq_none (by simpa using h)] at hi; cases hi
    simp only [List.getElem?_map, List.getElem?_range hil, Option.map_some, Option.some.injEq] at hi
    subst hi
    obtain ⟨hat, hc⟩ := hf i hil
    obtain ⟨-, hc0⟩ := hf 0 (by omega)
    have hs : a.spot = none := by have := World.cell?_spot (hc0 0 _ rfl); simpa [Addr.add] using this
    obtain ⟨g, o, s⟩ := a
    simp only at hs
    subst hs
    refine ⟨hat, g, o, rfl, by have := World.block_lt_of_cell? _ _ (hc0 0 _ rfl); simpa [Addr.add] using this, fun j u hj => ?_⟩
    have := hc j u hj
    rw [addr_add, addr_add] at this
    exact this
end
end Go.Proofs.Ytepndjojodbhdaa
