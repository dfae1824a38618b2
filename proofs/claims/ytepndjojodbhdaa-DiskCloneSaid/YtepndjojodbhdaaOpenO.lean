/- What the disk's law's operations read as. -/
import Derived.Test.YtepndjojodbhdaaOpen
import Derived.Test.YtepndjojodbhdaaDiskO
namespace Go.Proofs.Ytepndjojodbhdaa
open Go.RowKit Go.ChangeShapes Go.WideShapes Go.ChangeAt

section
variable {H : Type} {enc : TypeId × Value → H} {W : World} {base : Nat} {spare : Nat → Bool} {held : Bool} {fuel : Nat} {x : DataW H × List MemPlace} {v : Value} {cs : List Value}

theorem cells33 : Try.prog.cellsOf 33 = 7 := by kernel_rfl
theorem cells3 : Try.prog.cellsOf 3 = 1 := by kernel_rfl
theorem cells5 : Try.prog.cellsOf 5 = 1 := by kernel_rfl
theorem cells4 : Try.prog.cellsOf 4 = 1 := by kernel_rfl
theorem cells30 : Try.prog.cellsOf 30 = 1 := by kernel_rfl
theorem cells31 : Try.prog.cellsOf 31 = 1 := by kernel_rfl

theorem list7 {α : Type} {l : List α} (h : l.length = 7) : ∃ a b c d e f g, l = [a, b, c, d, e, f, g] := by
  match l, h with
  | [a, b, c, d, e, f, g], _ => exact ⟨a, b, c, d, e, f, g, rfl⟩

theorem read_op (h : DataW.trod enc Try.prog W base spare held fuel 33 cs = some x) : ∃ o : OpM, cs = o.cells ∧ OpAt W W.heap.size o := by
  obtain ⟨xs, n, rfl, _, hlen, hxl, hf⟩ := DataW.trod_struct Try.underlying33 h
  rw [cells33] at hlen
  obtain ⟨a, b, c, d, e, f, g, rfl⟩ := list7 hlen
  obtain ⟨x0, x1, x2, x3, x4, x5, x6, rfl⟩ := list7 (by simpa using hxl)
  have f0 := hf 0
  have f1 := hf 1
  have f2 := hf 2
  have f3 := hf 3
  have f4 := hf 4
  have f5 := hf 5
  have f6 := hf 6
  simp [cells3, cells5, cells4, cells30, cells31] at f0 f1 f2 f3 f4 f5 f6
  obtain ⟨n0, e0, -, -⟩ := DataW.trod_int Try.underlying3 f0
  obtain ⟨n1, e1, -, w1⟩ := DataW.trod_int Try.underlying3 f1
  obtain ⟨n2, e2, -, -⟩ := DataW.trod_int Try.underlying3 f2
  obtain ⟨n3, e3, -, w3⟩ := DataW.trod_int Try.underlying5 f3
  obtain ⟨n4, e4, -⟩ := DataW.trod_bool Try.underlying4 f4
  obtain ⟨l5, s5, b5⟩ := read_bytes f5
  obtain ⟨l6, s6, b6⟩ := read_ints f6
  simp only [List.cons.injEq, and_true] at e0 e1 e2 e3 e4
  subst e0 e1 e2 e3 e4
  refine ⟨⟨n0, n1, n2, n3, n4, f, l5, g, l6⟩, rfl, s5, s6, fun g of c e hne => s5.lt e hne, fun g of c e hne => s6.lt (by simpa using e) (by intro e'; apply hne; have := congrArg List.length e'; simpa using this), b5, b6, bounds_i64 w1, bounds_u8 w3⟩

theorem read_ops (h : DataW.trod enc Try.prog W base spare held fuel 22 [v] = some x) : ∃ l : List OpM, OpsAt W W.heap.size v l := by
  rcases Go.Deep.open_slice Try.underlying22 h with ⟨hcs, _⟩ | ⟨a, len, cap, m, n, D, Pl, hcs, _, hlc, hm, hmm, _, hel⟩
  · simp at hcs; subst hcs
    exact ⟨[], none, 0, rfl, by simp, by simp⟩
  · simp at hcs; subst hcs
    have hlm : len ≤ m := by rw [hmm]; split <;> omega
    have hex : ∀ i, ∃ o : OpM, i < len → OpAt W W.heap.size o ∧ ∀ j u, o.cells[j]? = some u → W.cell? ((a.add (i * 7)).add j) = some u := by
      intro i
      by_cases hi : i < len
      · obtain ⟨cs', hcs', htr⟩ := hel i (by omega)
        obtain ⟨o, rfl, hat⟩ := read_op htr
        obtain ⟨_, hl7, hc⟩ := World.cells?_some hcs'
        rw [cells33] at hc
        refine ⟨o, fun _ => ⟨hat, fun j u hj => ?_⟩⟩
        have hj7 : j < 7 := by
          rcases Nat.lt_or_ge j 7 with h | h
          · exact h
          · rw [List.getElem?_eq_none (by simpa [OpM.cells] using h)] at hj; cases hj
        rw [hc j hj7]; exact hj
      · exact ⟨⟨0, 0, 0, 0, false, .slice none 0 0, [], .slice none 0 0, []⟩, fun h => absurd h hi⟩
    obtain ⟨f, hf⟩ := Classical.axiomOfChoice hex
    refine ⟨(List.range len).map f, some a, cap, by simp, by simp; unfold maxLen at hm; omega, fun i o hi => ?_⟩
    have hil : i < len := by
      rcases Nat.lt_or_ge i len with h | h
      · exact h
      · rw [List.getElem?_eq_none (by simpa using h)] at hi; cases hi
    simp only [List.getElem?_map, List.getElem?_range hil, Option.map_some, Option.some.injEq] at hi
    subst hi
    obtain ⟨hat, hc⟩ := hf i hil
    obtain ⟨-, hc0⟩ := hf 0 (by omega)
    have hs : a.spot = none := by have := World.cell?_spot (hc0 0 _ rfl); simpa [Addr.add] using this
    obtain ⟨g, o, s⟩ := a
    simp only at hs
    subst hs
    refine ⟨hat, g, o, rfl, by have := World.block_lt_of_cell? _ _ (hc0 0 _ rfl); simpa [Addr.add] using this, fun j u hj => ?_⟩
    have := hc j u hj
    rw [addr_add, addr_add] at this
    exact this
end
end Go.Proofs.Ytepndjojodbhdaa
