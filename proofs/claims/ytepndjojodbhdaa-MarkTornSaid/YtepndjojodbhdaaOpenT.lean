/- []Try of the marks' law as an argument. -/
import Derived.Test.YtepndjojodbhdaaOpenM
import Derived.Test.YtepndjojodbhdaaDiskO
namespace Go.Proofs.Ytepndjojodbhdaa
open Go.RowKit Go.ChangeShapes Go.WideShapes Go.ChangeAt

structure TryM where
  ws : List Nat
  wv : Value
  fuse : Int
  at' : Int
  keep : Bool
def TryM.cells (o : TryM) : List Value := [o.wv, .int .i64 o.fuse, .int .i64 o.at', .bool o.keep]
structure TryAt (w : World) (o : TryM) : Prop where
  nums : SrcV w o.wv (nat64 o.ws)
  len : o.ws.length ≤ 9223372036854775807
  small : ∀ x ∈ o.ws, x < 18446744073709551616
  fuse0 : -9223372036854775808 ≤ o.fuse ∧ o.fuse ≤ 9223372036854775807
  at0 : -9223372036854775808 ≤ o.at' ∧ o.at' ≤ 9223372036854775807

/-- A slice value that reads as these tries. -/
def TriesAt (w : World) (v : Value) (l : List TryM) : Prop :=
  ∃ a c, v = .slice a l.length c ∧ l.length ≤ 9223372036854775807 ∧ ∀ i o, l[i]? = some o → TryAt w o ∧ ∃ g of, a = some ⟨g, of, none⟩ ∧ g < w.heap.size ∧ ∀ j u, o.cells[j]? = some u → w.cell? ⟨g, of + i * 4 + j, none⟩ = some u

section
variable {H : Type} {enc : TypeId × Value → H} {W : World} {base : Nat} {spare : Nat → Bool} {held : Bool} {fuel : Nat} {x : DataW H × List MemPlace} {v : Value} {cs : List Value}

theorem cellsT138 : Try.prog.cellsOf 138 = 4 := by kernel_rfl
theorem cellsT3 : Try.prog.cellsOf 3 = 1 := by kernel_rfl
theorem cellsT4 : Try.prog.cellsOf 4 = 1 := by kernel_rfl
theorem cellsT60 : Try.prog.cellsOf 60 = 1 := by kernel_rfl

theorem list4 {α : Type} {l : List α} (h : l.length = 4) : ∃ a b c d, l = [a, b, c, d] := by
  match l, h with
  | [a, b, c, d], _ => exact ⟨a, b, c, d, rfl⟩

theorem read_try (h : DataW.trod enc Try.prog W base spare held fuel 138 cs = some x) : ∃ o : TryM, cs = o.cells ∧ TryAt W o := by
  obtain ⟨xs, n, rfl, _, hlen, hxl, hf⟩ := DataW.trod_struct Try.underlying138 h
  rw [cellsT138] at hlen
  obtain ⟨a, b, c, d, rfl⟩ := list4 hlen
  obtain ⟨x0, x1, x2, x3, rfl⟩ := list4 (by simpa using hxl)
  have f0 := hf 0
  have f1 := hf 1
  have f2 := hf 2
  have f3 := hf 3
  simp [cellsT3, cellsT4, cellsT60] at f0 f1 f2 f3
  obtain ⟨l0, s0, b0, c0⟩ := read_nats f0
  obtain ⟨n1, e1, -, w1⟩ := DataW.trod_int Try.underlying3 f1
  obtain ⟨n2, e2, -, w2⟩ := DataW.trod_int Try.underlying3 f2
  obtain ⟨n3, e3, -⟩ := DataW.trod_bool Try.underlying4 f3
  simp only [List.cons.injEq, and_true] at e1 e2 e3
  subst e1 e2 e3
  exact ⟨⟨l0, a, n1, n2, n3⟩, rfl, s0, b0, c0, bounds_i64 w1, bounds_i64 w2⟩

theorem read_tries (h : DataW.trod enc Try.prog W base spare held fuel 136 [v] = some x) : ∃ l : List TryM, TriesAt W v l := by
  rcases Go.Deep.open_slice Try.underlying136 h with ⟨hcs, _⟩ | ⟨a, len, cap, m, n, D, Pl, hcs, _, hlc, hm, hmm, _, hel⟩
  · simp at hcs; subst hcs
    exact ⟨[], none, 0, rfl, by simp, by simp⟩
  · simp at hcs; subst hcs
    have hlm : len ≤ m := by rw [hmm]; split <;> omega
    have hex : ∀ i, ∃ o : TryM, i < len → TryAt W o ∧ ∀ j u, o.cells[j]? = some u → W.cell? ((a.add (i * 4)).add j) = some u := by
      intro i
      by_cases hi : i < len
      · obtain ⟨cs', hcs', htr⟩ := hel i (by omega)
        obtain ⟨o, rfl, hat⟩ := read_try htr
        obtain ⟨_, hl7, hc⟩ := World.cells?_some hcs'
        rw [cellsT138] at hc
        refine ⟨o, fun _ => ⟨hat, fun j u hj => ?_⟩⟩
        have hj4 : j < 4 := by
          rcases Nat.lt_or_ge j 4 with h | h
          · exact h
          · rw [List.getElem?_eq_none (by simpa [TryM.cells] using h)] at hj; cases hj
        rw [hc j hj4]; exact hj
      · exact ⟨⟨[], .slice none 0 0, 0, 0, false⟩, fun h => absurd h hi⟩
    obtain ⟨f, hf⟩ := Classical.axiomOfChoice hex
    refine ⟨(List.range len).map f, some a, cap, by simp, by simp; unfold maxLen at hm; omega, fun i o hi => ?_⟩
    have hil : i < len := by
      rcases Nat.lt_or_ge i len with h | h
      · exact h
      · rw [List.getElem?_eq_none (by simpa using h)] at hi; cases hi
    simp only [List.getElem?_map, List.getElem?_range hil, Option.map_some, Option.some.injEq] at hi
    subst hi
    obtain ⟨hat, hc⟩ := hf i hil
    obtain ⟨-, hc0⟩ := hf 0 (by omega)
    have hs : a.spot = none := by have := World.cell?_spot (hc0 0 _ rfl); simpa [Addr.add] using this
    obtain ⟨g, o, s⟩ := a
    simp only at hs
    subst hs
    refine ⟨hat, g, o, rfl, by have := World.block_lt_of_cell? _ _ (hc0 0 _ rfl); simpa [Addr.add] using this, fun j u hj => ?_⟩
    have := hc j u hj
    rw [addr_add, addr_add] at this
    exact this
end
end Go.Proofs.Ytepndjojodbhdaa
