/- [][]uint64 as an argument. -/
import Derived.Test.YtepndjojodbhdaaOpenN
namespace Go.Proofs.Ytepndjojodbhdaa
open Go.RowKit Go.ChangeShapes Go.WideShapes Go.ChangeAt

/-- A slice of slices of numbers. -/
def NatsV (w : World) (v : Value) (ps : List (List Nat)) : Prop :=
  ∃ a c, v = .slice a ps.length c ∧ ps.length ≤ 9223372036854775807 ∧ ∀ i l, ps[i]? = some l → l.length ≤ 9223372036854775807 ∧ (∀ x ∈ l, x < 18446744073709551616) ∧ ∃ g o pa pc, a = some ⟨g, o, none⟩ ∧ w.cell? ⟨g, o + i, none⟩ = some (.slice pa l.length pc) ∧ SrcV w (.slice pa l.length pc) (nat64 l)
theorem srcV_only {w w' : World} {v : Value} {xs : List Value} {G : Nat → Prop} (h : SrcV w v xs) (ho : Only G w w') (hG : ∀ k, k < w.heap.size → ¬ G k) : SrcV w' v xs := by
  obtain ⟨a, c, e, hs⟩ := h
  refine ⟨a, c, e, fun hne => ?_⟩
  obtain ⟨g, o, rfl, hc⟩ := hs hne
  exact ⟨g, o, rfl, fun i u hu => (World.cell?_of_block (ho.block g (World.block_lt_of_cell? _ _ (hc i u hu)) (hG g (World.block_lt_of_cell? _ _ (hc i u hu))))).trans (hc i u hu)⟩

section
variable {H : Type} {enc : TypeId × Value → H} {W : World} {base : Nat} {spare : Nat → Bool} {held : Bool} {fuel : Nat} {x : DataW H × List MemPlace} {v : Value}
theorem cellsN60 : Try.prog.cellsOf 60 = 1 := by kernel_rfl
theorem read_natss (h : DataW.trod enc Try.prog W base spare held fuel 72 [v] = some x) : ∃ ps : List (List Nat), NatsV W v ps := by
  rcases Go.Deep.open_slice Try.underlying72 h with ⟨hcs, _⟩ | ⟨a, len, cap, m, n, D, Pl, hcs, _, hlc, hm, hmm, _, hel⟩
  · simp at hcs; subst hcs
    exact ⟨[], none, 0, rfl, by simp, by simp⟩
  · simp at hcs; subst hcs
    have hlm : len ≤ m := by rw [hmm]; split <;> omega
    have hex : ∀ i, ∃ l : List Nat, i < len → l.length ≤ 9223372036854775807 ∧ (∀ x ∈ l, x < 18446744073709551616) ∧ ∃ u : Value, SrcV W u (nat64 l) ∧ W.cell? (a.add (i * 1)) = some u := by
      intro i
      by_cases hi : i < len
      · obtain ⟨cs', hcs', htr⟩ := hel i (by omega)
        obtain ⟨_, hl1, hc⟩ := World.cells?_some hcs'
        rw [cellsN60] at hl1 hc
        obtain ⟨u, rfl⟩ : ∃ u, cs' = [u] := by
          cases cs' with
          | nil => simp at hl1
          | cons u us => cases us with
            | nil => exact ⟨u, rfl⟩
            | cons _ _ => simp at hl1
        obtain ⟨l, hs, hb, hx⟩ := read_nats htr
        refine ⟨l, fun _ => ⟨hb, hx, u, hs, ?_⟩⟩
        have := hc 0 (by decide)
        have ea : ∀ b : Addr, b.add 0 = b := fun b => by simp [Addr.add]
        rw [ea] at this
        exact this
      · exact ⟨[], fun h => absurd h hi⟩
    obtain ⟨f, hf⟩ := Classical.axiomOfChoice hex
    refine ⟨(List.range len).map f, some a, cap, by simp, by simp; unfold maxLen at hm; omega, fun i o hi => ?_⟩
    have hil : i < len := by
      rcases Nat.lt_or_ge i len with h | h
      · exact h
      · rw [List.getElem?_eq_none (by simpa using h)] at hi; cases hi
    simp only [List.getElem?_map, List.getElem?_range hil, Option.map_some, Option.some.injEq] at hi
    subst hi
    obtain ⟨hb, hx, u, hs, hc⟩ := hf i hil
    have hsp : a.spot = none := by
      obtain ⟨-, -, u0, -, hc0⟩ := hf 0 (by omega)
      have := World.cell?_spot hc0; simpa [Addr.add] using this
    obtain ⟨g, o, s⟩ := a
    simp only at hsp
    subst hsp
    obtain ⟨pa, pc, e, -⟩ := id hs
    rw [length_nat64] at e
    subst e
    refine ⟨hb, hx, g, o, pa, pc, rfl, ?_, hs⟩
    rw [addr_add, Nat.mul_one] at hc
    exact hc
end
end Go.Proofs.Ytepndjojodbhdaa
