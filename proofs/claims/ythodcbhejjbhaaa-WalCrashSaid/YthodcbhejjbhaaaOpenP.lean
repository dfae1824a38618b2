/- Parts (a slice of byte slices) as an argument. -/
import Derived.Test.YthodcbhejjbhaaaOpen
import Derived.Test.YthodcbhejjbhaaaRingA
namespace Go.Proofs.Ythodcbhejjbhaaa
open Go.RowKit Go.ChangeShapes Go.WideShapes Go.ChangeAt

/-- A slice of byte slices that reads as these parts. -/
def PartsV (w : World) (v : Value) (ps : List (List UInt8)) : Prop :=
  ∃ a c, v = .slice a ps.length c ∧ ps.length ≤ 9223372036854775807 ∧ ∀ i l, ps[i]? = some l → l.length ≤ 9223372036854775807 ∧ ∃ g o pa pc, a = some ⟨g, o, none⟩ ∧ w.cell? ⟨g, o + i, none⟩ = some (.slice pa l.length pc) ∧ Src w (.slice pa l.length pc) l

theorem PartsV.only {w w' : World} {v : Value} {ps : List (List UInt8)} {G : Nat → Prop} (h : PartsV w v ps) (ho : Only G w w') (hG : ∀ k, k < w.heap.size → ¬ G k) : PartsV w' v ps := by
  obtain ⟨a, c, rfl, hl, h⟩ := h
  refine ⟨a, c, rfl, hl, fun i l hi => ?_⟩
  obtain ⟨hb, g, o, pa, pc, rfl, hc, hs⟩ := h i l hi
  have hlt := World.block_lt_of_cell? _ _ hc
  refine ⟨hb, g, o, pa, pc, rfl, (World.cell?_of_block (ho.block g hlt (hG g hlt))).trans hc, hs.only ho (fun hne g' o' c' e hg' => hG g' (hs.lt e hne) hg')⟩
theorem PartsV.parts {W w : World} {v : Value} {ps : List (List UInt8)} {N G : Nat → Prop} (h : PartsV W v ps) (hb : ∀ l ∈ ps, l.length ≤ 1000000) (ho : Only G W w) (hG : ∀ k, k < W.heap.size → ¬ G k) (hN : ∀ k, N k → W.heap.size ≤ k) : PartsAt w v ps N := by
  obtain ⟨a, c, rfl, hl, h⟩ := h
  refine ⟨a, c, rfl, hl, fun i l hi => ?_⟩
  obtain ⟨-, g, o, pa, pc, rfl, hc, hs⟩ := h i l hi
  have hlt : g < W.heap.size := World.block_lt_of_cell? _ _ hc
  refine ⟨g, o, pa, pc, rfl, fun e => by have := hN g e; omega, (World.cell?_of_block (ho.block g hlt (hG g hlt))).trans hc, hs.only ho (fun hne g' o' c' e hg' => hG g' (hs.lt e hne) hg'), fun hne g' o' e hg' => ?_, hb l (List.mem_of_getElem? hi)⟩
  have h1 := hN g' hg'
  have h2 := hs.lt (g := g') (of := o') (c := pc) (by rw [e]) hne
  omega

section
variable {H : Type} {enc : TypeId × Value → H} {W : World} {base : Nat} {spare : Nat → Bool} {held : Bool} {fuel : Nat} {x : DataW H × List MemPlace} {v : Value}
theorem cellsP33 : Try.prog.cellsOf 33 = 1 := by kernel_rfl
theorem read_parts (h : DataW.trod enc Try.prog W base spare held fuel 69 [v] = some x) : ∃ ps : List (List UInt8), PartsV W v ps := by
  rcases Go.Deep.open_slice Try.underlying69 h with ⟨hcs, _⟩ | ⟨a, len, cap, m, n, D, Pl, hcs, _, hlc, hm, hmm, _, hel⟩
  · simp at hcs; subst hcs
    exact ⟨[], none, 0, rfl, by simp, by simp⟩
  · simp at hcs; subst hcs
    have hlm : len ≤ m := by rw [hmm]; split <;> omega
    have hex : ∀ i, ∃ l : List UInt8, i < len → l.length ≤ 9223372036854775807 ∧ ∃ u : Value, Src W u l ∧ W.cell? (a.add (i * 1)) = some u := by
      intro i
      by_cases hi : i < len
      · obtain ⟨cs', hcs', htr⟩ := hel i (by omega)
        obtain ⟨_, hl1, hc⟩ := World.cells?_some hcs'
        rw [cellsP33] at hl1 hc
        obtain ⟨u, rfl⟩ : ∃ u, cs' = [u] := by
          cases cs' with
          | nil => simp at hl1
          | cons u us => cases us with
            | nil => exact ⟨u, rfl⟩
            | cons _ _ => simp at hl1
        obtain ⟨l, hs, hb⟩ := read_bytesA htr
        refine ⟨l, fun _ => ⟨hb, u, hs, ?_⟩⟩
        have := hc 0 (by decide)
        have ea : ∀ b : Addr, b.add 0 = b := fun b => by simp [Addr.add]
        rw [ea] at this
        exact this
      · exact ⟨[], fun h => absurd h hi⟩
    obtain ⟨f, hf⟩ := Classical.axiomOfChoice hex
    refine ⟨(List.range len).map f, some a, cap, by simp, by simp; unfold maxLen at hm; omega, fun i o hi => ?_⟩
    have hil : i < len := by
      rcases Nat.lt_or_ge i len with h | h
      · exact h
      · rw [List.getElem?_eq_none (by simpa using h)] at hi; cases hi
    simp only [List.getElem?_map, List.getElem?_range hil, Option.map_some, Option.some.injEq] at hi
    subst hi
    obtain ⟨hb, u, hs, hc⟩ := hf i hil
    have hsp : a.spot = none := by
      obtain ⟨-, u0, -, hc0⟩ := hf 0 (by omega)
      have := World.cell?_spot hc0; simpa [Addr.add] using this
    obtain ⟨g, o, s⟩ := a
    simp only at hsp
    subst hsp
    obtain ⟨pa, pc, e⟩ := hs.len
    subst e
    refine ⟨hb, g, o, pa, pc, rfl, ?_, hs⟩
    rw [addr_add, Nat.mul_one] at hc
    exact hc
end
end Go.Proofs.Ythodcbhejjbhaaa
