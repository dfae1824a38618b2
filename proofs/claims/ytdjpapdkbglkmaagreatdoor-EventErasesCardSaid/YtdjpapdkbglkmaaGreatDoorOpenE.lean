/- A list of events as an argument. -/
import Derived.Test.YtdjpapdkbglkmaaGreatDoorFits
namespace Go.Proofs.YtdjpapdkbglkmaaGreatDoor
open Go.RowKit Go.ChangeShapes Go.WideShapes Go.ChangeAt
section
variable {H : Type} {enc : TypeId × Value → H} {W : World} {base : Nat} {spare : Nat → Bool} {held : Bool} {fuel : Nat} {x : DataW H × List MemPlace} {v : Value}
theorem read_evs (h : DataW.trod enc Tryz.prog W base spare held fuel 40 [v] = some x) : ∃ es : List EM, EvsV W (fun k => k < W.heap.size) v es ∧ (∀ e ∈ es, e.rg) ∧ es.length ≤ 9223372036854775807 := by
  rcases DataW.trod_slice Tryz.underlying40 h with ⟨hcs, _⟩ | ⟨ad, len, cap, elems, rest, m, hm, hcs, _, _, hlc, hmx, hel, hee, _, _⟩
  · simp at hcs; subst hcs
    exact ⟨[], ⟨none, 0, 0, 0, rfl, by simp, by simp⟩, by simp, by simp⟩
  · simp at hcs; subst hcs
    have hex : ∀ i, ∃ e : EM, i < len → ∃ cs', (∀ j u, cs'[j]? = some u → W.cell? ((ad.add (i * 11)).add j) = some u) ∧ EAt W (fun k => k < W.heap.size) e cs' ∧ e.rg := by
      intro i
      by_cases hi : i < len
      · have h1 := hee i hi
        rw [List.getElem?_eq_getElem (by omega), ocells26] at h1
        obtain ⟨cs', hc1, hc2⟩ := Option.bind_eq_some_iff.1 h1
        obtain ⟨t, ht1, ht2⟩ := read_ev hc2
        obtain ⟨_, hl4, hc⟩ := World.cells?_some hc1
        refine ⟨t, fun _ => ⟨cs', fun j u hj => ?_, ht1, ht2⟩⟩
        have hj4 : j < 11 := by
          rcases Nat.lt_or_ge j 11 with h | h
          · exact h
          · rw [List.getElem?_eq_none (by omega)] at hj; cases hj
        rw [hc j hj4]; exact hj
      · exact ⟨.zero, fun h => absurd h hi⟩
    obtain ⟨f, hf⟩ := Classical.axiomOfChoice hex
    have hg : ((List.range len).map f) ≠ [] → ∃ g o, ad = ⟨g, o, none⟩ ∧ g < W.heap.size := by
      intro hne
      have h0 : 0 < len := by
        rcases Nat.eq_zero_or_pos len with h | h
        · subst h; exact absurd rfl hne
        · exact h
      obtain ⟨cs', h1, h2, -⟩ := hf 0 h0
      obtain ⟨vk, vn, vs, va, vm, vc, rfl, -⟩ := h2.form
      have h3 := h1 0 _ rfl
      have hs : ad.spot = none := by have := World.cell?_spot h3; simpa [Addr.add] using this
      obtain ⟨g, o, s⟩ := ad
      simp only at hs
      subst hs
      exact ⟨g, o, rfl, World.block_lt_of_cell? _ _ h3⟩
    refine ⟨(List.range len).map f, ?_, fun e he => ?_, by simp; unfold maxLen at hmx; omega⟩
    · by_cases hne : ((List.range len).map f) = []
      · exact ⟨some ad, cap, 0, 0, by simp, fun e => absurd hne e, fun i e hi => by rw [hne] at hi; simp at hi⟩
      · obtain ⟨g, o, rfl, hgl⟩ := hg hne
        refine ⟨some ⟨g, o, none⟩, cap, g, o, by simp, fun _ => ⟨rfl, hgl⟩, fun i e hi => ?_⟩
        have hil : i < len := by
          rcases Nat.lt_or_ge i len with h | h
          · exact h
          · rw [List.getElem?_eq_none (by simpa using h)] at hi; cases hi
        simp only [List.getElem?_map, List.getElem?_range hil, Option.map_some, Option.some.injEq] at hi
        subst hi
        obtain ⟨cs', h1, h2, -⟩ := hf i hil
        exact ⟨cs', fun j u hj => by have := h1 j u hj; rwa [addr_add, addr_add] at this, h2⟩
    · obtain ⟨i, hi, rfl⟩ := List.mem_map.1 he
      obtain ⟨-, -, -, h3⟩ := hf i (by simpa using hi)
      exact h3
end
end Go.Proofs.YtdjpapdkbglkmaaGreatDoor
