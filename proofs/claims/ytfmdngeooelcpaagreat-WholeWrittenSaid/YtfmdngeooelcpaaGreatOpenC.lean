/- What an argument reads as: bytes, values, commands. -/
import Derived.Test.YtfmdngeooelcpaaGreatVMisc
import Derived.ProofKit
import Derived.OpenShut
import Derived.ShutString
import Derived.ChangeOld
import Derived.Deep.Slices
import Derived.Test.YtfmdngeooelcpaaGreatFitsC
namespace Go.Proofs.YtfmdngeooelcpaaGreat
open Go.RowKit Go.ChangeShapes Go.WideShapes Go.ChangeAt

section
variable {H : Type} {enc : TypeId × Value → H} {W : World} {base : Nat} {spare : Nat → Bool} {held : Bool} {fuel : Nat} {x : DataW H × List MemPlace} {v : Value} {cs : List Value}

theorem ocells3 : Tryz.prog.cellsOf 3 = 1 := by kernel_rfl
theorem ocells2 : Tryz.prog.cellsOf 2 = 1 := by kernel_rfl
theorem ocells9 : Tryz.prog.cellsOf 9 = 1 := by kernel_rfl
theorem ocells34 : Tryz.prog.cellsOf 34 = 1 := by kernel_rfl
theorem ocells36 : Tryz.prog.cellsOf 36 = 4 := by kernel_rfl
theorem olist4 {α : Type} {l : List α} (h : l.length = 4) : ∃ a b c d, l = [a, b, c, d] := by
  match l, h with
  | [a, b, c, d], _ => exact ⟨a, b, c, d, rfl⟩
theorem rgL_of : ∀ {l : List VT}, (∀ t ∈ l, t.rg) → VT.rgL l
  | [], _ => by rw [VT.rgL]; trivial
  | t :: ts, h => by rw [VT.rgL]; exact ⟨h t List.mem_cons_self, rgL_of fun u hu => h u (List.mem_cons_of_mem _ hu)⟩
theorem vls_of {G : Nat → Prop} : ∀ {l : List VT} {g o : Nat}, (∀ (i : Nat) (t : VT), l[i]? = some t → ∃ cs, (∀ j u, cs[j]? = some u → W.cell? ⟨g, o + i * 4 + j, none⟩ = some u) ∧ VAt W G t cs) → VLs W G l g o
  | [], _, _, _ => by rw [VLs]; trivial
  | t :: ts, g, o, h => by
    rw [VLs]
    obtain ⟨cs, h1, h2⟩ := h 0 t rfl
    refine ⟨⟨cs, fun j u hj => by have := h1 j u hj; rwa [Nat.zero_mul, Nat.add_zero] at this, h2⟩, vls_of fun i t' hi => ?_⟩
    obtain ⟨cs', h3, h4⟩ := h (i + 1) t' hi
    exact ⟨cs', fun j u hj => by have := h3 j u hj; rwa [show o + (i + 1) * 4 + j = o + 4 + i * 4 + j from by omega] at this, h4⟩
/-- A value. -/
theorem read_val : ∀ (fuel : Nat) (cs : List Value) (x : DataW H × List MemPlace), DataW.trod enc Tryz.prog W base spare held fuel 36 cs = some x → ∃ t : VT, VAt W (fun k => k < W.heap.size) t cs ∧ t.rg := by
  intro fuel
  induction fuel using Nat.strongRecOn with
  | ind fuel ih =>
    intro cs x h
    obtain ⟨xs, n, rfl, _, hlen, hxl, hf⟩ := DataW.trod_struct Tryz.underlying36 h
    rw [ocells36] at hlen
    obtain ⟨a, b, c, d, rfl⟩ := olist4 hlen
    obtain ⟨x0, x1, x2, x3, rfl⟩ := olist4 (by simpa using hxl)
    have f0 := hf 0
    have f1 := hf 1
    have f2 := hf 2
    have f3 := hf 3
    simp [ocells3, ocells2, ocells9, ocells34] at f0 f1 f2 f3
    obtain ⟨n0, e0, -, w0⟩ := DataW.trod_int Tryz.underlying3 f0
    obtain ⟨n1, e1, -, w1⟩ := DataW.trod_int Tryz.underlying2 f1
    obtain ⟨s2, e2, -, w2⟩ := DataW.trod_string Tryz.underlying9 f2
    simp only [List.cons.injEq, and_true] at e0 e1 e2
    subst e0 e1 e2
    have b0 := bounds_i64 w0
    have b1 := bounds_i64 w1
    have b2 : s2.data.toList.length ≤ 9223372036854775807 := by
      have h1 : s2.data.toList.length = s2.size := Array.length_toList
      unfold maxLen at w2; omega
    have es : s2 = strOf s2.data.toList := strOf_of s2
    rcases DataW.trod_slice Tryz.underlying34 f3 with ⟨hcs, _⟩ | ⟨ad, len, cap, elems, rest, m, hm, hcs, _, _, hlc, hmx, hel, hee, _, _⟩
    · simp at hcs; subst hcs
      refine ⟨.mk n0 n1 s2.data.toList [], ?_, ?_⟩
      · rw [VAt]; exact ⟨none, 0, 0, 0, by rw [← es]; rfl, by simp, by rw [VLs]; trivial⟩
      · rw [VT.rg]; exact ⟨b0.1, b0.2, b1.1, b1.2, b2, by simp, by rw [VT.rgL]; trivial⟩
    · simp at hcs; subst hcs
      have hex : ∀ i, ∃ t : VT, i < len → ∃ cs', (∀ j u, cs'[j]? = some u → W.cell? ((ad.add (i * 4)).add j) = some u) ∧ VAt W (fun k => k < W.heap.size) t cs' ∧ t.rg := by
        intro i
        by_cases hi : i < len
        · have h1 := hee i hi
          rw [List.getElem?_eq_getElem (by omega), ocells36] at h1
          obtain ⟨cs', hc1, hc2⟩ := Option.bind_eq_some_iff.1 h1
          obtain ⟨t, ht1, ht2⟩ := ih m (by omega) cs' _ hc2
          obtain ⟨_, hl4, hc⟩ := World.cells?_some hc1
          refine ⟨t, fun _ => ⟨cs', fun j u hj => ?_, ht1, ht2⟩⟩
          have hj4 : j < 4 := by
            rcases Nat.lt_or_ge j 4 with h | h
            · exact h
            · rw [List.getElem?_eq_none (by omega)] at hj; cases hj
          rw [hc j hj4]; exact hj
        · exact ⟨.nil, fun h => absurd h hi⟩
      obtain ⟨f, hf⟩ := Classical.axiomOfChoice hex
      have hg : ((List.range len).map f) ≠ [] → ∃ g o, ad = ⟨g, o, none⟩ ∧ g < W.heap.size := by
        intro hne
        have h0 : 0 < len := by
          rcases Nat.eq_zero_or_pos len with h | h
          · subst h; exact absurd rfl hne
          · exact h
        obtain ⟨cs', h1, h2, -⟩ := hf 0 h0
        obtain ⟨k', n', s', a', m', c', rfl⟩ := h2.form
        have h3 := h1 0 _ rfl
        have hs : ad.spot = none := by have := World.cell?_spot h3; simpa [Addr.add] using this
        obtain ⟨g, o, s⟩ := ad
        simp only at hs
        subst hs
        exact ⟨g, o, rfl, World.block_lt_of_cell? _ _ h3⟩
      refine ⟨.mk n0 n1 s2.data.toList ((List.range len).map f), ?_, ?_⟩
      · rw [VAt]
        by_cases hne : ((List.range len).map f) = []
        · refine ⟨some ad, cap, 0, 0, by rw [← es]; simp, fun e => absurd hne e, ?_⟩
          rw [hne, VLs]; trivial
        · obtain ⟨g, o, rfl, hgl⟩ := hg hne
          refine ⟨some ⟨g, o, none⟩, cap, g, o, by rw [← es]; simp, fun _ => ⟨rfl, hgl⟩, vls_of fun i t hi => ?_⟩
          have hil : i < len := by
            rcases Nat.lt_or_ge i len with h | h
            · exact h
            · rw [List.getElem?_eq_none (by simpa using h)] at hi; cases hi
          simp only [List.getElem?_map, List.getElem?_range hil, Option.map_some, Option.some.injEq] at hi
          subst hi
          obtain ⟨cs', h1, h2, -⟩ := hf i hil
          exact ⟨cs', fun j u hj => by have := h1 j u hj; rwa [addr_add, addr_add] at this, h2⟩
      · rw [VT.rg]
        refine ⟨b0.1, b0.2, b1.1, b1.2, b2, by simp; unfold maxLen at hmx; omega, rgL_of fun t ht => ?_⟩
        obtain ⟨i, hi, rfl⟩ := List.mem_map.1 ht
        obtain ⟨-, -, -, h3⟩ := hf i (by simpa using hi)
        exact h3
end
end Go.Proofs.YtfmdngeooelcpaaGreat
namespace Go.Proofs.YtfmdngeooelcpaaGreat
open Go.RowKit Go.ChangeShapes Go.WideShapes Go.ChangeAt
section
variable {H : Type} {enc : TypeId × Value → H} {W : World} {base : Nat} {spare : Nat → Bool} {held : Bool} {fuel : Nat} {x : DataW H × List MemPlace} {v : Value} {cs : List Value}
theorem ocells38 : Tryz.prog.cellsOf 38 = 9 := by kernel_rfl
theorem olist9 {α : Type} {l : List α} (h : l.length = 9) : ∃ a b c d e f g i j, l = [a, b, c, d, e, f, g, i, j] := by
  match l, h with
  | [a, b, c, d, e, f, g, i, j], _ => exact ⟨a, b, c, d, e, f, g, i, j, rfl⟩
theorem olist6 {α : Type} {l : List α} (h : l.length = 6) : ∃ a b c d e f, l = [a, b, c, d, e, f] := by
  match l, h with
  | [a, b, c, d, e, f], _ => exact ⟨a, b, c, d, e, f, rfl⟩
/-- A command. -/
theorem read_cmd (h : DataW.trod enc Tryz.prog W base spare held fuel 38 cs = some x) : ∃ e : EM, CAt W (fun k => k < W.heap.size) e cs ∧ e.rg ∧ e.isC := by
  obtain ⟨xs, n, rfl, _, hlen, hxl, hf⟩ := DataW.trod_struct Tryz.underlying38 h
  rw [ocells38] at hlen
  obtain ⟨a, b, c, d, e, i, j, k, m, rfl⟩ := olist9 hlen
  obtain ⟨x0, x1, x2, x3, x4, x5, rfl⟩ := olist6 (by simpa using hxl)
  have f0 := hf 0
  have f1 := hf 1
  have f2 := hf 2
  have f3 := hf 3
  have f4 := hf 4
  have f5 := hf 5
  simp [ocells3, ocells2, ocells9, ocells36] at f0 f1 f2 f3 f4 f5
  obtain ⟨n0, e0, -, w0⟩ := DataW.trod_int Tryz.underlying3 f0
  obtain ⟨n1, e1, -, w1⟩ := DataW.trod_int Tryz.underlying2 f1
  obtain ⟨n2, e2, -, w2⟩ := DataW.trod_int Tryz.underlying2 f2
  obtain ⟨n3, e3, -, w3⟩ := DataW.trod_int Tryz.underlying2 f3
  obtain ⟨s5, e5, -, w5⟩ := DataW.trod_string Tryz.underlying9 f4
  obtain ⟨t, ht, hg⟩ := read_val _ _ _ f5
  simp only [List.cons.injEq, and_true] at e0 e1 e2 e3 e5
  subst e0 e1 e2 e3 e5
  have l5 : s5.data.toList.length ≤ 9223372036854775807 := by
    have h1 : s5.data.toList.length = s5.size := Array.length_toList
    unfold maxLen at w5; omega
  refine ⟨⟨0, n1, n0, n2, n3, s5.data.toList, [], t⟩, ⟨[i, j, k, m], ?_, ht⟩, ⟨⟨by show (-9223372036854775808 : Int) ≤ 0; decide, by show (0 : Int) ≤ 9223372036854775807; decide⟩, bounds_i64 w1, bounds_i64 w0, bounds_i64 w2, bounds_i64 w3, l5, by simp, hg⟩, rfl, rfl⟩
  simp only [EM.ccells]
  rw [← strOf_of s5]; rfl
theorem read_cmds (h : DataW.trod enc Tryz.prog W base spare held fuel 22 [v] = some x) : ∃ es : List EM, CmsV W (fun k => k < W.heap.size) v es ∧ (∀ e ∈ es, e.rg ∧ e.isC) ∧ es.length ≤ 9223372036854775807 := by
  rcases DataW.trod_slice Tryz.underlying22 h with ⟨hcs, _⟩ | ⟨ad, len, cap, elems, rest, m, hm, hcs, _, _, hlc, hmx, hel, hee, _, _⟩
  · simp at hcs; subst hcs
    exact ⟨[], ⟨none, 0, 0, 0, rfl, by simp, by simp⟩, by simp, by simp⟩
  · simp at hcs; subst hcs
    have hex : ∀ i, ∃ e : EM, i < len → ∃ cs', (∀ j u, cs'[j]? = some u → W.cell? ((ad.add (i * 9)).add j) = some u) ∧ CAt W (fun k => k < W.heap.size) e cs' ∧ e.rg ∧ e.isC := by
      intro i
      by_cases hi : i < len
      · have h1 := hee i hi
        rw [List.getElem?_eq_getElem (by omega), ocells38] at h1
        obtain ⟨cs', hc1, hc2⟩ := Option.bind_eq_some_iff.1 h1
        obtain ⟨t, ht1, ht2⟩ := read_cmd hc2
        obtain ⟨_, hl4, hc⟩ := World.cells?_some hc1
        refine ⟨t, fun _ => ⟨cs', fun j u hj => ?_, ht1, ht2⟩⟩
        have hj4 : j < 9 := by
          rcases Nat.lt_or_ge j 9 with h | h
          · exact h
          · rw [List.getElem?_eq_none (by omega)] at hj; cases hj
        rw [hc j hj4]; exact hj
      · exact ⟨.zero, fun h => absurd h hi⟩
    obtain ⟨f, hf⟩ := Classical.axiomOfChoice hex
    have hg : ((List.range len).map f) ≠ [] → ∃ g o, ad = ⟨g, o, none⟩ ∧ g < W.heap.size := by
      intro hne
      have h0 : 0 < len := by
        rcases Nat.eq_zero_or_pos len with h | h
        · subst h; exact absurd rfl hne
        · exact h
      obtain ⟨cs', h1, h2, -⟩ := hf 0 h0
      obtain ⟨vk, vn, vs, va, vm, vc, rfl, -⟩ := h2.form
      have h3 := h1 0 _ rfl
      have hs : ad.spot = none := by have := World.cell?_spot h3; simpa [Addr.add] using this
      obtain ⟨g, o, s⟩ := ad
      simp only at hs
      subst hs
      exact ⟨g, o, rfl, World.block_lt_of_cell? _ _ h3⟩
    refine ⟨(List.range len).map f, ?_, fun e he => ?_, by simp; unfold maxLen at hmx; omega⟩
    · by_cases hne : ((List.range len).map f) = []
      · exact ⟨some ad, cap, 0, 0, by simp, fun e => absurd hne e, fun i e hi => by rw [hne] at hi; simp at hi⟩
      · obtain ⟨g, o, rfl, hgl⟩ := hg hne
        refine ⟨some ⟨g, o, none⟩, cap, g, o, by simp, fun _ => ⟨rfl, hgl⟩, fun i e hi => ?_⟩
        have hil : i < len := by
          rcases Nat.lt_or_ge i len with h | h
          · exact h
          · rw [List.getElem?_eq_none (by simpa using h)] at hi; cases hi
        simp only [List.getElem?_map, List.getElem?_range hil, Option.map_some, Option.some.injEq] at hi
        subst hi
        obtain ⟨cs', h1, h2, -⟩ := hf i hil
        exact ⟨cs', fun j u hj => by have := h1 j u hj; rwa [addr_add, addr_add] at this, h2⟩
    · obtain ⟨i, hi, rfl⟩ := List.mem_map.1 he
      obtain ⟨-, -, -, h3⟩ := hf i (by simpa using hi)
      exact h3
end
end Go.Proofs.YtfmdngeooelcpaaGreat
