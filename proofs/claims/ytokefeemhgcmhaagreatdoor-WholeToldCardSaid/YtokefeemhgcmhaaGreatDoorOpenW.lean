/- What an argument reads as: bytes, values (the first part of OpenV, for a seat without events). -/
import Derived.Test.YtokefeemhgcmhaaGreatDoorVMisc
import Derived.ProofKit
import Derived.OpenShut
import Derived.ShutString
import Derived.ChangeOld
import Derived.Deep.Slices
namespace Go.Proofs.YtokefeemhgcmhaaGreatDoor
open Go.RowKit Go.ChangeShapes Go.WideShapes Go.ChangeAt

section
variable {H : Type} {enc : TypeId × Value → H} {W : World} {base : Nat} {spare : Nat → Bool} {held : Bool} {fuel : Nat} {x : DataW H × List MemPlace} {v : Value} {cs : List Value}

theorem u8_back {n : Int} (h : (Lit.int .u8 n).wf = true) : ((UInt8.ofNat n.toNat).toNat : Int) = n := by
  have := bounds_u8 h
  simp
  omega
/-- A reading of one cell's slice: the cells from its address on. -/
theorem src_of {a : Addr} {xs : List Value} (hc : ∀ i u, xs[i]? = some u → W.cell? (a.add i) = some u) : xs ≠ [] → ∃ g o, some a = some ⟨g, o, none⟩ ∧ ∀ i u, xs[i]? = some u → W.cell? ⟨g, o + i, none⟩ = some u := by
  intro hne
  cases hx : xs with
  | nil => exact absurd hx hne
  | cons y ys =>
    have h0 := hc 0 y (by rw [hx]; rfl)
    have hs : a.spot = none := by have := World.cell?_spot h0; simpa [Addr.add] using this
    obtain ⟨g, o, s⟩ := a
    simp only at hs
    subst hs
    refine ⟨g, o, rfl, fun i u hu => ?_⟩
    rw [← hx] at hu
    rw [← addr_add]; exact hc i u hu
/-- []byte. -/
theorem read_bytes (h : DataW.trod enc Tryz.prog W base spare held fuel 33 [v] = some x) : ∃ l : List UInt8, Src W v l ∧ l.length ≤ 9223372036854775807 := by
  rcases open_ints Tryz.underlying33 Tryz.underlying5 (by kernel_rfl) h with ⟨hcs, _⟩ | ⟨a, l, c, zs, hcs, _, hl, hm, hz, _, hcell, hwz⟩
  · simp at hcs; subst hcs
    exact ⟨[], ⟨none, 0, rfl, by simp⟩, by simp⟩
  · simp at hcs; subst hcs
    have hzl : l ≤ zs.length := by rw [hz]; split <;> omega
    have hlen : ((zs.take l).map fun n => UInt8.ofNat n.toNat).length = l := by simp; omega
    refine ⟨(zs.take l).map fun n => UInt8.ofNat n.toNat, ⟨some a, c, by rw [hlen], fun hne => ?_⟩, by rw [hlen]; unfold maxLen at hm; omega⟩
    refine src_of (xs := bytesV ((zs.take l).map fun n => UInt8.ofNat n.toNat)) (fun i u hu => ?_) (by intro e; apply hne; have := congrArg List.length e; simp at this ⊢; exact this)
    rw [bytesV_get] at hu
    by_cases hi : i < l
    · rw [hcell i (by omega)]
      simp only [List.getElem?_map, List.getElem?_take_of_lt hi, List.getElem?_eq_getElem (show i < zs.length by omega), Option.map_some, Option.some.injEq] at hu
      subst hu
      have hw := hwz zs[i] (List.getElem_mem _)
      rw [u8_back hw]
      simp [show i < zs.length by omega]
    · rw [List.getElem?_eq_none (by rw [hlen]; omega)] at hu; cases hu

theorem ocells3 : Tryz.prog.cellsOf 3 = 1 := by kernel_rfl
theorem ocells2 : Tryz.prog.cellsOf 2 = 1 := by kernel_rfl
theorem ocells9 : Tryz.prog.cellsOf 9 = 1 := by kernel_rfl
theorem ocells22 : Tryz.prog.cellsOf 22 = 1 := by kernel_rfl
theorem ocells24 : Tryz.prog.cellsOf 24 = 4 := by kernel_rfl
theorem olist4 {α : Type} {l : List α} (h : l.length = 4) : ∃ a b c d, l = [a, b, c, d] := by
  match l, h with
  | [a, b, c, d], _ => exact ⟨a, b, c, d, rfl⟩
theorem olist8 {α : Type} {l : List α} (h : l.length = 8) : ∃ a b c d e f g i, l = [a, b, c, d, e, f, g, i] := by
  match l, h with
  | [a, b, c, d, e, f, g, i], _ => exact ⟨a, b, c, d, e, f, g, i, rfl⟩
theorem olist11 {α : Type} {l : List α} (h : l.length = 11) : ∃ a b c d e f g i j k m, l = [a, b, c, d, e, f, g, i, j, k, m] := by
  match l, h with
  | [a, b, c, d, e, f, g, i, j, k, m], _ => exact ⟨a, b, c, d, e, f, g, i, j, k, m, rfl⟩
theorem rgL_of : ∀ {l : List VT}, (∀ t ∈ l, t.rg) → VT.rgL l
  | [], _ => by rw [VT.rgL]; trivial
  | t :: ts, h => by rw [VT.rgL]; exact ⟨h t List.mem_cons_self, rgL_of fun u hu => h u (List.mem_cons_of_mem _ hu)⟩
theorem vls_of {G : Nat → Prop} : ∀ {l : List VT} {g o : Nat}, (∀ (i : Nat) (t : VT), l[i]? = some t → ∃ cs, (∀ j u, cs[j]? = some u → W.cell? ⟨g, o + i * 4 + j, none⟩ = some u) ∧ VAt W G t cs) → VLs W G l g o
  | [], _, _, _ => by rw [VLs]; trivial
  | t :: ts, g, o, h => by
    rw [VLs]
    obtain ⟨cs, h1, h2⟩ := h 0 t rfl
    refine ⟨⟨cs, fun j u hj => by have := h1 j u hj; rwa [Nat.zero_mul, Nat.add_zero] at this, h2⟩, vls_of fun i t' hi => ?_⟩
    obtain ⟨cs', h3, h4⟩ := h (i + 1) t' hi
    exact ⟨cs', fun j u hj => by have := h3 j u hj; rwa [show o + (i + 1) * 4 + j = o + 4 + i * 4 + j from by omega] at this, h4⟩
/-- A value. -/
theorem read_val : ∀ (fuel : Nat) (cs : List Value) (x : DataW H × List MemPlace), DataW.trod enc Tryz.prog W base spare held fuel 24 cs = some x → ∃ t : VT, VAt W (fun k => k < W.heap.size) t cs ∧ t.rg := by
  intro fuel
  induction fuel using Nat.strongRecOn with
  | ind fuel ih =>
    intro cs x h
    obtain ⟨xs, n, rfl, _, hlen, hxl, hf⟩ := DataW.trod_struct Tryz.underlying24 h
    rw [ocells24] at hlen
    obtain ⟨a, b, c, d, rfl⟩ := olist4 hlen
    obtain ⟨x0, x1, x2, x3, rfl⟩ := olist4 (by simpa using hxl)
    have f0 := hf 0
    have f1 := hf 1
    have f2 := hf 2
    have f3 := hf 3
    simp [ocells3, ocells2, ocells9, ocells22] at f0 f1 f2 f3
    obtain ⟨n0, e0, -, w0⟩ := DataW.trod_int Tryz.underlying3 f0
    obtain ⟨n1, e1, -, w1⟩ := DataW.trod_int Tryz.underlying2 f1
    obtain ⟨s2, e2, -, w2⟩ := DataW.trod_string Tryz.underlying9 f2
    simp only [List.cons.injEq, and_true] at e0 e1 e2
    subst e0 e1 e2
    have b0 := bounds_i64 w0
    have b1 := bounds_i64 w1
    have b2 : s2.data.toList.length ≤ 9223372036854775807 := by
      have h1 : s2.data.toList.length = s2.size := Array.length_toList
      unfold maxLen at w2; omega
    have es : s2 = strOf s2.data.toList := strOf_of s2
    rcases DataW.trod_slice Tryz.underlying22 f3 with ⟨hcs, _⟩ | ⟨ad, len, cap, elems, rest, m, hm, hcs, _, _, hlc, hmx, hel, hee, _, _⟩
    · simp at hcs; subst hcs
      refine ⟨.mk n0 n1 s2.data.toList [], ?_, ?_⟩
      · rw [VAt]; exact ⟨none, 0, 0, 0, by rw [← es]; rfl, by simp, by rw [VLs]; trivial⟩
      · rw [VT.rg]; exact ⟨b0.1, b0.2, b1.1, b1.2, b2, by simp, by rw [VT.rgL]; trivial⟩
    · simp at hcs; subst hcs
      have hex : ∀ i, ∃ t : VT, i < len → ∃ cs', (∀ j u, cs'[j]? = some u → W.cell? ((ad.add (i * 4)).add j) = some u) ∧ VAt W (fun k => k < W.heap.size) t cs' ∧ t.rg := by
        intro i
        by_cases hi : i < len
        · have h1 := hee i hi
          rw [List.getElem?_eq_getElem (by omega), ocells24] at h1
          obtain ⟨cs', hc1, hc2⟩ := Option.bind_eq_some_iff.1 h1
          obtain ⟨t, ht1, ht2⟩ := ih m (by omega) cs' _ hc2
          obtain ⟨_, hl4, hc⟩ := World.cells?_some hc1
          refine ⟨t, fun _ => ⟨cs', fun j u hj => ?_, ht1, ht2⟩⟩
          have hj4 : j < 4 := by
            rcases Nat.lt_or_ge j 4 with h | h
            · exact h
            · rw [List.getElem?_eq_none (by omega)] at hj; cases hj
          rw [hc j hj4]; exact hj
        · exact ⟨.nil, fun h => absurd h hi⟩
      obtain ⟨f, hf⟩ := Classical.axiomOfChoice hex
      have hg : ((List.range len).map f) ≠ [] → ∃ g o, ad = ⟨g, o, none⟩ ∧ g < W.heap.size := by
        intro hne
        have h0 : 0 < len := by
          rcases Nat.eq_zero_or_pos len with h | h
          · subst h; exact absurd rfl hne
          · exact h
        obtain ⟨cs', h1, h2, -⟩ := hf 0 h0
        obtain ⟨k', n', s', a', m', c', rfl⟩ := h2.form
        have h3 := h1 0 _ rfl
        have hs : ad.spot = none := by have := World.cell?_spot h3; simpa [Addr.add] using this
        obtain ⟨g, o, s⟩ := ad
        simp only at hs
        subst hs
        exact ⟨g, o, rfl, World.block_lt_of_cell? _ _ h3⟩
      refine ⟨.mk n0 n1 s2.data.toList ((List.range len).map f), ?_, ?_⟩
      · rw [VAt]
        by_cases hne : ((List.range len).map f) = []
        · refine ⟨some ad, cap, 0, 0, by rw [← es]; simp, fun e => absurd hne e, ?_⟩
          rw [hne, VLs]; trivial
        · obtain ⟨g, o, rfl, hgl⟩ := hg hne
          refine ⟨some ⟨g, o, none⟩, cap, g, o, by rw [← es]; simp, fun _ => ⟨rfl, hgl⟩, vls_of fun i t hi => ?_⟩
          have hil : i < len := by
            rcases Nat.lt_or_ge i len with h | h
            · exact h
            · rw [List.getElem?_eq_none (by simpa using h)] at hi; cases hi
          simp only [List.getElem?_map, List.getElem?_range hil, Option.map_some, Option.some.injEq] at hi
          subst hi
          obtain ⟨cs', h1, h2, -⟩ := hf i hil
          exact ⟨cs', fun j u hj => by have := h1 j u hj; rwa [addr_add, addr_add] at this, h2⟩
      · rw [VT.rg]
        refine ⟨b0.1, b0.2, b1.1, b1.2, b2, by simp; unfold maxLen at hmx; omega, rgL_of fun t ht => ?_⟩
        obtain ⟨i, hi, rfl⟩ := List.mem_map.1 ht
        obtain ⟨-, -, -, h3⟩ := hf i (by simpa using hi)
        exact h3
end
end Go.Proofs.YtokefeemhgcmhaaGreatDoor
