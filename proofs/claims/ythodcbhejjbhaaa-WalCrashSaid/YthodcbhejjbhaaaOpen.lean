/- What an argument reads as, in the words of the walks: bytes, ints. -/
import Derived.Test.YthodcbhejjbhaaaDiskS
import Derived.ProofKit
import Derived.OpenShut
import Derived.ShutString
import Derived.ChangeOld
import Derived.Deep.Slices
namespace Go.Proofs.Ythodcbhejjbhaaa
open Go.RowKit Go.ChangeShapes Go.WideShapes Go.ChangeAt

section
variable {H : Type} {enc : TypeId × Value → H} {W : World} {base : Nat} {spare : Nat → Bool} {held : Bool} {fuel : Nat} {x : DataW H × List MemPlace} {v : Value}

theorem Src.lt {g of c : Nat} {l : List UInt8} (h : Src W v l) (e : v = .slice (some ⟨g, of, none⟩) l.length c) (hne : l ≠ []) : g < W.heap.size := by
  obtain ⟨a, c', rfl, hs⟩ := h
  obtain ⟨g', o', rfl, hc⟩ := hs hne
  cases e
  cases hl : l with
  | nil => exact absurd hl hne
  | cons y ys => exact World.block_lt_of_cell? _ _ (hc 0 _ (by rw [hl]; rfl))
theorem SrcV.lt {g of c : Nat} {l : List Value} (h : SrcV W v l) (e : v = .slice (some ⟨g, of, none⟩) l.length c) (hne : l ≠ []) : g < W.heap.size := by
  obtain ⟨a, c', rfl, hs⟩ := h
  obtain ⟨g', o', rfl, hc⟩ := hs hne
  cases e
  cases hl : l with
  | nil => exact absurd hl hne
  | cons y ys => exact World.block_lt_of_cell? _ _ (hc 0 _ (by rw [hl]; rfl))

theorem u8_backA {n : Int} (h : (Lit.int .u8 n).wf = true) : ((UInt8.ofNat n.toNat).toNat : Int) = n := by
  have := bounds_u8 h
  simp
  omega

/-- A reading of one cell's slice: the cells from its address on. -/
theorem src_ofA {a : Addr} {xs : List Value} (hc : ∀ i u, xs[i]? = some u → W.cell? (a.add i) = some u) : xs ≠ [] → ∃ g o, some a = some ⟨g, o, none⟩ ∧ ∀ i u, xs[i]? = some u → W.cell? ⟨g, o + i, none⟩ = some u := by
  intro hne
  cases hx : xs with
  | nil => exact absurd hx hne
  | cons y ys =>
    have h0 := hc 0 y (by rw [hx]; rfl)
    have hs : a.spot = none := by have := World.cell?_spot h0; simpa [Addr.add] using this
    obtain ⟨g, o, s⟩ := a
    simp only at hs
    subst hs
    refine ⟨g, o, rfl, fun i u hu => ?_⟩
    rw [← hx] at hu
    rw [← addr_add]; exact hc i u hu

/-- []byte. -/
theorem read_bytesA (h : DataW.trod enc Try.prog W base spare held fuel 33 [v] = some x) : ∃ l : List UInt8, Src W v l ∧ l.length ≤ 9223372036854775807 := by
  rcases open_ints Try.underlying33 Try.underlying5 (by kernel_rfl) h with ⟨hcs, _⟩ | ⟨a, l, c, zs, hcs, _, hl, hm, hz, _, hcell, hwz⟩
  · simp at hcs; subst hcs
    exact ⟨[], ⟨none, 0, rfl, by simp⟩, by simp⟩
  · simp at hcs; subst hcs
    have hzl : l ≤ zs.length := by rw [hz]; split <;> omega
    have hlen : ((zs.take l).map fun n => UInt8.ofNat n.toNat).length = l := by simp; omega
    refine ⟨(zs.take l).map fun n => UInt8.ofNat n.toNat, ⟨some a, c, by rw [hlen], fun hne => ?_⟩, by rw [hlen]; unfold maxLen at hm; omega⟩
    refine src_ofA (xs := bytesV ((zs.take l).map fun n => UInt8.ofNat n.toNat)) (fun i u hu => ?_) (by intro e; apply hne; have := congrArg List.length e; simp at this ⊢; exact this)
    rw [bytesV_get] at hu
    by_cases hi : i < l
    · rw [hcell i (by omega)]
      simp only [List.getElem?_map, List.getElem?_take_of_lt hi, List.getElem?_eq_getElem (show i < zs.length by omega), Option.map_some, Option.some.injEq] at hu
      subst hu
      have hw := hwz zs[i] (List.getElem_mem _)
      rw [u8_backA hw]
      simp [show i < zs.length by omega]
    · rw [List.getElem?_eq_none (by rw [hlen]; omega)] at hu; cases hu

/-- []int. -/
theorem read_intsA (h : DataW.trod enc Try.prog W base spare held fuel 75 [v] = some x) : ∃ l : List Int, SrcV W v (intsV l) ∧ l.length ≤ 9223372036854775807 := by
  rcases open_ints Try.underlying75 Try.underlying3 (by kernel_rfl) h with ⟨hcs, _⟩ | ⟨a, l, c, zs, hcs, _, hl, hm, hz, _, hcell, hwz⟩
  · simp at hcs; subst hcs
    exact ⟨[], ⟨none, 0, rfl, by simp [intsV]⟩, by simp⟩
  · simp at hcs; subst hcs
    have hzl : l ≤ zs.length := by rw [hz]; split <;> omega
    have hlen : (zs.take l).length = l := by simp; omega
    refine ⟨zs.take l, ⟨some a, c, by rw [length_intsV, hlen], ?_⟩, by rw [hlen]; unfold maxLen at hm; omega⟩
    refine src_ofA (xs := intsV (zs.take l)) (fun i u hu => ?_)
    rw [intsV_get] at hu
    by_cases hi : i < l
    · rw [hcell i (by omega)]
      simp only [List.getElem?_take_of_lt hi, List.getElem?_eq_getElem (show i < zs.length by omega), Option.map_some, Option.some.injEq] at hu
      subst hu
      simp [show i < zs.length by omega]
    · rw [List.getElem?_eq_none (by omega)] at hu; cases hu
end
end Go.Proofs.Ythodcbhejjbhaaa
