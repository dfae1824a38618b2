/- []uint64 and [][]uint64 as arguments. -/
import Derived.Test.YtepndjojodbhdaaOpen
import Derived.Test.YtepndjojodbhdaaMarkF
namespace Go.Proofs.Ytepndjojodbhdaa
open Go.RowKit Go.ChangeShapes Go.WideShapes Go.ChangeAt

section
variable {H : Type} {enc : TypeId × Value → H} {W : World} {base : Nat} {spare : Nat → Bool} {held : Bool} {fuel : Nat} {x : DataW H × List MemPlace} {v : Value}
theorem u64_back {n : Int} (h : (Lit.int .u64 n).wf = true) : ((n.toNat : Nat) : Int) = n ∧ n.toNat < 18446744073709551616 := by
  have := bounds_u64 h
  omega
/-- []uint64. -/
theorem read_nats (h : DataW.trod enc Try.prog W base spare held fuel 60 [v] = some x) : ∃ l : List Nat, SrcV W v (nat64 l) ∧ l.length ≤ 9223372036854775807 ∧ ∀ x ∈ l, x < 18446744073709551616 := by
  rcases open_ints Try.underlying60 Try.underlying43 (by kernel_rfl) h with ⟨hcs, _⟩ | ⟨a, l, c, zs, hcs, _, hl, hm, hz, _, hcell, hwz⟩
  · simp at hcs; subst hcs
    exact ⟨[], ⟨none, 0, rfl, by simp [nat64]⟩, by simp, by simp⟩
  · simp at hcs; subst hcs
    have hzl : l ≤ zs.length := by rw [hz]; split <;> omega
    have hlen : ((zs.take l).map Int.toNat).length = l := by simp; omega
    refine ⟨(zs.take l).map Int.toNat, ⟨some a, c, by rw [length_nat64, hlen], ?_⟩, by rw [hlen]; unfold maxLen at hm; omega, fun x hx => ?_⟩
    · refine src_of (xs := nat64 ((zs.take l).map Int.toNat)) (fun i u hu => ?_)
      by_cases hi : i < l
      · rw [hcell i (by omega)]
        simp only [nat64, List.getElem?_map, List.getElem?_take_of_lt hi, List.getElem?_eq_getElem (show i < zs.length by omega), Option.map_some, Option.some.injEq] at hu
        subst hu
        have hw := (u64_back (hwz zs[i] (List.getElem_mem _))).1
        rw [hw]
        simp [show i < zs.length by omega]
      · rw [List.getElem?_eq_none (by rw [length_nat64, hlen]; omega)] at hu; cases hu
    · obtain ⟨z, hz1, rfl⟩ := List.mem_map.1 hx
      exact (u64_back (hwz z (List.mem_of_mem_take hz1))).2
end
end Go.Proofs.Ytepndjojodbhdaa
