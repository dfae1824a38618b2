/- Arrays of ints as arguments, with their bounds. -/
import Derived.Test.YtepndjojodbhdaaOpenA
namespace Go.Proofs.Ytepndjojodbhdaa
open Go.RowKit Go.ChangeShapes Go.WideShapes Go.ChangeAt

section
variable {H : Type} {enc : TypeId × Value → H} {W : World} {base : Nat} {spare : Nat → Bool} {held : Bool} {P : Program} {t e : TypeId}

/-- An array of ints reads as so many ints. -/
theorem read_arrb {n : Nat} (ht : P.underlying t = some (.array n e)) (he : P.underlying e = some (.int .i64)) (c1 : P.cellsOf e = 1) (cn : P.cellsOf t = n) {r : Reach} {b0 : Nat} {v : Value} {d : DataW H} {ps : List MemPlace} (hval : Value.okWide P W r b0 t v) (hd : DataW.Trod enc P W base spare held t v d ps) :
    ∃ xs : List Int, xs.length = n ∧ v = .agg (xs.map (Value.int .i64)).toArray ∧ ∀ x ∈ xs, -9223372036854775808 ≤ x ∧ x ≤ 9223372036854775807 := by
  simp only [Value.okWide, ht] at hval
  obtain ⟨cs, rfl, h2, -⟩ := hval
  rw [cn] at h2
  obtain ⟨fuel, hf⟩ := hd
  cases fuel with
  | zero => simp [DataW.trod] at hf
  | succ m =>
    rw [DataW.trod_step] at hf
    unfold DataW.trodStep at hf
    simp only [ht, Value.cells] at hf
    split at hf
    · simp only [Option.map_eq_some_iff] at hf
      obtain ⟨ys, hy, -⟩ := hf
      have hall : ∀ i, i < n → ∃ k : Int, cs[i]? = some (.int .i64 k) ∧ -9223372036854775808 ≤ k ∧ k ≤ 9223372036854775807 := by
        intro i hi
        obtain ⟨y, hy1⟩ := mapM_some _ _ _ hy i (List.mem_range.2 hi)
        obtain ⟨k, hk, -, hw⟩ := DataW.trod_int he hy1
        rw [c1] at hk
        refine ⟨k, ?_, bounds_i64 hw⟩
        have h0 : ((cs.toList.drop (i * 1)).take 1)[0]? = some (.int .i64 k) := by rw [hk]; rfl
        rw [List.getElem?_take_of_lt (by decide), List.getElem?_drop] at h0
        simpa using h0
      refine ⟨(List.range n).map fun i : Nat => match cs[i]? with | some (Value.int _ k) => k | _ => (0 : Int), by simp, ?_, fun x hx => ?_⟩
      rotate_left 1
      · obtain ⟨i, hi, rfl⟩ := List.mem_map.1 hx
        obtain ⟨k, hk, hb⟩ := hall i (List.mem_range.1 hi)
        simp only [hk]; exact hb
      congr 1
      apply Array.ext
      · simp [h2]
      · intro i h1 h3
        obtain ⟨k, hk, -⟩ := hall i (by omega)
        simp only [List.getElem_toArray, List.getElem_map, List.getElem_range, hk]
        rw [Array.getElem?_eq_getElem h1] at hk
        exact Option.some.inj hk
    · cases hf
end
end Go.Proofs.Ytepndjojodbhdaa
