/- Arrays of ints as arguments. -/
import Derived.Test.YtepndjojodbhdaaOpen
namespace Go.Proofs.Ytepndjojodbhdaa
open Go.RowKit Go.ChangeShapes Go.WideShapes Go.ChangeAt

section
variable {H : Type} {enc : TypeId × Value → H} {W : World} {base : Nat} {spare : Nat → Bool} {held : Bool} {P : Program} {t e : TypeId}

theorem mapM_some {α β : Type} (f : α → Option β) : ∀ (l : List α) (ys : List β), l.mapM f = some ys → ∀ x ∈ l, ∃ y, f x = some y
  | [], _, _, _, hx => by cases hx
  | a :: l, ys, h, x, hx => by
    rw [List.mapM_cons] at h
    simp only [bind, Option.bind_eq_some_iff, pure, Option.some.injEq] at h
    obtain ⟨y, hy, zs, hz, -⟩ := h
    rcases List.mem_cons.1 hx with rfl | hx
    · exact ⟨y, hy⟩
    · exact mapM_some f l zs hz x hx

/-- An array of ints reads as so many ints. -/
theorem read_arr {n : Nat} (ht : P.underlying t = some (.array n e)) (he : P.underlying e = some (.int .i64)) (c1 : P.cellsOf e = 1) (cn : P.cellsOf t = n) {r : Reach} {b0 : Nat} {v : Value} {d : DataW H} {ps : List MemPlace} (hval : Value.okWide P W r b0 t v) (hd : DataW.Trod enc P W base spare held t v d ps) :
    ∃ xs : List Int, xs.length = n ∧ v = .agg (xs.map (Value.int .i64)).toArray := by
  simp only [Value.okWide, ht] at hval
  obtain ⟨cs, rfl, h2, -⟩ := hval
  rw [cn] at h2
  obtain ⟨fuel, hf⟩ := hd
  cases fuel with
  | zero => simp [DataW.trod] at hf
  | succ m =>
    rw [DataW.trod_step] at hf
    unfold DataW.trodStep at hf
    simp only [ht, Value.cells] at hf
    split at hf
    · simp only [Option.map_eq_some_iff] at hf
      obtain ⟨ys, hy, -⟩ := hf
      have hall : ∀ i, i < n → ∃ k : Int, cs[i]? = some (.int .i64 k) := by
        intro i hi
        obtain ⟨y, hy1⟩ := mapM_some _ _ _ hy i (List.mem_range.2 hi)
        obtain ⟨k, hk, -⟩ := DataW.trod_int he hy1
        rw [c1] at hk
        refine ⟨k, ?_⟩
        have h0 : ((cs.toList.drop (i * 1)).take 1)[0]? = some (.int .i64 k) := by rw [hk]; rfl
        rw [List.getElem?_take_of_lt (by decide), List.getElem?_drop] at h0
        simpa using h0
      refine ⟨(List.range n).map fun i : Nat => match cs[i]? with | some (Value.int _ k) => k | _ => (0 : Int), by simp, ?_⟩
      congr 1
      apply Array.ext
      · simp [h2]
      · intro i h1 h3
        obtain ⟨k, hk⟩ := hall i (by omega)
        simp only [List.getElem_toArray, List.getElem_map, List.getElem_range, hk]
        rw [Array.getElem?_eq_getElem h1] at hk
        exact Option.some.inj hk
    · cases hf
theorem two_of : ∀ {xs : List Int}, xs.length = 2 → ∃ a b, xs = [a, b]
  | [a, b], _ => ⟨a, b, rfl⟩
theorem three_of : ∀ {xs : List Int}, xs.length = 3 → ∃ a b c, xs = [a, b, c]
  | [a, b, c], _ => ⟨a, b, c, rfl⟩
end
end Go.Proofs.Ytepndjojodbhdaa
