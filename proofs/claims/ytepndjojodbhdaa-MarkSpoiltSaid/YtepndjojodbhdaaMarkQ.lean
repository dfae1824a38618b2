/- Marks are compared. -/
import Derived.Test.YtepndjojodbhdaaMarkL
import Derived.Laws.StructEq
namespace Go.Proofs.Ytepndjojodbhdaa
open Go.RowKit
theorem info65 : (Try.prog.info? 43).map (·.size) = some 1 := by kernel_rfl
theorem info66 : (Try.prog.info? 65).map (·.size) = some 6 := by kernel_rfl
theorem agg_u64 (w : World) : (isAgg 43).run Try.prog w = .ok false w := by kernel_rfl
theorem agg_a6 (w : World) : (isAgg 65).run Try.prog w = .ok true w := by kernel_rfl
theorem part_u64 (w : World) (cs : Array Value) (i : Nat) (v : Value) (h : cs[i]? = some v) : (Go.part 43 cs i).run Try.prog w = .ok v w := by
  unfold Go.part
  rw [Sem.run_bind, agg_u64]
  simp [h]
theorem part_a6 (w : World) (cs : Array Value) (i : Nat) : (Go.part 65 cs i).run Try.prog w = .ok (.agg (cs.extract i (i + 6))) w := by
  obtain ⟨f, hi, hs⟩ := Option.map_eq_some_iff.1 info66
  unfold Go.part
  rw [Sem.run_bind, agg_a6]
  simp [sizeOf, typeInfo, hi, hs]
set_option maxRecDepth 10000 in
set_option maxHeartbeats 1000000 in
theorem eql_arr (w : World) (d : Nat) (a b c e f g a' b' c' e' f' g' : Int) : (Op.equalIn (d + 2) 65 (.agg #[.int .u64 a, .int .u64 b, .int .u64 c, .int .u64 e, .int .u64 f, .int .u64 g]) (.agg #[.int .u64 a', .int .u64 b', .int .u64 c', .int .u64 e', .int .u64 f', .int .u64 g'])).run Try.prog w = .ok (a == a' && (b == b' && (c == c' && (e == e' && (f == f' && g == g'))))) w := by
  obtain ⟨i, hi, hs⟩ := Option.map_eq_some_iff.1 info65
  have hu : ∀ x y : Int, (Op.equalIn (d + 1) 43 (.int .u64 x) (.int .u64 y)).run Try.prog w = .ok (x == y) w := fun x y => run_equalIn_int w d _ .u64 .u64 x y Try.underlying43
  unfold Op.equalIn
  simp only [Sem.run_bind, run_underlying (P := Try.prog) Try.underlying65, Result.andThen_ok, sizeOf, typeInfo]
  simp [List.range', part_u64, hu, hi, hs]
  by_cases h1 : a = a' <;> by_cases h2 : b = b' <;> by_cases h3 : c = c' <;> by_cases h4 : e = e' <;> by_cases h5 : f = f' <;> by_cases h6 : g = g' <;> simp [h1, h2, h3, h4, h5, h6]
theorem fields_mark : (Try.prog.fieldsOf 67).toList.map (fun f => (f.name, f.type, f.offset)) = [("Seq", 43, 0), ("W", 65, 1)] := by kernel_rfl
theorem eqIn_mark (w : World) (m m' : MarkM) : (Op.equalIn 10000 67 (.agg m.V) (.agg m'.V)).run Try.prog w = .ok (decide (m = m')) w := by
  rw [run_equalIn_struct w 9999 67 _ _ (by kernel_rfl) (by kernel_rfl)]
  have hf := fields_mark
  obtain ⟨f1, f2, hl⟩ : ∃ f1 f2, (Try.prog.fieldsOf 67).toList = [f1, f2] := by
    have : ((Try.prog.fieldsOf 67).toList.map (fun f => (f.name, f.type, f.offset))).length = 2 := by rw [hf]; rfl
    rw [List.length_map] at this
    match hq : (Try.prog.fieldsOf 67).toList, this with
    | [a, b], _ => exact ⟨a, b, rfl⟩
  rw [hl] at hf ⊢
  simp only [List.map_cons, List.map_nil, List.cons.injEq, Prod.mk.injEq, and_true] at hf
  obtain ⟨⟨n1, t1, o1⟩, n2, t2, o2⟩ := hf
  have hu := run_equalIn_int (P := Try.prog) w 9998 43 .u64 .u64 (m.s : Int) (m'.s : Int) Try.underlying43
  have ha := eql_arr w 9997 m.w0 m.w1 m.w2 m.w3 m.w4 m.w5 m'.w0 m'.w1 m'.w2 m'.w3 m'.w4 m'.w5
  simp only [Op.eqFields, n1, n2, t1, t2, o1, o2]
  simp [MarkM.V, part_u64, part_a6, hu, ha]
  have hiff : m = m' ↔ (m.s = m'.s ∧ m.w0 = m'.w0 ∧ m.w1 = m'.w1 ∧ m.w2 = m'.w2 ∧ m.w3 = m'.w3 ∧ m.w4 = m'.w4 ∧ m.w5 = m'.w5) := by cases m; cases m'; simp
  by_cases h : m = m'
  · subst h; simp
  · have hd : decide (m = m') = false := by simpa using h
    rw [hd]
    by_cases hs : (m.s : Int) = (m'.s : Int)
    · rw [if_pos hs, if_pos (fun e0 e1 e2 e3 e4 e5 => h (hiff.2 ⟨by omega, by omega, by omega, by omega, by omega, by omega, by omega⟩))]
    · rw [if_neg hs]
theorem eql_mark (w : World) (m m' : MarkM) : (binOp .eql 67 (.agg m.V) (.agg m'.V)).run Try.prog w = .ok (.bool (decide (m = m'))) w := by
  rw [run_eql_struct, eqIn_mark]; rfl
theorem neq_mark (w : World) (m m' : MarkM) : (binOp .neq 67 (.agg m.V) (.agg m'.V)).run Try.prog w = .ok (.bool (!decide (m = m'))) w := by
  rw [run_neq_struct, eqIn_mark]; rfl
end Go.Proofs.Ytepndjojodbhdaa
