/- Sums (32 bytes) are compared. -/
import Derived.Test.YtfmdngeooelcpaaGreatShaI
import Derived.Laws.StructEq
import Derived.ChangeKeysEq
namespace Go.Proofs.YtfmdngeooelcpaaGreat
open Go.RowKit
theorem info_u8 : (Tryz.prog.info? 5).map (·.size) = some 1 := by kernel_rfl
theorem agg_u8 (w : World) : (isAgg 5).run Tryz.prog w = .ok false w := by kernel_rfl
theorem part_u8 (w : World) (cs : Array Value) (i : Nat) (v : Value) (h : cs[i]? = some v) : (Go.part 5 cs i).run Tryz.prog w = .ok v w := by
  unfold Go.part
  rw [Sem.run_bind, agg_u8]
  simp [h]
theorem items_sum (w : World) (d : Nat) (s t : List UInt8) : ∀ is : List Nat, (∀ i ∈ is, i < s.length ∧ i < t.length) → (Op.eqItems (d + 1) 5 1 (bytesV s).toArray (bytesV t).toArray is).run Tryz.prog w = .ok (is.all fun i => decide (s[i]? = t[i]?)) w
  | [], _ => by simp [Op.eqItems]
  | i :: is, h => by
    obtain ⟨h1, h2⟩ := h i List.mem_cons_self
    have e1 : ((bytesV s).toArray)[i * 1]? = some (.int .u8 (s[i]).toNat) := by rw [Nat.mul_one, List.getElem?_toArray, bytesV_get, List.getElem?_eq_getElem h1]; rfl
    have e2 : ((bytesV t).toArray)[i * 1]? = some (.int .u8 (t[i]).toNat) := by rw [Nat.mul_one, List.getElem?_toArray, bytesV_get, List.getElem?_eq_getElem h2]; rfl
    have hq := run_equalIn_int (P := Tryz.prog) w d 5 .u8 .u8 ((s[i]).toNat : Int) ((t[i]).toNat : Int) Tryz.underlying5
    have ih := items_sum w d s t is fun j hj => h j (List.mem_cons_of_mem _ hj)
    simp only [Op.eqItems, Sem.run_bind, part_u8 w _ _ _ e1, part_u8 w _ _ _ e2, hq, Result.andThen_ok]
    have hd : (((s[i]).toNat : Int) == ((t[i]).toNat : Int)) = decide (s[i]? = t[i]?) := by
      rw [List.getElem?_eq_getElem h1, List.getElem?_eq_getElem h2]
      by_cases e : s[i] = t[i]
      · simp [e]
      · have : ¬ ((s[i]).toNat : Int) = ((t[i]).toNat : Int) := fun e' => e (UInt8.toNat_inj.1 (by omega))
        simp [e]; omega
    rw [hd, List.all_cons]
    cases decide (s[i]? = t[i]?)
    · simp
    · simpa using ih
theorem all_eq {s t : List UInt8} (hs : s.length = 32) (ht : t.length = 32) : ((List.range 32).all fun i => decide (s[i]? = t[i]?)) = decide (s = t) := by
  by_cases h : s = t
  · subst h; simp
  · rw [decide_eq_false h]
    cases hc : ((List.range 32).all fun i => decide (s[i]? = t[i]?)) with
    | false => rfl
    | true =>
      exfalso
      refine h (List.ext_getElem? fun i => ?_)
      rcases Nat.lt_or_ge i 32 with g | g
      · have := List.all_eq_true.1 hc i (List.mem_range.2 g)
        simpa using this
      · rw [List.getElem?_eq_none (by omega), List.getElem?_eq_none (by omega)]
theorem eqIn_arr (w : World) (T : TypeId) (hT : Tryz.prog.underlying T = some (.array 32 5)) (hc : Tryz.prog.cellsOf 5 = 1) {s t : List UInt8} (hs : s.length = 32) (ht : t.length = 32) : (Op.equalIn 10000 T (.agg (bytesV s).toArray) (.agg (bytesV t).toArray)).run Tryz.prog w = .ok (decide (s = t)) w := by
  obtain ⟨i, hi, -⟩ := Option.map_eq_some_iff.1 info_u8
  rw [run_equalIn_array (w := w) 9999 _ _ hT hi, hc, items_sum w 9998 s t (List.range 32) (fun i hi => by have := List.mem_range.1 hi; omega), all_eq hs ht]
theorem cells_u8 : Tryz.prog.cellsOf 5 = 1 := by kernel_rfl
theorem eql_sum (w : World) {s t : List UInt8} (hs : s.length = 32) (ht : t.length = 32) : (binOp .eql 40 (.agg (bytesV s).toArray) (.agg (bytesV t).toArray)).run Tryz.prog w = .ok (.bool (decide (s = t))) w := by
  rw [run_eql_struct, eqIn_arr w _ Tryz.underlying40 cells_u8 hs ht]; rfl
theorem neq_sum (w : World) {s t : List UInt8} (hs : s.length = 32) (ht : t.length = 32) : (binOp .neq 40 (.agg (bytesV s).toArray) (.agg (bytesV t).toArray)).run Tryz.prog w = .ok (.bool (!decide (s = t))) w := by
  rw [run_neq_struct, eqIn_arr w _ Tryz.underlying40 cells_u8 hs ht]; rfl
end Go.Proofs.YtfmdngeooelcpaaGreat
