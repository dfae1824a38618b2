/- What single operations answer: for the facts of a drawn region. -/
import Derived.Test.YtokefeemhgcmhaaGreatDoorGrow
namespace Go.Proofs.YtokefeemhgcmhaaGreatDoor
open Go.RowKit
section
variable {P : Program} {o : Oper} {a : Act} {W : World}
theorem ex_idx {T e : TypeId} {x y : Operand} {g off n cap i sz : Nat} (ho : o.op = .indexAddr T x y) (hx : a.eval x = .slice (some ⟨g, off, none⟩) n cap) (hy : a.eval y = .int .i64 i) (hT : P.underlying T = some (.slice e)) (hs : (P.info? e).map (·.size) = some sz) (hi : i < n) :
    (execOp a.eval o).run P W = .ok (.value (.pointer (some ⟨g, off + i * sz, none⟩))) W := by
  obtain ⟨inf, hi1, hi2⟩ := Option.map_eq_some_iff.1 hs
  have hso : (sizeOf e).run P W = .ok sz W := by simp [sizeOf, typeInfo, hi1, hi2]
  have h0 : (0 : Int) ≤ (i : Int) := by omega
  have h1 : (i : Int) < (n : Int) := by omega
  unfold execOp
  simp only [ho, hx, hy]
  go_simp
theorem ex_sub1 {t t' : TypeId} {x : Operand} {n m : Int} (ho : o.op = .binOp .sub t x (.const (.int .i64 1)) t') (hx : a.eval x = .int .i64 n) (hw : IntKind.i64.wrap (n - 1) = m) :
    (execOp a.eval o).run P W = .ok (.value (.int .i64 m)) W := by
  subst hw
  unfold execOp
  simp only [ho, hx]
  go_simp
theorem ex_sadd {t t' : TypeId} {x y : Operand} {b c d : ByteArray} (ho : o.op = .binOp .add t x y t') (hx : a.eval x = .string b) (hy : a.eval y = .string c) (hc : b ++ c = d) (hl : b.size + c.size ≤ 9223372036854775807) :
    (execOp a.eval o).run P W = .ok (.value (.string d)) W := by
  subst hc
  have h1 : ¬ 9223372036854775807 < b.size + c.size := by omega
  unfold execOp
  simp only [ho, hx, hy]
  go_simp
end
theorem ex_conv {o : Oper} {a : Act} {W : World} {x : Operand} {v : Value} {l : List UInt8} (ho : o.op = .convert 33 9 x) (hx : a.eval x = v) (hs : Src W v l) :
    (execOp a.eval o).run Tryz.prog W = .ok (.value (.string (strOf l))) W := by
  have hcs := conv_str hs
  unfold execOp
  simp only [ho, hx, Sem.run_bind, hcs, Result.andThen_ok, Sem.run_pure]
section
variable {P : Program} {ops : Array Oper} {rest : List Oper} {o : Oper} {a : Act} {Q : Exit → Act → World → Prop} {w : World}
/-- An operation of which the guard says yes. -/
theorem wpList_want (hw : Region.wanted o (yielded ops a.tmps) = true)
    (h : ∀ K : Act → World → Prop, (∀ a w, wpList P ops Q rest a w → K a w) → o.wp P a w K Q) : wpList P ops Q (o :: rest) a w :=
  wpList_step fun K hK => by rw [if_pos hw]; exact h K hK
end
end Go.Proofs.YtokefeemhgcmhaaGreatDoor
