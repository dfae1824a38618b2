/- What single operations answer: for the facts of a drawn region. -/
import Derived.Test.YtfmdngeooelcpaaGreatGrow
namespace Go.Proofs.YtfmdngeooelcpaaGreat
open Go.RowKit
section
variable {P : Program} {o : Oper} {a : Act} {W : World}
theorem ex_idx {T e : TypeId} {x y : Operand} {g off n cap i sz : Nat} (ho : o.op = .indexAddr T x y) (hx : a.eval x = .slice (some ⟨g, off, none⟩) n cap) (hy : a.eval y = .int .i64 i) (hT : P.underlying T = some (.slice e)) (hs : (P.info? e).map (·.size) = some sz) (hi : i < n) :
    (execOp a.eval o).run P W = .ok (.value (.pointer (some ⟨g, off + i * sz, none⟩))) W := by
  obtain ⟨inf, hi1, hi2⟩ := Option.map_eq_some_iff.1 hs
  have hso : (sizeOf e).run P W = .ok sz W := by simp [sizeOf, typeInfo, hi1, hi2]
  have h0 : (0 : Int) ≤ (i : Int) := by omega
  have h1 : (i : Int) < (n : Int) := by omega
  unfold execOp
  simp only [ho, hx, hy]
  go_simp
end
section
variable {P : Program} {ops : Array Oper} {rest : List Oper} {o : Oper} {a : Act} {Q : Exit → Act → World → Prop} {w : World}
end
end Go.Proofs.YtfmdngeooelcpaaGreat
