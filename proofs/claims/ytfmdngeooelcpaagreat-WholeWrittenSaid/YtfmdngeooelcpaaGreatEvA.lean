/- How an event lies in memory. -/
import Derived.Test.YtfmdngeooelcpaaGreatValM
import Derived.Test.YtfmdngeooelcpaaGreatEvL
import Derived.Test.YtfmdngeooelcpaaGreatVMisc
namespace Go.Proofs.YtfmdngeooelcpaaGreat
open Go.RowKit

/-- The cells of an event, but for its value's. -/
def EM.cells (e : EM) (vc : List Value) : List Value := [.int .i64 e.id, .int .i64 e.tm, .int .i64 e.k, .int .i64 e.a, .int .i64 e.b, .string (strOf e.name), .string (strOf e.text)] ++ vc
/-- Eleven cells read as an event. -/
def EAt (w : World) (G : Nat → Prop) (e : EM) (cs : List Value) : Prop := ∃ vc, cs = e.cells vc ∧ VAt w G e.v vc
section
variable {w w' : World} {G F : Nat → Prop} {e : EM} {cs : List Value}
theorem EAt.only (h : EAt w G e cs) (ho : Only F w w') (hd : ∀ k, G k → ¬ F k) : EAt w' G e cs := let ⟨vc, h1, h2⟩ := h; ⟨vc, h1, h2.only ho hd⟩
theorem EAt.same (h : EAt w G e cs) (ho : Only (fun _ => False) w w') : EAt w' G e cs := h.only ho (fun _ _ e => e)
theorem EAt.mono {G' : Nat → Prop} (h : EAt w G e cs) (hd : ∀ k, G k → G' k) : EAt w G' e cs := let ⟨vc, h1, h2⟩ := h; ⟨vc, h1, h2.mono hd⟩
theorem EAt.form (h : EAt w G e cs) : ∃ k n s a m c, cs = [.int .i64 e.id, .int .i64 e.tm, .int .i64 e.k, .int .i64 e.a, .int .i64 e.b, .string (strOf e.name), .string (strOf e.text), .int .i64 k, .int .i64 n, .string (strOf s), .slice a m c] ∧ VAt w G e.v [.int .i64 k, .int .i64 n, .string (strOf s), .slice a m c] := by
  obtain ⟨vc, h1, h2⟩ := h
  obtain ⟨k, n, s, a, m, c, rfl⟩ := h2.form
  exact ⟨k, n, s, a, m, c, h1, h2⟩
theorem EAt.len (h : EAt w G e cs) : cs.length = 11 := by obtain ⟨k, n, s, a, m, c, rfl, -⟩ := h.form; rfl
theorem EAt.one (h : EAt w G e cs) : ∀ u ∈ cs, u.oneCell' = true := by
  obtain ⟨k, n, s, a, m, c, rfl, -⟩ := h.form
  intro u hu
  simp only [List.mem_cons, List.not_mem_nil, or_false] at hu
  rcases hu with rfl | rfl | rfl | rfl | rfl | rfl | rfl | rfl | rfl | rfl | rfl <;> rfl
end
end Go.Proofs.YtfmdngeooelcpaaGreat
