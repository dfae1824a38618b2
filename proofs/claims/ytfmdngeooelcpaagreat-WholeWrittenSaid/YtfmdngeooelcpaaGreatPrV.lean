/- Texts of values and events, plainly: unlike ones have unlike texts. -/
import Derived.Test.YtfmdngeooelcpaaGreatEvL
import Derived.Lib.ItoaNum
namespace Go.Proofs.YtfmdngeooelcpaaGreat

/-- A digit to the base 16. -/
def hx (n : Nat) : UInt8 := UInt8.ofNat (if n < 10 then 48 + n else 87 + n)
/-- A number's sign. -/
def dgc (c : UInt8) : Bool := c = 45 || (48 ≤ c && c ≤ 57)
/-- The ways of a sign between quotes. -/
inductive QB (c : UInt8) : List UInt8 → Prop
  | esc : c = 34 ∨ c = 92 → QB c [92, c]
  | hex : c ≠ 34 → c ≠ 92 → QB c [92, 120, hx (c.toNat / 16), hx (c.toNat % 16)]
  | self : c ≠ 34 → c ≠ 92 → QB c [c]
/-- A value that may be: its text's first sign. -/
def hdk (k : Int) (c : UInt8) : Prop := (k = 0 ∧ c = 110) ∨ (k = 1 ∧ dgc c = true) ∨ (k = 2 ∧ c = 34) ∨ (k = 3 ∧ c = 91)
theorem same_iff (e f : EM) : e.same f = true ↔ e.cl = f.cl := by
  unfold EM.same EM.cl
  simp only [Bool.and_eq_true, beq_iff_eq, EM.mk.injEq, cmp_iff, and_assoc]
end Go.Proofs.YtfmdngeooelcpaaGreat
