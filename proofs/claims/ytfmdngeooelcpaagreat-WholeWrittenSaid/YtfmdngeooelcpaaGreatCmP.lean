/- Commands as lines of text: unlike ones have unlike lines; and what is written of a command. Plain. -/
import Derived.Test.YtfmdngeooelcpaaGreatCm
import Derived.Test.YtfmdngeooelcpaaGreatPrV
namespace Go.Proofs.YtfmdngeooelcpaaGreat

/-- command.Saturate. -/
def satu (now t : Int) : Int := if now < 0 ∨ t < 0 then 0 else if 4611686018427387903 ≤ now ∨ 4611686018427387903 - now < t then 4611686018427387903 else now + t
/-- command.Event: what is written of a command. -/
def EM.cev (c : EM) : EM :=
  if c.k = 1 then ⟨0, c.tm, 11, c.a, satu c.tm c.b, [], [], .nil⟩
  else if c.k = 2 then ⟨0, c.tm, 13, c.a, 0, [], [], .nil⟩
  else if c.k = 3 then ⟨0, c.tm, 7, c.a, c.b, c.name, [], c.v.cl⟩
  else if c.k = 4 then ⟨0, c.tm, 16, 0, 0, [], [], c.v.cl⟩
  else if c.k = 5 then ⟨0, c.tm, 17, 0, 0, c.name, [], .nil⟩
  else if c.k = 6 then ⟨0, c.tm, 21, 0, 0, [], [], c.v.cl⟩
  else ⟨0, c.tm, 0, 0, 0, [], [], .nil⟩
theorem satu_rng {n t : Int} (h : 0 ≤ n ∧ n ≤ 4611686018427387903) (ht : 0 ≤ t) : 0 ≤ satu n t ∧ satu n t ≤ 4611686018427387903 := by
  unfold satu
  rw [if_neg (by omega)]
  split <;> omega
theorem c_k6 {k : Int} (h : 1 ≤ k ∧ k ≤ 6) : k = 1 ∨ k = 2 ∨ k = 3 ∨ k = 4 ∨ k = 5 ∨ k = 6 := by omega
theorem nil_cl : VT.nil.cl = VT.nil := by rw [VT.nil, VT.cl]; simp
end Go.Proofs.YtfmdngeooelcpaaGreat
