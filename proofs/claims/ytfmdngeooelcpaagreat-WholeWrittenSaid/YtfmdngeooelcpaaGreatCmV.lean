/- command.Same, command.Saturate, command.Made. -/
import Derived.Test.YtfmdngeooelcpaaGreatCmA
import Derived.Test.YtfmdngeooelcpaaGreatRf09S
namespace Go.Proofs.YtfmdngeooelcpaaGreat
open Go.RowKit
section
variable {w : World}
set_option maxRecDepth 100000 in
theorem satu_c (now t : Int) (g1 : -9223372036854775808 ≤ now ∧ now ≤ 9223372036854775807) (g2 : -9223372036854775808 ≤ t ∧ t ≤ 9223372036854775807) : Calls Tryz.prog 29 #[.int .i64 now, .int .i64 t] w fun x w' => x = .returned (.int .i64 (satu now t)) ∧ w = w' := by
  by_cases h1 : now < 0
  · have HF : Hid (satu now t = 0) := hid (by unfold satu; rw [if_pos (.inl h1)])
    go_enter Tryz.func29, Tryz.ntmps29
    go_wp2_with fail
    go_ret
    rw [HF.out]; exact ⟨rfl, rfl⟩
  by_cases h2 : t < 0
  · have HF : Hid (satu now t = 0) := hid (by unfold satu; rw [if_pos (.inr h2)])
    go_enter Tryz.func29, Tryz.ntmps29
    go_wp2_with fail
    go_ret
    rw [HF.out]; exact ⟨rfl, rfl⟩
  by_cases h3 : 4611686018427387903 ≤ now
  · have HF : Hid (satu now t = 4611686018427387903) := hid (by unfold satu; rw [if_neg (by omega), if_pos (.inl h3)])
    go_enter Tryz.func29, Tryz.ntmps29
    go_wp2_with fail
    go_ret
    rw [HF.out]; exact ⟨rfl, rfl⟩
  by_cases h4 : 4611686018427387903 - now < t
  · have HF : Hid (satu now t = 4611686018427387903) := hid (by unfold satu; rw [if_neg (by omega), if_pos (.inr h4)])
    go_enter Tryz.func29, Tryz.ntmps29
    go_wp2_with fail
    go_ret
    rw [HF.out]; exact ⟨rfl, rfl⟩
  have HF : Hid (satu now t = now + t) := hid (by unfold satu; rw [if_neg (by omega), if_neg (by omega)])
  go_enter Tryz.func29, Tryz.ntmps29
  go_wp2_with fail
  go_ret
  rw [HF.out]; exact ⟨rfl, rfl⟩
end
end Go.Proofs.YtfmdngeooelcpaaGreat
