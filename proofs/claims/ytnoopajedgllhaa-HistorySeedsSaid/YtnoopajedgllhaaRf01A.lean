/- foliotref01: right, less. -/
import Derived.Test.YtnoopajedgllhaaShaE
namespace Go.Proofs.Ytnoopajedgllhaa
open Go.RowKit
section
variable {w : World}
theorem rotrN_s (x : Nat) : ∀ n, rotrN (n + 1) x = rotr1 (rotrN n x) := fun _ => rfl
set_option maxRecDepth 100000 in
theorem rright_c (x n : Nat) (hx : x < 4294967296) (hn : n ≤ 32) :
    Calls Try.prog 63 #[.int .u32 x, .int .i64 n] w fun e w' => e = .returned (.int .u32 (rotr n x : Nat)) ∧ w' = w := by
  have HX := hid hx
  have hni : (n : Int) ≤ 32 := by omega
  go_enter Try.func63, Try.ntmps63
  go_wp2_with fail
  go_loopw [5, 0, 6] (fun i y z wr => ∃ j : Nat, i = .int .i64 j ∧ j ≤ n ∧ y = .int .u32 (rotrN j x : Nat) ∧ wr = w) (fun i _ _ _ => n - (intOf i).toNat)
  case atStart => exact ⟨0, rfl, Nat.zero_le _, rfl, rfl⟩
  case round =>
    obtain ⟨j, rfl, hj, rfl, rfl⟩ := hrel
    by_cases hjl : j < n
    · have hji : (j : Int) < n := by omega
      have hy := rotrN_lt HX.out j
      have hr := rotrN_s x j
      unfold rotr1 at hr
      obtain ⟨y, hY⟩ : ∃ y, rotrN j x = y := ⟨_, rfl⟩
      rw [hY] at hy hr ⊢
      have HR := hid hr
      clear hr
      go_wp2_with fail
      go_roundw
      case rel =>
        refine ⟨j + 1, by go_num, by omega, ?_, trivial⟩
        rw [HR.out]; exact congrArg (Value.int IntKind.u32) (by omega)
      case measure => simp [intOf]; omega
    · obtain rfl : j = n := by omega
      rw [rotrN_eq x j hn]
      go_wp2_with fail
      go_ret
      exact ⟨rfl, rfl⟩
set_option maxRecDepth 100000 in
theorem rless_c (x n : Nat) (hx : x < 4294967296) (hn : n ≤ 32) :
    Calls Try.prog 64 #[.int .u32 x, .int .i64 n] w fun e w' => e = .returned (.int .u32 (x / 2 ^ n : Nat)) ∧ w' = w := by
  have HX := hid hx
  have hni : (n : Int) ≤ 32 := by omega
  go_enter Try.func64, Try.ntmps64
  go_wp2_with fail
  go_loopw [5, 0] (fun i y wr => ∃ j : Nat, i = .int .i64 j ∧ j ≤ n ∧ y = .int .u32 (x / 2 ^ j : Nat) ∧ wr = w) (fun i _ _ => n - (intOf i).toNat)
  case atStart => exact ⟨0, rfl, Nat.zero_le _, by simp, rfl⟩
  case round =>
    obtain ⟨j, rfl, hj, rfl, rfl⟩ := hrel
    by_cases hjl : j < n
    · have hji : (j : Int) < n := by omega
      have hy : x / 2 ^ j < 4294967296 := Nat.lt_of_le_of_lt (Nat.div_le_self _ _) HX.out
      have hr : x / 2 ^ (j + 1) = x / 2 ^ j / 2 := by rw [Nat.pow_succ, Nat.div_div_eq_div_mul]
      obtain ⟨y, hY⟩ : ∃ y, x / 2 ^ j = y := ⟨_, rfl⟩
      rw [hY] at hy hr ⊢
      have HR := hid hr
      clear hr
      go_wp2_with fail
      go_roundw
      case rel =>
        refine ⟨j + 1, by go_num, by omega, ?_, trivial⟩
        rw [HR.out]; exact congrArg (Value.int IntKind.u32) (by omega)
      case measure => simp [intOf]; omega
    · obtain rfl : j = n := by omega
      obtain ⟨y, hY⟩ : ∃ y, x / 2 ^ j = y := ⟨_, rfl⟩
      rw [hY]
      go_wp2_with fail
      go_ret
      rw [hY]
      exact ⟨rfl, rfl⟩
end
end Go.Proofs.Ytnoopajedgllhaa
