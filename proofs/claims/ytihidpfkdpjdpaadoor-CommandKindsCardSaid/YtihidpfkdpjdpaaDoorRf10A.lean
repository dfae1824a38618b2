/- foliotref10: A, B, N, V, Name. -/
import Derived.Test.YtihidpfkdpjdpaaDoorCmA
namespace Go.Proofs.YtihidpfkdpjdpaaDoor
open Go.RowKit
section
variable {w : World}
set_option maxRecDepth 100000 in
theorem r10A_c (k : Int) : Calls Tryd.prog 33 #[.int .i64 k] w fun x w' => x = .returned (.bool (fA k)) ∧ w = w' := by
  rcases c_k7 k with rfl | rfl | rfl | rfl | rfl | rfl | h
  case inr.inr.inr.inr.inr.inr =>
    have HF : Hid (fA k = false) := hid (by unfold fA; simp only [Bool.or_eq_false_iff, beq_eq_false_iff_ne]; omega)
    by_cases h1 : 1 ≤ k
    · have h3 : ¬ k ≤ 3 := by omega
      go_enter Tryd.func33, Tryd.ntmps33
      go_wp2_with fail
      go_ret
      rw [HF.out]; exact ⟨rfl, rfl⟩
    · skip
      go_enter Tryd.func33, Tryd.ntmps33
      go_wp2_with fail
      go_ret
      rw [HF.out]; exact ⟨rfl, rfl⟩
  all_goals
    go_enter Tryd.func33, Tryd.ntmps33
    go_wp2_with fail
    go_ret
    exact ⟨rfl, rfl⟩
set_option maxRecDepth 100000 in
theorem r10B_c (k : Int) : Calls Tryd.prog 34 #[.int .i64 k] w fun x w' => x = .returned (.bool (fB k)) ∧ w = w' := by
  rcases c_k7 k with rfl | rfl | rfl | rfl | rfl | rfl | h
  case inr.inr.inr.inr.inr.inr =>
    have b1 : (k == 1) = false := by simp; omega
    have b3 : (k == 3) = false := by simp; omega
    have HF : Hid (fB k = false) := hid (by unfold fB; rw [b1, b3]; rfl)
    clear h
    go_enter Tryd.func34, Tryd.ntmps34
    go_wp2_with fail
    go_ret
    rw [HF.out]; exact ⟨rfl, rfl⟩
  all_goals
    go_enter Tryd.func34, Tryd.ntmps34
    go_wp2_with fail
    go_ret
    exact ⟨rfl, rfl⟩
set_option maxRecDepth 100000 in
theorem r10N_c (k : Int) : Calls Tryd.prog 35 #[.int .i64 k] w fun x w' => x = .returned (.bool (fN k)) ∧ w = w' := by
  rcases c_k7 k with rfl | rfl | rfl | rfl | rfl | rfl | h
  case inr.inr.inr.inr.inr.inr =>
    have b3 : (k == 3) = false := by simp; omega
    have b5 : (k == 5) = false := by simp; omega
    have HF : Hid (fN k = false) := hid (by unfold fN; rw [b3, b5]; rfl)
    clear h
    go_enter Tryd.func35, Tryd.ntmps35
    go_wp2_with fail
    go_ret
    rw [HF.out]; exact ⟨rfl, rfl⟩
  all_goals
    go_enter Tryd.func35, Tryd.ntmps35
    go_wp2_with fail
    go_ret
    exact ⟨rfl, rfl⟩
set_option maxRecDepth 100000 in
theorem r10V_c (k : Int) : Calls Tryd.prog 36 #[.int .i64 k] w fun x w' => x = .returned (.bool (fV k)) ∧ w = w' := by
  rcases c_k7 k with rfl | rfl | rfl | rfl | rfl | rfl | h
  case inr.inr.inr.inr.inr.inr =>
    have b3 : (k == 3) = false := by simp; omega
    have b4 : (k == 4) = false := by simp; omega
    have b6 : (k == 6) = false := by simp; omega
    have HF : Hid (fV k = false) := hid (by unfold fV; rw [b3, b4, b6]; rfl)
    clear h
    go_enter Tryd.func36, Tryd.ntmps36
    go_wp2_with fail
    go_ret
    rw [HF.out]; exact ⟨rfl, rfl⟩
  all_goals
    go_enter Tryd.func36, Tryd.ntmps36
    go_wp2_with fail
    go_ret
    exact ⟨rfl, rfl⟩
set_option maxRecDepth 100000 in
theorem r10name_c (k : Int) : Calls Tryd.prog 23 #[.int .i64 k] w fun x w' => x = .returned (.string (strOf (cName k))) ∧ Only (fun _ => False) w w' := by
  rcases c_k7 k with rfl | rfl | rfl | rfl | rfl | rfl | h
  case inr.inr.inr.inr.inr.inr =>
    have HF : Hid (cName k = []) := hid (by unfold cName; rw [if_neg h])
    by_cases h1 : k < 1
    · skip
      go_enter Tryd.func23, Tryd.ntmps23
      go_wp2_with fail
      go_ret
      rw [HF.out]; first | exact ⟨rfl, Only.refl _ _⟩ | exact ⟨rfl, only_new _ _⟩ | (trace_state; sorry)
    · have h6 : 6 < k := by omega
      go_enter Tryd.func23, Tryd.ntmps23
      go_wp2_with fail
      go_ret
      rw [HF.out]; first | exact ⟨rfl, Only.refl _ _⟩ | exact ⟨rfl, only_new _ _⟩ | (trace_state; sorry)
  all_goals
    go_enter Tryd.func23, Tryd.ntmps23
    go_wp2_with fail
    go_ret
    first | exact ⟨rfl, Only.refl _ _⟩ | exact ⟨rfl, only_new _ _⟩ | (trace_state; sorry)
end
end Go.Proofs.YtihidpfkdpjdpaaDoor
