/- foliotref09: A, B, N, T, V. -/
import Derived.Test.YtnoopajedgllhaaEvA
import Derived.Test.YtnoopajedgllhaaPrV
namespace Go.Proofs.Ytnoopajedgllhaa
open Go.RowKit
section
variable {w : World}
def flA (k : Int) : Bool := k == 1 || k == 3 || k == 4 || (decide (7 ≤ k) && decide (k ≤ 13))
theorem flA_eq (k : Int) : flA k = decide ((65 : UInt8) ∈ evFlds k) := by
  by_cases h : 1 ≤ k ∧ k ≤ 21
  · refine ev_inds (P := fun k => flA k = decide ((65 : UInt8) ∈ evFlds k)) ?_ h
    decide
  · have h1 : evFlds k = [] := by unfold evFlds; rw [if_neg h]
    rw [h1]
    unfold flA
    simp
    omega
set_option maxRecDepth 100000 in
theorem rA_c (k : Int) : Calls Try.prog 53 #[.int .i64 k] w fun x w' => x = .returned (.bool (decide ((65 : UInt8) ∈ evFlds k))) ∧ w = w' := by
  rw [← flA_eq]
  by_cases h1 : k = 1
  · subst h1
    have HF : Hid (flA 1 = true) := hid rfl
    go_enter Try.func53, Try.ntmps53
    go_wp2_with fail
    go_ret
    rw [HF.out]; exact ⟨rfl, rfl⟩
  have b1 : (k == 1) = false := by simpa using h1
  by_cases h3 : k = 3
  · subst h3
    have HF : Hid (flA 3 = true) := hid rfl
    go_enter Try.func53, Try.ntmps53
    go_wp2_with fail
    go_ret
    rw [HF.out]; exact ⟨rfl, rfl⟩
  have b3 : (k == 3) = false := by simpa using h3
  by_cases h4 : k = 4
  · subst h4
    have HF : Hid (flA 4 = true) := hid rfl
    go_enter Try.func53, Try.ntmps53
    go_wp2_with fail
    go_ret
    rw [HF.out]; exact ⟨rfl, rfl⟩
  have b4 : (k == 4) = false := by simpa using h4
  by_cases g1 : 7 ≤ k
  · by_cases g2 : k ≤ 13
    · have HF : Hid (flA k = true) := hid (by unfold flA; simp [g1, g2])
      go_enter Try.func53, Try.ntmps53
      go_wp2_with fail
      go_ret
      rw [HF.out]; exact ⟨rfl, rfl⟩
    · have HF : Hid (flA k = false) := hid (by unfold flA; simp [g2, h1, h3, h4])
      clear h1 h3 h4
      go_enter Try.func53, Try.ntmps53
      go_wp2_with fail
      go_ret
      rw [HF.out]; exact ⟨rfl, rfl⟩
  · have HF : Hid (flA k = false) := hid (by unfold flA; simp [g1, h1, h3, h4])
    clear h1 h3 h4
    go_enter Try.func53, Try.ntmps53
    go_wp2_with fail
    go_ret
    rw [HF.out]; exact ⟨rfl, rfl⟩
def flB (k : Int) : Bool := k == 1 || k == 2 || k == 3 || k == 4 || k == 5 || k == 6 || k == 7 || k == 11 || k == 21
theorem flB_eq (k : Int) : flB k = decide ((66 : UInt8) ∈ evFlds k) := by
  by_cases h : 1 ≤ k ∧ k ≤ 21
  · refine ev_inds (P := fun k => flB k = decide ((66 : UInt8) ∈ evFlds k)) ?_ h
    decide
  · have h1 : evFlds k = [] := by unfold evFlds; rw [if_neg h]
    rw [h1]
    unfold flB
    simp
    omega
set_option maxRecDepth 100000 in
theorem rB_c (k : Int) : Calls Try.prog 54 #[.int .i64 k] w fun x w' => x = .returned (.bool (decide ((66 : UInt8) ∈ evFlds k))) ∧ w = w' := by
  rw [← flB_eq]
  by_cases h1 : k = 1
  · subst h1
    have HF : Hid (flB 1 = true) := hid rfl
    go_enter Try.func54, Try.ntmps54
    go_wp2_with fail
    go_ret
    rw [HF.out]; exact ⟨rfl, rfl⟩
  have b1 : (k == 1) = false := by simpa using h1
  by_cases h2 : k = 2
  · subst h2
    have HF : Hid (flB 2 = true) := hid rfl
    go_enter Try.func54, Try.ntmps54
    go_wp2_with fail
    go_ret
    rw [HF.out]; exact ⟨rfl, rfl⟩
  have b2 : (k == 2) = false := by simpa using h2
  by_cases h3 : k = 3
  · subst h3
    have HF : Hid (flB 3 = true) := hid rfl
    go_enter Try.func54, Try.ntmps54
    go_wp2_with fail
    go_ret
    rw [HF.out]; exact ⟨rfl, rfl⟩
  have b3 : (k == 3) = false := by simpa using h3
  by_cases h4 : k = 4
  · subst h4
    have HF : Hid (flB 4 = true) := hid rfl
    go_enter Try.func54, Try.ntmps54
    go_wp2_with fail
    go_ret
    rw [HF.out]; exact ⟨rfl, rfl⟩
  have b4 : (k == 4) = false := by simpa using h4
  by_cases h5 : k = 5
  · subst h5
    have HF : Hid (flB 5 = true) := hid rfl
    go_enter Try.func54, Try.ntmps54
    go_wp2_with fail
    go_ret
    rw [HF.out]; exact ⟨rfl, rfl⟩
  have b5 : (k == 5) = false := by simpa using h5
  by_cases h6 : k = 6
  · subst h6
    have HF : Hid (flB 6 = true) := hid rfl
    go_enter Try.func54, Try.ntmps54
    go_wp2_with fail
    go_ret
    rw [HF.out]; exact ⟨rfl, rfl⟩
  have b6 : (k == 6) = false := by simpa using h6
  by_cases h7 : k = 7
  · subst h7
    have HF : Hid (flB 7 = true) := hid rfl
    go_enter Try.func54, Try.ntmps54
    go_wp2_with fail
    go_ret
    rw [HF.out]; exact ⟨rfl, rfl⟩
  have b7 : (k == 7) = false := by simpa using h7
  by_cases h11 : k = 11
  · subst h11
    have HF : Hid (flB 11 = true) := hid rfl
    go_enter Try.func54, Try.ntmps54
    go_wp2_with fail
    go_ret
    rw [HF.out]; exact ⟨rfl, rfl⟩
  have b11 : (k == 11) = false := by simpa using h11
  by_cases h21 : k = 21
  · subst h21
    have HF : Hid (flB 21 = true) := hid rfl
    go_enter Try.func54, Try.ntmps54
    go_wp2_with fail
    go_ret
    rw [HF.out]; exact ⟨rfl, rfl⟩
  have b21 : (k == 21) = false := by simpa using h21
  have HF : Hid (flB k = false) := hid (by unfold flB; simp [h1, h2, h3, h4, h5, h6, h7, h11, h21])
  clear h1 h2 h3 h4 h5 h6 h7 h11 h21
  go_enter Try.func54, Try.ntmps54
  go_wp2_with fail
  go_ret
  rw [HF.out]; exact ⟨rfl, rfl⟩
def flN (k : Int) : Bool := k == 1 || k == 6 || k == 7 || k == 9 || k == 14 || k == 17 || k == 19
theorem flN_eq (k : Int) : flN k = decide ((78 : UInt8) ∈ evFlds k) := by
  by_cases h : 1 ≤ k ∧ k ≤ 21
  · refine ev_inds (P := fun k => flN k = decide ((78 : UInt8) ∈ evFlds k)) ?_ h
    decide
  · have h1 : evFlds k = [] := by unfold evFlds; rw [if_neg h]
    rw [h1]
    unfold flN
    simp
    omega
set_option maxRecDepth 100000 in
theorem rN_c (k : Int) : Calls Try.prog 55 #[.int .i64 k] w fun x w' => x = .returned (.bool (decide ((78 : UInt8) ∈ evFlds k))) ∧ w = w' := by
  rw [← flN_eq]
  by_cases h1 : k = 1
  · subst h1
    have HF : Hid (flN 1 = true) := hid rfl
    go_enter Try.func55, Try.ntmps55
    go_wp2_with fail
    go_ret
    rw [HF.out]; exact ⟨rfl, rfl⟩
  have b1 : (k == 1) = false := by simpa using h1
  by_cases h6 : k = 6
  · subst h6
    have HF : Hid (flN 6 = true) := hid rfl
    go_enter Try.func55, Try.ntmps55
    go_wp2_with fail
    go_ret
    rw [HF.out]; exact ⟨rfl, rfl⟩
  have b6 : (k == 6) = false := by simpa using h6
  by_cases h7 : k = 7
  · subst h7
    have HF : Hid (flN 7 = true) := hid rfl
    go_enter Try.func55, Try.ntmps55
    go_wp2_with fail
    go_ret
    rw [HF.out]; exact ⟨rfl, rfl⟩
  have b7 : (k == 7) = false := by simpa using h7
  by_cases h9 : k = 9
  · subst h9
    have HF : Hid (flN 9 = true) := hid rfl
    go_enter Try.func55, Try.ntmps55
    go_wp2_with fail
    go_ret
    rw [HF.out]; exact ⟨rfl, rfl⟩
  have b9 : (k == 9) = false := by simpa using h9
  by_cases h14 : k = 14
  · subst h14
    have HF : Hid (flN 14 = true) := hid rfl
    go_enter Try.func55, Try.ntmps55
    go_wp2_with fail
    go_ret
    rw [HF.out]; exact ⟨rfl, rfl⟩
  have b14 : (k == 14) = false := by simpa using h14
  by_cases h17 : k = 17
  · subst h17
    have HF : Hid (flN 17 = true) := hid rfl
    go_enter Try.func55, Try.ntmps55
    go_wp2_with fail
    go_ret
    rw [HF.out]; exact ⟨rfl, rfl⟩
  have b17 : (k == 17) = false := by simpa using h17
  by_cases h19 : k = 19
  · subst h19
    have HF : Hid (flN 19 = true) := hid rfl
    go_enter Try.func55, Try.ntmps55
    go_wp2_with fail
    go_ret
    rw [HF.out]; exact ⟨rfl, rfl⟩
  have b19 : (k == 19) = false := by simpa using h19
  have HF : Hid (flN k = false) := hid (by unfold flN; simp [h1, h6, h7, h9, h14, h17, h19])
  clear h1 h6 h7 h9 h14 h17 h19
  go_enter Try.func55, Try.ntmps55
  go_wp2_with fail
  go_ret
  rw [HF.out]; exact ⟨rfl, rfl⟩
def flT (k : Int) : Bool := k == 1
theorem flT_eq (k : Int) : flT k = decide ((84 : UInt8) ∈ evFlds k) := by
  by_cases h : 1 ≤ k ∧ k ≤ 21
  · refine ev_inds (P := fun k => flT k = decide ((84 : UInt8) ∈ evFlds k)) ?_ h
    decide
  · have h1 : evFlds k = [] := by unfold evFlds; rw [if_neg h]
    rw [h1]
    unfold flT
    simp
    omega
set_option maxRecDepth 100000 in
theorem rT_c (k : Int) : Calls Try.prog 56 #[.int .i64 k] w fun x w' => x = .returned (.bool (decide ((84 : UInt8) ∈ evFlds k))) ∧ w = w' := by
  rw [← flT_eq]
  by_cases h1 : k = 1
  · subst h1
    have HF : Hid (flT 1 = true) := hid rfl
    go_enter Try.func56, Try.ntmps56
    go_wp2_with fail
    go_ret
    rw [HF.out]; exact ⟨rfl, rfl⟩
  have b1 : (k == 1) = false := by simpa using h1
  have HF : Hid (flT k = false) := hid (by unfold flT; simp [h1])
  clear h1
  go_enter Try.func56, Try.ntmps56
  go_wp2_with fail
  go_ret
  rw [HF.out]; exact ⟨rfl, rfl⟩
def flV (k : Int) : Bool := k == 1 || k == 7 || k == 8 || k == 14 || k == 16 || k == 21
theorem flV_eq (k : Int) : flV k = decide ((86 : UInt8) ∈ evFlds k) := by
  by_cases h : 1 ≤ k ∧ k ≤ 21
  · refine ev_inds (P := fun k => flV k = decide ((86 : UInt8) ∈ evFlds k)) ?_ h
    decide
  · have h1 : evFlds k = [] := by unfold evFlds; rw [if_neg h]
    rw [h1]
    unfold flV
    simp
    omega
set_option maxRecDepth 100000 in
theorem rV_c (k : Int) : Calls Try.prog 57 #[.int .i64 k] w fun x w' => x = .returned (.bool (decide ((86 : UInt8) ∈ evFlds k))) ∧ w = w' := by
  rw [← flV_eq]
  by_cases h1 : k = 1
  · subst h1
    have HF : Hid (flV 1 = true) := hid rfl
    go_enter Try.func57, Try.ntmps57
    go_wp2_with fail
    go_ret
    rw [HF.out]; exact ⟨rfl, rfl⟩
  have b1 : (k == 1) = false := by simpa using h1
  by_cases h7 : k = 7
  · subst h7
    have HF : Hid (flV 7 = true) := hid rfl
    go_enter Try.func57, Try.ntmps57
    go_wp2_with fail
    go_ret
    rw [HF.out]; exact ⟨rfl, rfl⟩
  have b7 : (k == 7) = false := by simpa using h7
  by_cases h8 : k = 8
  · subst h8
    have HF : Hid (flV 8 = true) := hid rfl
    go_enter Try.func57, Try.ntmps57
    go_wp2_with fail
    go_ret
    rw [HF.out]; exact ⟨rfl, rfl⟩
  have b8 : (k == 8) = false := by simpa using h8
  by_cases h14 : k = 14
  · subst h14
    have HF : Hid (flV 14 = true) := hid rfl
    go_enter Try.func57, Try.ntmps57
    go_wp2_with fail
    go_ret
    rw [HF.out]; exact ⟨rfl, rfl⟩
  have b14 : (k == 14) = false := by simpa using h14
  by_cases h16 : k = 16
  · subst h16
    have HF : Hid (flV 16 = true) := hid rfl
    go_enter Try.func57, Try.ntmps57
    go_wp2_with fail
    go_ret
    rw [HF.out]; exact ⟨rfl, rfl⟩
  have b16 : (k == 16) = false := by simpa using h16
  by_cases h21 : k = 21
  · subst h21
    have HF : Hid (flV 21 = true) := hid rfl
    go_enter Try.func57, Try.ntmps57
    go_wp2_with fail
    go_ret
    rw [HF.out]; exact ⟨rfl, rfl⟩
  have b21 : (k == 21) = false := by simpa using h21
  have HF : Hid (flV k = false) := hid (by unfold flV; simp [h1, h7, h8, h14, h16, h21])
  clear h1 h7 h8 h14 h16 h21
  go_enter Try.func57, Try.ntmps57
  go_wp2_with fail
  go_ret
  rw [HF.out]; exact ⟨rfl, rfl⟩
end
end Go.Proofs.Ytnoopajedgllhaa
