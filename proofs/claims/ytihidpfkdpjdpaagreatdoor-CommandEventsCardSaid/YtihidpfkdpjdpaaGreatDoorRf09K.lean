/- foliotref09: Name, its fields, Check, Same; event.Task, Closes, Outside. -/
import Derived.Test.YtihidpfkdpjdpaaGreatDoorEvA
import Derived.Test.YtihidpfkdpjdpaaGreatDoorPrV
import Derived.Test.YtihidpfkdpjdpaaGreatDoorRf03
import Derived.Deep.Cut
import Derived.Deep.CutRange
import Derived.Deep.CutBlock
import Derived.Test.YtihidpfkdpjdpaaGreatDoorCmp
import Derived.Test.YtihidpfkdpjdpaaGreatDoorESame
namespace Go.Proofs.YtihidpfkdpjdpaaGreatDoor
open Go.RowKit
section
variable {w : World}
set_option maxRecDepth 100000 in
set_option maxHeartbeats 3200000 in
theorem refname_c (k : Int) : Calls Tryz.prog 32 #[.int .i64 k] w fun x w' => x = .returned (.string (strOf (evName k))) ∧ Only (fun _ => False) w w' := by
  by_cases h1 : k < 1
  · have HF : Hid (evName k = []) := hid (by unfold evName; rw [if_neg (by omega)])
    go_enter Tryz.func32, Tryz.ntmps32
    go_wp2_with fail
    go_ret
    rw [HF.out]; exact ⟨rfl, only_new w _⟩
  by_cases h2 : 21 < k
  · have HF : Hid (evName k = []) := hid (by unfold evName; rw [if_neg (by omega)])
    go_enter Tryz.func32, Tryz.ntmps32
    go_wp2_with fail
    go_ret
    rw [HF.out]; exact ⟨rfl, only_new w _⟩
  obtain ⟨n, rfl⟩ := Int.eq_ofNat_of_zero_le (by omega : 0 ≤ k)
  have hc : (w.alloc (.cells #[.string ⟨#[]⟩, .string ⟨#[114, 117, 110, 45, 115, 116, 97, 114, 116, 101, 100]⟩, .string ⟨#[116, 97, 115, 107, 45, 115, 99, 104, 101, 100, 117, 108, 101, 100]⟩, .string ⟨#[116, 97, 115, 107, 45, 115, 116, 97, 114, 116, 101, 100]⟩, .string ⟨#[116, 97, 115, 107, 45, 99, 111, 109, 112, 108, 101, 116, 101, 100]⟩, .string ⟨#[116, 97, 115, 107, 45, 116, 105, 109, 101, 100, 45, 111, 117, 116]⟩, .string ⟨#[116, 97, 115, 107, 45, 102, 97, 105, 108, 101, 100]⟩, .string ⟨#[97, 99, 116, 105, 118, 105, 116, 121, 45, 115, 99, 104, 101, 100, 117, 108, 101, 100]⟩, .string ⟨#[97, 99, 116, 105, 118, 105, 116, 121, 45, 99, 111, 109, 112, 108, 101, 116, 101, 100]⟩, .string ⟨#[97, 99, 116, 105, 118, 105, 116, 121, 45, 102, 97, 105, 108, 101, 100]⟩, .string ⟨#[97, 99, 116, 105, 118, 105, 116, 121, 45, 116, 105, 109, 101, 100, 45, 111, 117, 116]⟩, .string ⟨#[116, 105, 109, 101, 114, 45, 115, 116, 97, 114, 116, 101, 100]⟩, .string ⟨#[116, 105, 109, 101, 114, 45, 102, 105, 114, 101, 100]⟩, .string ⟨#[116, 105, 109, 101, 114, 45, 99, 97, 110, 99, 101, 108, 101, 100]⟩, .string ⟨#[115, 105, 103, 110, 97, 108, 45, 114, 101, 99, 101, 105, 118, 101, 100]⟩, .string ⟨#[99, 97, 110, 99, 101, 108, 45, 114, 101, 113, 117, 101, 115, 116, 101, 100]⟩, .string ⟨#[114, 117, 110, 45, 99, 111, 109, 112, 108, 101, 116, 101, 100]⟩, .string ⟨#[114, 117, 110, 45, 102, 97, 105, 108, 101, 100]⟩, .string ⟨#[114, 117, 110, 45, 99, 97, 110, 99, 101, 108, 101, 100]⟩, .string ⟨#[114, 117, 110, 45, 116, 101, 114, 109, 105, 110, 97, 116, 101, 100]⟩, .string ⟨#[114, 117, 110, 45, 116, 105, 109, 101, 100, 45, 111, 117, 116]⟩, .string ⟨#[99, 111, 110, 116, 105, 110, 117, 101, 100, 45, 97, 115, 45, 110, 101, 119]⟩] 9)).cell? ⟨w.heap.size, n, none⟩ = some (.string (strOf (evName (n : Int)))) := by
    rw [cell_blk (blk_new w _)]
    have hall : ∀ i : Fin 22, 1 ≤ i.val → (#[.string ⟨#[]⟩, .string ⟨#[114, 117, 110, 45, 115, 116, 97, 114, 116, 101, 100]⟩, .string ⟨#[116, 97, 115, 107, 45, 115, 99, 104, 101, 100, 117, 108, 101, 100]⟩, .string ⟨#[116, 97, 115, 107, 45, 115, 116, 97, 114, 116, 101, 100]⟩, .string ⟨#[116, 97, 115, 107, 45, 99, 111, 109, 112, 108, 101, 116, 101, 100]⟩, .string ⟨#[116, 97, 115, 107, 45, 116, 105, 109, 101, 100, 45, 111, 117, 116]⟩, .string ⟨#[116, 97, 115, 107, 45, 102, 97, 105, 108, 101, 100]⟩, .string ⟨#[97, 99, 116, 105, 118, 105, 116, 121, 45, 115, 99, 104, 101, 100, 117, 108, 101, 100]⟩, .string ⟨#[97, 99, 116, 105, 118, 105, 116, 121, 45, 99, 111, 109, 112, 108, 101, 116, 101, 100]⟩, .string ⟨#[97, 99, 116, 105, 118, 105, 116, 121, 45, 102, 97, 105, 108, 101, 100]⟩, .string ⟨#[97, 99, 116, 105, 118, 105, 116, 121, 45, 116, 105, 109, 101, 100, 45, 111, 117, 116]⟩, .string ⟨#[116, 105, 109, 101, 114, 45, 115, 116, 97, 114, 116, 101, 100]⟩, .string ⟨#[116, 105, 109, 101, 114, 45, 102, 105, 114, 101, 100]⟩, .string ⟨#[116, 105, 109, 101, 114, 45, 99, 97, 110, 99, 101, 108, 101, 100]⟩, .string ⟨#[115, 105, 103, 110, 97, 108, 45, 114, 101, 99, 101, 105, 118, 101, 100]⟩, .string ⟨#[99, 97, 110, 99, 101, 108, 45, 114, 101, 113, 117, 101, 115, 116, 101, 100]⟩, .string ⟨#[114, 117, 110, 45, 99, 111, 109, 112, 108, 101, 116, 101, 100]⟩, .string ⟨#[114, 117, 110, 45, 102, 97, 105, 108, 101, 100]⟩, .string ⟨#[114, 117, 110, 45, 99, 97, 110, 99, 101, 108, 101, 100]⟩, .string ⟨#[114, 117, 110, 45, 116, 101, 114, 109, 105, 110, 97, 116, 101, 100]⟩, .string ⟨#[114, 117, 110, 45, 116, 105, 109, 101, 100, 45, 111, 117, 116]⟩, .string ⟨#[99, 111, 110, 116, 105, 110, 117, 101, 100, 45, 97, 115, 45, 110, 101, 119]⟩] : Array Value)[i.val]? = some (.string (strOf (evName (i.val : Int)))) := by
      intro i hi
      rcases i with ⟨i, hil⟩
      have hi' : i = 1 ∨ i = 2 ∨ i = 3 ∨ i = 4 ∨ i = 5 ∨ i = 6 ∨ i = 7 ∨ i = 8 ∨ i = 9 ∨ i = 10 ∨ i = 11 ∨ i = 12 ∨ i = 13 ∨ i = 14 ∨ i = 15 ∨ i = 16 ∨ i = 17 ∨ i = 18 ∨ i = 19 ∨ i = 20 ∨ i = 21 := by
        have hi2 : 1 ≤ i := hi
        omega
      rcases hi' with rfl|rfl|rfl|rfl|rfl|rfl|rfl|rfl|rfl|rfl|rfl|rfl|rfl|rfl|rfl|rfl|rfl|rfl|rfl|rfl|rfl <;> rfl
    exact hall ⟨n, by omega⟩ (by show 1 ≤ n; omega)
  have hn1 : (1 : Int) ≤ (n : Int) := by omega
  have hn2 : (n : Int) ≤ 21 := by omega
  obtain ⟨s, hs⟩ : ∃ s, strOf (evName (n : Int)) = s := ⟨_, rfl⟩
  rw [hs] at hc ⊢
  clear h1 h2 hs
  go_enter Tryz.func32, Tryz.ntmps32
  go_wp2_with fail
  go_ret
  exact ⟨rfl, only_new w _⟩
end
end Go.Proofs.YtihidpfkdpjdpaaGreatDoor
namespace Go.Proofs.YtihidpfkdpjdpaaGreatDoor
open Go.RowKit
section
variable {w : World}
def flA (k : Int) : Bool := k == 1 || k == 3 || k == 4 || (decide (7 ≤ k) && decide (k ≤ 13))
theorem flA_eq (k : Int) : flA k = decide ((65 : UInt8) ∈ evFlds k) := by
  by_cases h : 1 ≤ k ∧ k ≤ 21
  · refine ev_inds (P := fun k => flA k = decide ((65 : UInt8) ∈ evFlds k)) ?_ h
    decide
  · have h1 : evFlds k = [] := by unfold evFlds; rw [if_neg h]
    rw [h1]
    unfold flA
    simp
    omega
set_option maxRecDepth 100000 in
theorem rA_c (k : Int) : Calls Tryz.prog 33 #[.int .i64 k] w fun x w' => x = .returned (.bool (decide ((65 : UInt8) ∈ evFlds k))) ∧ w = w' := by
  rw [← flA_eq]
  by_cases h1 : k = 1
  · subst h1
    have HF : Hid (flA 1 = true) := hid rfl
    go_enter Tryz.func33, Tryz.ntmps33
    go_wp2_with fail
    go_ret
    rw [HF.out]; exact ⟨rfl, rfl⟩
  have b1 : (k == 1) = false := by simpa using h1
  by_cases h3 : k = 3
  · subst h3
    have HF : Hid (flA 3 = true) := hid rfl
    go_enter Tryz.func33, Tryz.ntmps33
    go_wp2_with fail
    go_ret
    rw [HF.out]; exact ⟨rfl, rfl⟩
  have b3 : (k == 3) = false := by simpa using h3
  by_cases h4 : k = 4
  · subst h4
    have HF : Hid (flA 4 = true) := hid rfl
    go_enter Tryz.func33, Tryz.ntmps33
    go_wp2_with fail
    go_ret
    rw [HF.out]; exact ⟨rfl, rfl⟩
  have b4 : (k == 4) = false := by simpa using h4
  by_cases g1 : 7 ≤ k
  · by_cases g2 : k ≤ 13
    · have HF : Hid (flA k = true) := hid (by unfold flA; simp [g1, g2])
      go_enter Tryz.func33, Tryz.ntmps33
      go_wp2_with fail
      go_ret
      rw [HF.out]; exact ⟨rfl, rfl⟩
    · have HF : Hid (flA k = false) := hid (by unfold flA; simp [g2, h1, h3, h4])
      clear h1 h3 h4
      go_enter Tryz.func33, Tryz.ntmps33
      go_wp2_with fail
      go_ret
      rw [HF.out]; exact ⟨rfl, rfl⟩
  · have HF : Hid (flA k = false) := hid (by unfold flA; simp [g1, h1, h3, h4])
    clear h1 h3 h4
    go_enter Tryz.func33, Tryz.ntmps33
    go_wp2_with fail
    go_ret
    rw [HF.out]; exact ⟨rfl, rfl⟩
def flB (k : Int) : Bool := k == 1 || k == 2 || k == 3 || k == 4 || k == 5 || k == 6 || k == 7 || k == 11 || k == 21
theorem flB_eq (k : Int) : flB k = decide ((66 : UInt8) ∈ evFlds k) := by
  by_cases h : 1 ≤ k ∧ k ≤ 21
  · refine ev_inds (P := fun k => flB k = decide ((66 : UInt8) ∈ evFlds k)) ?_ h
    decide
  · have h1 : evFlds k = [] := by unfold evFlds; rw [if_neg h]
    rw [h1]
    unfold flB
    simp
    omega
set_option maxRecDepth 100000 in
theorem rB_c (k : Int) : Calls Tryz.prog 34 #[.int .i64 k] w fun x w' => x = .returned (.bool (decide ((66 : UInt8) ∈ evFlds k))) ∧ w = w' := by
  rw [← flB_eq]
  by_cases h1 : k = 1
  · subst h1
    have HF : Hid (flB 1 = true) := hid rfl
    go_enter Tryz.func34, Tryz.ntmps34
    go_wp2_with fail
    go_ret
    rw [HF.out]; exact ⟨rfl, rfl⟩
  have b1 : (k == 1) = false := by simpa using h1
  by_cases h2 : k = 2
  · subst h2
    have HF : Hid (flB 2 = true) := hid rfl
    go_enter Tryz.func34, Tryz.ntmps34
    go_wp2_with fail
    go_ret
    rw [HF.out]; exact ⟨rfl, rfl⟩
  have b2 : (k == 2) = false := by simpa using h2
  by_cases h3 : k = 3
  · subst h3
    have HF : Hid (flB 3 = true) := hid rfl
    go_enter Tryz.func34, Tryz.ntmps34
    go_wp2_with fail
    go_ret
    rw [HF.out]; exact ⟨rfl, rfl⟩
  have b3 : (k == 3) = false := by simpa using h3
  by_cases h4 : k = 4
  · subst h4
    have HF : Hid (flB 4 = true) := hid rfl
    go_enter Tryz.func34, Tryz.ntmps34
    go_wp2_with fail
    go_ret
    rw [HF.out]; exact ⟨rfl, rfl⟩
  have b4 : (k == 4) = false := by simpa using h4
  by_cases h5 : k = 5
  · subst h5
    have HF : Hid (flB 5 = true) := hid rfl
    go_enter Tryz.func34, Tryz.ntmps34
    go_wp2_with fail
    go_ret
    rw [HF.out]; exact ⟨rfl, rfl⟩
  have b5 : (k == 5) = false := by simpa using h5
  by_cases h6 : k = 6
  · subst h6
    have HF : Hid (flB 6 = true) := hid rfl
    go_enter Tryz.func34, Tryz.ntmps34
    go_wp2_with fail
    go_ret
    rw [HF.out]; exact ⟨rfl, rfl⟩
  have b6 : (k == 6) = false := by simpa using h6
  by_cases h7 : k = 7
  · subst h7
    have HF : Hid (flB 7 = true) := hid rfl
    go_enter Tryz.func34, Tryz.ntmps34
    go_wp2_with fail
    go_ret
    rw [HF.out]; exact ⟨rfl, rfl⟩
  have b7 : (k == 7) = false := by simpa using h7
  by_cases h11 : k = 11
  · subst h11
    have HF : Hid (flB 11 = true) := hid rfl
    go_enter Tryz.func34, Tryz.ntmps34
    go_wp2_with fail
    go_ret
    rw [HF.out]; exact ⟨rfl, rfl⟩
  have b11 : (k == 11) = false := by simpa using h11
  by_cases h21 : k = 21
  · subst h21
    have HF : Hid (flB 21 = true) := hid rfl
    go_enter Tryz.func34, Tryz.ntmps34
    go_wp2_with fail
    go_ret
    rw [HF.out]; exact ⟨rfl, rfl⟩
  have b21 : (k == 21) = false := by simpa using h21
  have HF : Hid (flB k = false) := hid (by unfold flB; simp [h1, h2, h3, h4, h5, h6, h7, h11, h21])
  clear h1 h2 h3 h4 h5 h6 h7 h11 h21
  go_enter Tryz.func34, Tryz.ntmps34
  go_wp2_with fail
  go_ret
  rw [HF.out]; exact ⟨rfl, rfl⟩
def flN (k : Int) : Bool := k == 1 || k == 6 || k == 7 || k == 9 || k == 14 || k == 17 || k == 19
theorem flN_eq (k : Int) : flN k = decide ((78 : UInt8) ∈ evFlds k) := by
  by_cases h : 1 ≤ k ∧ k ≤ 21
  · refine ev_inds (P := fun k => flN k = decide ((78 : UInt8) ∈ evFlds k)) ?_ h
    decide
  · have h1 : evFlds k = [] := by unfold evFlds; rw [if_neg h]
    rw [h1]
    unfold flN
    simp
    omega
set_option maxRecDepth 100000 in
theorem rN_c (k : Int) : Calls Tryz.prog 35 #[.int .i64 k] w fun x w' => x = .returned (.bool (decide ((78 : UInt8) ∈ evFlds k))) ∧ w = w' := by
  rw [← flN_eq]
  by_cases h1 : k = 1
  · subst h1
    have HF : Hid (flN 1 = true) := hid rfl
    go_enter Tryz.func35, Tryz.ntmps35
    go_wp2_with fail
    go_ret
    rw [HF.out]; exact ⟨rfl, rfl⟩
  have b1 : (k == 1) = false := by simpa using h1
  by_cases h6 : k = 6
  · subst h6
    have HF : Hid (flN 6 = true) := hid rfl
    go_enter Tryz.func35, Tryz.ntmps35
    go_wp2_with fail
    go_ret
    rw [HF.out]; exact ⟨rfl, rfl⟩
  have b6 : (k == 6) = false := by simpa using h6
  by_cases h7 : k = 7
  · subst h7
    have HF : Hid (flN 7 = true) := hid rfl
    go_enter Tryz.func35, Tryz.ntmps35
    go_wp2_with fail
    go_ret
    rw [HF.out]; exact ⟨rfl, rfl⟩
  have b7 : (k == 7) = false := by simpa using h7
  by_cases h9 : k = 9
  · subst h9
    have HF : Hid (flN 9 = true) := hid rfl
    go_enter Tryz.func35, Tryz.ntmps35
    go_wp2_with fail
    go_ret
    rw [HF.out]; exact ⟨rfl, rfl⟩
  have b9 : (k == 9) = false := by simpa using h9
  by_cases h14 : k = 14
  · subst h14
    have HF : Hid (flN 14 = true) := hid rfl
    go_enter Tryz.func35, Tryz.ntmps35
    go_wp2_with fail
    go_ret
    rw [HF.out]; exact ⟨rfl, rfl⟩
  have b14 : (k == 14) = false := by simpa using h14
  by_cases h17 : k = 17
  · subst h17
    have HF : Hid (flN 17 = true) := hid rfl
    go_enter Tryz.func35, Tryz.ntmps35
    go_wp2_with fail
    go_ret
    rw [HF.out]; exact ⟨rfl, rfl⟩
  have b17 : (k == 17) = false := by simpa using h17
  by_cases h19 : k = 19
  · subst h19
    have HF : Hid (flN 19 = true) := hid rfl
    go_enter Tryz.func35, Tryz.ntmps35
    go_wp2_with fail
    go_ret
    rw [HF.out]; exact ⟨rfl, rfl⟩
  have b19 : (k == 19) = false := by simpa using h19
  have HF : Hid (flN k = false) := hid (by unfold flN; simp [h1, h6, h7, h9, h14, h17, h19])
  clear h1 h6 h7 h9 h14 h17 h19
  go_enter Tryz.func35, Tryz.ntmps35
  go_wp2_with fail
  go_ret
  rw [HF.out]; exact ⟨rfl, rfl⟩
def flT (k : Int) : Bool := k == 1
theorem flT_eq (k : Int) : flT k = decide ((84 : UInt8) ∈ evFlds k) := by
  by_cases h : 1 ≤ k ∧ k ≤ 21
  · refine ev_inds (P := fun k => flT k = decide ((84 : UInt8) ∈ evFlds k)) ?_ h
    decide
  · have h1 : evFlds k = [] := by unfold evFlds; rw [if_neg h]
    rw [h1]
    unfold flT
    simp
    omega
set_option maxRecDepth 100000 in
theorem rT_c (k : Int) : Calls Tryz.prog 36 #[.int .i64 k] w fun x w' => x = .returned (.bool (decide ((84 : UInt8) ∈ evFlds k))) ∧ w = w' := by
  rw [← flT_eq]
  by_cases h1 : k = 1
  · subst h1
    have HF : Hid (flT 1 = true) := hid rfl
    go_enter Tryz.func36, Tryz.ntmps36
    go_wp2_with fail
    go_ret
    rw [HF.out]; exact ⟨rfl, rfl⟩
  have b1 : (k == 1) = false := by simpa using h1
  have HF : Hid (flT k = false) := hid (by unfold flT; simp [h1])
  clear h1
  go_enter Tryz.func36, Tryz.ntmps36
  go_wp2_with fail
  go_ret
  rw [HF.out]; exact ⟨rfl, rfl⟩
def flV (k : Int) : Bool := k == 1 || k == 7 || k == 8 || k == 14 || k == 16 || k == 21
theorem flV_eq (k : Int) : flV k = decide ((86 : UInt8) ∈ evFlds k) := by
  by_cases h : 1 ≤ k ∧ k ≤ 21
  · refine ev_inds (P := fun k => flV k = decide ((86 : UInt8) ∈ evFlds k)) ?_ h
    decide
  · have h1 : evFlds k = [] := by unfold evFlds; rw [if_neg h]
    rw [h1]
    unfold flV
    simp
    omega
set_option maxRecDepth 100000 in
theorem rV_c (k : Int) : Calls Tryz.prog 37 #[.int .i64 k] w fun x w' => x = .returned (.bool (decide ((86 : UInt8) ∈ evFlds k))) ∧ w = w' := by
  rw [← flV_eq]
  by_cases h1 : k = 1
  · subst h1
    have HF : Hid (flV 1 = true) := hid rfl
    go_enter Tryz.func37, Tryz.ntmps37
    go_wp2_with fail
    go_ret
    rw [HF.out]; exact ⟨rfl, rfl⟩
  have b1 : (k == 1) = false := by simpa using h1
  by_cases h7 : k = 7
  · subst h7
    have HF : Hid (flV 7 = true) := hid rfl
    go_enter Tryz.func37, Tryz.ntmps37
    go_wp2_with fail
    go_ret
    rw [HF.out]; exact ⟨rfl, rfl⟩
  have b7 : (k == 7) = false := by simpa using h7
  by_cases h8 : k = 8
  · subst h8
    have HF : Hid (flV 8 = true) := hid rfl
    go_enter Tryz.func37, Tryz.ntmps37
    go_wp2_with fail
    go_ret
    rw [HF.out]; exact ⟨rfl, rfl⟩
  have b8 : (k == 8) = false := by simpa using h8
  by_cases h14 : k = 14
  · subst h14
    have HF : Hid (flV 14 = true) := hid rfl
    go_enter Tryz.func37, Tryz.ntmps37
    go_wp2_with fail
    go_ret
    rw [HF.out]; exact ⟨rfl, rfl⟩
  have b14 : (k == 14) = false := by simpa using h14
  by_cases h16 : k = 16
  · subst h16
    have HF : Hid (flV 16 = true) := hid rfl
    go_enter Tryz.func37, Tryz.ntmps37
    go_wp2_with fail
    go_ret
    rw [HF.out]; exact ⟨rfl, rfl⟩
  have b16 : (k == 16) = false := by simpa using h16
  by_cases h21 : k = 21
  · subst h21
    have HF : Hid (flV 21 = true) := hid rfl
    go_enter Tryz.func37, Tryz.ntmps37
    go_wp2_with fail
    go_ret
    rw [HF.out]; exact ⟨rfl, rfl⟩
  have b21 : (k == 21) = false := by simpa using h21
  have HF : Hid (flV k = false) := hid (by unfold flV; simp [h1, h7, h8, h14, h16, h21])
  clear h1 h7 h8 h14 h16 h21
  go_enter Tryz.func37, Tryz.ntmps37
  go_wp2_with fail
  go_ret
  rw [HF.out]; exact ⟨rfl, rfl⟩
end
end Go.Proofs.YtihidpfkdpjdpaaGreatDoor
namespace Go.Proofs.YtihidpfkdpjdpaaGreatDoor
open Go.RowKit
theorem chk_re (P A B C R N V : Prop) [Decidable P] [Decidable A] [Decidable B] [Decidable C] [Decidable R] [Decidable N] [Decidable V] (x : Int) :
    (if P then 1 else if A ∨ B ∨ C then 1 else if R then 2 else if N then 8 else if V then 8 else x) = if P ∨ A ∨ B then 1 else if C then 1 else if R then 2 else if N ∨ V then 8 else x := by
  by_cases P <;> by_cases A <;> by_cases B <;> by_cases C <;> by_cases N <;> by_cases V <;> simp [*]
section
variable {w : World} {G : Nat → Prop} {e : EM} {cs : List Value}
set_option maxRecDepth 100000 in
set_option maxHeartbeats 3200000 in
theorem r9check_c (hE : EAt w G e cs) (hg : e.rg) : Calls Tryz.prog 15 #[.agg cs.toArray] w fun x w' => x = .returned (.int .i64 e.chk) ∧ Only (fun _ => False) w w' := by
  obtain ⟨vk, vn, vs, va, vm, vc, rfl, hV⟩ := hE.form
  have hvk := hV.k
  obtain ⟨gid, gtm, gk, ga, gb, gn, gt, gv⟩ := hg
  have HV := hid hV; have Hgv := hid gv
  have hre := chk_re (e.id < 1 ∨ 1048576 < e.id ∨ e.tm < 0 ∨ 4611686018427387903 < e.tm) (e.a < 0) (e.b < 0) ((65 ∉ evFlds e.k ∧ e.a ≠ 0) ∨ (66 ∉ evFlds e.k ∧ e.b ≠ 0)) (64 < e.name.length ∨ 128 < e.text.length) ((78 ∉ evFlds e.k ∧ e.name ≠ []) ∨ (84 ∉ evFlds e.k ∧ e.text ≠ [])) (86 ∉ evFlds e.k ∧ e.v.k ≠ 0) e.v.chk
  have HCK : Hid (e.chk = if evName e.k = [] then 9 else if (e.id < 1 ∨ 1048576 < e.id ∨ e.tm < 0 ∨ 4611686018427387903 < e.tm) ∨ e.a < 0 ∨ e.b < 0 then 1 else if (65 ∉ evFlds e.k ∧ e.a ≠ 0) ∨ (66 ∉ evFlds e.k ∧ e.b ≠ 0) then 1 else if 64 < e.name.length ∨ 128 < e.text.length then 2
    else if ((78 ∉ evFlds e.k ∧ e.name ≠ []) ∨ (84 ∉ evFlds e.k ∧ e.text ≠ [])) ∨ (86 ∉ evFlds e.k ∧ vk ≠ 0) then 8 else e.v.chk) := hid (by rw [← hvk, ← hre]; rfl)
  have HEN := fun w1 => hid (refname_c (w := w1) e.k)
  have HA := fun wc => hid (rA_c (w := wc) e.k)
  have HB := fun wc => hid (rB_c (w := wc) e.k)
  have HN := fun wc => hid (rN_c (w := wc) e.k)
  have HT := fun wc => hid (rT_c (w := wc) e.k)
  have HVV := fun wc => hid (rV_c (w := wc) e.k)
  obtain ⟨nm, hnm⟩ : ∃ x, evName e.k = x := ⟨_, rfl⟩
  obtain ⟨fl, hfl⟩ : ∃ x, evFlds e.k = x := ⟨_, rfl⟩
  rw [hnm, hfl] at HCK
  simp only [hnm] at HEN
  simp only [hfl] at HA HB HN HT HVV
  obtain ⟨mA, hmA⟩ : ∃ m : Bool, decide (65 ∈ fl) = m := ⟨_, rfl⟩
  obtain ⟨mB, hmB⟩ : ∃ m : Bool, decide (66 ∈ fl) = m := ⟨_, rfl⟩
  obtain ⟨mN, hmN⟩ : ∃ m : Bool, decide (78 ∈ fl) = m := ⟨_, rfl⟩
  obtain ⟨mT, hmT⟩ : ∃ m : Bool, decide (84 ∈ fl) = m := ⟨_, rfl⟩
  obtain ⟨mV, hmV⟩ : ∃ m : Bool, decide (86 ∈ fl) = m := ⟨_, rfl⟩
  simp only [hmA] at HA
  simp only [hmB] at HB
  simp only [hmN] at HN
  simp only [hmT] at HT
  simp only [hmV] at HVV
  have M65 := hid hmA; have M66 := hid hmB; have M78 := hid hmN; have M84 := hid hmT; have M86 := hid hmV
  clear hE hV hvk gv hnm hfl gk hre hmA hmB hmN hmT hmV
  obtain ⟨id, tm, k, a, b, name, text, v⟩ := e
  simp only at HCK HEN HA HB HN HT HVV gid gtm ga gb gn gt HV Hgv ⊢
  have hsn : (strOf name).size = name.length := rfl
  have hst : (strOf text).size = text.length := rfl
  have HB0 := hid (blk_new w (.cells #[.int .i64 id, .int .i64 tm, .int .i64 k, .int .i64 a, .int .i64 b, .string (strOf name), .string (strOf text), .int .i64 vk, .int .i64 vn, .string (strOf vs), .slice va vm vc] 31))
  have HO0 := hid (only_new w (.cells #[.int .i64 id, .int .i64 tm, .int .i64 k, .int .i64 a, .int .i64 b, .string (strOf name), .string (strOf text), .int .i64 vk, .int .i64 vn, .string (strOf vs), .slice va vm vc] 31))
  go_enter Tryz.func15, Tryz.ntmps15
  go_wp2_with fail
  refine (HEN _).out.mono ?_
  rintro x wb ⟨rfl, ho⟩
  clear HEN
  have hbb := blk_only HB0.out ho (fun e => e)
  have HOB := hid (HO0.out.trans ho (fun _ _ e => e))
  clear ho
  have b0 : wb.cell? ⟨w.heap.size, 0, none⟩ = some (.int .i64 id) := cell_blk hbb 0
  have b1 : wb.cell? ⟨w.heap.size, 1, none⟩ = some (.int .i64 tm) := cell_blk hbb 1
  have b3 : wb.cell? ⟨w.heap.size, 3, none⟩ = some (.int .i64 a) := cell_blk hbb 3
  have b4 : wb.cell? ⟨w.heap.size, 4, none⟩ = some (.int .i64 b) := cell_blk hbb 4
  have b5 : wb.cell? ⟨w.heap.size, 5, none⟩ = some (.string (strOf name)) := cell_blk hbb 5
  have b6 : wb.cell? ⟨w.heap.size, 6, none⟩ = some (.string (strOf text)) := cell_blk hbb 6
  have b7 : wb.cell? ⟨w.heap.size, 7, none⟩ = some (.int .i64 vk) := cell_blk hbb 7
  have b8 : wb.cell? ⟨w.heap.size, 8, none⟩ = some (.int .i64 vn) := cell_blk hbb 8
  have b9 : wb.cell? ⟨w.heap.size, 9, none⟩ = some (.string (strOf vs)) := cell_blk hbb 9
  have b10 : wb.cell? ⟨w.heap.size, 10, none⟩ = some (.slice va vm vc) := cell_blk hbb 10
  clear hbb
  by_cases hn0 : nm = []
  · have hF : Hid ((⟨id, tm, k, a, b, name, text, v⟩ : EM).chk = 9) := hid (by rw [HCK.out, if_pos hn0])
    subst hn0
    have hem : (strOf []).toList.isEmpty = true := by rw [strOf_list]; rfl
    have hem2 : (strOf []).toList = [] := strOf_list []
    go_wp2_with fail
    go_ret
    rw [hF.out]; exact ⟨rfl, HOB.out⟩
  have hne : (strOf nm).toList.isEmpty = false := by rw [strOf_list]; simpa using hn0
  have hne2 : ¬ (strOf nm).toList = [] := by rw [strOf_list]; exact hn0
  obtain ⟨B1, hB1⟩ : ∃ B : Bool, decide ((id < 1 ∨ 1048576 < id ∨ tm < 0 ∨ 4611686018427387903 < tm) ∨ a < 0 ∨ b < 0) = B := ⟨_, rfl⟩
  obtain ⟨B2, hB2⟩ : ∃ B : Bool, decide ((65 ∉ fl ∧ a ≠ 0) ∨ (66 ∉ fl ∧ b ≠ 0)) = B := ⟨_, rfl⟩
  obtain ⟨B3, hB3⟩ : ∃ B : Bool, decide (64 < name.length ∨ 128 < text.length) = B := ⟨_, rfl⟩
  obtain ⟨B4, hB4⟩ : ∃ B : Bool, decide (((78 ∉ fl ∧ name ≠ []) ∨ (84 ∉ fl ∧ text ≠ [])) ∨ (86 ∉ fl ∧ vk ≠ 0)) = B := ⟨_, rfl⟩
  have HC2 : Hid ((⟨id, tm, k, a, b, name, text, v⟩ : EM).chk = if B1 then 1 else if B2 then 1 else if B3 then 2 else if B4 then 8 else v.chk) := hid (by
    rw [HCK.out, if_neg hn0, ← hB1, ← hB2, ← hB3, ← hB4]; simp only [decide_eq_true_eq])
  have H1 := hid hB1; have H2 := hid hB2; have H3 := hid hB3; have H4 := hid hB4
  clear HCK hB1 hB2 hB3 hB4 hn0
  go_upto_region 4 with fail
  go_cut [38] from 11 to 38 (fun x wx => wb = wx ∧ x = .bool B1)
  case first =>
    by_cases h1 : id < 1
    · skip
      have e1 : B1 = true := by rw [← H1.out]; exact decide_eq_true (by omega)
      go_wp2_with fail
      go_meet
      case rel => exact ⟨rfl, by rw [e1]⟩
    · skip
      by_cases h2 : 1048576 < id
      · skip
        have e1 : B1 = true := by rw [← H1.out]; exact decide_eq_true (by omega)
        go_wp2_with fail
        go_meet
        case rel => exact ⟨rfl, by rw [e1]⟩
      · skip
        by_cases h3 : tm < 0
        · skip
          have e1 : B1 = true := by rw [← H1.out]; exact decide_eq_true (by omega)
          go_wp2_with fail
          go_meet
          case rel => exact ⟨rfl, by rw [e1]⟩
        · skip
          by_cases h4 : 4611686018427387903 < tm
          · skip
            have e1 : B1 = true := by rw [← H1.out]; exact decide_eq_true (by omega)
            go_wp2_with fail
            go_meet
            case rel => exact ⟨rfl, by rw [e1]⟩
          · skip
            by_cases h5 : a < 0
            · skip
              have e1 : B1 = true := by rw [← H1.out]; exact decide_eq_true (by omega)
              go_wp2_with fail
              go_meet
              case rel => exact ⟨rfl, by rw [e1]⟩
            · skip
              by_cases h6 : b < 0
              · skip
                have e1 : B1 = true := by rw [← H1.out]; exact decide_eq_true (by omega)
                go_wp2_with fail
                go_meet
                case rel => exact ⟨rfl, by rw [e1]⟩
              · skip
                have e1 : B1 = false := by rw [← H1.out]; exact decide_eq_false (by omega)
                go_wp2_with fail
                go_meet
                case rel => exact ⟨rfl, by rw [e1]⟩
  case rest =>
  obtain ⟨rfl, rfl⟩ := hcut
  cases B1 with
  | true =>
    have hF : Hid ((⟨id, tm, k, a, b, name, text, v⟩ : EM).chk = 1) := hid (by rw [HC2.out]; simp)
    go_wp2_with fail
    go_ret
    rw [hF.out]; exact ⟨rfl, HOB.out⟩
  | false =>
  go_upto_region 6 with fail
  go_cut [56] from 39 to 56 (fun x wx => wb = wx ∧ x = .bool B2)
  case first =>
    cases mA with
    | true =>
      have p65 : (65 : UInt8) ∈ fl := by simpa using M65.out
      cases mB with
      | true =>
        have p66 : (66 : UInt8) ∈ fl := by simpa using M66.out
        have e1 : B2 = false := by rw [← H2.out]; exact decide_eq_false (by rintro (⟨h, h'⟩ | ⟨h, h'⟩) <;> first | (exact absurd ‹_› h) | (exact h' Za.out) | (exact h' Zb.out) | (exact h' Zname.out) | (exact h' Ztext.out) | (exact h' Zvk.out))
        go_wp2_with (first | (go_at_call 33; (with_reducible refine (HA _).out.mono ?_); rintro x w2 ⟨rfl, rfl⟩) | (go_at_call 34; (with_reducible refine (HB _).out.mono ?_); rintro x w2 ⟨rfl, rfl⟩) | (go_at_call 35; (with_reducible refine (HN _).out.mono ?_); rintro x w2 ⟨rfl, rfl⟩) | (go_at_call 36; (with_reducible refine (HT _).out.mono ?_); rintro x w2 ⟨rfl, rfl⟩) | (go_at_call 37; (with_reducible refine (HVV _).out.mono ?_); rintro x w2 ⟨rfl, rfl⟩))
        go_meet
        case rel => exact ⟨rfl, by rw [e1]⟩
      | false =>
        have p66 : (66 : UInt8) ∉ fl := by simpa using M66.out
        by_cases hb : b = 0
        · have zb : (b == 0) = true := by simpa using hb
          have yb : (b != 0) = false := by simpa using hb
          have Zb := hid hb
          clear hb
          have e1 : B2 = false := by rw [← H2.out]; exact decide_eq_false (by rintro (⟨h, h'⟩ | ⟨h, h'⟩) <;> first | (exact absurd ‹_› h) | (exact h' Za.out) | (exact h' Zb.out) | (exact h' Zname.out) | (exact h' Ztext.out) | (exact h' Zvk.out))
          go_wp2_with (first | (go_at_call 33; (with_reducible refine (HA _).out.mono ?_); rintro x w2 ⟨rfl, rfl⟩) | (go_at_call 34; (with_reducible refine (HB _).out.mono ?_); rintro x w2 ⟨rfl, rfl⟩) | (go_at_call 35; (with_reducible refine (HN _).out.mono ?_); rintro x w2 ⟨rfl, rfl⟩) | (go_at_call 36; (with_reducible refine (HT _).out.mono ?_); rintro x w2 ⟨rfl, rfl⟩) | (go_at_call 37; (with_reducible refine (HVV _).out.mono ?_); rintro x w2 ⟨rfl, rfl⟩))
          go_meet
          case rel => exact ⟨rfl, by rw [e1]⟩
        · have zb : (b == 0) = false := by simpa using hb
          have yb : (b != 0) = true := by simpa using hb
          have e1 : B2 = true := by rw [← H2.out]; exact decide_eq_true (.inr ⟨p66, hb⟩)
          go_wp2_with (first | (go_at_call 33; (with_reducible refine (HA _).out.mono ?_); rintro x w2 ⟨rfl, rfl⟩) | (go_at_call 34; (with_reducible refine (HB _).out.mono ?_); rintro x w2 ⟨rfl, rfl⟩) | (go_at_call 35; (with_reducible refine (HN _).out.mono ?_); rintro x w2 ⟨rfl, rfl⟩) | (go_at_call 36; (with_reducible refine (HT _).out.mono ?_); rintro x w2 ⟨rfl, rfl⟩) | (go_at_call 37; (with_reducible refine (HVV _).out.mono ?_); rintro x w2 ⟨rfl, rfl⟩))
          go_meet
          case rel => exact ⟨rfl, by rw [e1]⟩
    | false =>
      have p65 : (65 : UInt8) ∉ fl := by simpa using M65.out
      by_cases ha : a = 0
      · have za : (a == 0) = true := by simpa using ha
        have ya : (a != 0) = false := by simpa using ha
        have Za := hid ha
        clear ha
        cases mB with
        | true =>
          have p66 : (66 : UInt8) ∈ fl := by simpa using M66.out
          have e1 : B2 = false := by rw [← H2.out]; exact decide_eq_false (by rintro (⟨h, h'⟩ | ⟨h, h'⟩) <;> first | (exact absurd ‹_› h) | (exact h' Za.out) | (exact h' Zb.out) | (exact h' Zname.out) | (exact h' Ztext.out) | (exact h' Zvk.out))
          go_wp2_with (first | (go_at_call 33; (with_reducible refine (HA _).out.mono ?_); rintro x w2 ⟨rfl, rfl⟩) | (go_at_call 34; (with_reducible refine (HB _).out.mono ?_); rintro x w2 ⟨rfl, rfl⟩) | (go_at_call 35; (with_reducible refine (HN _).out.mono ?_); rintro x w2 ⟨rfl, rfl⟩) | (go_at_call 36; (with_reducible refine (HT _).out.mono ?_); rintro x w2 ⟨rfl, rfl⟩) | (go_at_call 37; (with_reducible refine (HVV _).out.mono ?_); rintro x w2 ⟨rfl, rfl⟩))
          go_meet
          case rel => exact ⟨rfl, by rw [e1]⟩
        | false =>
          have p66 : (66 : UInt8) ∉ fl := by simpa using M66.out
          by_cases hb : b = 0
          · have zb : (b == 0) = true := by simpa using hb
            have yb : (b != 0) = false := by simpa using hb
            have Zb := hid hb
            clear hb
            have e1 : B2 = false := by rw [← H2.out]; exact decide_eq_false (by rintro (⟨h, h'⟩ | ⟨h, h'⟩) <;> first | (exact absurd ‹_› h) | (exact h' Za.out) | (exact h' Zb.out) | (exact h' Zname.out) | (exact h' Ztext.out) | (exact h' Zvk.out))
            go_wp2_with (first | (go_at_call 33; (with_reducible refine (HA _).out.mono ?_); rintro x w2 ⟨rfl, rfl⟩) | (go_at_call 34; (with_reducible refine (HB _).out.mono ?_); rintro x w2 ⟨rfl, rfl⟩) | (go_at_call 35; (with_reducible refine (HN _).out.mono ?_); rintro x w2 ⟨rfl, rfl⟩) | (go_at_call 36; (with_reducible refine (HT _).out.mono ?_); rintro x w2 ⟨rfl, rfl⟩) | (go_at_call 37; (with_reducible refine (HVV _).out.mono ?_); rintro x w2 ⟨rfl, rfl⟩))
            go_meet
            case rel => exact ⟨rfl, by rw [e1]⟩
          · have zb : (b == 0) = false := by simpa using hb
            have yb : (b != 0) = true := by simpa using hb
            have e1 : B2 = true := by rw [← H2.out]; exact decide_eq_true (.inr ⟨p66, hb⟩)
            go_wp2_with (first | (go_at_call 33; (with_reducible refine (HA _).out.mono ?_); rintro x w2 ⟨rfl, rfl⟩) | (go_at_call 34; (with_reducible refine (HB _).out.mono ?_); rintro x w2 ⟨rfl, rfl⟩) | (go_at_call 35; (with_reducible refine (HN _).out.mono ?_); rintro x w2 ⟨rfl, rfl⟩) | (go_at_call 36; (with_reducible refine (HT _).out.mono ?_); rintro x w2 ⟨rfl, rfl⟩) | (go_at_call 37; (with_reducible refine (HVV _).out.mono ?_); rintro x w2 ⟨rfl, rfl⟩))
            go_meet
            case rel => exact ⟨rfl, by rw [e1]⟩
      · have za : (a == 0) = false := by simpa using ha
        have ya : (a != 0) = true := by simpa using ha
        have e1 : B2 = true := by rw [← H2.out]; exact decide_eq_true (.inl ⟨p65, ha⟩)
        go_wp2_with (first | (go_at_call 33; (with_reducible refine (HA _).out.mono ?_); rintro x w2 ⟨rfl, rfl⟩) | (go_at_call 34; (with_reducible refine (HB _).out.mono ?_); rintro x w2 ⟨rfl, rfl⟩) | (go_at_call 35; (with_reducible refine (HN _).out.mono ?_); rintro x w2 ⟨rfl, rfl⟩) | (go_at_call 36; (with_reducible refine (HT _).out.mono ?_); rintro x w2 ⟨rfl, rfl⟩) | (go_at_call 37; (with_reducible refine (HVV _).out.mono ?_); rintro x w2 ⟨rfl, rfl⟩))
        go_meet
        case rel => exact ⟨rfl, by rw [e1]⟩
  case rest =>
  obtain ⟨rfl, rfl⟩ := hcut
  cases B2 with
  | true =>
    have hF : Hid ((⟨id, tm, k, a, b, name, text, v⟩ : EM).chk = 1) := hid (by rw [HC2.out]; simp)
    go_wp2_with fail
    go_ret
    rw [hF.out]; exact ⟨rfl, HOB.out⟩
  | false =>
  go_upto_region 8 with fail
  go_cut [66] from 57 to 66 (fun x wx => wb = wx ∧ x = .bool B3)
  case first =>
    by_cases h1 : 64 < (name.length : Int)
    · skip
      have e1 : B3 = true := by rw [← H3.out]; exact decide_eq_true (by omega)
      go_wp2_with fail
      go_meet
      case rel => exact ⟨rfl, by rw [e1]⟩
    · skip
      by_cases h2 : 128 < (text.length : Int)
      · skip
        have e1 : B3 = true := by rw [← H3.out]; exact decide_eq_true (by omega)
        go_wp2_with fail
        go_meet
        case rel => exact ⟨rfl, by rw [e1]⟩
      · skip
        have e1 : B3 = false := by rw [← H3.out]; exact decide_eq_false (by omega)
        go_wp2_with fail
        go_meet
        case rel => exact ⟨rfl, by rw [e1]⟩
  case rest =>
  obtain ⟨rfl, rfl⟩ := hcut
  cases B3 with
  | true =>
    have hF : Hid ((⟨id, tm, k, a, b, name, text, v⟩ : EM).chk = 2) := hid (by rw [HC2.out]; simp)
    go_wp2_with fail
    go_ret
    rw [hF.out]; exact ⟨rfl, HOB.out⟩
  | false =>
  go_upto_region 10 with fail
  go_cut [95] from 67 to 95 (fun x wx => wb = wx ∧ x = .bool B4)
  case first =>
    cases mN with
    | true =>
      have p78 : (78 : UInt8) ∈ fl := by simpa using M78.out
      cases mT with
      | true =>
        have p84 : (84 : UInt8) ∈ fl := by simpa using M84.out
        cases mV with
        | true =>
          have p86 : (86 : UInt8) ∈ fl := by simpa using M86.out
          have e1 : B4 = false := by rw [← H4.out]; exact decide_eq_false (by rintro ((⟨h, h'⟩ | ⟨h, h'⟩) | ⟨h, h'⟩) <;> first | (exact absurd ‹_› h) | (exact h' Za.out) | (exact h' Zb.out) | (exact h' Zname.out) | (exact h' Ztext.out) | (exact h' Zvk.out))
          go_wp2_with (first | (go_at_call 33; (with_reducible refine (HA _).out.mono ?_); rintro x w2 ⟨rfl, rfl⟩) | (go_at_call 34; (with_reducible refine (HB _).out.mono ?_); rintro x w2 ⟨rfl, rfl⟩) | (go_at_call 35; (with_reducible refine (HN _).out.mono ?_); rintro x w2 ⟨rfl, rfl⟩) | (go_at_call 36; (with_reducible refine (HT _).out.mono ?_); rintro x w2 ⟨rfl, rfl⟩) | (go_at_call 37; (with_reducible refine (HVV _).out.mono ?_); rintro x w2 ⟨rfl, rfl⟩))
          go_meet
          case rel => exact ⟨rfl, by rw [e1]⟩
        | false =>
          have p86 : (86 : UInt8) ∉ fl := by simpa using M86.out
          by_cases hvk : vk = 0
          · have zvk : (vk == 0) = true := by simpa using hvk
            have yvk : (vk != 0) = false := by simpa using hvk
            have Zvk := hid hvk
            clear hvk
            have e1 : B4 = false := by rw [← H4.out]; exact decide_eq_false (by rintro ((⟨h, h'⟩ | ⟨h, h'⟩) | ⟨h, h'⟩) <;> first | (exact absurd ‹_› h) | (exact h' Za.out) | (exact h' Zb.out) | (exact h' Zname.out) | (exact h' Ztext.out) | (exact h' Zvk.out))
            go_wp2_with (first | (go_at_call 33; (with_reducible refine (HA _).out.mono ?_); rintro x w2 ⟨rfl, rfl⟩) | (go_at_call 34; (with_reducible refine (HB _).out.mono ?_); rintro x w2 ⟨rfl, rfl⟩) | (go_at_call 35; (with_reducible refine (HN _).out.mono ?_); rintro x w2 ⟨rfl, rfl⟩) | (go_at_call 36; (with_reducible refine (HT _).out.mono ?_); rintro x w2 ⟨rfl, rfl⟩) | (go_at_call 37; (with_reducible refine (HVV _).out.mono ?_); rintro x w2 ⟨rfl, rfl⟩))
            go_meet
            case rel => exact ⟨rfl, by rw [e1]⟩
          · have zvk : (vk == 0) = false := by simpa using hvk
            have yvk : (vk != 0) = true := by simpa using hvk
            have e1 : B4 = true := by rw [← H4.out]; exact decide_eq_true (.inr ⟨p86, hvk⟩)
            go_wp2_with (first | (go_at_call 33; (with_reducible refine (HA _).out.mono ?_); rintro x w2 ⟨rfl, rfl⟩) | (go_at_call 34; (with_reducible refine (HB _).out.mono ?_); rintro x w2 ⟨rfl, rfl⟩) | (go_at_call 35; (with_reducible refine (HN _).out.mono ?_); rintro x w2 ⟨rfl, rfl⟩) | (go_at_call 36; (with_reducible refine (HT _).out.mono ?_); rintro x w2 ⟨rfl, rfl⟩) | (go_at_call 37; (with_reducible refine (HVV _).out.mono ?_); rintro x w2 ⟨rfl, rfl⟩))
            go_meet
            case rel => exact ⟨rfl, by rw [e1]⟩
      | false =>
        have p84 : (84 : UInt8) ∉ fl := by simpa using M84.out
        by_cases htext : text = []
        · have ztext : (strOf text).toList.isEmpty = true := by rw [strOf_list, htext]; rfl
          have Ztext := hid htext
          clear htext
          cases mV with
          | true =>
            have p86 : (86 : UInt8) ∈ fl := by simpa using M86.out
            have e1 : B4 = false := by rw [← H4.out]; exact decide_eq_false (by rintro ((⟨h, h'⟩ | ⟨h, h'⟩) | ⟨h, h'⟩) <;> first | (exact absurd ‹_› h) | (exact h' Za.out) | (exact h' Zb.out) | (exact h' Zname.out) | (exact h' Ztext.out) | (exact h' Zvk.out))
            go_wp2_with (first | (go_at_call 33; (with_reducible refine (HA _).out.mono ?_); rintro x w2 ⟨rfl, rfl⟩) | (go_at_call 34; (with_reducible refine (HB _).out.mono ?_); rintro x w2 ⟨rfl, rfl⟩) | (go_at_call 35; (with_reducible refine (HN _).out.mono ?_); rintro x w2 ⟨rfl, rfl⟩) | (go_at_call 36; (with_reducible refine (HT _).out.mono ?_); rintro x w2 ⟨rfl, rfl⟩) | (go_at_call 37; (with_reducible refine (HVV _).out.mono ?_); rintro x w2 ⟨rfl, rfl⟩))
            go_meet
            case rel => exact ⟨rfl, by rw [e1]⟩
          | false =>
            have p86 : (86 : UInt8) ∉ fl := by simpa using M86.out
            by_cases hvk : vk = 0
            · have zvk : (vk == 0) = true := by simpa using hvk
              have yvk : (vk != 0) = false := by simpa using hvk
              have Zvk := hid hvk
              clear hvk
              have e1 : B4 = false := by rw [← H4.out]; exact decide_eq_false (by rintro ((⟨h, h'⟩ | ⟨h, h'⟩) | ⟨h, h'⟩) <;> first | (exact absurd ‹_› h) | (exact h' Za.out) | (exact h' Zb.out) | (exact h' Zname.out) | (exact h' Ztext.out) | (exact h' Zvk.out))
              go_wp2_with (first | (go_at_call 33; (with_reducible refine (HA _).out.mono ?_); rintro x w2 ⟨rfl, rfl⟩) | (go_at_call 34; (with_reducible refine (HB _).out.mono ?_); rintro x w2 ⟨rfl, rfl⟩) | (go_at_call 35; (with_reducible refine (HN _).out.mono ?_); rintro x w2 ⟨rfl, rfl⟩) | (go_at_call 36; (with_reducible refine (HT _).out.mono ?_); rintro x w2 ⟨rfl, rfl⟩) | (go_at_call 37; (with_reducible refine (HVV _).out.mono ?_); rintro x w2 ⟨rfl, rfl⟩))
              go_meet
              case rel => exact ⟨rfl, by rw [e1]⟩
            · have zvk : (vk == 0) = false := by simpa using hvk
              have yvk : (vk != 0) = true := by simpa using hvk
              have e1 : B4 = true := by rw [← H4.out]; exact decide_eq_true (.inr ⟨p86, hvk⟩)
              go_wp2_with (first | (go_at_call 33; (with_reducible refine (HA _).out.mono ?_); rintro x w2 ⟨rfl, rfl⟩) | (go_at_call 34; (with_reducible refine (HB _).out.mono ?_); rintro x w2 ⟨rfl, rfl⟩) | (go_at_call 35; (with_reducible refine (HN _).out.mono ?_); rintro x w2 ⟨rfl, rfl⟩) | (go_at_call 36; (with_reducible refine (HT _).out.mono ?_); rintro x w2 ⟨rfl, rfl⟩) | (go_at_call 37; (with_reducible refine (HVV _).out.mono ?_); rintro x w2 ⟨rfl, rfl⟩))
              go_meet
              case rel => exact ⟨rfl, by rw [e1]⟩
        · have ztext : (strOf text).toList.isEmpty = false := by rw [strOf_list]; simpa using htext
          have e1 : B4 = true := by rw [← H4.out]; exact decide_eq_true (.inl (.inr ⟨p84, htext⟩))
          go_wp2_with (first | (go_at_call 33; (with_reducible refine (HA _).out.mono ?_); rintro x w2 ⟨rfl, rfl⟩) | (go_at_call 34; (with_reducible refine (HB _).out.mono ?_); rintro x w2 ⟨rfl, rfl⟩) | (go_at_call 35; (with_reducible refine (HN _).out.mono ?_); rintro x w2 ⟨rfl, rfl⟩) | (go_at_call 36; (with_reducible refine (HT _).out.mono ?_); rintro x w2 ⟨rfl, rfl⟩) | (go_at_call 37; (with_reducible refine (HVV _).out.mono ?_); rintro x w2 ⟨rfl, rfl⟩))
          go_meet
          case rel => exact ⟨rfl, by rw [e1]⟩
    | false =>
      have p78 : (78 : UInt8) ∉ fl := by simpa using M78.out
      by_cases hname : name = []
      · have zname : (strOf name).toList.isEmpty = true := by rw [strOf_list, hname]; rfl
        have Zname := hid hname
        clear hname
        cases mT with
        | true =>
          have p84 : (84 : UInt8) ∈ fl := by simpa using M84.out
          cases mV with
          | true =>
            have p86 : (86 : UInt8) ∈ fl := by simpa using M86.out
            have e1 : B4 = false := by rw [← H4.out]; exact decide_eq_false (by rintro ((⟨h, h'⟩ | ⟨h, h'⟩) | ⟨h, h'⟩) <;> first | (exact absurd ‹_› h) | (exact h' Za.out) | (exact h' Zb.out) | (exact h' Zname.out) | (exact h' Ztext.out) | (exact h' Zvk.out))
            go_wp2_with (first | (go_at_call 33; (with_reducible refine (HA _).out.mono ?_); rintro x w2 ⟨rfl, rfl⟩) | (go_at_call 34; (with_reducible refine (HB _).out.mono ?_); rintro x w2 ⟨rfl, rfl⟩) | (go_at_call 35; (with_reducible refine (HN _).out.mono ?_); rintro x w2 ⟨rfl, rfl⟩) | (go_at_call 36; (with_reducible refine (HT _).out.mono ?_); rintro x w2 ⟨rfl, rfl⟩) | (go_at_call 37; (with_reducible refine (HVV _).out.mono ?_); rintro x w2 ⟨rfl, rfl⟩))
            go_meet
            case rel => exact ⟨rfl, by rw [e1]⟩
          | false =>
            have p86 : (86 : UInt8) ∉ fl := by simpa using M86.out
            by_cases hvk : vk = 0
            · have zvk : (vk == 0) = true := by simpa using hvk
              have yvk : (vk != 0) = false := by simpa using hvk
              have Zvk := hid hvk
              clear hvk
              have e1 : B4 = false := by rw [← H4.out]; exact decide_eq_false (by rintro ((⟨h, h'⟩ | ⟨h, h'⟩) | ⟨h, h'⟩) <;> first | (exact absurd ‹_› h) | (exact h' Za.out) | (exact h' Zb.out) | (exact h' Zname.out) | (exact h' Ztext.out) | (exact h' Zvk.out))
              go_wp2_with (first | (go_at_call 33; (with_reducible refine (HA _).out.mono ?_); rintro x w2 ⟨rfl, rfl⟩) | (go_at_call 34; (with_reducible refine (HB _).out.mono ?_); rintro x w2 ⟨rfl, rfl⟩) | (go_at_call 35; (with_reducible refine (HN _).out.mono ?_); rintro x w2 ⟨rfl, rfl⟩) | (go_at_call 36; (with_reducible refine (HT _).out.mono ?_); rintro x w2 ⟨rfl, rfl⟩) | (go_at_call 37; (with_reducible refine (HVV _).out.mono ?_); rintro x w2 ⟨rfl, rfl⟩))
              go_meet
              case rel => exact ⟨rfl, by rw [e1]⟩
            · have zvk : (vk == 0) = false := by simpa using hvk
              have yvk : (vk != 0) = true := by simpa using hvk
              have e1 : B4 = true := by rw [← H4.out]; exact decide_eq_true (.inr ⟨p86, hvk⟩)
              go_wp2_with (first | (go_at_call 33; (with_reducible refine (HA _).out.mono ?_); rintro x w2 ⟨rfl, rfl⟩) | (go_at_call 34; (with_reducible refine (HB _).out.mono ?_); rintro x w2 ⟨rfl, rfl⟩) | (go_at_call 35; (with_reducible refine (HN _).out.mono ?_); rintro x w2 ⟨rfl, rfl⟩) | (go_at_call 36; (with_reducible refine (HT _).out.mono ?_); rintro x w2 ⟨rfl, rfl⟩) | (go_at_call 37; (with_reducible refine (HVV _).out.mono ?_); rintro x w2 ⟨rfl, rfl⟩))
              go_meet
              case rel => exact ⟨rfl, by rw [e1]⟩
        | false =>
          have p84 : (84 : UInt8) ∉ fl := by simpa using M84.out
          by_cases htext : text = []
          · have ztext : (strOf text).toList.isEmpty = true := by rw [strOf_list, htext]; rfl
            have Ztext := hid htext
            clear htext
            cases mV with
            | true =>
              have p86 : (86 : UInt8) ∈ fl := by simpa using M86.out
              have e1 : B4 = false := by rw [← H4.out]; exact decide_eq_false (by rintro ((⟨h, h'⟩ | ⟨h, h'⟩) | ⟨h, h'⟩) <;> first | (exact absurd ‹_› h) | (exact h' Za.out) | (exact h' Zb.out) | (exact h' Zname.out) | (exact h' Ztext.out) | (exact h' Zvk.out))
              go_wp2_with (first | (go_at_call 33; (with_reducible refine (HA _).out.mono ?_); rintro x w2 ⟨rfl, rfl⟩) | (go_at_call 34; (with_reducible refine (HB _).out.mono ?_); rintro x w2 ⟨rfl, rfl⟩) | (go_at_call 35; (with_reducible refine (HN _).out.mono ?_); rintro x w2 ⟨rfl, rfl⟩) | (go_at_call 36; (with_reducible refine (HT _).out.mono ?_); rintro x w2 ⟨rfl, rfl⟩) | (go_at_call 37; (with_reducible refine (HVV _).out.mono ?_); rintro x w2 ⟨rfl, rfl⟩))
              go_meet
              case rel => exact ⟨rfl, by rw [e1]⟩
            | false =>
              have p86 : (86 : UInt8) ∉ fl := by simpa using M86.out
              by_cases hvk : vk = 0
              · have zvk : (vk == 0) = true := by simpa using hvk
                have yvk : (vk != 0) = false := by simpa using hvk
                have Zvk := hid hvk
                clear hvk
                have e1 : B4 = false := by rw [← H4.out]; exact decide_eq_false (by rintro ((⟨h, h'⟩ | ⟨h, h'⟩) | ⟨h, h'⟩) <;> first | (exact absurd ‹_› h) | (exact h' Za.out) | (exact h' Zb.out) | (exact h' Zname.out) | (exact h' Ztext.out) | (exact h' Zvk.out))
                go_wp2_with (first | (go_at_call 33; (with_reducible refine (HA _).out.mono ?_); rintro x w2 ⟨rfl, rfl⟩) | (go_at_call 34; (with_reducible refine (HB _).out.mono ?_); rintro x w2 ⟨rfl, rfl⟩) | (go_at_call 35; (with_reducible refine (HN _).out.mono ?_); rintro x w2 ⟨rfl, rfl⟩) | (go_at_call 36; (with_reducible refine (HT _).out.mono ?_); rintro x w2 ⟨rfl, rfl⟩) | (go_at_call 37; (with_reducible refine (HVV _).out.mono ?_); rintro x w2 ⟨rfl, rfl⟩))
                go_meet
                case rel => exact ⟨rfl, by rw [e1]⟩
              · have zvk : (vk == 0) = false := by simpa using hvk
                have yvk : (vk != 0) = true := by simpa using hvk
                have e1 : B4 = true := by rw [← H4.out]; exact decide_eq_true (.inr ⟨p86, hvk⟩)
                go_wp2_with (first | (go_at_call 33; (with_reducible refine (HA _).out.mono ?_); rintro x w2 ⟨rfl, rfl⟩) | (go_at_call 34; (with_reducible refine (HB _).out.mono ?_); rintro x w2 ⟨rfl, rfl⟩) | (go_at_call 35; (with_reducible refine (HN _).out.mono ?_); rintro x w2 ⟨rfl, rfl⟩) | (go_at_call 36; (with_reducible refine (HT _).out.mono ?_); rintro x w2 ⟨rfl, rfl⟩) | (go_at_call 37; (with_reducible refine (HVV _).out.mono ?_); rintro x w2 ⟨rfl, rfl⟩))
                go_meet
                case rel => exact ⟨rfl, by rw [e1]⟩
          · have ztext : (strOf text).toList.isEmpty = false := by rw [strOf_list]; simpa using htext
            have e1 : B4 = true := by rw [← H4.out]; exact decide_eq_true (.inl (.inr ⟨p84, htext⟩))
            go_wp2_with (first | (go_at_call 33; (with_reducible refine (HA _).out.mono ?_); rintro x w2 ⟨rfl, rfl⟩) | (go_at_call 34; (with_reducible refine (HB _).out.mono ?_); rintro x w2 ⟨rfl, rfl⟩) | (go_at_call 35; (with_reducible refine (HN _).out.mono ?_); rintro x w2 ⟨rfl, rfl⟩) | (go_at_call 36; (with_reducible refine (HT _).out.mono ?_); rintro x w2 ⟨rfl, rfl⟩) | (go_at_call 37; (with_reducible refine (HVV _).out.mono ?_); rintro x w2 ⟨rfl, rfl⟩))
            go_meet
            case rel => exact ⟨rfl, by rw [e1]⟩
      · have zname : (strOf name).toList.isEmpty = false := by rw [strOf_list]; simpa using hname
        have e1 : B4 = true := by rw [← H4.out]; exact decide_eq_true (.inl (.inl ⟨p78, hname⟩))
        go_wp2_with (first | (go_at_call 33; (with_reducible refine (HA _).out.mono ?_); rintro x w2 ⟨rfl, rfl⟩) | (go_at_call 34; (with_reducible refine (HB _).out.mono ?_); rintro x w2 ⟨rfl, rfl⟩) | (go_at_call 35; (with_reducible refine (HN _).out.mono ?_); rintro x w2 ⟨rfl, rfl⟩) | (go_at_call 36; (with_reducible refine (HT _).out.mono ?_); rintro x w2 ⟨rfl, rfl⟩) | (go_at_call 37; (with_reducible refine (HVV _).out.mono ?_); rintro x w2 ⟨rfl, rfl⟩))
        go_meet
        case rel => exact ⟨rfl, by rw [e1]⟩
  case rest =>
  obtain ⟨rfl, rfl⟩ := hcut
  cases B4 with
  | true =>
    have hF : Hid ((⟨id, tm, k, a, b, name, text, v⟩ : EM).chk = 8) := hid (by rw [HC2.out]; simp)
    go_wp2_with fail
    go_ret
    rw [hF.out]; exact ⟨rfl, HOB.out⟩
  | false =>
    have hF : Hid ((⟨id, tm, k, a, b, name, text, v⟩ : EM).chk = v.chk) := hid (by rw [HC2.out]; simp)
    have HVC := hid (rfcheck_c (HV.out.same HOB.out) Hgv.out)
    go_wp2_with fail
    refine HVC.out.mono ?_
    rintro x w2 ⟨rfl, ho2⟩
    have HO2 := hid ho2
    clear ho2
    go_wp2_with fail
    go_ret
    rw [hF.out]; exact ⟨rfl, HOB.out.trans HO2.out (fun _ _ e => e)⟩
end
end Go.Proofs.YtihidpfkdpjdpaaGreatDoor
namespace Go.Proofs.YtihidpfkdpjdpaaGreatDoor
open Go.RowKit

theorem bless : ∀ a b : List UInt8, Op.bytesLess a b = decide (cmpS a b = -1)
  | [], [] => by simp [cmpS, Op.bytesLess]
  | [], y :: ys => by simp [cmpS, Op.bytesLess]
  | x :: xs, [] => by simp [cmpS, Op.bytesLess]
  | x :: xs, y :: ys => by
    rw [Op.bytesLess, cmpS, bless xs ys]
    by_cases e : x = y
    · subst e; rw [if_pos rfl]; simp [UInt8.lt_irrefl]
    · rw [if_neg e]
      by_cases g : x < y
      · rw [if_pos g]; simp [g]
      · rw [if_neg g]; simp [g, e]
theorem kdL_get : ∀ {l : List VT} {i : Nat} {t : VT}, VT.kdL l → l[i]? = some t → t.kd
  | [], _, _, _, h => by simp at h
  | x :: xs, 0, t, h, hi => by rw [VT.kdL] at h; simp only [List.getElem?_cons_zero, Option.some.injEq] at hi; subst hi; exact h.1
  | x :: xs, i + 1, t, h, hi => by rw [VT.kdL] at h; simp only [List.getElem?_cons_succ] at hi; exact kdL_get h.2 hi
def RCmpC (n : Nat) : Prop := ∀ (t u : VT), t.sz ≤ n → ∀ (w : World) (G H : Nat → Prop) (cs ds : List Value), VAt w G t cs → VAt w H u ds → t.rg → u.rg → t.kd → u.kd →
    Calls Tryz.prog 31 #[.agg cs.toArray, .agg ds.toArray] w fun e w' => e = .returned (.int .i64 (t.rc u)) ∧ Only (fun _ => False) w w'
section
variable {w : World}
set_option maxRecDepth 100000 in
set_option maxHeartbeats 3200000 in
theorem rcmp_step (m : Nat) (ih : RCmpC m) : RCmpC (m + 1) := by
  intro t u hsz w G H cs ds hV hU hg hh hkd hkd'
  obtain ⟨k, n, s, l⟩ := t
  obtain ⟨k', n', s', l'⟩ := u
  rw [VAt] at hV hU
  obtain ⟨a, cap, g, o, rfl, ha, hLs⟩ := hV
  obtain ⟨a', cap', g', o', rfl, ha', hLs'⟩ := hU
  rw [VT.rg] at hg hh
  obtain ⟨-, -, -, -, -, hll, hgl⟩ := hg
  obtain ⟨-, -, -, -, -, hll', hgl'⟩ := hh
  rw [VT.sz] at hsz
  rw [VT.kd] at hkd hkd'
  have hrc : (VT.mk k n s l).rc (.mk k' n' s' l') = if k ≠ k' then k - k' else if k = 1 then (if n < n' then -1 else if n' < n then 1 else 0) else if k = 2 then cmpS s s' else if k = 3 then VT.rcL l l' else 0 := by rw [VT.rc]; rfl
  have HC := hid hrc
  have HA := hid ha; have HA' := hid ha'; have HL := hid hLs; have HL' := hid hLs'; have HG := hid hgl; have HG' := hid hgl'; have HK := hid hkd.2.2; have HK' := hid hkd'.2.2
  have hk0 := hkd.1; have hk3 := hkd.2.1; have hk0' := hkd'.1; have hk3' := hkd'.2.1
  have HO0 := hid ((only_new w (.cells #[.int .i64 k, .int .i64 n, .string (strOf s), .slice a l.length cap] 24)).trans (only_new _ (.cells #[.int .i64 k', .int .i64 n', .string (strOf s'), .slice a' l'.length cap'] 24)) (fun _ _ e => e))
  have hbx : ∀ ob1 ob2 : Obj, ob1 = .cells #[.int .i64 k, .int .i64 n, .string (strOf s), .slice a l.length cap] 24 → ob2 = .cells #[.int .i64 k', .int .i64 n', .string (strOf s'), .slice a' l'.length cap'] 24 → ((w.alloc ob1).alloc ob2).heap[w.heap.size]? = some ob1 ∧ ((w.alloc ob1).alloc ob2).heap[w.heap.size + 1]? = some ob2 := fun ob1 ob2 _ _ => ⟨blk_alloc (blk_new w ob1), by have := blk_new (w.alloc ob1) ob2; rw [World.size_alloc] at this; exact this⟩
  have HBX := hid (hbx _ _ rfl rfl)
  clear ha ha' hLs hLs' hgl hgl' hkd hkd' hrc hbx
  by_cases hk : k = k'
  · subst hk
    have kb : (k != k) = false := by simp
    by_cases hk1 : k = 1
    · subst hk1
      by_cases hn : n < n'
      · have HF : Hid ((VT.mk 1 n s l).rc (.mk 1 n' s' l') = -1) := hid (by rw [HC.out]; simp [hn])
        go_enter Tryz.func31, Tryz.ntmps31
        go_wp2_with fail
        go_ret
        rw [HF.out]; exact ⟨rfl, HO0.out⟩
      by_cases hn2 : n' < n
      · have HF : Hid ((VT.mk 1 n s l).rc (.mk 1 n' s' l') = 1) := hid (by rw [HC.out]; simp [hn, hn2])
        go_enter Tryz.func31, Tryz.ntmps31
        go_wp2_with fail
        go_ret
        rw [HF.out]; exact ⟨rfl, HO0.out⟩
      have HF : Hid ((VT.mk 1 n s l).rc (.mk 1 n' s' l') = 0) := hid (by rw [HC.out]; simp [hn, hn2])
      go_enter Tryz.func31, Tryz.ntmps31
      go_wp2_with fail
      go_ret
      rw [HF.out]; exact ⟨rfl, HO0.out⟩
    have kb1 : (k == 1) = false := by simpa using hk1
    by_cases hk2 : k = 2
    · subst hk2
      have HF : Hid ((VT.mk 2 n s l).rc (.mk 2 n' s' l') = cmpS s s') := hid (by rw [HC.out]; simp)
      rcases cmpS_rng s s' with h | h | h
      · have HFF := hid (HF.out.trans h)
        have hb : Op.bytesLess (strOf s).toList (strOf s').toList = true := by rw [strOf_list, strOf_list, bless, h]; rfl
        clear h
        go_enter Tryz.func31, Tryz.ntmps31
        go_wp2_with fail
        go_ret
        rw [HFF.out]; exact ⟨rfl, HO0.out⟩
      · have HFF := hid (HF.out.trans h)
        have hb : Op.bytesLess (strOf s).toList (strOf s').toList = false := by rw [strOf_list, strOf_list, bless, h]; rfl
        have hq : ((strOf s).toList == (strOf s').toList) = true := by rw [strOf_list, strOf_list]; simpa using cmpS_eq s s' h
        clear h
        go_enter Tryz.func31, Tryz.ntmps31
        go_wp2_with fail
        go_ret
        rw [HFF.out]; exact ⟨rfl, HO0.out⟩
      · have HFF := hid (HF.out.trans h)
        have hb : Op.bytesLess (strOf s).toList (strOf s').toList = false := by rw [strOf_list, strOf_list, bless, h]; rfl
        have hq : ((strOf s).toList == (strOf s').toList) = false := by rw [strOf_list, strOf_list]; simpa using (fun e : s = s' => by subst e; rw [cmpS_self] at h; omega)
        clear h
        go_enter Tryz.func31, Tryz.ntmps31
        go_wp2_with fail
        go_ret
        rw [HFF.out]; exact ⟨rfl, HO0.out⟩
    have kb2 : (k == 2) = false := by simpa using hk2
    by_cases hk3e : k = 3
    · subst hk3e
      have HF : Hid ((VT.mk 3 n s l).rc (.mk 3 n' s' l') = VT.rcL l l') := hid (by rw [HC.out]; simp)
      clear hk1 hk2
      go_enter Tryz.func31, Tryz.ntmps31
      go_wp2_with fail
      go_loopw [5] (fun i wr => ∃ j : Nat, i = .int .i64 j ∧ j ≤ l.length ∧ j ≤ l'.length ∧ VT.rcL l l' = VT.rcL (l.drop j) (l'.drop j) ∧ Only (fun _ => False) w wr ∧ wr.heap[w.heap.size]? = some (.cells #[.int .i64 3, .int .i64 n, .string (strOf s), .slice a l.length cap] 24 (0, 0)) ∧ wr.heap[w.heap.size + 1]? = some (.cells #[.int .i64 3, .int .i64 n', .string (strOf s'), .slice a' l'.length cap'] 24 (0, 0))) (fun i _ => l.length - (intOf i).toNat)
      case atStart => exact ⟨0, rfl, Nat.zero_le _, Nat.zero_le _, rfl, HO0.out, HBX.out.1, HBX.out.2⟩
      case round =>
        obtain ⟨j, rfl, hj, hj', hcm, ho, hb0, hb1⟩ := hrel
        have r0 : wr.cell? ⟨w.heap.size, 3, none⟩ = some (.slice a l.length cap) := cell_blk hb0 3
        have r1 : wr.cell? ⟨w.heap.size + 1, 3, none⟩ = some (.slice a' l'.length cap') := cell_blk hb1 3
        have hw1 := blk_lt hb1
        have HB0 := hid hb0; have HB1 := hid hb1; have HO := hid ho; have HCM := hid hcm
        clear hb0 hb1 ho hcm
        by_cases hjl : j < l.length
        · have hji : (j : Int) < l.length := by omega
          by_cases hjl' : j < l'.length
          · have hji' : (j : Int) < l'.length := by omega
            obtain ⟨t, ht⟩ : ∃ t, l[j]? = some t := ⟨_, List.getElem?_eq_getElem hjl⟩
            have hdl : l.drop j = t :: l.drop (j + 1) := by rw [List.drop_eq_getElem_cons hjl]; congr 1; rw [List.getElem?_eq_getElem hjl] at ht; exact Option.some.inj ht
            obtain ⟨rfl, -⟩ := HA.out (by rintro rfl; simp at hjl)
            obtain ⟨cs, hcs, hVt⟩ := HL.out.get ht
            have htz := szL_get ht
            have htg := rgL_get HG.out ht
            have htk := kdL_get (HK.out (by trivial)) ht
            have hcw : ∀ i u, cs[i]? = some u → wr.cell? ⟨g, o + j * 4 + i, none⟩ = some u := fun i u hu =>
              (World.cell?_of_block (HO.out.block g (World.block_lt_of_cell? _ _ (hcs i u hu)) (fun e => e))).trans (hcs i u hu)
            have hVw := hVt.same HO.out
            obtain ⟨kx, nx, sx, ax, mx, cx, rfl⟩ := hVt.form
            have e0 := hcw 0 _ rfl
            rw [Nat.add_zero] at e0
            have e1 := hcw 1 _ rfl
            have e2 := hcw 2 _ rfl
            have e3 := hcw 3 _ rfl
            obtain ⟨u, hu⟩ : ∃ t, l'[j]? = some t := ⟨_, List.getElem?_eq_getElem hjl'⟩
            have hdl' : l'.drop j = u :: l'.drop (j + 1) := by rw [List.drop_eq_getElem_cons hjl']; congr 1; rw [List.getElem?_eq_getElem hjl'] at hu; exact Option.some.inj hu
            obtain ⟨rfl, -⟩ := HA'.out (by rintro rfl; simp at hjl')
            obtain ⟨ds, hds, hVu⟩ := HL'.out.get hu
            have hug := rgL_get HG'.out hu
            have huk := kdL_get (HK'.out (by trivial)) hu
            have hdw : ∀ i v, ds[i]? = some v → wr.cell? ⟨g', o' + j * 4 + i, none⟩ = some v := fun i v hv =>
              (World.cell?_of_block (HO.out.block g' (World.block_lt_of_cell? _ _ (hds i v hv)) (fun e => e))).trans (hds i v hv)
            have hVw' := hVu.same HO.out
            obtain ⟨ky, ny, sy, ay, my, cy, rfl⟩ := hVu.form
            have f0 := hdw 0 _ rfl
            rw [Nat.add_zero] at f0
            have f1 := hdw 1 _ rfl
            have f2 := hdw 2 _ rfl
            have f3 := hdw 3 _ rfl
            have HI := hid (ih t u (by omega) wr.drew G H _ _ (hVw.same (Only.refl (fun _ => False) wr).drew) (hVw'.same (Only.refl (fun _ => False) wr).drew) htg hug htk huk)
            have HCS : Hid (VT.rcL l l' = if t.rc u ≠ 0 then t.rc u else VT.rcL (l.drop (j + 1)) (l'.drop (j + 1))) := hid (by rw [HCM.out, hdl, hdl', VT.rcL])
            clear hcs hVt htg hcw hVw hds hVu hug hdw hVw' hu ht hdl hdl' htk huk
            obtain ⟨x, hx⟩ : ∃ x, t.rc u = x := ⟨_, rfl⟩
            rw [hx] at HI HCS
            clear hx
            go_wp2_with fail
            go_region_law (first
              | (refine step_of rfl (wp_callc (o := ⟨some 70, _, _, _, _, _⟩) (f := 31) (args := #[.agg #[.int .i64 kx, .int .i64 nx, .string (strOf sx), .slice ax mx cx], .agg #[.int .i64 ky, .int .i64 ny, .string (strOf sy), .slice ay my cy]]) (by kernel_rfl) ?_); refine HI.out.mono ?_; rintro e w2 ⟨rfl, ho2⟩; refine ⟨_, rfl, ?_⟩; have HO2 := hid ho2; clear ho2))
            all_goals
              have HO3 : Hid (Only (fun _ => False) wr w2) := hid (((Only.refl (fun _ => False) wr).drew).trans HO2.out (fun _ _ e => e))
              by_cases hx0 : x = 0
              · have hxb : (x != 0) = false := by simpa using hx0
                have HFF : Hid (VT.rcL l l' = VT.rcL (l.drop (j + 1)) (l'.drop (j + 1))) := hid (by rw [HCS.out, if_neg (by simpa using hx0)])
                clear hx0
                go_wp2_with fail
                go_roundw
                case rel => exact ⟨j + 1, by go_num, by omega, by omega, HFF.out, HO.out.trans HO3.out (fun _ _ e => e), blk_only HB0.out HO3.out (fun e => e), blk_only HB1.out HO3.out (fun e => e)⟩
                case measure => simp [intOf]; omega
              · have hxb : (x != 0) = true := by simpa using hx0
                have HFF : Hid (VT.rcL l l' = x) := hid (by rw [HCS.out, if_pos hx0])
                clear hx0
                go_wp2_with fail
                go_ret
                rw [HF.out, HFF.out]; exact ⟨rfl, HO.out.trans HO3.out (fun _ _ e => e)⟩
          · have hji' : ¬ (j : Int) < l'.length := by omega
            have hje : j = l'.length := by omega
            have HFF : Hid (VT.rcL l l' = (l.length : Int) - l'.length) := hid (by
              rw [HCM.out, List.drop_eq_nil_of_le (by omega : l'.length ≤ j)]
              obtain ⟨y, ys, e⟩ := List.exists_cons_of_ne_nil (show l.drop j ≠ [] from fun e => by have := List.drop_eq_nil_iff.1 e; omega)
              have hlen : (l.drop j).length = l.length - j := List.length_drop
              rw [e] at hlen ⊢
              rw [VT.rcL]
              · omega
              · simp)
            clear hje
            go_wp2_with fail
            go_ret
            rw [HF.out, HFF.out]; exact ⟨rfl, HO.out⟩
        · have hjl2 : ¬ (j : Int) < l.length := by omega
          have hje : j = l.length := by omega
          have HFF : Hid (VT.rcL l l' = (l.length : Int) - l'.length) := hid (by
            rw [HCM.out, List.drop_eq_nil_of_le (by omega : l.length ≤ j), VT.rcL]
            have hlen : (l'.drop j).length = l'.length - j := List.length_drop
            rw [hlen]; omega)
          clear hje
          go_wp2_with fail
          go_ret
          rw [HF.out, HFF.out]; exact ⟨rfl, HO.out⟩
    · have hk0' : k = 0 := by omega
      subst hk0'
      have HF : Hid ((VT.mk 0 n s l).rc (.mk 0 n' s' l') = 0) := hid (by rw [HC.out]; simp)
      go_enter Tryz.func31, Tryz.ntmps31
      go_wp2_with fail
      go_ret
      rw [HF.out]; exact ⟨rfl, HO0.out⟩
  · have kb : (k != k') = true := by simpa using hk
    have HF : Hid ((VT.mk k n s l).rc (.mk k' n' s' l') = k - k') := hid (by rw [HC.out, if_pos hk])
    clear hk
    go_enter Tryz.func31, Tryz.ntmps31
    go_wp2_with fail
    go_ret
    rw [HF.out]; exact ⟨rfl, HO0.out⟩
theorem rcmpC : ∀ m, RCmpC m
  | 0 => fun t u h => by have := sz_pos t; omega
  | m + 1 => rcmp_step m (rcmpC m)
end
end Go.Proofs.YtihidpfkdpjdpaaGreatDoor
namespace Go.Proofs.YtihidpfkdpjdpaaGreatDoor
open Go.RowKit
section
variable {w : World}
set_option maxRecDepth 100000 in
set_option maxHeartbeats 3200000 in
theorem r9same_c {e f : EM} {G H : Nat → Prop} {cs ds : List Value} (hV : EAt w G e cs) (hU : EAt w H f ds) (hg : e.v.rg) (hh : f.v.rg) (hk : e.v.kd) (hk' : f.v.kd) :
    Calls Tryz.prog 8 #[.agg cs.toArray, .agg ds.toArray] w fun x w' => x = .returned (.bool (e.same f)) ∧ Only (fun _ => False) w w' := by
  obtain ⟨k, n, s, a, m, c, rfl, hv⟩ := hV.form
  obtain ⟨k', n', s', a', m', c', rfl, hu⟩ := hU.form
  obtain ⟨id, tm, kd, ea, eb, nm, tx, v⟩ := e
  obtain ⟨id', tm', kd', ea', eb', nm', tx', v'⟩ := f
  have ho := ((only_new w (.cells #[.int .i64 id, .int .i64 tm, .int .i64 kd, .int .i64 ea, .int .i64 eb, .string (strOf nm), .string (strOf tx), .int .i64 k, .int .i64 n, .string (strOf s), .slice a m c] 31)).trans (only_new _ (.cells #[.int .i64 id', .int .i64 tm', .int .i64 kd', .int .i64 ea', .int .i64 eb', .string (strOf nm'), .string (strOf tx'), .int .i64 k', .int .i64 n', .string (strOf s'), .slice a' m' c'] 31)) (fun _ _ e => e))
  have HI := hid (rcmpC _ v v' (Nat.le_refl _) _ _ _ _ _ (hv.same ho) (hu.same ho) hg hh hk hk')
  have HO := hid ho
  have HS : Hid ((⟨id, tm, kd, ea, eb, nm, tx, v⟩ : EM).same ⟨id', tm', kd', ea', eb', nm', tx', v'⟩ = (id == id' && tm == tm' && kd == kd' && ea == ea' && eb == eb' && nm == nm' && tx == tx' && v.cmp v' == 0)) := hid rfl
  have hzz : (v.cmp v' == 0) = (v.rc v' == 0) := by rw [Bool.eq_iff_iff]; simpa using (rc_zero v v').symm
  rw [hzz] at HS
  obtain ⟨y, hy⟩ : ∃ y, v.rc v' = y := ⟨_, rfl⟩
  rw [hy] at HI HS
  obtain ⟨z, hz⟩ : ∃ z, (y == 0) = z := ⟨_, rfl⟩
  rw [hz] at HS
  clear ho hV hU hg hh hv hu hzz hy hk' hk
  by_cases qid : id = id'
  · have bid : (id == id') = true := by simpa using qid
    have Sid := hid bid
    clear qid
    by_cases qtm : tm = tm'
    · have btm : (tm == tm') = true := by simpa using qtm
      have Stm := hid btm
      clear qtm
      by_cases qkd : kd = kd'
      · have bkd : (kd == kd') = true := by simpa using qkd
        have Skd := hid bkd
        clear qkd
        by_cases qea : ea = ea'
        · have bea : (ea == ea') = true := by simpa using qea
          have Sea := hid bea
          clear qea
          by_cases qeb : eb = eb'
          · have beb : (eb == eb') = true := by simpa using qeb
            have Seb := hid beb
            clear qeb
            by_cases qnm : nm = nm'
            · have bnm : ((strOf nm).toList == (strOf nm').toList) = true := by rw [strOf_list, strOf_list]; simpa using qnm
              have Snm := hid (show (nm == nm') = true by simpa using qnm)
              clear qnm
              by_cases qtx : tx = tx'
              · have btx : ((strOf tx).toList == (strOf tx').toList) = true := by rw [strOf_list, strOf_list]; simpa using qtx
                have Stx := hid (show (tx == tx') = true by simpa using qtx)
                clear qtx
                have HF := hid (show ((⟨id, tm, kd, ea, eb, nm, tx, v⟩ : EM).same ⟨id', tm', kd', ea', eb', nm', tx', v'⟩) = z by rw [HS.out, Sid.out, Stm.out, Skd.out, Sea.out, Seb.out, Snm.out, Stx.out]; simp)
                go_enter Tryz.func8, Tryz.ntmps8
                go_wp2_with fail
                refine HI.out.mono ?_
                rintro x w2 ⟨rfl, ho2⟩
                have HO2 := hid ho2
                clear ho2
                go_wp2_with fail
                go_ret
                rw [HF.out]; exact ⟨rfl, HO.out.trans HO2.out (fun _ _ e => e)⟩
              · have btx : ((strOf tx).toList == (strOf tx').toList) = false := by rw [strOf_list, strOf_list]; simpa using qtx
                have HF := hid (show ((⟨id, tm, kd, ea, eb, nm, tx, v⟩ : EM).same ⟨id', tm', kd', ea', eb', nm', tx', v'⟩) = false by rw [HS.out, show (tx == tx') = false by simpa using qtx]; simp)
                clear qtx
                go_enter Tryz.func8, Tryz.ntmps8
                go_wp2_with fail
                go_ret
                rw [HF.out]; exact ⟨rfl, HO.out⟩
            · have bnm : ((strOf nm).toList == (strOf nm').toList) = false := by rw [strOf_list, strOf_list]; simpa using qnm
              have HF := hid (show ((⟨id, tm, kd, ea, eb, nm, tx, v⟩ : EM).same ⟨id', tm', kd', ea', eb', nm', tx', v'⟩) = false by rw [HS.out, show (nm == nm') = false by simpa using qnm]; simp)
              clear qnm
              go_enter Tryz.func8, Tryz.ntmps8
              go_wp2_with fail
              go_ret
              rw [HF.out]; exact ⟨rfl, HO.out⟩
          · have beb : (eb == eb') = false := by simpa using qeb
            have HF := hid (show ((⟨id, tm, kd, ea, eb, nm, tx, v⟩ : EM).same ⟨id', tm', kd', ea', eb', nm', tx', v'⟩) = false by rw [HS.out, show (eb == eb') = false by simpa using qeb]; simp)
            clear qeb
            go_enter Tryz.func8, Tryz.ntmps8
            go_wp2_with fail
            go_ret
            rw [HF.out]; exact ⟨rfl, HO.out⟩
        · have bea : (ea == ea') = false := by simpa using qea
          have HF := hid (show ((⟨id, tm, kd, ea, eb, nm, tx, v⟩ : EM).same ⟨id', tm', kd', ea', eb', nm', tx', v'⟩) = false by rw [HS.out, show (ea == ea') = false by simpa using qea]; simp)
          clear qea
          go_enter Tryz.func8, Tryz.ntmps8
          go_wp2_with fail
          go_ret
          rw [HF.out]; exact ⟨rfl, HO.out⟩
      · have bkd : (kd == kd') = false := by simpa using qkd
        have HF := hid (show ((⟨id, tm, kd, ea, eb, nm, tx, v⟩ : EM).same ⟨id', tm', kd', ea', eb', nm', tx', v'⟩) = false by rw [HS.out, show (kd == kd') = false by simpa using qkd]; simp)
        clear qkd
        go_enter Tryz.func8, Tryz.ntmps8
        go_wp2_with fail
        go_ret
        rw [HF.out]; exact ⟨rfl, HO.out⟩
    · have btm : (tm == tm') = false := by simpa using qtm
      have HF := hid (show ((⟨id, tm, kd, ea, eb, nm, tx, v⟩ : EM).same ⟨id', tm', kd', ea', eb', nm', tx', v'⟩) = false by rw [HS.out, show (tm == tm') = false by simpa using qtm]; simp)
      clear qtm
      go_enter Tryz.func8, Tryz.ntmps8
      go_wp2_with fail
      go_ret
      rw [HF.out]; exact ⟨rfl, HO.out⟩
  · have bid : (id == id') = false := by simpa using qid
    have HF := hid (show ((⟨id, tm, kd, ea, eb, nm, tx, v⟩ : EM).same ⟨id', tm', kd', ea', eb', nm', tx', v'⟩) = false by rw [HS.out, show (id == id') = false by simpa using qid]; simp)
    clear qid
    go_enter Tryz.func8, Tryz.ntmps8
    go_wp2_with fail
    go_ret
    rw [HF.out]; exact ⟨rfl, HO.out⟩
end
end Go.Proofs.YtihidpfkdpjdpaaGreatDoor
namespace Go.Proofs.YtihidpfkdpjdpaaGreatDoor
open Go.RowKit
def taskB (k : Int) : Bool := k == 2 || k == 3 || k == 5 || k == 6
def closesB (k : Int) : Bool := decide (16 ≤ k ∧ k ≤ 21)
def outsideB (k : Int) : Bool := k == 8 || k == 9 || k == 10 || k == 12 || k == 14 || k == 15 || k == 19 || k == 20 || k == 1
section
variable {w : World} {G : Nat → Prop} {e : EM} {cs : List Value}
set_option maxRecDepth 100000 in
theorem task_c (hE : EAt w G e cs) : Calls Tryz.prog 14 #[.agg cs.toArray] w fun x w' => x = .returned (.bool (taskB e.k)) ∧ Only (fun _ => False) w w' := by
  obtain ⟨vk, vn, vs, va, vm, vc, rfl, -⟩ := hE.form
  obtain ⟨id, tm, k, a, b, nn, tt, v⟩ := e
  have HO := hid (only_new w (.cells #[.int .i64 id, .int .i64 tm, .int .i64 k, .int .i64 a, .int .i64 b, .string (strOf nn), .string (strOf tt), .int .i64 vk, .int .i64 vn, .string (strOf vs), .slice va vm vc] 31))
  clear hE
  simp only
  by_cases h2 : k = 2
  · subst h2
    have HF : Hid (taskB 2 = true) := hid rfl
    go_enter Tryz.func14, Tryz.ntmps14
    go_wp2_with fail
    go_ret
    rw [HF.out]; exact ⟨rfl, HO.out⟩
  have b2 : (k == 2) = false := by simpa using h2
  by_cases h3 : k = 3
  · subst h3
    have HF : Hid (taskB 3 = true) := hid rfl
    go_enter Tryz.func14, Tryz.ntmps14
    go_wp2_with fail
    go_ret
    rw [HF.out]; exact ⟨rfl, HO.out⟩
  have b3 : (k == 3) = false := by simpa using h3
  by_cases h5 : k = 5
  · subst h5
    have HF : Hid (taskB 5 = true) := hid rfl
    go_enter Tryz.func14, Tryz.ntmps14
    go_wp2_with fail
    go_ret
    rw [HF.out]; exact ⟨rfl, HO.out⟩
  have b5 : (k == 5) = false := by simpa using h5
  by_cases h6 : k = 6
  · subst h6
    have HF : Hid (taskB 6 = true) := hid rfl
    go_enter Tryz.func14, Tryz.ntmps14
    go_wp2_with fail
    go_ret
    rw [HF.out]; exact ⟨rfl, HO.out⟩
  have b6 : (k == 6) = false := by simpa using h6
  have HF : Hid (taskB k = false) := hid (by unfold taskB; simp [h2, h3, h5, h6])
  clear h2 h3 h5 h6
  go_enter Tryz.func14, Tryz.ntmps14
  go_wp2_with fail
  go_ret
  rw [HF.out]; exact ⟨rfl, HO.out⟩
set_option maxRecDepth 100000 in
theorem outside_c (hE : EAt w G e cs) : Calls Tryz.prog 13 #[.agg cs.toArray] w fun x w' => x = .returned (.bool (outsideB e.k)) ∧ Only (fun _ => False) w w' := by
  obtain ⟨vk, vn, vs, va, vm, vc, rfl, -⟩ := hE.form
  obtain ⟨id, tm, k, a, b, nn, tt, v⟩ := e
  have HO := hid (only_new w (.cells #[.int .i64 id, .int .i64 tm, .int .i64 k, .int .i64 a, .int .i64 b, .string (strOf nn), .string (strOf tt), .int .i64 vk, .int .i64 vn, .string (strOf vs), .slice va vm vc] 31))
  clear hE
  simp only
  by_cases h8 : k = 8
  · subst h8
    have HF : Hid (outsideB 8 = true) := hid rfl
    go_enter Tryz.func13, Tryz.ntmps13
    go_wp2_with fail
    go_ret
    rw [HF.out]; exact ⟨rfl, HO.out⟩
  have b8 : (k == 8) = false := by simpa using h8
  by_cases h9 : k = 9
  · subst h9
    have HF : Hid (outsideB 9 = true) := hid rfl
    go_enter Tryz.func13, Tryz.ntmps13
    go_wp2_with fail
    go_ret
    rw [HF.out]; exact ⟨rfl, HO.out⟩
  have b9 : (k == 9) = false := by simpa using h9
  by_cases h10 : k = 10
  · subst h10
    have HF : Hid (outsideB 10 = true) := hid rfl
    go_enter Tryz.func13, Tryz.ntmps13
    go_wp2_with fail
    go_ret
    rw [HF.out]; exact ⟨rfl, HO.out⟩
  have b10 : (k == 10) = false := by simpa using h10
  by_cases h12 : k = 12
  · subst h12
    have HF : Hid (outsideB 12 = true) := hid rfl
    go_enter Tryz.func13, Tryz.ntmps13
    go_wp2_with fail
    go_ret
    rw [HF.out]; exact ⟨rfl, HO.out⟩
  have b12 : (k == 12) = false := by simpa using h12
  by_cases h14 : k = 14
  · subst h14
    have HF : Hid (outsideB 14 = true) := hid rfl
    go_enter Tryz.func13, Tryz.ntmps13
    go_wp2_with fail
    go_ret
    rw [HF.out]; exact ⟨rfl, HO.out⟩
  have b14 : (k == 14) = false := by simpa using h14
  by_cases h15 : k = 15
  · subst h15
    have HF : Hid (outsideB 15 = true) := hid rfl
    go_enter Tryz.func13, Tryz.ntmps13
    go_wp2_with fail
    go_ret
    rw [HF.out]; exact ⟨rfl, HO.out⟩
  have b15 : (k == 15) = false := by simpa using h15
  by_cases h19 : k = 19
  · subst h19
    have HF : Hid (outsideB 19 = true) := hid rfl
    go_enter Tryz.func13, Tryz.ntmps13
    go_wp2_with fail
    go_ret
    rw [HF.out]; exact ⟨rfl, HO.out⟩
  have b19 : (k == 19) = false := by simpa using h19
  by_cases h20 : k = 20
  · subst h20
    have HF : Hid (outsideB 20 = true) := hid rfl
    go_enter Tryz.func13, Tryz.ntmps13
    go_wp2_with fail
    go_ret
    rw [HF.out]; exact ⟨rfl, HO.out⟩
  have b20 : (k == 20) = false := by simpa using h20
  by_cases h1 : k = 1
  · subst h1
    have HF : Hid (outsideB 1 = true) := hid rfl
    go_enter Tryz.func13, Tryz.ntmps13
    go_wp2_with fail
    go_ret
    rw [HF.out]; exact ⟨rfl, HO.out⟩
  have b1 : (k == 1) = false := by simpa using h1
  have HF : Hid (outsideB k = false) := hid (by unfold outsideB; simp [h8, h9, h10, h12, h14, h15, h19, h20, h1])
  clear h8 h9 h10 h12 h14 h15 h19 h20 h1
  go_enter Tryz.func13, Tryz.ntmps13
  go_wp2_with fail
  go_ret
  rw [HF.out]; exact ⟨rfl, HO.out⟩
set_option maxRecDepth 100000 in
theorem closes_c (hE : EAt w G e cs) : Calls Tryz.prog 11 #[.agg cs.toArray] w fun x w' => x = .returned (.bool (closesB e.k)) ∧ Only (fun _ => False) w w' := by
  obtain ⟨vk, vn, vs, va, vm, vc, rfl, -⟩ := hE.form
  obtain ⟨id, tm, k, a, b, nn, tt, v⟩ := e
  have HO := hid (only_new w (.cells #[.int .i64 id, .int .i64 tm, .int .i64 k, .int .i64 a, .int .i64 b, .string (strOf nn), .string (strOf tt), .int .i64 vk, .int .i64 vn, .string (strOf vs), .slice va vm vc] 31))
  clear hE
  simp only
  by_cases h1 : 16 ≤ k
  · by_cases h2 : k ≤ 21
    · have HF : Hid (closesB k = true) := hid (decide_eq_true ⟨h1, h2⟩)
      go_enter Tryz.func11, Tryz.ntmps11
      go_wp2_with fail
      go_ret
      rw [HF.out]; exact ⟨rfl, HO.out⟩
    · have HF : Hid (closesB k = false) := hid (decide_eq_false (fun h => h2 h.2))
      go_enter Tryz.func11, Tryz.ntmps11
      go_wp2_with fail
      go_ret
      rw [HF.out]; exact ⟨rfl, HO.out⟩
  · have HF : Hid (closesB k = false) := hid (decide_eq_false (fun h => h1 h.1))
    go_enter Tryz.func11, Tryz.ntmps11
    go_wp2_with fail
    go_ret
    rw [HF.out]; exact ⟨rfl, HO.out⟩
end
end Go.Proofs.YtihidpfkdpjdpaaGreatDoor
