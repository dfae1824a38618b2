/- foliotref09.Name. -/
import Derived.Test.YtnoopajedgllhaaEvA
import Derived.Test.YtnoopajedgllhaaPrV
namespace Go.Proofs.Ytnoopajedgllhaa
open Go.RowKit
section
variable {w : World}
set_option maxRecDepth 100000 in
set_option maxHeartbeats 3200000 in
theorem refname_c (k : Int) : Calls Try.prog 52 #[.int .i64 k] w fun x w' => x = .returned (.string (strOf (evName k))) ∧ Only (fun _ => False) w w' := by
  by_cases h1 : k < 1
  · have HF : Hid (evName k = []) := hid (by unfold evName; rw [if_neg (by omega)])
    go_enter Try.func52, Try.ntmps52
    go_wp2_with fail
    go_ret
    rw [HF.out]; exact ⟨rfl, only_new w _⟩
  by_cases h2 : 21 < k
  · have HF : Hid (evName k = []) := hid (by unfold evName; rw [if_neg (by omega)])
    go_enter Try.func52, Try.ntmps52
    go_wp2_with fail
    go_ret
    rw [HF.out]; exact ⟨rfl, only_new w _⟩
  obtain ⟨n, rfl⟩ := Int.eq_ofNat_of_zero_le (by omega : 0 ≤ k)
  have hc : (w.alloc (.cells #[.string ⟨#[]⟩, .string ⟨#[114, 117, 110, 45, 115, 116, 97, 114, 116, 101, 100]⟩, .string ⟨#[116, 97, 115, 107, 45, 115, 99, 104, 101, 100, 117, 108, 101, 100]⟩, .string ⟨#[116, 97, 115, 107, 45, 115, 116, 97, 114, 116, 101, 100]⟩, .string ⟨#[116, 97, 115, 107, 45, 99, 111, 109, 112, 108, 101, 116, 101, 100]⟩, .string ⟨#[116, 97, 115, 107, 45, 116, 105, 109, 101, 100, 45, 111, 117, 116]⟩, .string ⟨#[116, 97, 115, 107, 45, 102, 97, 105, 108, 101, 100]⟩, .string ⟨#[97, 99, 116, 105, 118, 105, 116, 121, 45, 115, 99, 104, 101, 100, 117, 108, 101, 100]⟩, .string ⟨#[97, 99, 116, 105, 118, 105, 116, 121, 45, 99, 111, 109, 112, 108, 101, 116, 101, 100]⟩, .string ⟨#[97, 99, 116, 105, 118, 105, 116, 121, 45, 102, 97, 105, 108, 101, 100]⟩, .string ⟨#[97, 99, 116, 105, 118, 105, 116, 121, 45, 116, 105, 109, 101, 100, 45, 111, 117, 116]⟩, .string ⟨#[116, 105, 109, 101, 114, 45, 115, 116, 97, 114, 116, 101, 100]⟩, .string ⟨#[116, 105, 109, 101, 114, 45, 102, 105, 114, 101, 100]⟩, .string ⟨#[116, 105, 109, 101, 114, 45, 99, 97, 110, 99, 101, 108, 101, 100]⟩, .string ⟨#[115, 105, 103, 110, 97, 108, 45, 114, 101, 99, 101, 105, 118, 101, 100]⟩, .string ⟨#[99, 97, 110, 99, 101, 108, 45, 114, 101, 113, 117, 101, 115, 116, 101, 100]⟩, .string ⟨#[114, 117, 110, 45, 99, 111, 109, 112, 108, 101, 116, 101, 100]⟩, .string ⟨#[114, 117, 110, 45, 102, 97, 105, 108, 101, 100]⟩, .string ⟨#[114, 117, 110, 45, 99, 97, 110, 99, 101, 108, 101, 100]⟩, .string ⟨#[114, 117, 110, 45, 116, 101, 114, 109, 105, 110, 97, 116, 101, 100]⟩, .string ⟨#[114, 117, 110, 45, 116, 105, 109, 101, 100, 45, 111, 117, 116]⟩, .string ⟨#[99, 111, 110, 116, 105, 110, 117, 101, 100, 45, 97, 115, 45, 110, 101, 119]⟩] 9)).cell? ⟨w.heap.size, n, none⟩ = some (.string (strOf (evName (n : Int)))) := by
    rw [cell_blk (blk_new w _)]
    have hall : ∀ i : Fin 22, 1 ≤ i.val → (#[.string ⟨#[]⟩, .string ⟨#[114, 117, 110, 45, 115, 116, 97, 114, 116, 101, 100]⟩, .string ⟨#[116, 97, 115, 107, 45, 115, 99, 104, 101, 100, 117, 108, 101, 100]⟩, .string ⟨#[116, 97, 115, 107, 45, 115, 116, 97, 114, 116, 101, 100]⟩, .string ⟨#[116, 97, 115, 107, 45, 99, 111, 109, 112, 108, 101, 116, 101, 100]⟩, .string ⟨#[116, 97, 115, 107, 45, 116, 105, 109, 101, 100, 45, 111, 117, 116]⟩, .string ⟨#[116, 97, 115, 107, 45, 102, 97, 105, 108, 101, 100]⟩, .string ⟨#[97, 99, 116, 105, 118, 105, 116, 121, 45, 115, 99, 104, 101, 100, 117, 108, 101, 100]⟩, .string ⟨#[97, 99, 116, 105, 118, 105, 116, 121, 45, 99, 111, 109, 112, 108, 101, 116, 101, 100]⟩, .string ⟨#[97, 99, 116, 105, 118, 105, 116, 121, 45, 102, 97, 105, 108, 101, 100]⟩, .string ⟨#[97, 99, 116, 105, 118, 105, 116, 121, 45, 116, 105, 109, 101, 100, 45, 111, 117, 116]⟩, .string ⟨#[116, 105, 109, 101, 114, 45, 115, 116, 97, 114, 116, 101, 100]⟩, .string ⟨#[116, 105, 109, 101, 114, 45, 102, 105, 114, 101, 100]⟩, .string ⟨#[116, 105, 109, 101, 114, 45, 99, 97, 110, 99, 101, 108, 101, 100]⟩, .string ⟨#[115, 105, 103, 110, 97, 108, 45, 114, 101, 99, 101, 105, 118, 101, 100]⟩, .string ⟨#[99, 97, 110, 99, 101, 108, 45, 114, 101, 113, 117, 101, 115, 116, 101, 100]⟩, .string ⟨#[114, 117, 110, 45, 99, 111, 109, 112, 108, 101, 116, 101, 100]⟩, .string ⟨#[114, 117, 110, 45, 102, 97, 105, 108, 101, 100]⟩, .string ⟨#[114, 117, 110, 45, 99, 97, 110, 99, 101, 108, 101, 100]⟩, .string ⟨#[114, 117, 110, 45, 116, 101, 114, 109, 105, 110, 97, 116, 101, 100]⟩, .string ⟨#[114, 117, 110, 45, 116, 105, 109, 101, 100, 45, 111, 117, 116]⟩, .string ⟨#[99, 111, 110, 116, 105, 110, 117, 101, 100, 45, 97, 115, 45, 110, 101, 119]⟩] : Array Value)[i.val]? = some (.string (strOf (evName (i.val : Int)))) := by
      intro i hi
      rcases i with ⟨i, hil⟩
      have hi' : i = 1 ∨ i = 2 ∨ i = 3 ∨ i = 4 ∨ i = 5 ∨ i = 6 ∨ i = 7 ∨ i = 8 ∨ i = 9 ∨ i = 10 ∨ i = 11 ∨ i = 12 ∨ i = 13 ∨ i = 14 ∨ i = 15 ∨ i = 16 ∨ i = 17 ∨ i = 18 ∨ i = 19 ∨ i = 20 ∨ i = 21 := by
        have hi2 : 1 ≤ i := hi
        omega
      rcases hi' with rfl|rfl|rfl|rfl|rfl|rfl|rfl|rfl|rfl|rfl|rfl|rfl|rfl|rfl|rfl|rfl|rfl|rfl|rfl|rfl|rfl <;> rfl
    exact hall ⟨n, by omega⟩ (by show 1 ≤ n; omega)
  have hn1 : (1 : Int) ≤ (n : Int) := by omega
  have hn2 : (n : Int) ≤ 21 := by omega
  obtain ⟨s, hs⟩ : ∃ s, strOf (evName (n : Int)) = s := ⟨_, rfl⟩
  rw [hs] at hc ⊢
  clear h1 h2 hs
  go_enter Try.func52, Try.ntmps52
  go_wp2_with fail
  go_ret
  exact ⟨rfl, only_new w _⟩
end
end Go.Proofs.Ytnoopajedgllhaa
