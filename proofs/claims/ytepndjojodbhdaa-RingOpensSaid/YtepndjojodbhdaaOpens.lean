/- RingOpens: the walk. -/
import Derived.Test.YtepndjojodbhdaaGoesR
namespace Go.Proofs.Ytepndjojodbhdaa
open Go.RowKit

set_option maxRecDepth 100000 in
set_option maxHeartbeats 800000 in
theorem ringOpens_c (w : World) (n a b : Int) (tail : Nat) (ht : tail ≤ 18446744073709551615) :
    Calls Try.prog 5 #[.int .i64 n, .agg #[.int .i64 a, .int .i64 b], .int .u64 tail] w fun e w' => e = .returned (.bool true) ∧ Only (fun _ => False) w w' := by
  by_cases hn1 : n < 1
  · go_enter Try.func5, Try.ntmps5
    go_wp2_with fail
    refine (goes_c _).mono ?_
    rintro e w1 ⟨rfl, ho1⟩
    go_wp2_with fail
    go_ret
    exact ⟨rfl, ((Only.refl _ _).alloc _).trans ho1 (fun _ _ e => e)⟩
  by_cases hn2 : 20 < n
  · go_enter Try.func5, Try.ntmps5
    go_wp2_with fail
    refine (goes_c _).mono ?_
    rintro e w1 ⟨rfl, ho1⟩
    go_wp2_with fail
    go_ret
    exact ⟨rfl, ((Only.refl _ _).alloc _).trans ho1 (fun _ _ e => e)⟩
  obtain ⟨k, rfl⟩ : ∃ k : Nat, n = k := ⟨n.toNat, by omega⟩
  go_enter Try.func5, Try.ntmps5
  go_wp2_with fail
  refine (goes_c _).mono ?_
  rintro e w1 ⟨rfl, ho1⟩
  have Ho1 := hid (((Only.refl (fun _ => False) w).alloc _).trans ho1 (fun _ _ e => e))
  have hb1 := blk_only (blk_new w _) ho1 (fun e => e)
  have Hb1 := hid hb1
  clear ho1 hb1
  go_wp2_with fail
  refine (new_ok w1 k (by omega) (by omega)).mono ?_
  rintro e w2 ⟨d, FD, rfl, hD, ho2, hFD⟩
  have HD := hid hD
  have Ho2 := hid (Ho1.out.trans ho2 (fun _ _ e => e))
  have hb2 := blk_only Hb1.out ho2 (fun e => e)
  have hc0 : w2.cell? ⟨w.heap.size, 0, none⟩ = some (.int .i64 a) := cell_blk hb2 0
  have hc1 : w2.cell? ⟨w.heap.size, 1, none⟩ = some (.int .i64 b) := cell_blk hb2 1
  clear hD ho2 hFD hb2
  go_wp2_with fail
  go_quiet (fail)
  by_cases hbad : a < 0 ∨ b < 1 ∨ (k : Int) < b ∨ (k : Int) - b < a
  · have HNo := fun q => hid (open_no (HD.out.only (only_drewN w2 q) (fun _ _ e => e)) a b tail hbad)
    by_cases h1 : a < 0
    · clear hbad
      go_wp2_with (go_at_call 36; refine (HNo _).out.mono ?_; rintro e w' ⟨rfl, rfl⟩)
      go_ret
      exact ⟨rfl, Ho2.out.trans (only_drewN w2 _) (fun _ _ e => e)⟩
    by_cases h2 : b < 1
    · clear hbad
      go_wp2_with (go_at_call 36; refine (HNo _).out.mono ?_; rintro e w' ⟨rfl, rfl⟩)
      go_ret
      exact ⟨rfl, Ho2.out.trans (only_drewN w2 _) (fun _ _ e => e)⟩
    by_cases h3 : (k : Int) < b
    · clear hbad
      go_wp2_with (go_at_call 36; refine (HNo _).out.mono ?_; rintro e w' ⟨rfl, rfl⟩)
      go_ret
      exact ⟨rfl, Ho2.out.trans (only_drewN w2 _) (fun _ _ e => e)⟩
    have h4 : (k : Int) - b < a := by omega
    clear hbad
    go_wp2_with (go_at_call 36; refine (HNo _).out.mono ?_; rintro e w' ⟨rfl, rfl⟩)
    go_ret
    exact ⟨rfl, Ho2.out.trans (only_drewN w2 _) (fun _ _ e => e)⟩
  · obtain ⟨a, rfl⟩ : ∃ a' : Nat, a = a' := ⟨a.toNat, by omega⟩
    obtain ⟨b, rfl⟩ : ∃ b' : Nat, b = b' := ⟨b.toNat, by omega⟩
    have HYes := fun q => hid (open_ok (HD.out.only (only_drewN w2 q) (fun _ _ e => e)) a b tail (by omega) (by show a + b ≤ k; omega) ht rfl)
    have h1 : ¬ (a : Int) < 0 := by omega
    have h2 : ¬ (b : Int) < 1 := by omega
    have h3 : ¬ (k : Int) < (b : Int) := by omega
    have h4 : ¬ (k : Int) - (b : Int) < (a : Int) := by omega
    clear hbad
    go_wp2_with fail
    refine (HYes _).out.mono ?_
    rintro e w3 ⟨r, F, rfl, hR, ho3, -⟩
    have Ho3 := hid ((Ho2.out.trans (only_drewN w2 _) (fun _ _ e => e)).trans ho3 (fun _ _ e => e))
    have HT := hid (tail_c hR)
    have HSz := hid (size_c hR)
    rw [show (RingM.opened (DiskM.new k) a b tail).tail = tail from rfl] at HT
    rw [show (RingM.opened (DiskM.new k) a b tail).size = b * 128 from rfl] at HSz
    clear hR ho3
    go_wp2_with (first | (go_at_call 37; refine HT.out.mono ?_; rintro e w' ⟨rfl, rfl⟩) | (go_at_call 38; refine HSz.out.mono ?_; rintro e w' ⟨rfl, rfl⟩))
    go_ret
    have hbe : ((b : Int) * 128 == 128 * (b : Int)) = true := by rw [beq_iff_eq]; omega
    refine ⟨?_, Ho3.out⟩
    show Ending.returned (.bool ((b : Int) * 128 == 128 * (b : Int))) = _
    rw [hbe]
end Go.Proofs.Ytepndjojodbhdaa
