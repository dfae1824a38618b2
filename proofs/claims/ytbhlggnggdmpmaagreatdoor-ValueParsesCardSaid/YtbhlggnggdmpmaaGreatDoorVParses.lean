/- ValueParses's walk. -/
import Derived.Test.YtbhlggnggdmpmaaGreatDoorVDecs
import Derived.Test.YtbhlggnggdmpmaaGreatDoorRf03P
namespace Go.Proofs.YtbhlggnggdmpmaaGreatDoor
open Go.RowKit
section
variable {w : World}
set_option maxRecDepth 100000 in
set_option maxHeartbeats 3200000 in
theorem vparses_c (hT : Tab w) (hR : Ers w) (s : List UInt8) : Calls Tryz.prog 7 #[.string (strOf s)] w fun x w' => x = .returned (.bool true) ∧ Only (fun _ => False) w w' := by
  have HTL := hid (holds_c hT hR)
  have HT := hid hT; have HR := hid hR
  have hsz : (strOf s).size = s.length := rfl
  clear hT hR
  go_enter Tryz.func7, Tryz.ntmps7
  go_wp2_with fail
  refine HTL.out.mono ?_
  rintro x w1 ⟨rfl, ho1⟩
  have HO1 := hid ho1
  clear ho1 HTL
  by_cases h2000 : 2000 < (s.length : Int)
  · have h2 : (2000 : Int) < (strOf s).size := by omega
    have h3 : 2000 < (strOf s).size := by omega
    clear hsz h2000
    go_wp2_with fail
    go_ret
    exact ⟨rfl, HO1.out⟩
  have h2 : ¬ (2000 : Int) < (strOf s).size := by omega
  have h3 : ¬ 2000 < (strOf s).size := by omega
  have HPA := hid (parse_c (w := w1) s (by omega) (HT.out.only HO1.out) (HR.out.same HO1.out))
  have hsnd := parA_snd (l := s) (by omega)
  have HSL := hid (show s.length ≤ 2000 by omega)
  clear hsz h2000
  go_wp2_with fail
  refine HPA.out.mono ?_
  rintro x w2 ⟨cs, rfl, hv, ho2⟩
  obtain ⟨⟨t, d⟩, hde⟩ : ∃ x, parA s = x := ⟨_, rfl⟩
  rw [hde] at hsnd hv ⊢
  simp only at hsnd hv ⊢
  obtain ⟨k, n, s', a, m, c, rfl⟩ := hv.form
  have hn := only_new w2 (.cells #[.int .i64 k, .int .i64 n, .string (strOf s'), .slice a m c] 24)
  have HV := hid (hv.same hn)
  have HB := hid (blk_new w2 (.cells #[.int .i64 k, .int .i64 n, .string (strOf s'), .slice a m c] 24))
  have HO3 := hid ((HO1.out.trans ho2 (fun _ _ e => e)).trans hn (fun _ _ e => e))
  clear hde ho2 HPA hn h2 h3
  rcases hsnd with ⟨rfl, hck, hpr, -, hrg, -⟩ | ⟨hd, rfl⟩
  · have HRC := hid (good_c HV.out hrg)
    rw [hck] at HRC
    have HRG := hid hrg; have HPR := hid hpr
    clear hv hck hrg hpr
    go_wp2_with fail
    refine HRC.out.mono ?_
    rintro x w4 ⟨rfl, ho4⟩
    have HO4 := hid (HO3.out.trans ho4 (fun _ _ e => e))
    have HB4 := hid (blk_only HB.out ho4 (fun e => e))
    have HV4 := hid (HV.out.same ho4)
    have hs4 := ho4.size
    have HS4 := hid hs4
    have HP := hid (vprint_c HV4.out (fun i hi => by have := hi.2; have := blk_lt HB4.out; omega) HRG.out (HT.out.only HO4.out) (by rw [HPR.out]; have := HSL.out; omega))
    rw [HPR.out] at HP
    have hcs : ((strOf s).toList == (strOf s).toList) = true := by simp
    clear ho4 hs4 HRC
    have c0 : w4.cell? ⟨w2.heap.size, 0, none⟩ = some (.int .i64 k) := cell_blk HB4.out 0
    have c1 : w4.cell? ⟨w2.heap.size, 1, none⟩ = some (.int .i64 n) := cell_blk HB4.out 1
    have c2 : w4.cell? ⟨w2.heap.size, 2, none⟩ = some (.string (strOf s')) := cell_blk HB4.out 2
    have c3 : w4.cell? ⟨w2.heap.size, 3, none⟩ = some (.slice a m c) := cell_blk HB4.out 3
    have hlw0 : w2.heap.size < w4.heap.size := blk_lt HB4.out
    go_wp2_with fail
    refine HP.out.mono ?_
    rintro x w5 ⟨rfl, ho5⟩
    have HO5 := hid (HO4.out.trans ho5 (fun _ _ e => e))
    have HB5 := hid (blk_only HB4.out ho5 (fun e => e))
    have HRP := hid (rprint_c (HV4.out.same ho5) HRG.out (by rw [HPR.out]; have := HSL.out; omega))
    rw [HPR.out] at HRP
    clear ho5 HP c0 c1 c2 c3 hlw0
    have c0 : w5.cell? ⟨w2.heap.size, 0, none⟩ = some (.int .i64 k) := cell_blk HB5.out 0
    have c1 : w5.cell? ⟨w2.heap.size, 1, none⟩ = some (.int .i64 n) := cell_blk HB5.out 1
    have c2 : w5.cell? ⟨w2.heap.size, 2, none⟩ = some (.string (strOf s')) := cell_blk HB5.out 2
    have c3 : w5.cell? ⟨w2.heap.size, 3, none⟩ = some (.slice a m c) := cell_blk HB5.out 3
    have hlw0 : w2.heap.size < w5.heap.size := blk_lt HB5.out
    go_wp2_with fail
    refine HRP.out.mono ?_
    rintro x w6 ⟨rfl, ho6⟩
    have HO6 := hid (HO5.out.trans ho6 (fun _ _ e => e))
    clear ho6 HRP
    go_wp2_with fail
    go_ret
    exact ⟨rfl, HO6.out⟩
  · have hv' := hv
    unfold VT.nil at hv'
    rw [VAt] at hv'
    obtain ⟨a', cap, g, o, hcs, -⟩ := hv'
    simp only [List.cons.injEq, Value.int.injEq, true_and, and_true] at hcs
    obtain ⟨rfl, -⟩ := hcs
    clear hv
    rcases hd with rfl | rfl | rfl
    all_goals
      go_wp2_with fail
      go_ret
      exact ⟨rfl, HO3.out⟩
end
end Go.Proofs.YtbhlggnggdmpmaaGreatDoor
