/- ValuePrints's walk. -/
import Derived.Test.YtbhlggnggdmpmaaGreatDoorVDecs
import Derived.Test.YtbhlggnggdmpmaaGreatDoorVFits
import Derived.Test.YtbhlggnggdmpmaaGreatDoorRf03P
import Derived.Test.YtbhlggnggdmpmaaGreatDoorPrB
namespace Go.Proofs.YtbhlggnggdmpmaaGreatDoor
open Go.RowKit
section
variable {w : World}
set_option maxRecDepth 100000 in
set_option maxHeartbeats 3200000 in
theorem vprints_c (hT : Tab w) (hR : Ers w) {t : VT} {G : Nat → Prop} {cs : List Value} (hV : VAt w G t cs) (hG : ∀ k, G k → k < w.heap.size) (hg : t.rg) : Calls Tryz.prog 6 #[.agg cs.toArray] w fun x w' => x = .returned (.bool true) ∧ Only (fun _ => False) w w' := by
  obtain ⟨k, n, s, a, m, c, rfl⟩ := hV.form
  have ho0 := only_new w (.cells #[.int .i64 k, .int .i64 n, .string (strOf s), .slice a m c] 24)
  have HTL := hid (holds_c (hT.only ho0) (hR.same ho0))
  have HT := hid hT; have HR := hid hR; have HV := hid hV; have HG := hid hG; have Hg := hid hg
  have HB0 := hid (blk_new w (.cells #[.int .i64 k, .int .i64 n, .string (strOf s), .slice a m c] 24))
  have HO0 := hid ho0
  clear hT hR hV hG hg ho0
  go_enter Tryz.func6, Tryz.ntmps6
  go_wp2_with fail
  refine HTL.out.mono ?_
  rintro x w1 ⟨rfl, ho1⟩
  have HB1 := hid (blk_only HB0.out ho1 (fun e => e))
  have HO1 := hid (HO0.out.trans ho1 (fun _ _ e => e))
  clear ho1 HTL
  have HSM := hid (fits_c (w := w1.alloc (.cells #[.int .i64 k, .int .i64 n, .string (strOf s), .slice a m c] 24)) (VsV.one (w := w1.alloc (.cells #[.int .i64 k, .int .i64 n, .string (strOf s), .slice a m c] 24)) (blk_new w1 _) (HV.out.same (HO1.out.trans (only_new w1 _) (fun _ _ e => e)))) (fun k hk => by have := HO1.out.size; rcases hk with rfl | hk; simp; have := HG.out k hk; simp; omega) (fun e' he' => by rw [List.mem_singleton.1 he']; exact Hg.out) (by simp))
  have b0 : w1.cell? ⟨w.heap.size, 0, none⟩ = some (.int .i64 k) := cell_blk HB1.out 0
  have b1 : w1.cell? ⟨w.heap.size, 1, none⟩ = some (.int .i64 n) := cell_blk HB1.out 1
  have b2 : w1.cell? ⟨w.heap.size, 2, none⟩ = some (.string (strOf s)) := cell_blk HB1.out 2
  have b3 : w1.cell? ⟨w.heap.size, 3, none⟩ = some (.slice a m c) := cell_blk HB1.out 3
  have hlw1 : w.heap.size < w1.heap.size := blk_lt HB1.out
  obtain ⟨sm, hsm⟩ : ∃ b, smV [t] 400 = b := ⟨_, rfl⟩
  rw [hsm] at HSM
  clear hsm
  cases sm with
  | false =>
    go_wp2_with fail
    refine HSM.out.mono ?_
    rintro x w2 ⟨rfl, ho2⟩
    have HO2 := hid (HO1.out.trans ((only_new w1 _).trans ho2 (fun _ _ e => e)) (fun _ _ e => e))
    clear ho2
    go_wp2_with fail
    go_ret
    exact ⟨rfl, HO2.out⟩
  | true =>
  go_wp2_with fail
  refine HSM.out.mono ?_
  rintro x w2 ⟨rfl, ho2⟩
  have ho12 := (only_new w1 (.cells #[.int .i64 k, .int .i64 n, .string (strOf s), .slice a m c] 24)).trans ho2 (fun _ _ e => e)
  have HB2 := hid (blk_only HB1.out ho12 (fun e => e))
  have HO2 := hid (HO1.out.trans ho12 (fun _ _ e => e))
  have HGD := hid (good_c (HV.out.same HO2.out) Hg.out)
  obtain ⟨ck, hck⟩ : ∃ y, t.chk = y := ⟨_, rfl⟩
  rw [hck] at HGD
  have HCK := hid hck
  clear ho2 ho12 HSM hck b0 b1 b2 b3 hlw1
  have b0 : w2.cell? ⟨w.heap.size, 0, none⟩ = some (.int .i64 k) := cell_blk HB2.out 0
  have b1 : w2.cell? ⟨w.heap.size, 1, none⟩ = some (.int .i64 n) := cell_blk HB2.out 1
  have b2 : w2.cell? ⟨w.heap.size, 2, none⟩ = some (.string (strOf s)) := cell_blk HB2.out 2
  have b3 : w2.cell? ⟨w.heap.size, 3, none⟩ = some (.slice a m c) := cell_blk HB2.out 3
  have hlw2 : w.heap.size < w2.heap.size := blk_lt HB2.out
  by_cases hc0 : ck = 0
  case neg =>
    have hcb : (ck == 0) = false := by simpa using hc0
    rw [hcb] at HGD
    clear hc0
    go_wp2_with fail
    refine HGD.out.mono ?_
    rintro x w3 ⟨rfl, ho3⟩
    have HO3 := hid (HO2.out.trans ho3 (fun _ _ e => e))
    clear ho3
    go_wp2_with fail
    go_ret
    exact ⟨rfl, HO3.out⟩
  subst hc0
  have hpm := pr_max HCK.out Hg.out
  have HPM := hid hpm
  rw [show ((0 : Int) == 0) = true from rfl] at HGD
  clear hpm
  go_wp2_with fail
  refine HGD.out.mono ?_
  rintro x w3 ⟨rfl, ho3⟩
  have HB3 := hid (blk_only HB2.out ho3 (fun e => e))
  have HO3 := hid (HO2.out.trans ho3 (fun _ _ e => e))
  have HPR := hid (vprint_c (w := w3) (HV.out.same HO3.out) (fun i hi => by have := HG.out i hi; have := HO3.out.size; omega) Hg.out (HT.out.only HO3.out) (by have := HPM.out; omega))
  obtain ⟨pr, hpr⟩ : ∃ p, t.pr = p := ⟨_, rfl⟩
  rw [hpr] at HPR HPM
  have HPP := hid hpr
  clear ho3 HGD hpr b0 b1 b2 b3 hlw2
  have b0 : w3.cell? ⟨w.heap.size, 0, none⟩ = some (.int .i64 k) := cell_blk HB3.out 0
  have b1 : w3.cell? ⟨w.heap.size, 1, none⟩ = some (.int .i64 n) := cell_blk HB3.out 1
  have b2 : w3.cell? ⟨w.heap.size, 2, none⟩ = some (.string (strOf s)) := cell_blk HB3.out 2
  have b3 : w3.cell? ⟨w.heap.size, 3, none⟩ = some (.slice a m c) := cell_blk HB3.out 3
  have hlw3 : w.heap.size < w3.heap.size := blk_lt HB3.out
  go_wp2_with fail
  refine HPR.out.mono ?_
  rintro x w4 ⟨rfl, ho4⟩
  have HB4 := hid (blk_only HB3.out ho4 (fun e => e))
  have HO4 := hid (HO3.out.trans ho4 (fun _ _ e => e))
  have HPA := hid (parse_c (w := w4) pr (by have := HPM.out; omega) (HT.out.only HO4.out) (HR.out.same HO4.out))
  have hpar := parA_pr HCK.out Hg.out
  rw [HPP.out] at hpar
  rw [hpar] at HPA
  clear ho4 HPR hpar b0 b1 b2 b3 hlw3
  go_wp2_with fail
  refine HPA.out.mono ?_
  rintro x w5 ⟨cs, rfl, hv5, ho5⟩
  obtain ⟨k2, n2, s2, a2, m2, c2, rfl⟩ := hv5.form
  have hn5 := only_new w5 (.cells #[.int .i64 k2, .int .i64 n2, .string (strOf s2), .slice a2 m2 c2] 24)
  have ho45 := ho5.trans hn5 (fun _ _ e => e)
  have HO5 := hid (HO4.out.trans ho45 (fun _ _ e => e))
  have HU5 := hid (hv5.same hn5)
  have hb5 := blk_only HB4.out ho5 (fun e => e)
  have HB5 := hid (blk_only HB4.out ho45 (fun e => e))
  have HN5 := hid (blk_new w5 (.cells #[.int .i64 k2, .int .i64 n2, .string (strOf s2), .slice a2 m2 c2] 24))
  have HRP := hid (rprint_c (HV.out.same HO5.out) Hg.out (by rw [HPP.out]; have := HPM.out; omega))
  rw [HPP.out] at HRP
  have b0 : w5.cell? ⟨w.heap.size, 0, none⟩ = some (.int .i64 k) := cell_blk hb5 0
  have b1 : w5.cell? ⟨w.heap.size, 1, none⟩ = some (.int .i64 n) := cell_blk hb5 1
  have b2 : w5.cell? ⟨w.heap.size, 2, none⟩ = some (.string (strOf s)) := cell_blk hb5 2
  have b3 : w5.cell? ⟨w.heap.size, 3, none⟩ = some (.slice a m c) := cell_blk hb5 3
  have hlw5 : w.heap.size < w5.heap.size := blk_lt hb5
  have hcs : ((strOf pr).toList == (strOf pr).toList) = true := by simp
  clear hv5 ho5 hn5 ho45 hb5 HPA
  go_wp2_with fail
  refine HRP.out.mono ?_
  rintro x w6 ⟨rfl, ho6⟩
  have HB6 := hid (blk_only HB5.out ho6 (fun e => e))
  have HN6 := hid (blk_only HN5.out ho6 (fun e => e))
  have HO6 := hid (HO5.out.trans ho6 (fun _ _ e => e))
  have HSA := hid (vsame_c (HU5.out.same ho6) (HV.out.same HO6.out) (cl_rg _ Hg.out) Hg.out)
  rw [show (t.cl.cmp t == 0) = true by rw [cmp_cl]; rfl] at HSA
  clear ho6 HRP b0 b1 b2 b3 hlw5
  have b0 : w6.cell? ⟨w.heap.size, 0, none⟩ = some (.int .i64 k) := cell_blk HB6.out 0
  have b1 : w6.cell? ⟨w.heap.size, 1, none⟩ = some (.int .i64 n) := cell_blk HB6.out 1
  have b2 : w6.cell? ⟨w.heap.size, 2, none⟩ = some (.string (strOf s)) := cell_blk HB6.out 2
  have b3 : w6.cell? ⟨w.heap.size, 3, none⟩ = some (.slice a m c) := cell_blk HB6.out 3
  have f0 : w6.cell? ⟨w5.heap.size, 0, none⟩ = some (.int .i64 k2) := cell_blk HN6.out 0
  have f1 : w6.cell? ⟨w5.heap.size, 1, none⟩ = some (.int .i64 n2) := cell_blk HN6.out 1
  have f2 : w6.cell? ⟨w5.heap.size, 2, none⟩ = some (.string (strOf s2)) := cell_blk HN6.out 2
  have f3 : w6.cell? ⟨w5.heap.size, 3, none⟩ = some (.slice a2 m2 c2) := cell_blk HN6.out 3
  have hlw6 : w.heap.size < w6.heap.size := blk_lt HB6.out
  have hln6 : w5.heap.size < w6.heap.size := blk_lt HN6.out
  go_wp2_with fail
  refine HSA.out.mono ?_
  rintro x w7 ⟨rfl, ho7⟩
  have HO7 := hid (HO6.out.trans ho7 (fun _ _ e => e))
  have HQ := hid (quote_c (w := w7) pr (by have := HPM.out; omega))
  clear ho7 HSA b0 b1 b2 b3 f0 f1 f2 f3 hlw6 hln6
  go_wp2_with fail
  refine HQ.out.mono ?_
  rintro x w8 ⟨rfl, ho8⟩
  have HO8 := hid (HO7.out.trans ho8 (fun _ _ e => e))
  have HRQ := hid (rquote_c (w := w8) pr (by have := HPM.out; omega))
  have hcq : ((strOf (quo pr)).toList == (strOf (quo pr)).toList) = true := by simp
  clear ho8 HQ
  go_wp2_with fail
  refine HRQ.out.mono ?_
  rintro x w9 ⟨rfl, ho9⟩
  have HO9 := hid (HO8.out.trans ho9 (fun _ _ e => e))
  clear ho9 HRQ
  go_wp2_with fail
  go_ret
  exact ⟨rfl, HO9.out⟩
end
end Go.Proofs.YtbhlggnggdmpmaaGreatDoor

