/- foliotlaw03.holds is true. -/
import Derived.Test.YtbhlggnggdmpmaaGreatDoorVSmall
import Derived.Test.YtbhlggnggdmpmaaGreatDoorVParse
import Derived.Test.YtbhlggnggdmpmaaGreatDoorVEnc
import Derived.Test.YtbhlggnggdmpmaaGreatDoorValQ
import Derived.Test.YtbhlggnggdmpmaaGreatDoorCmp
namespace Go.Proofs.YtbhlggnggdmpmaaGreatDoor
open Go.RowKit

theorem vd_enc {t : VT} (hc : t.chk = 0) (hg : t.rg) : vdR t.wr = (t.cl, 0) := by
  have h1 := val_rt (r := RdM.of t.wr) (post := []) hg hc rfl (by simp [RdM.of, RdM.rest])
  have h2 : ((RdM.of t.wr).adv t.wr.length).done = 0 := by simp [RdM.done, RdM.adv, RdM.of]
  unfold vdR
  rw [h1]
  simp only
  rw [h2]; rfl
/-- A list of a number and a text. -/
def v0 : VT := .mk 3 0 [] [.mk 1 5 [] [], .mk 2 0 [97] []]
theorem v0_rg : v0.rg := by
  unfold v0
  simp only [VT.rg, VT.rgL, List.length_nil, List.length_cons]
  decide
theorem v0_chk : v0.chk = 0 := by decide
theorem v0_cl : v0.cl = v0 := by unfold v0; simp [VT.cl, VT.clL]
theorem v0_parts : v0.parts = 3 := by decide
theorem v0_cmp : v0.cmp v0 = 0 := by decide
theorem v0_sz : v0.sz = 3 := by decide
theorem itoa5 : Lib.itoa 5 = [53] := by unfold Lib.itoa; rw [if_neg (by omega)]; exact Lib.decDigits_one (i := 5) (by omega)
theorem v0_pr : v0.pr = [91, 53, 32, 34, 97, 34, 93] := by
  unfold v0
  rw [pr3, VT.prL, pr1, itoa5, VT.prT, pr2, VT.prT]; rfl
section
variable {w : World}
set_option maxRecDepth 100000 in
set_option maxHeartbeats 3200000 in
theorem holds_c (hT : Tab w) (hR : Ers w) : Calls Tryz.prog 10 #[] w fun x w' => x = .returned (.bool true) ∧ Only (fun _ => False) w w' := by
  have HT := hid hT; have HR := hid hR
  have HOF := hid (of_c (w := w) 5)
  clear hT hR
  go_enter Tryz.func10, Tryz.ntmps10
  go_wp2_with fail
  refine HOF.out.mono ?_
  rintro x w1 ⟨rfl, ho1⟩
  have HO1 := hid ho1
  have HTX := hid (text_c (w := w1) [97])
  clear ho1 HOF
  go_wp2_with fail
  refine HTX.out.mono ?_
  rintro x w2 ⟨rfl, ho2⟩
  have HO2 := hid (HO1.out.trans ho2 (fun _ _ e => e))
  have hb2 := blk_new w2 (.cells #[.int .i64 1, .int .i64 5, .string ⟨#[]⟩, .slice none 0 0, .int .i64 2, .int .i64 0, .string (strOf [97]), .slice none 0 0] 24)
  have hls : VLs (w2.alloc (.cells #[.int .i64 1, .int .i64 5, .string ⟨#[]⟩, .slice none 0 0, .int .i64 2, .int .i64 0, .string (strOf [97]), .slice none 0 0] 24)) (fun k => k = w2.heap.size) [.mk 1 5 [] [], .mk 2 0 [97] []] w2.heap.size 0 := by
    rw [VLs, VLs, VLs]
    refine ⟨⟨[.int .i64 1, .int .i64 5, .string (strOf []), .slice none 0 0], fun j u hj => ?_, novls _ _ 1 5 []⟩, ⟨[.int .i64 2, .int .i64 0, .string (strOf [97]), .slice none 0 0], fun j u hj => ?_, novls _ _ 2 0 [97]⟩, trivial⟩
    · rw [cell_blk hb2]
      match j, hj with
      | 0, hj => exact hj
      | 1, hj => exact hj
      | 2, hj => exact hj
      | 3, hj => exact hj
      | j + 4, hj => simp at hj
    · rw [cell_blk hb2]
      match j, hj with
      | 0, hj => exact hj
      | 1, hj => exact hj
      | 2, hj => exact hj
      | 3, hj => exact hj
      | j + 4, hj => simp at hj
  have hli := vlist_c (cap := 2) (a := some ⟨w2.heap.size, 0, none⟩) (fun _ => ⟨rfl, rfl⟩) hls (G := fun k => k = w2.heap.size) (fun k hk => by have e : k = w2.heap.size := hk; rw [e]; simp) (by have := v0_rg; unfold v0 at this; rw [VT.rg] at this; exact this.2.2.2.2.2.2) (by simp) (by decide)
  have e0 : (VT.mk 3 0 [] (VT.clL [.mk 1 5 [] [], .mk 2 0 [97] []])) = v0 := by have := v0_cl; unfold v0 at this ⊢; rw [VT.cl] at this; simpa using this
  rw [e0] at hli
  have HLI := hid hli
  clear ho2 hb2 hls hli e0 HTX
  go_wp2_with fail
  refine HLI.out.mono ?_
  rintro x w3 ⟨cs, rfl, hv3, ho3, -⟩
  obtain ⟨k0, n0, s0, a0, m0, c0, rfl⟩ := hv3.form
  have HV3 := hid hv3
  have HO3 := hid (HO2.out.trans ((only_new w2 _).trans ho3 (fun _ _ e => e)) (fun _ _ e => e))
  have HB4 := hid (blk_new w3 (.cells #[.int .i64 k0, .int .i64 n0, .string (strOf s0), .slice a0 m0 c0] 24))
  have HO4 := hid (HO3.out.trans (only_new w3 (.cells #[.int .i64 k0, .int .i64 n0, .string (strOf s0), .slice a0 m0 c0] 24)) (fun _ _ e => e))
  have HV4 := hid (hv3.same (only_new w3 (.cells #[.int .i64 k0, .int .i64 n0, .string (strOf s0), .slice a0 m0 c0] 24)))
  have HGB := hid (fun k (hk : New (w2.alloc (.cells #[.int .i64 1, .int .i64 5, .string ⟨#[]⟩, .slice none 0 0, .int .i64 2, .int .i64 0, .string (strOf [97]), .slice none 0 0] 24)) w3 k) => (hk.2 : k < w3.heap.size))
  have HEN := hid (vencode_c HV4.out (fun k hk => by have := HGB.out k hk; simp; omega) v0_rg)
  clear hv3 ho3 HLI
  go_wp2_with fail
  refine HEN.out.mono ?_
  rintro x w5 ⟨v, rfl, hv⟩
  rw [v0_chk, if_pos rfl] at hv
  rw [v0_chk]
  obtain ⟨ao, cp, rfl, hgr, hao, ho5⟩ := hv
  have HS5 := hid hgr.src
  have HO5 := hid (HO4.out.trans ho5 (fun _ _ e => e))
  have HB5 := hid (blk_only HB4.out ho5 (fun e => e))
  have HV5 := hid (HV4.out.same ho5)
  have HDE := hid (vdecode_c HS5.out (by decide))
  clear hgr hao ho5 HEN
  go_wp2_with fail
  refine HDE.out.mono ?_
  rintro x w6 ⟨cs, rfl, hv6, ho6⟩
  rw [vd_enc v0_chk v0_rg, v0_cl] at hv6
  rw [vd_enc v0_chk v0_rg]
  obtain ⟨k1, n1, s1, a1, m1, c1, rfl⟩ := hv6.form
  have hn6 := only_new w6 (.cells #[.int .i64 k1, .int .i64 n1, .string (strOf s1), .slice a1 m1 c1] 24)
  have HO6 := hid ((HO5.out.trans ho6 (fun _ _ e => e)).trans hn6 (fun _ _ e => e))
  have HB6 := hid (blk_alloc (o' := .cells #[.int .i64 k1, .int .i64 n1, .string (strOf s1), .slice a1 m1 c1] 24) (blk_only HB5.out ho6 (fun e => e)))
  have HD6 := hid (blk_new w6 (.cells #[.int .i64 k1, .int .i64 n1, .string (strOf s1), .slice a1 m1 c1] 24))
  have HV6 := hid ((HV5.out.same ho6).same hn6)
  have HU6 := hid (hv6.same hn6)
  obtain ⟨w7, hw7⟩ : ∃ w7, w6.alloc (.cells #[.int .i64 k1, .int .i64 n1, .string (strOf s1), .slice a1 m1 c1] 24) = w7 := ⟨_, rfl⟩
  simp only [hw7] at HO6 HB6 HD6 HV6 HU6
  have hsz7 : w7.heap.size = w6.heap.size + 1 := by rw [← hw7]; exact World.size_alloc _ _
  have HSZ7 := hid hsz7
  have hs65 := ho6.size
  have h35 := blk_lt HB5.out
  have HW7 := hid hw7
  have HPR := hid (vprint_c (w := w7) HV6.out (fun k hk => by have := HGB.out k hk; omega) v0_rg (HT.out.only HO6.out) (by rw [v0_pr]; decide))
  rw [v0_pr] at HPR
  have hb60 := blk_only HB5.out ho6 (fun e => e)
  have d0 : w6.cell? ⟨w3.heap.size, 0, none⟩ = some (.int .i64 k0) := cell_blk hb60 0
  have d1 : w6.cell? ⟨w3.heap.size, 1, none⟩ = some (.int .i64 n0) := cell_blk hb60 1
  have d2 : w6.cell? ⟨w3.heap.size, 2, none⟩ = some (.string (strOf s0)) := cell_blk hb60 2
  have d3 : w6.cell? ⟨w3.heap.size, 3, none⟩ = some (.slice a0 m0 c0) := cell_blk hb60 3
  rw [← HW7.out] at HPR
  have hlt7 : w3.heap.size < w6.heap.size := by omega
  clear hb60 hv6 ho6 hn6 HDE hw7 hsz7 hs65 h35
  go_wp2_with fail
  refine HPR.out.mono ?_
  rintro x w8 ⟨rfl, ho8⟩
  rw [HW7.out] at ho8
  have HO8 := hid (HO6.out.trans ho8 (fun _ _ e => e))
  have HB8 := hid (blk_only HB6.out ho8 (fun e => e))
  have HD8 := hid (blk_only HD6.out ho8 (fun e => e))
  have HV8 := hid (HV6.out.same ho8)
  have HU8 := hid (HU6.out.same ho8)
  have HPA := hid (parse_c (w := w8) [91, 53, 32, 34, 97, 34, 93] (by decide) (HT.out.only HO8.out) (HR.out.same HO8.out))
  have hpar := parA_pr v0_chk v0_rg
  rw [v0_pr, v0_cl] at hpar
  rw [hpar] at HPA
  have hs8 := ho8.size
  have HS8 := hid hs8
  clear ho8 hpar HPR d0 d1 d2 d3 hlt7 hs8
  go_wp2_with fail
  refine HPA.out.mono ?_
  rintro x w9 ⟨cs, rfl, hv9, ho9⟩
  obtain ⟨k2, n2, s2, a2, m2, c2, rfl⟩ := hv9.form
  have hn9 := only_new w9 (.cells #[.int .i64 k2, .int .i64 n2, .string (strOf s2), .slice a2 m2 c2] 24)
  have ho89 := ho9.trans hn9 (fun _ _ e => e)
  have HO9 := hid (HO8.out.trans ho89 (fun _ _ e => e))
  have HV9 := hid (HV8.out.same ho89)
  have HU9 := hid (HU8.out.same ho89)
  have HW9 := hid (hv9.same hn9)
  have hb9 := blk_only HB8.out ho9 (fun e => e)
  have hd9 := blk_only HD8.out ho9 (fun e => e)
  have HB9 := hid (blk_only HB8.out ho89 (fun e => e))
  have HD9 := hid (blk_only HD8.out ho89 (fun e => e))
  have HN9 := hid (blk_new w9 (.cells #[.int .i64 k2, .int .i64 n2, .string (strOf s2), .slice a2 m2 c2] 24))
  have b0 : w9.cell? ⟨w3.heap.size, 0, none⟩ = some (.int .i64 k0) := cell_blk hb9 0
  have b1 : w9.cell? ⟨w3.heap.size, 1, none⟩ = some (.int .i64 n0) := cell_blk hb9 1
  have b2 : w9.cell? ⟨w3.heap.size, 2, none⟩ = some (.string (strOf s0)) := cell_blk hb9 2
  have b3 : w9.cell? ⟨w3.heap.size, 3, none⟩ = some (.slice a0 m0 c0) := cell_blk hb9 3
  have e0 : w9.cell? ⟨w6.heap.size, 0, none⟩ = some (.int .i64 k1) := cell_blk hd9 0
  have e1 : w9.cell? ⟨w6.heap.size, 1, none⟩ = some (.int .i64 n1) := cell_blk hd9 1
  have e2 : w9.cell? ⟨w6.heap.size, 2, none⟩ = some (.string (strOf s1)) := cell_blk hd9 2
  have e3 : w9.cell? ⟨w6.heap.size, 3, none⟩ = some (.slice a1 m1 c1) := cell_blk hd9 3
  have hlb9 := blk_lt hb9
  have hld9 := blk_lt hd9
  have HSA := hid (vsame_c HU9.out HV9.out v0_rg v0_rg)
  have hcm : (v0.cmp v0 == 0) = true := by rw [v0_cmp]; rfl
  rw [hcm] at HSA
  have HCM := hid hcm
  clear hv9 ho9 hn9 ho89 HPA hcm hb9 hd9
  go_wp2_with fail
  refine HSA.out.mono ?_
  rintro x w10 ⟨rfl, ho10⟩
  have HO10 := hid (HO9.out.trans ho10 (fun _ _ e => e))
  have HB10 := hid (blk_only HB9.out ho10 (fun e => e))
  have HN10 := hid (blk_only HN9.out ho10 (fun e => e))
  have HV10 := hid (HV9.out.same ho10)
  have HW10 := hid (HW9.out.same ho10)
  have HSB := hid (vsame_c HW10.out HV10.out v0_rg v0_rg)
  rw [HCM.out] at HSB
  clear ho10 HSA b0 b1 b2 b3 e0 e1 e2 e3 hlb9 hld9
  have b0 : w10.cell? ⟨w3.heap.size, 0, none⟩ = some (.int .i64 k0) := cell_blk HB10.out 0
  have b1 : w10.cell? ⟨w3.heap.size, 1, none⟩ = some (.int .i64 n0) := cell_blk HB10.out 1
  have b2 : w10.cell? ⟨w3.heap.size, 2, none⟩ = some (.string (strOf s0)) := cell_blk HB10.out 2
  have b3 : w10.cell? ⟨w3.heap.size, 3, none⟩ = some (.slice a0 m0 c0) := cell_blk HB10.out 3
  have f0 : w10.cell? ⟨w9.heap.size, 0, none⟩ = some (.int .i64 k2) := cell_blk HN10.out 0
  have f1 : w10.cell? ⟨w9.heap.size, 1, none⟩ = some (.int .i64 n2) := cell_blk HN10.out 1
  have f2 : w10.cell? ⟨w9.heap.size, 2, none⟩ = some (.string (strOf s2)) := cell_blk HN10.out 2
  have f3 : w10.cell? ⟨w9.heap.size, 3, none⟩ = some (.slice a2 m2 c2) := cell_blk HN10.out 3
  have hlb10 := blk_lt HB10.out
  have hln10 := blk_lt HN10.out
  go_wp2_with fail
  refine HSB.out.mono ?_
  rintro x w11 ⟨rfl, ho11⟩
  have HO11 := hid (HO10.out.trans ho11 (fun _ _ e => e))
  have HB11 := hid (blk_only HB10.out ho11 (fun e => e))
  have HV11 := hid (HV10.out.same ho11)
  have HPR := hid (vprint_c (w := w11) HV11.out (fun k hk => by have h1 := HGB.out k hk; have h2 := blk_lt HB11.out; omega) v0_rg (HT.out.only HO11.out) (by rw [v0_pr]; decide))
  rw [v0_pr] at HPR
  have hcs : (strOf [91, 53, 32, 34, 97, 34, 93]).toList = [91, 53, 32, 34, 97, 34, 93] := strOf_list _
  clear ho11 HSB b0 b1 b2 b3 f0 f1 f2 f3 hlb10 hln10
  have b0 : w11.cell? ⟨w3.heap.size, 0, none⟩ = some (.int .i64 k0) := cell_blk HB11.out 0
  have b1 : w11.cell? ⟨w3.heap.size, 1, none⟩ = some (.int .i64 n0) := cell_blk HB11.out 1
  have b2 : w11.cell? ⟨w3.heap.size, 2, none⟩ = some (.string (strOf s0)) := cell_blk HB11.out 2
  have b3 : w11.cell? ⟨w3.heap.size, 3, none⟩ = some (.slice a0 m0 c0) := cell_blk HB11.out 3
  have hlb11 := blk_lt HB11.out
  go_wp2_with fail
  refine HPR.out.mono ?_
  rintro x w12 ⟨rfl, ho12⟩
  have HO12 := hid (HO11.out.trans ho12 (fun _ _ e => e))
  have HB12 := hid (blk_only HB11.out ho12 (fun e => e))
  have HV12 := hid (HV11.out.same ho12)
  have HBT := hid (bool_c (w := w12) true)
  clear ho12 HPR b0 b1 b2 b3 hlb11
  go_wp2_with fail
  refine HBT.out.mono ?_
  rintro x w13 ⟨rfl, ho13⟩
  have HO13 := hid (HO12.out.trans ho13 (fun _ _ e => e))
  have HB13 := hid (blk_only HB12.out ho13 (fun e => e))
  have HV13 := hid (HV12.out.same ho13)
  have HTT := hid (true_c (w := w13) (G := fun _ => False) (novls _ _ 1 1 []))
  rw [show (VT.mk 1 1 [] []).tru = true by decide] at HTT
  clear ho13 HBT
  go_wp2_with fail
  refine HTT.out.mono ?_
  rintro x w14 ⟨rfl, ho14⟩
  have HO14 := hid (HO13.out.trans ho14 (fun _ _ e => e))
  have HB14 := hid (blk_only HB13.out ho14 (fun e => e))
  have HV14 := hid (HV13.out.same ho14)
  have HBF := hid (bool_c (w := w14) false)
  clear ho14 HTT
  go_wp2_with fail
  refine HBF.out.mono ?_
  rintro x w15 ⟨rfl, ho15⟩
  have HO15 := hid (HO14.out.trans ho15 (fun _ _ e => e))
  have HB15 := hid (blk_only HB14.out ho15 (fun e => e))
  have HV15 := hid (HV14.out.same ho15)
  have HTF := hid (true_c (w := w15) (G := fun _ => False) (novls _ _ 1 0 []))
  rw [show (VT.mk 1 0 [] []).tru = false by decide] at HTF
  clear ho15 HBF
  go_wp2_with fail
  refine HTF.out.mono ?_
  rintro x w16 ⟨rfl, ho16⟩
  have HO16 := hid (HO15.out.trans ho16 (fun _ _ e => e))
  have HB16 := hid (blk_only HB15.out ho16 (fun e => e))
  have HV16 := hid (HV15.out.same ho16)
  have HPT := hid (partsC _ v0 (Nat.le_refl _) w16 _ _ HV16.out (by rw [v0_sz]; decide))
  rw [v0_parts] at HPT
  have b0 : w16.cell? ⟨w3.heap.size, 0, none⟩ = some (.int .i64 k0) := cell_blk HB16.out 0
  have b1 : w16.cell? ⟨w3.heap.size, 1, none⟩ = some (.int .i64 n0) := cell_blk HB16.out 1
  have b2 : w16.cell? ⟨w3.heap.size, 2, none⟩ = some (.string (strOf s0)) := cell_blk HB16.out 2
  have b3 : w16.cell? ⟨w3.heap.size, 3, none⟩ = some (.slice a0 m0 c0) := cell_blk HB16.out 3
  have hlb16 := blk_lt HB16.out
  clear ho16 HTF
  go_wp2_with fail
  refine HPT.out.mono ?_
  rintro x w17 ⟨rfl, ho17⟩
  have HO17 := hid (HO16.out.trans ho17 (fun _ _ e => e))
  clear ho17 HPT
  go_wp2_with fail
  go_ret
  exact ⟨rfl, HO17.out⟩
end
end Go.Proofs.YtbhlggnggdmpmaaGreatDoor

