/- ValueCuts's walk. -/
import Derived.Test.YtbhlggnggdmpmaaGreatDoorVFits
import Derived.Test.YtbhlggnggdmpmaaGreatDoorVDecs
namespace Go.Proofs.YtbhlggnggdmpmaaGreatDoor
open Go.RowKit

theorem vdec_cut {t : VT} (hc : t.chk = 0) (hr : t.rg) {c : Nat} (hl : c < t.wr.length) : (vdR (t.wr.take c)).2 = 6 := by
  have h1 := val_cut (r := RdM.of (t.wr.take c)) (cut := c) hr hc rfl hl (by simp [RdM.of, RdM.rest])
  show (RdM.of (t.wr.take c)).val.2.done = 6
  unfold RdM.done
  rw [h1]; simp
theorem vread_more {t : VT} (hc : t.chk = 0) (hr : t.rg) (m : List UInt8) : (RdM.of (t.wr ++ m)).val = (t.cl, (RdM.of (t.wr ++ m)).adv t.wr.length) :=
  val_rt (r := RdM.of (t.wr ++ m)) (post := m) hr hc rfl (by simp [RdM.of, RdM.rest])
theorem vdec_more {t : VT} (hc : t.chk = 0) (hr : t.rg) (m : List UInt8) (hm : 0 < m.length) : (vdR (t.wr ++ m)).2 = 8 := by
  show (RdM.of (t.wr ++ m)).val.2.done = 8
  rw [vread_more hc hr m]
  simp only [RdM.done, RdM.adv, RdM.of, List.length_append]
  rw [if_pos ⟨trivial, by omega⟩]
theorem Src.take {w : World} {ao : Option Addr} {n cap : Nat} {l : List UInt8} (h : Src w (.slice ao n cap) l) (c c' : Nat) (hc : c ≤ l.length) : Src w (.slice ao c c') (l.take c) := by
  obtain ⟨a, cp, e, hs⟩ := h
  simp only [Value.slice.injEq] at e
  obtain ⟨rfl, rfl, rfl⟩ := e
  refine ⟨_, c', by rw [List.length_take, Nat.min_eq_left hc], fun hne => ?_⟩
  have hl : l ≠ [] := by rintro rfl; simp at hne
  obtain ⟨g, o, rfl, hcl⟩ := hs hl
  refine ⟨g, o, rfl, fun i u hu => hcl i u ?_⟩
  rw [bytesV_get] at hu ⊢
  by_cases hi : i < c
  · rw [List.getElem?_take_of_lt hi] at hu; exact hu
  · rw [List.getElem?_eq_none (by rw [List.length_take]; omega)] at hu; cases hu
theorem Src.sg {w : World} {a : Option Addr} {n c : Nat} {l : List UInt8} (h : Src w (.slice a n c) l) : SrcG w a n 1 (bytesV l) := by
  obtain ⟨a', c', e, hs⟩ := h.g
  simp only [Value.slice.injEq] at e
  obtain ⟨rfl, rfl, rfl⟩ := e
  exact hs
section
variable {w : World}
set_option maxRecDepth 100000 in
set_option maxHeartbeats 3200000 in
theorem vcuts_c (hT : Tab w) (hR : Ers w) {t : VT} {G : Nat → Prop} {cs : List Value} (hV : VAt w G t cs) (hG : ∀ k, G k → k < w.heap.size) (hg : t.rg) (cut : Int) {mv : Value} {ms : List UInt8} (hM : Src w mv ms) (hml : ms.length ≤ 9223372036854775807) : Calls Tryz.prog 9 #[.agg cs.toArray, .int .i64 cut, mv] w fun x w' => x = .returned (.bool true) ∧ Only (fun _ => False) w w' := by
  obtain ⟨k, n, s, a, m, c, rfl⟩ := hV.form
  obtain ⟨ma, mc, rfl⟩ := hM.len
  have ho0 := only_new w (.cells #[.int .i64 k, .int .i64 n, .string (strOf s), .slice a m c] 24)
  have HTL := hid (holds_c (hT.only ho0) (hR.same ho0))
  have HT := hid hT; have HR := hid hR; have HV := hid hV; have HG := hid hG; have Hg := hid hg; have HM := hid hM
  have HB0 := hid (blk_new w (.cells #[.int .i64 k, .int .i64 n, .string (strOf s), .slice a m c] 24))
  have HO0 := hid ho0
  clear hT hR hV hG hg ho0 hM
  go_enter Tryz.func9, Tryz.ntmps9
  go_wp2_with fail
  refine HTL.out.mono ?_
  rintro x w1 ⟨rfl, ho1⟩
  have HB1 := hid (blk_only HB0.out ho1 (fun e => e))
  have HO1 := hid (HO0.out.trans ho1 (fun _ _ e => e))
  clear ho1 HTL
  have HSM := hid (fits_c (w := w1.alloc (.cells #[.int .i64 k, .int .i64 n, .string (strOf s), .slice a m c] 24)) (VsV.one (w := w1.alloc (.cells #[.int .i64 k, .int .i64 n, .string (strOf s), .slice a m c] 24)) (blk_new w1 _) (HV.out.same (HO1.out.trans (only_new w1 _) (fun _ _ e => e)))) (fun k hk => by have := HO1.out.size; rcases hk with rfl | hk; simp; have := HG.out k hk; simp; omega) (fun e' he' => by rw [List.mem_singleton.1 he']; exact Hg.out) (by simp))
  have b0 : w1.cell? ⟨w.heap.size, 0, none⟩ = some (.int .i64 k) := cell_blk HB1.out 0
  have b1 : w1.cell? ⟨w.heap.size, 1, none⟩ = some (.int .i64 n) := cell_blk HB1.out 1
  have b2 : w1.cell? ⟨w.heap.size, 2, none⟩ = some (.string (strOf s)) := cell_blk HB1.out 2
  have b3 : w1.cell? ⟨w.heap.size, 3, none⟩ = some (.slice a m c) := cell_blk HB1.out 3
  have hlw1 : w.heap.size < w1.heap.size := blk_lt HB1.out
  obtain ⟨sm, hsm⟩ : ∃ b, smV [t] 400 = b := ⟨_, rfl⟩
  rw [hsm] at HSM
  clear hsm
  cases sm with
  | false =>
    go_wp2_with fail
    refine HSM.out.mono ?_
    rintro x w2 ⟨rfl, ho2⟩
    have HO2 := hid (HO1.out.trans ((only_new w1 _).trans ho2 (fun _ _ e => e)) (fun _ _ e => e))
    clear ho2
    go_wp2_with fail
    go_ret
    exact ⟨rfl, HO2.out⟩
  | true =>
  go_wp2_with fail
  refine HSM.out.mono ?_
  rintro x w2 ⟨rfl, ho2⟩
  have ho12 := (only_new w1 (.cells #[.int .i64 k, .int .i64 n, .string (strOf s), .slice a m c] 24)).trans ho2 (fun _ _ e => e)
  have HB2 := hid (blk_only HB1.out ho12 (fun e => e))
  have HO2 := hid (HO1.out.trans ho12 (fun _ _ e => e))
  have HGD := hid (good_c (HV.out.same HO2.out) Hg.out)
  obtain ⟨ck, hck⟩ : ∃ y, t.chk = y := ⟨_, rfl⟩
  rw [hck] at HGD
  have HCK := hid hck
  clear ho2 ho12 HSM hck b0 b1 b2 b3 hlw1
  have b0 : w2.cell? ⟨w.heap.size, 0, none⟩ = some (.int .i64 k) := cell_blk HB2.out 0
  have b1 : w2.cell? ⟨w.heap.size, 1, none⟩ = some (.int .i64 n) := cell_blk HB2.out 1
  have b2 : w2.cell? ⟨w.heap.size, 2, none⟩ = some (.string (strOf s)) := cell_blk HB2.out 2
  have b3 : w2.cell? ⟨w.heap.size, 3, none⟩ = some (.slice a m c) := cell_blk HB2.out 3
  have hlw2 : w.heap.size < w2.heap.size := blk_lt HB2.out
  by_cases hc0 : ck = 0
  case neg =>
    have hcb : (ck == 0) = false := by simpa using hc0
    rw [hcb] at HGD
    clear hc0
    go_wp2_with fail
    refine HGD.out.mono ?_
    rintro x w3 ⟨rfl, ho3⟩
    have HO3 := hid (HO2.out.trans ho3 (fun _ _ e => e))
    clear ho3
    go_wp2_with fail
    go_ret
    exact ⟨rfl, HO3.out⟩
  subst hc0
  rw [show ((0 : Int) == 0) = true from rfl] at HGD
  by_cases hm1 : 100 < (ms.length : Int)
  · go_wp2_with fail
    refine HGD.out.mono ?_
    rintro x w3 ⟨rfl, ho3⟩
    have HO3 := hid (HO2.out.trans ho3 (fun _ _ e => e))
    clear ho3
    go_wp2_with fail
    go_ret
    exact ⟨rfl, HO3.out⟩
  by_cases hm0 : (ms.length : Int) = 0
  · have hmb : ((ms.length : Int) == 0) = true := by simpa using hm0
    go_wp2_with fail
    refine HGD.out.mono ?_
    rintro x w3 ⟨rfl, ho3⟩
    have HO3 := hid (HO2.out.trans ho3 (fun _ _ e => e))
    clear ho3
    go_wp2_with fail
    go_ret
    exact ⟨rfl, HO3.out⟩
  have hmb : ((ms.length : Int) == 0) = false := by simpa using hm0
  have hmp : 0 < ms.length := by omega
  go_wp2_with fail
  refine HGD.out.mono ?_
  rintro x w3 ⟨rfl, ho3⟩
  have HB3 := hid (blk_only HB2.out ho3 (fun e => e))
  have HO3 := hid (HO2.out.trans ho3 (fun _ _ e => e))
  have HEN := hid (vencode_c (HV.out.same HO3.out) (fun k hk => by have := HG.out k hk; have := HO3.out.size; omega) Hg.out)
  clear ho3 HGD b0 b1 b2 b3 hlw2
  have b0 : w3.cell? ⟨w.heap.size, 0, none⟩ = some (.int .i64 k) := cell_blk HB3.out 0
  have b1 : w3.cell? ⟨w.heap.size, 1, none⟩ = some (.int .i64 n) := cell_blk HB3.out 1
  have b2 : w3.cell? ⟨w.heap.size, 2, none⟩ = some (.string (strOf s)) := cell_blk HB3.out 2
  have b3 : w3.cell? ⟨w.heap.size, 3, none⟩ = some (.slice a m c) := cell_blk HB3.out 3
  have hlw3 : w.heap.size < w3.heap.size := blk_lt HB3.out
  go_wp2_with fail
  refine HEN.out.mono ?_
  rintro x w4 ⟨v4, rfl, hv4⟩
  rw [HCK.out, if_pos rfl] at hv4
  rw [HCK.out]
  have hwl := (chk_walk HCK.out).choose_spec.2
  have hdc := fun c hc => vdec_cut HCK.out Hg.out (c := c) hc
  have hdm := vdec_more HCK.out Hg.out ms hmp
  have hrm := vread_more HCK.out Hg.out ms
  obtain ⟨wr, hwr⟩ : ∃ x, t.wr = x := ⟨_, rfl⟩
  rw [hwr] at hwl hv4 hdm hrm
  simp only [hwr] at hdc
  obtain ⟨ao, cp, rfl, hgr, -, ho4⟩ := hv4
  have HDC := hid hdc; have HDM := hid hdm; have HRM := hid hrm
  have HS4 := hid hgr.src
  have HB4 := hid (blk_only HB3.out ho4 (fun e => e))
  have HO4 := hid (HO3.out.trans ho4 (fun _ _ e => e))
  have hcap := hgr.2.1
  clear ho4 HEN hdc hdm hrm hwr b0 b1 b2 b3 hlw3
  by_cases hc1 : cut < 0
  · go_wp2_with fail
    go_ret
    exact ⟨rfl, HO4.out⟩
  by_cases hc2 : (wr.length : Int) ≤ cut
  · go_wp2_with fail
    go_ret
    exact ⟨rfl, HO4.out⟩
  obtain ⟨cn, rfl⟩ := Int.eq_ofNat_of_zero_le (by omega : 0 ≤ cut)
  obtain ⟨g, rfl, hcell⟩ := hgr.cells (by omega)
  have HGR := hid hgr
  have HD1 := hid (vdecode_c (HS4.out.take cn cp (by omega)) (by rw [List.length_take]; omega))
  clear hgr hcell
  go_wp2_with fail
  refine HD1.out.mono ?_
  rintro x w5 ⟨cs5, rfl, hev5, ho5⟩
  rw [HDC.out cn (by omega)]
  obtain ⟨k5, n5, s5, a5, m5, c5, rfl⟩ := hev5.form
  have ho6 := ho5.trans (only_new w5 (.cells #[.int .i64 k5, .int .i64 n5, .string (strOf s5), .slice a5 m5 c5] 24)) (fun _ _ e => e)
  have HO6 := hid (HO4.out.trans ho6 (fun _ _ e => e))
  have HB6 := hid (blk_only HB4.out ho6 (fun e => e))
  have hgr6 := HGR.out.only ho6 (fun _ _ e => e)
  have ho7 := only_new (w5.alloc (.cells #[.int .i64 k5, .int .i64 n5, .string (strOf s5), .slice a5 m5 c5] 24)) (.cells #[] 5)
  have HG6 := hid hgr6
  obtain ⟨a9, c9', e9, hsg⟩ := (hgr6.only ho7 (fun _ _ e => e)).src.g
  simp only [Value.slice.injEq, true_and] at e9
  obtain ⟨rfl, rfl⟩ := e9
  have HSG := hid hsg
  have HGE : Hid (Gr ((w5.alloc (.cells #[.int .i64 k5, .int .i64 n5, .string (strOf s5), .slice a5 m5 c5] 24)).alloc (.cells #[] 5)) 5 1 (some ⟨w5.heap.size + 1, 0, none⟩) 0 0 []) := hid ⟨rfl, Nat.le_refl _, .inr ⟨_, rfl, [], (by have := blk_new (w5.alloc (.cells #[.int .i64 k5, .int .i64 n5, .string (strOf s5), .slice a5 m5 c5] 24)) (.cells #[] 5); rw [World.size_alloc] at this; exact this), rfl⟩⟩
  have HO7 := hid (HO6.out.trans ho7 (fun _ _ e => e))
  have HB7 := hid (blk_only HB6.out ho7 (fun e => e))
  have HQ5 := hid ho6
  have HQ7 := hid (ho6.trans ho7 (fun _ _ e => e))
  have HSX := hid (fun (wx : World) (h : Only (fun _ => False) w4 wx) => (HGR.out.only h (fun _ _ e => e)).src.sg)
  have HMX := hid (fun (wx : World) (h : Only (fun _ => False) w wx) => (HM.out.same h).sg)
  clear hev5 ho5 ho6 ho7 hgr6 hsg HD1
  go_wp2_with (first
    | (refine wpList_gr (o := ⟨some 59, _, _, _, _, _⟩) rfl el8 (.tmp 57) (.tmp 58) rfl HGE.out rfl _ wr.length cp rfl (bytesV wr) HSG.out (by omega) (by omega) ?_; intro ao8 cp8 w8 hg8 ha8 ho8; rw [Nat.zero_add, List.nil_append] at hg8; have Hg8 := hid hg8; have Ha8 := hid ha8; have Ho8 := hid ho8; have HX8 := hid (HMX.out w8 (HO7.out.trans ho8 (fun k hk e => by simp only [Option.some.injEq, Addr.mk.injEq, and_true] at e; have := HO6.out.size; simp only [World.size_alloc] at this; omega))); clear hg8 ha8 ho8)
    | (refine wpList_gr (o := ⟨some 61, _, _, _, _, _⟩) rfl el8 (.tmp 59) (.tmp 60) rfl Hg8.out rfl _ ms.length mc rfl (bytesV ms) HX8.out (by omega) (by omega) ?_; intro ao9 cp9 w9 hg9 ha9 ho9; rw [← bytesV_append] at hg9; have Hg9 := hid hg9; have Ha9 := hid ha9; have Ho9 := hid ho9; clear hg9 ha9 ho9))
  have hsz5 := HO6.out.size
  have hsz7 := HO7.out.size
  have hsz4 := HO4.out.size
  have hq45 := HQ5.out.size
  simp only [World.size_alloc] at hsz5 hsz7 hq45
  have HQ8 := hid (HQ7.out.trans Ho8.out (fun k hk e => by simp only [Option.some.injEq, Addr.mk.injEq, and_true] at e; omega))
  have HQ9 := hid (HQ8.out.trans Ho9.out (fun k hk e => by
    rcases Ha8.out with h | h
    · rw [h] at e; simp only [Option.some.injEq, Addr.mk.injEq, and_true] at e; omega
    · rw [h] at e; simp only [Option.some.injEq, Addr.mk.injEq, and_true, World.size_alloc] at e; omega))
  have HD9 := hid (vdecode_c Hg9.out.src (by rw [List.length_append]; omega))
  refine HD9.out.mono ?_
  rintro x w10 ⟨cs10, rfl, hev10, ho10⟩
  rw [HDM.out]
  obtain ⟨k7, n7, s7, a7, m7, c7, rfl⟩ := hev10.form
  have HQ10 := hid ((HQ9.out.trans ho10 (fun _ _ e => e)).trans (only_new w10 (.cells #[.int .i64 k7, .int .i64 n7, .string (strOf s7), .slice a7 m7 c7] 24)) (fun _ _ e => e))
  have HQ11 := hid (HQ10.out.trans (only_new (w10.alloc (.cells #[.int .i64 k7, .int .i64 n7, .string (strOf s7), .slice a7 m7 c7] 24)) (.cells #[] 5)) (fun _ _ e => e))
  have HSW := hid (HSX.out _ HQ11.out)
  have HGF : Hid (Gr ((w10.alloc (.cells #[.int .i64 k7, .int .i64 n7, .string (strOf s7), .slice a7 m7 c7] 24)).alloc (.cells #[] 5)) 5 1 (some ⟨w10.heap.size + 1, 0, none⟩) 0 0 []) := hid ⟨rfl, Nat.le_refl _, .inr ⟨_, rfl, [], (by have := blk_new (w10.alloc (.cells #[.int .i64 k7, .int .i64 n7, .string (strOf s7), .slice a7 m7 c7] 24)) (.cells #[] 5); rw [World.size_alloc] at this; exact this), rfl⟩⟩
  have hq10 := (HQ9.out.trans ho10 (fun _ _ e => e)).size
  clear hev10 ho10 HD9
  go_wp2_with (first
    | (refine wpList_gr (o := ⟨some 67, _, _, _, _, _⟩) rfl el8 (.tmp 65) (.tmp 66) rfl HGF.out rfl _ wr.length cp rfl (bytesV wr) HSW.out (by omega) (by omega) ?_; intro ao11 cp11 w11 hg11 ha11 ho11; rw [Nat.zero_add, List.nil_append] at hg11; have Hg11 := hid hg11; have Ha11 := hid ha11; have Ho11 := hid ho11; have HQ12 := hid (HQ11.out.trans ho11 (fun k hk e => by simp only [Option.some.injEq, Addr.mk.injEq, and_true] at e; omega)); have HX11 := hid (HMX.out w11 (HO4.out.trans HQ12.out (fun _ _ e => e))); clear hg11 ha11 ho11)
    | (refine wpList_gr (o := ⟨some 69, _, _, _, _, _⟩) rfl el8 (.tmp 67) (.tmp 68) rfl Hg11.out rfl _ ms.length mc rfl (bytesV ms) HX11.out (by omega) (by omega) ?_; intro ao12 cp12 w12 hg12 ha12 ho12; rw [← bytesV_append] at hg12; have Hg12 := hid hg12; have Ha12 := hid ha12; have Ho12 := hid ho12; clear hg12 ha12 ho12))
  have HQ13 := hid (HQ12.out.trans Ho12.out (fun k hk e => by
    rcases Ha11.out with h | h
    · rw [h] at e; simp only [Option.some.injEq, Addr.mk.injEq, and_true] at e; omega
    · rw [h] at e; simp only [Option.some.injEq, Addr.mk.injEq, and_true, World.size_alloc] at e; omega))
  have HRD := hid (read_c _ _ Hg12.out.src (by rw [List.length_append]; omega))
  refine HRD.out.mono ?_
  rintro x w13 ⟨rb, rg, rfl, hr, hb, hgb, ho13⟩
  have HQ14 := hid (HQ13.out.trans ho13 (fun _ _ e => e))
  have HVR := hid (vread_c hr)
  rw [HRM.out] at HVR
  have hrl := hr.lt
  have hq13 := HQ13.out.size
  clear hr ho13 HRD
  go_wp2_with fail
  refine HVR.out.mono ?_
  rintro x w14 ⟨cs14, rfl, hv14, hr14, ho14⟩
  simp only at hv14 hr14
  obtain ⟨k8, n8, s8, a8, m8, c8, rfl⟩ := hv14.form
  have HQ15 := hid ((HQ14.out.trans ho14 (fun k hk e => by have e' : k = rb := e; omega)).trans (only_new w14 (.cells #[.int .i64 k8, .int .i64 n8, .string (strOf s8), .slice a8 m8 c8] 24)) (fun _ _ e => e))
  have HU := hid (hv14.same (only_new w14 (.cells #[.int .i64 k8, .int .i64 n8, .string (strOf s8), .slice a8 m8 c8] 24)))
  have HRR := hid (hr14.same (only_new w14 (.cells #[.int .i64 k8, .int .i64 n8, .string (strOf s8), .slice a8 m8 c8] 24)))
  have hbb := blk_only HB4.out HQ15.out (fun e => e)
  have hub := blk_new w14 (.cells #[.int .i64 k8, .int .i64 n8, .string (strOf s8), .slice a8 m8 c8] 24)
  have b0 : (w14.alloc (.cells #[.int .i64 k8, .int .i64 n8, .string (strOf s8), .slice a8 m8 c8] 24)).cell? ⟨w.heap.size, 0, none⟩ = some (.int .i64 k) := cell_blk hbb 0
  have b1 : (w14.alloc (.cells #[.int .i64 k8, .int .i64 n8, .string (strOf s8), .slice a8 m8 c8] 24)).cell? ⟨w.heap.size, 1, none⟩ = some (.int .i64 n) := cell_blk hbb 1
  have b2 : (w14.alloc (.cells #[.int .i64 k8, .int .i64 n8, .string (strOf s8), .slice a8 m8 c8] 24)).cell? ⟨w.heap.size, 2, none⟩ = some (.string (strOf s)) := cell_blk hbb 2
  have b3 : (w14.alloc (.cells #[.int .i64 k8, .int .i64 n8, .string (strOf s8), .slice a8 m8 c8] 24)).cell? ⟨w.heap.size, 3, none⟩ = some (.slice a m c) := cell_blk hbb 3
  have u0 : (w14.alloc (.cells #[.int .i64 k8, .int .i64 n8, .string (strOf s8), .slice a8 m8 c8] 24)).cell? ⟨w14.heap.size, 0, none⟩ = some (.int .i64 k8) := cell_blk hub 0
  have u1 : (w14.alloc (.cells #[.int .i64 k8, .int .i64 n8, .string (strOf s8), .slice a8 m8 c8] 24)).cell? ⟨w14.heap.size, 1, none⟩ = some (.int .i64 n8) := cell_blk hub 1
  have u2 : (w14.alloc (.cells #[.int .i64 k8, .int .i64 n8, .string (strOf s8), .slice a8 m8 c8] 24)).cell? ⟨w14.heap.size, 2, none⟩ = some (.string (strOf s8)) := cell_blk hub 2
  have u3 : (w14.alloc (.cells #[.int .i64 k8, .int .i64 n8, .string (strOf s8), .slice a8 m8 c8] 24)).cell? ⟨w14.heap.size, 3, none⟩ = some (.slice a8 m8 c8) := cell_blk hub 3
  have hlb := blk_lt hbb
  have hlu := blk_lt hub
  have HSA := hid (vsame_c HU.out (HV.out.same (HO4.out.trans HQ15.out (fun _ _ e => e))) (cl_rg _ Hg.out) Hg.out)
  rw [show (t.cl.cmp t == 0) = true by rw [cmp_cl]; rfl] at HSA
  clear hv14 hr14 ho14 HVR hbb hub
  go_wp2_with fail
  refine HSA.out.mono ?_
  rintro x w16 ⟨rfl, ho16⟩
  have HO16 := hid ((HO4.out.trans HQ15.out (fun _ _ e => e)).trans ho16 (fun _ _ e => e))
  have HLF := hid (rleft_c (HRR.out.same ho16) (show ((RdM.of (wr ++ ms)).adv wr.length).err = 0 from rfl))
  rw [show ((RdM.of (wr ++ ms)).adv wr.length).b.length - ((RdM.of (wr ++ ms)).adv wr.length).at' = ms.length by simp [RdM.adv, RdM.of]] at HLF
  clear ho16 HSA
  go_wp2_with fail
  refine HLF.out.mono ?_
  rintro x w17 ⟨rfl, nd, rfl⟩
  go_wp2_with fail
  go_ret
  exact ⟨rfl, HO16.out.trans (only_drewN _ _) (fun _ _ e => e)⟩
end
end Go.Proofs.YtbhlggnggdmpmaaGreatDoor
