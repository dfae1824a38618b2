/- ValueDecodes's walk. -/
import Derived.Test.YtbhlggnggdmpmaaGreatDoorVHolds
import Derived.Test.YtbhlggnggdmpmaaGreatDoorRf03
import Derived.Test.YtbhlggnggdmpmaaGreatDoorOpenW
namespace Go.Proofs.YtbhlggnggdmpmaaGreatDoor
open Go.RowKit

theorem vdec_ok {l : List UInt8} (h : (vdR l).2 = 0) : (vdR l).1.chk = 0 ∧ (vdR l).1.rg ∧ (vdR l).1.wr = l := by
  have hd : (RdM.of l).val.2.done = 0 := h
  have h1 : (vdR l).1 = (RdM.of l).val.1 := by unfold vdR; simp only; rw [if_neg (by simpa using hd)]
  have he : (RdM.of l).val.2.err = 0 ∧ ¬ (RdM.of l).val.2.at' < (RdM.of l).val.2.b.length := by
    unfold RdM.done at hd
    by_cases g : (RdM.of l).val.2.err = 0 ∧ (RdM.of l).val.2.at' < (RdM.of l).val.2.b.length
    · rw [if_pos g] at hd; simp at hd
    · rw [if_neg g] at hd; exact ⟨hd, fun x => g ⟨hd, x⟩⟩
  obtain ⟨e, post, e1, e2, e3, -, e4⟩ := val_inv (r := RdM.of l) rfl he.1
  rw [h1, e1]
  refine ⟨e3, e4, ?_⟩
  have h2 := he.2
  rw [e1] at h2
  have e2' : l = e.wr ++ post := by simpa [RdM.rest, RdM.of] using e2
  have h3 : ¬ e.wr.length < l.length := by simpa [RdM.adv, RdM.of] using h2
  have : post = [] := by
    rw [e2', List.length_append] at h3
    exact List.eq_nil_of_length_eq_zero (by omega)
  show e.wr = l
  rw [e2', this, List.append_nil]
theorem vdec_no {l : List UInt8} (h : (vdR l).2 ≠ 0) : (vdR l).1 = .nil := by
  unfold vdR at h ⊢
  simp only at h ⊢
  rw [if_pos h]
section
variable {w : World}
set_option maxRecDepth 100000 in
theorem good_c {t : VT} {G : Nat → Prop} {cs : List Value} (hV : VAt w G t cs) (hg : t.rg) : Calls Tryz.prog 21 #[.agg cs.toArray] w fun x w' => x = .returned (.bool (t.chk == 0)) ∧ Only (fun _ => False) w w' := by
  obtain ⟨k, n, s, a, m, c, rfl⟩ := hV.form
  have ho := only_new w (.cells #[.int .i64 k, .int .i64 n, .string (strOf s), .slice a m c] 24)
  have HC := hid (rfcheck_c (hV.same ho) hg)
  have HO := hid ho
  obtain ⟨ck, hck⟩ : ∃ y, t.chk = y := ⟨_, rfl⟩
  rw [hck] at HC ⊢
  clear hV hg ho hck
  go_enter Tryz.func21, Tryz.ntmps21
  go_wp2_with fail
  refine HC.out.mono ?_
  rintro x w2 ⟨rfl, ho2⟩
  have HO2 := hid (HO.out.trans ho2 (fun _ _ e => e))
  clear ho2
  go_wp2_with fail
  go_ret
  exact ⟨rfl, HO2.out⟩
set_option maxRecDepth 100000 in
set_option maxHeartbeats 3200000 in
theorem vdecodes_c (hT : Tab w) (hR : Ers w) {v : Value} {l : List UInt8} (hs : Src w v l) : Calls Tryz.prog 4 #[v] w fun x w' => x = .returned (.bool true) ∧ Only (fun _ => False) w w' := by
  have HTL := hid (holds_c hT hR)
  have HS := hid hs
  obtain ⟨a0, cp0, rfl⟩ := hs.len
  clear hT hR hs
  go_enter Tryz.func4, Tryz.ntmps4
  go_wp2_with fail
  refine HTL.out.mono ?_
  rintro x w1 ⟨rfl, ho1⟩
  have HO1 := hid ho1
  have HS1 := hid (HS.out.same ho1)
  clear ho1 HTL
  by_cases h2000 : 2000 < (l.length : Int)
  · go_wp2_with fail
    go_ret
    exact ⟨rfl, HO1.out⟩
  have HD := hid (vdecode_c HS1.out (by omega))
  have hok := vdec_ok (l := l)
  have hno := vdec_no (l := l)
  go_wp2_with fail
  refine HD.out.mono ?_
  rintro x w2 ⟨cs, rfl, hev, ho2⟩
  obtain ⟨⟨t, d⟩, hde⟩ : ∃ x, vdR l = x := ⟨_, rfl⟩
  rw [hde] at hok hno hev ⊢
  simp only at hok hno hev ⊢
  obtain ⟨k, n, s, a, m, c, rfl⟩ := hev.form
  have hn := only_new w2 (.cells #[.int .i64 k, .int .i64 n, .string (strOf s), .slice a m c] 24)
  have HO2 := hid (HO1.out.trans ho2 (fun _ _ e => e))
  have HEV := hid (hev.same hn)
  have HB := hid (blk_new w2 (.cells #[.int .i64 k, .int .i64 n, .string (strOf s), .slice a m c] 24))
  have HO3 := hid (HO2.out.trans hn (fun _ _ e => e))
  have HS3 := hid ((HS1.out.same ho2).same hn)
  clear ho2 HD hde hn
  by_cases hd : d = 0
  · subst hd
    obtain ⟨hck, hrg, hwr⟩ := hok rfl
    have HEN := hid (vencode_c HEV.out (fun k hk => by have := hk.2; simp; omega) hrg)
    have Hrg := hid hrg
    have HCK := hid hck; have HWR := hid hwr
    clear hok hno hrg hwr hck hev
    go_wp2_with fail
    refine HEN.out.mono ?_
    rintro x w4 ⟨v4, rfl, hv4⟩
    rw [HCK.out, if_pos rfl, HWR.out] at hv4
    rw [HCK.out]
    obtain ⟨ao, cp, rfl, hgr, -, ho4⟩ := hv4
    have HS4 := hid hgr.src
    have HB4 := hid (blk_only HB.out ho4 (fun e => e))
    have HO4 := hid (HO3.out.trans ho4 (fun _ _ e => e))
    have HS5 := hid (HS3.out.same ho4)
    have HRC := hid (good_c (HEV.out.same ho4) Hrg.out)
    rw [HCK.out] at HRC
    clear hgr ho4 HEN
    have c0 : w4.cell? ⟨w2.heap.size, 0, none⟩ = some (.int .i64 k) := cell_blk HB4.out 0
    have c1 : w4.cell? ⟨w2.heap.size, 1, none⟩ = some (.int .i64 n) := cell_blk HB4.out 1
    have c2 : w4.cell? ⟨w2.heap.size, 2, none⟩ = some (.string (strOf s)) := cell_blk HB4.out 2
    have c3 : w4.cell? ⟨w2.heap.size, 3, none⟩ = some (.slice a m c) := cell_blk HB4.out 3
    have hlw0 : w2.heap.size < w4.heap.size := blk_lt HB4.out
    go_wp2_with fail
    refine HRC.out.mono ?_
    rintro x w6 ⟨rfl, ho6⟩
    have HO6 := hid (HO4.out.trans ho6 (fun _ _ e => e))
    have hcv1 := conv_str (HS4.out.same ho6)
    have hcv2 := conv_str (HS5.out.same ho6)
    clear ho6 HRC
    go_wp2_with fail
    go_ret
    exact ⟨rfl, HO6.out⟩
  · have hdb : (d != 0) = true := by simpa using hd
    have hz := hno hd
    subst hz
    have hev' := hev
    unfold VT.nil at hev'
    rw [VAt] at hev'
    obtain ⟨a', cap, g, o, hcs, -⟩ := hev'
    simp only [List.cons.injEq, Value.int.injEq, true_and, Value.string.injEq, Value.slice.injEq, and_true, List.length_nil] at hcs
    obtain ⟨rfl, rfl, hs0, rfl, rfl, rfl⟩ := hcs
    have hs1 := strOf_inj hs0
    subst hs1
    have hse : (strOf []).toList.isEmpty = true := by rw [strOf_list]; rfl
    clear hok hno hd hev hs0
    go_wp2_with fail
    go_ret
    exact ⟨rfl, HO3.out⟩
end
end Go.Proofs.YtbhlggnggdmpmaaGreatDoor
