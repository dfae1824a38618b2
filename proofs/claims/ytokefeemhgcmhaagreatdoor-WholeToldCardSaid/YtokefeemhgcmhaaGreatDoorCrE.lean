/- package cron: a part of a field. -/
import Derived.Test.YtokefeemhgcmhaaGreatDoorCrD
import Derived.Test.YtokefeemhgcmhaaGreatDoorShelf
namespace Go.Proofs.YtokefeemhgcmhaaGreatDoor
open Go.RowKit
def MaxL (w : World) : Prop := ∃ m, w.cell? ⟨1, 0, none⟩ = some (.int .i64 m)
theorem MaxL.only {w w' : World} {F : Nat → Prop} (h : MaxL w) (ho : Only F w w') (hF : ¬ F 1) : MaxL w' := by
  obtain ⟨m, hm⟩ := h
  exact ⟨m, (World.cell?_of_block (ho.block _ (World.block_lt_of_cell? _ _ hm) hF)).trans hm⟩
def shlI (n : Nat) : Int := IntKind.u64.wrap (2 ^ n)
def rangeG (te step : Nat) : Nat → Nat → Int → Int
  | 0, _, out => out
  | f + 1, n, out => if te < n then out else rangeG te step f (n + step) (bits .or .u64 out (shlI n))
def finR (lo hi fr te step : Nat) : Int × Int := if fr < lo ∨ hi < te ∨ te < fr then (0, 1) else (rangeG te step (te + 1) fr 0, 0)
def bodyR (lo hi step : Nat) (stepped : Bool) (b : List UInt8) : Int × Int :=
  if b = [42] then finR lo hi lo hi step
  else if (numR (Lib.cut b [45]).1).2 = false then (0, 8)
  else if (Lib.cut b [45]).2.2 = true then (if (numR (Lib.cut b [45]).2.1).2 = false then (0, 8) else finR lo hi (numR (Lib.cut b [45]).1).1 (numR (Lib.cut b [45]).2.1).1 step)
  else finR lo hi (numR (Lib.cut b [45]).1).1 (if stepped = true then hi else (numR (Lib.cut b [45]).1).1) step
def partR (lo hi : Nat) (s : List UInt8) : Int × Int :=
  if (Lib.cut s [47]).2.2 = true then
    (if (numR (Lib.cut s [47]).2.1).2 = false then (0, 8) else if (numR (Lib.cut s [47]).2.1).1 = 0 then (0, 1)
      else bodyR lo hi (numR (Lib.cut s [47]).2.1).1 true (Lib.cut s [47]).1)
  else bodyR lo hi 1 false (Lib.cut s [47]).1
theorem cut_len (s sep : List UInt8) : (Lib.cut s sep).1.length ≤ s.length ∧ (Lib.cut s sep).2.1.length ≤ s.length := by
  unfold Lib.cut
  split
  · simp only [List.length_take, List.length_drop]; omega
  · exact ⟨Nat.le_refl _, Nat.zero_le _⟩
section
variable {w : World}
theorem crcut_c (hm : MaxL w) (s : List UInt8) (c : UInt8) (hs : s.length ≤ 1000000000) : Calls Tryz.prog 76 #[.string (strOf s), .string ⟨#[c]⟩] w fun e w' => e = .returned (.tuple #[.string (strOf (Lib.cut s [c]).1), .string (strOf (Lib.cut s [c]).2.1), .bool (Lib.cut s [c]).2.2]) ∧ Only (fun _ => False) w w' := by
  obtain ⟨m, hm⟩ := hm
  have hz : (strOf s).size = s.length := rfl
  refine (Tryz.strings_Cut (strOf s) ⟨#[c]⟩ m w (by omega) hm).mono ?_
  rintro e w' ⟨h1, n, rfl⟩
  exact ⟨h1, only_drewN _ _⟩
theorem crspans_c : Calls Tryz.prog 31 #[] w fun e w' => e = .returned (.agg #[.int .i64 0, .int .i64 59, .int .i64 0, .int .i64 23, .int .i64 1, .int .i64 31, .int .i64 1, .int .i64 12, .int .i64 0, .int .i64 6]) ∧ Only (fun _ => False) w w' := by
  have hi : (Tryz.prog.info? 78).map (·.size) = some 10 := by kernel_rfl
  have ho := only_new w (.cells #[.int .i64 0, .int .i64 59, .int .i64 0, .int .i64 23, .int .i64 1, .int .i64 31, .int .i64 1, .int .i64 12, .int .i64 0, .int .i64 6] 78)
  have hb := blk_new w (.cells #[.int .i64 0, .int .i64 59, .int .i64 0, .int .i64 23, .int .i64 1, .int .i64 31, .int .i64 1, .int .i64 12, .int .i64 0, .int .i64 6] 78)
  go_enter Tryz.func31, Tryz.ntmps31
  go_wp2_with fail
  exact bodyPost_ret (results_cell_row rfl _ _ w.heap.size 78 _ (0, 0) _ rfl hb Tryz.underlying78 rfl hi) rfl ⟨rfl, ho⟩
set_option maxRecDepth 100000 in
set_option maxHeartbeats 12800000 in
theorem crpart_c (hm : MaxL w) (lo hi : Nat) (hlh : lo ≤ hi) (hh : hi ≤ 63) (s : List UInt8) (hs : s.length ≤ 1000) : Calls Tryz.prog 55 #[.agg #[.int .i64 (lo : Nat), .int .i64 (hi : Nat)], .string (strOf s)] w fun e w' => e = .returned (.tuple #[.int .u64 (partR lo hi s).1, .int .i64 (partR lo hi s).2]) ∧ Only (fun _ => False) w w' := by
  obtain ⟨w1, hw1⟩ : ∃ x, w.alloc (.cells #[.int .i64 (lo : Nat), .int .i64 (hi : Nat)] 77) = x := ⟨_, rfl⟩
  have hb1 : w1.heap[w.heap.size]? = some (.cells #[.int .i64 (lo : Nat), .int .i64 (hi : Nat)] 77 (0, 0)) := by rw [← hw1]; exact blk_new _ _
  have ho1 : Only (fun _ => False) w w1 := by rw [← hw1]; exact only_new _ _
  obtain ⟨gs, hgs⟩ : ∃ x, w.heap.size = x := ⟨_, rfl⟩
  rw [hgs] at hb1
  have HGS := hid hgs
  have HB1 := hid hb1; have HO1 := hid ho1; have HM1 := hid (hm.only ho1 (fun e => e)); have HW1 := hid hw1
  have hcl := cut_len s [47]
  have HC1 := hid (crcut_c (w := w1) HM1.out s 47 (by omega))
  obtain ⟨⟨b, ev, stp⟩, hc⟩ : ∃ x, Lib.cut s [47] = x := ⟨_, rfl⟩
  obtain ⟨R, hR⟩ : ∃ x, partR lo hi s = x := ⟨_, rfl⟩
  rw [hR]
  have hp : (if stp = true then (if (numR ev).2 = false then (0, 8) else if (numR ev).1 = 0 then (0, 1) else bodyR lo hi (numR ev).1 true b) else bodyR lo hi 1 false b) = R := by rw [← hR]; unfold partR; rw [hc]
  rw [hc] at HC1 hcl
  simp only at HC1 hcl
  have HCL := hid hcl; have HP := hid hp
  clear hp hR hc hm hb1 ho1 hw1 hcl hgs
  go_enter Tryz.func55, Tryz.ntmps55
  go_upto_region 1 with fail
  rw [HW1.out, HGS.out]
  clear HW1 HGS
  go_wp2_with fail
  refine HC1.out.mono ?_
  rintro x w2 ⟨rfl, ho2⟩
  have HO2 := hid (HO1.out.trans ho2 (fun _ _ e => e))
  have HB2 := hid (blk_only HB1.out ho2 (fun e => e))
  have HM2 := hid (HM1.out.only ho2 (fun e => e))
  have HN1 := hid (crnum_c (w := w2) ev (by have := HCL.out.2; omega))
  have hn99 := numR_le ev
  obtain ⟨⟨N, okN⟩, hN⟩ : ∃ x, numR ev = x := ⟨_, rfl⟩
  rw [hN] at HN1 hn99
  have hp := HP.out
  rw [hN] at hp
  simp only at hp hn99
  have HP' := hid hp
  clear ho2 HC1 HB1 HM1 HO1 hN hp HP
  cases stp
  · have HR : Hid (bodyR lo hi 1 false b = R) := hid (by have h := HP'.out; simpa using h)
    clear HN1 HP'
    have HBA : Hid (∀ W, Only (fun _ => False) w2 W → W.heap[gs]? = some (.cells #[.int .i64 (lo : Nat), .int .i64 (hi : Nat)] 77 (0, 0))) := hid fun W hW => blk_only HB2.out hW (fun e => e)
    go_upto_region 10 with fail
    refine region_pt 5 [] (by kernel_rfl) (by kernel_rfl) (by kernel_rfl) [(40, fun _ v => v = .pointer (some ⟨gs, 0, none⟩)), (41, fun _ v => v = .int .i64 (lo : Nat)), (42, fun _ v => v = .pointer (some ⟨gs, 1, none⟩)), (43, fun _ v => v = .int .i64 (hi : Nat)), (12, fun _ v => v = .int .i64 (lo : Nat))] (fun _ W => Only (fun _ => False) w2 W) (by show [40, 41, 42, 43, 12].Nodup; decide) (by show ∀ d ∈ [40, 41, 42, 43, 12], d < 101; decide) ((Only.refl _ _).drew) (.inl rfl) ?_ ?_ ?_
    · exact trivial
    · have hstab : PtStabs (Only (fun _ => False)) [(40, fun _ v => v = .pointer (some ⟨gs, 0, none⟩)), (41, fun _ v => v = .int .i64 (lo : Nat)), (42, fun _ v => v = .pointer (some ⟨gs, 1, none⟩)), (43, fun _ v => v = .int .i64 (hi : Nat)), (12, fun _ v => v = .int .i64 (lo : Nat))] := ⟨fun _ _ _ _ h => h, fun _ _ _ _ h => h, fun _ _ _ _ h => h, fun _ _ _ _ h => h, fun _ _ _ _ h => h, trivial⟩
      refine PtAllS.cons rfl ⟨rfl, rfl⟩ ?_ (PtAllS.cons rfl ⟨rfl, rfl⟩ ?_ (PtAllS.cons rfl ⟨rfl, rfl⟩ ?_ (PtAllS.cons rfl ⟨rfl, rfl⟩ ?_ (PtAllS.cons rfl ⟨rfl, rfl⟩ ?_ (PtAllS.nil rfl)))))
      · intro L a W K hI hn hd hK
        have e2 : a.eval (.tmp 2) = .pointer (some ⟨gs, 0, none⟩) := hI.ev 2 (by show ¬ (2 ∈ [40, 41, 42, 43, 12]); decide) rfl
        exact pt_val (v := .pointer (some ⟨gs, 0, none⟩)) (by unfold execOp; simp only [e2]; kernel_rfl) (hK _ _ hI.j PtKeep.refl rfl)
      · intro L a W K hI hn hd hK
        have e40 : a.eval (.tmp 40) = .pointer (some ⟨gs, 0, none⟩) := hI.fact 0 40 _ rfl (dep_of hd 0 (by kernel_rfl))
        exact pt_load _ (.tmp 40) rfl ⟨gs, 0, none⟩ (.int .i64 (lo : Nat)) _ e40 (cell_blk (HBA.out W hI.j) 0) Tryz.underlying3 rfl (hK _ _ hI.j PtKeep.refl rfl)
      · intro L a W K hI hn hd hK
        have e2 : a.eval (.tmp 2) = .pointer (some ⟨gs, 0, none⟩) := hI.ev 2 (by show ¬ (2 ∈ [40, 41, 42, 43, 12]); decide) rfl
        exact pt_val (v := .pointer (some ⟨gs, 1, none⟩)) (by unfold execOp; simp only [e2]; kernel_rfl) (hK _ _ hI.j PtKeep.refl rfl)
      · intro L a W K hI hn hd hK
        have e42 : a.eval (.tmp 42) = .pointer (some ⟨gs, 1, none⟩) := hI.fact 2 42 _ rfl (dep_of hd 2 (by kernel_rfl))
        exact pt_load _ (.tmp 42) rfl ⟨gs, 1, none⟩ (.int .i64 (hi : Nat)) _ e42 (cell_blk (HBA.out W hI.j) 1) Tryz.underlying3 rfl (hK _ _ hI.j PtKeep.refl rfl)
      · intro L a W K hI hn hd hK
        have e41 : a.eval (.tmp 41) = .int .i64 (lo : Nat) := hI.fact 1 41 _ rfl (dep_of hd 1 (by kernel_rfl))
        exact pt_move _ (by first | exact .inl rfl | exact .inr rfl) _ e41 (hK _ _ hI.j PtKeep.refl rfl)
    · intro L a w4 hal hj hfs
      dsimp only [PtAll] at hfs
      obtain ⟨f40, f41, f42, f43, f12, -⟩ := hfs
      have hA := hal.turned
      simp only [List.map_cons, List.map_nil, Act.turned, f40, f41, f42, f43, f12] at hA
      simp only [Act.put, List.setIfInBounds_toArray, List.set_cons_zero, List.set_cons_succ] at hA
      clear hal f40 f41 f42 f43 f12
      subst hA
      change wpList _ _ _ [_] _ _
      have HO4 := hid (HO2.out.trans hj (fun _ _ e => e))
      have HB4 := hid (HBA.out _ hj)
      have HM4 := hid (HM2.out.only hj (fun e => e))
      clear HBA hj
      have hr := HR.out
      unfold bodyR at hr
      clear HR
      by_cases hst : b = [42]
      · subst hst
        rw [if_pos rfl] at hr
        have HF := hid hr
        clear hr HCL
        have ht : ((strOf [42]).toList == [42]) = true := by rw [strOf_list]; rfl
        have hf := HF.out
        unfold finR at hf
        have HF2 := hid hf
        clear hf HF
        have c0 : w4.cell? ⟨gs, 0, none⟩ = some (.int .i64 (lo : Nat)) := cell_blk HB4.out 0
        have c1 : w4.cell? ⟨gs, 1, none⟩ = some (.int .i64 (hi : Nat)) := cell_blk HB4.out 1
        have h1d : True := trivial
        have h2d : True := trivial
        have h3d : decide (hi < lo) = false := decide_eq_false (by omega)
        obtain ⟨r, hr0⟩ : ∃ x, rangeG hi 1 (hi + 1) lo 0 = x := ⟨_, rfl⟩
        have hr : R = (r, 0) := by rw [← HF2.out, if_neg (by omega), hr0]
        have HR0 := hid hr0
        clear hr0 HF2
        subst hr
        go_wp2_with fail
        clear h1d h2d h3d c0 c1
        go_loopw [19, 20] (fun o v wr => ∃ (n f : Nat) (x : Int), v = .int .i64 (n : Nat) ∧ o = .int .u64 x ∧ hi + 1 ≤ n + f ∧ n ≤ 63 + 1 ∧ rangeG hi 1 f n x = r ∧ wr = w4) (fun _ v _ => hi + 1 - (intOf v).toNat)
        case atStart => exact ⟨lo, hi + 1, 0, rfl, rfl, by omega, by omega, HR0.out, rfl⟩
        case round =>
          obtain ⟨n, f, x, rfl, rfl, hnf, hn63, hg, rfl⟩ := hrel
          have HG := hid hg
          clear hg HR0
          by_cases hnt : n ≤ hi
          · have hnd : decide (n ≤ hi) = true := decide_eq_true hnt
            obtain ⟨f, rfl⟩ : ∃ f', f = f' + 1 := ⟨f - 1, by omega⟩
            have hg := HG.out
            rw [rangeG, if_neg (by omega)] at hg
            have HG2 := hid hg
            clear hg HG
            have hlt : n < 64 := by omega
            go_wp2_with fail
            go_roundw
            case rel => exact ⟨n + 1, f, bits .or .u64 x (shlI n), by go_num, rfl, by omega, by omega, HG2.out, trivial⟩
            case measure => simp [intOf]; omega
          · have hnd : decide (n ≤ hi) = false := decide_eq_false hnt
            obtain rfl : x = r := by
              have h := HG.out
              cases f with
              | zero => rw [rangeG] at h; exact h
              | succ f => rw [rangeG, if_pos (by omega)] at h; exact h
            clear HG
            go_wp2_with fail
            go_ret2
            exact ⟨rfl, HO4.out⟩
      rw [if_neg hst] at hr
      have ht : ((strOf b).toList == [42]) = false := by rw [strOf_list]; exact beq_eq_false_iff_ne.2 hst
      have hcl2 := cut_len b [45]
      have HC2 := hid (crcut_c (w := w4) HM4.out b 45 (by have := HCL.out; omega))
      obtain ⟨⟨ca, cb, rg⟩, hc2⟩ : ∃ x, Lib.cut b [45] = x := ⟨_, rfl⟩
      rw [hc2] at HC2 hcl2 hr
      simp only at HC2 hcl2 hr
      have hna := numR_le ca
      have hnb := numR_le cb
      have HNA : Hid (∀ W, Calls Tryz.prog 77 #[.string (strOf ca)] W fun e w' => e = .returned (.tuple #[.int .i64 ((numR ca).1 : Nat), .bool (numR ca).2]) ∧ W = w') := hid fun W => (crnum_c (w := W) ca (by have := HCL.out; omega)).mono fun e w' ⟨h1, h2⟩ => ⟨h1, h2.symm⟩
      have HNB : Hid (∀ W, Calls Tryz.prog 77 #[.string (strOf cb)] W fun e w' => e = .returned (.tuple #[.int .i64 ((numR cb).1 : Nat), .bool (numR cb).2]) ∧ W = w') := hid fun W => (crnum_c (w := W) cb (by have := HCL.out; omega)).mono fun e w' ⟨h1, h2⟩ => ⟨h1, h2.symm⟩
      obtain ⟨⟨na, oa⟩, ha⟩ : ∃ x, numR ca = x := ⟨_, rfl⟩
      obtain ⟨⟨nb, ob⟩, hb⟩ : ∃ x, numR cb = x := ⟨_, rfl⟩
      rw [ha] at HNA hna hr
      rw [hb] at HNB hnb hr
      simp only at HNA HNB hna hnb hr
      have HR := hid hr
      clear hr hcl2 hc2 ha hb hst HCL
      go_wp2_with fail
      refine HC2.out.mono ?_
      rintro x w5 ⟨rfl, ho5⟩
      have HO5 := hid (HO4.out.trans ho5 (fun _ _ e => e))
      have HB5 := hid (blk_only HB4.out ho5 (fun e => e))
      clear ho5 HC2 HB4 HO4 HM4
      go_wp2_with fail
      refine (HNA.out _).mono ?_
      rintro x w6 ⟨rfl, rfl⟩
      clear HNA ht
      cases oa
      · obtain rfl : (0, 8) = R := by have h := HR.out; simpa using h
        clear HR HNB
        go_wp2_with fail
        go_ret2
        exact ⟨rfl, HO5.out⟩
      cases rg
      · have HF : Hid (finR lo hi na na 1 = R) := hid (by have h := HR.out; simpa using h)
        clear HR HNB
        have hf := HF.out
        unfold finR at hf
        have HF2 := hid hf
        clear hf HF
        have c0 : w5.cell? ⟨gs, 0, none⟩ = some (.int .i64 (lo : Nat)) := cell_blk HB5.out 0
        have c1 : w5.cell? ⟨gs, 1, none⟩ = some (.int .i64 (hi : Nat)) := cell_blk HB5.out 1
        by_cases h1 : na < lo
        · have h1d : decide (na < lo) = true := decide_eq_true h1
          have hr : R = (0, 1) := by rw [← HF2.out, if_pos (by omega)]
          clear HF2
          subst hr
          go_wp2_with fail
          go_ret2
          exact ⟨rfl, HO5.out⟩
        have h1d : decide (na < lo) = false := decide_eq_false h1
        by_cases h2 : hi < na
        · have h2d : decide (hi < na) = true := decide_eq_true h2
          have hr : R = (0, 1) := by rw [← HF2.out, if_pos (by omega)]
          clear HF2
          subst hr
          go_wp2_with fail
          go_ret2
          exact ⟨rfl, HO5.out⟩
        have h2d : decide (hi < na) = false := decide_eq_false h2
        have h3d : True := trivial
        obtain ⟨r, hr0⟩ : ∃ x, rangeG na 1 (na + 1) na 0 = x := ⟨_, rfl⟩
        have hr : R = (r, 0) := by rw [← HF2.out, if_neg (by omega), hr0]
        have HR0 := hid hr0
        clear hr0 HF2
        subst hr
        go_wp2_with fail
        clear h1d h2d h3d c0 c1
        go_loopw [19, 20] (fun o v wr => ∃ (n f : Nat) (x : Int), v = .int .i64 (n : Nat) ∧ o = .int .u64 x ∧ na + 1 ≤ n + f ∧ n ≤ 63 + 1 ∧ rangeG na 1 f n x = r ∧ wr = w5) (fun _ v _ => na + 1 - (intOf v).toNat)
        case atStart => exact ⟨na, na + 1, 0, rfl, rfl, by omega, by omega, HR0.out, rfl⟩
        case round =>
          obtain ⟨n, f, x, rfl, rfl, hnf, hn63, hg, rfl⟩ := hrel
          have HG := hid hg
          clear hg HR0
          by_cases hnt : n ≤ na
          · have hnd : decide (n ≤ na) = true := decide_eq_true hnt
            obtain ⟨f, rfl⟩ : ∃ f', f = f' + 1 := ⟨f - 1, by omega⟩
            have hg := HG.out
            rw [rangeG, if_neg (by omega)] at hg
            have HG2 := hid hg
            clear hg HG
            have hlt : n < 64 := by omega
            go_wp2_with fail
            go_roundw
            case rel => exact ⟨n + 1, f, bits .or .u64 x (shlI n), by go_num, rfl, by omega, by omega, HG2.out, trivial⟩
            case measure => simp [intOf]; omega
          · have hnd : decide (n ≤ na) = false := decide_eq_false hnt
            obtain rfl : x = r := by
              have h := HG.out
              cases f with
              | zero => rw [rangeG] at h; exact h
              | succ f => rw [rangeG, if_pos (by omega)] at h; exact h
            clear HG
            go_wp2_with fail
            go_ret2
            exact ⟨rfl, HO5.out⟩
      cases ob
      · obtain rfl : (0, 8) = R := by have h := HR.out; simpa using h
        clear HR
        go_wp2_with fail
        refine (HNB.out _).mono ?_
        rintro x w7 ⟨rfl, rfl⟩
        go_wp2_with fail
        go_ret2
        exact ⟨rfl, HO5.out⟩
      have HF : Hid (finR lo hi na nb 1 = R) := hid (by have h := HR.out; simpa using h)
      clear HR
      go_wp2_with fail
      refine (HNB.out _).mono ?_
      rintro x w7 ⟨rfl, rfl⟩
      clear HNB
      have hf := HF.out
      unfold finR at hf
      have HF2 := hid hf
      clear hf HF
      have c0 : w5.cell? ⟨gs, 0, none⟩ = some (.int .i64 (lo : Nat)) := cell_blk HB5.out 0
      have c1 : w5.cell? ⟨gs, 1, none⟩ = some (.int .i64 (hi : Nat)) := cell_blk HB5.out 1
      by_cases h1 : na < lo
      · have h1d : decide (na < lo) = true := decide_eq_true h1
        have hr : R = (0, 1) := by rw [← HF2.out, if_pos (by omega)]
        clear HF2
        subst hr
        go_wp2_with fail
        go_ret2
        exact ⟨rfl, HO5.out⟩
      have h1d : decide (na < lo) = false := decide_eq_false h1
      by_cases h2 : hi < nb
      · have h2d : decide (hi < nb) = true := decide_eq_true h2
        have hr : R = (0, 1) := by rw [← HF2.out, if_pos (by omega)]
        clear HF2
        subst hr
        go_wp2_with fail
        go_ret2
        exact ⟨rfl, HO5.out⟩
      have h2d : decide (hi < nb) = false := decide_eq_false h2
      by_cases h3 : nb < na
      · have h3d : decide (nb < na) = true := decide_eq_true h3
        have hr : R = (0, 1) := by rw [← HF2.out, if_pos (by omega)]
        clear HF2
        subst hr
        go_wp2_with fail
        go_ret2
        exact ⟨rfl, HO5.out⟩
      have h3d : decide (nb < na) = false := decide_eq_false h3
      obtain ⟨r, hr0⟩ : ∃ x, rangeG nb 1 (nb + 1) na 0 = x := ⟨_, rfl⟩
      have hr : R = (r, 0) := by rw [← HF2.out, if_neg (by omega), hr0]
      have HR0 := hid hr0
      clear hr0 HF2
      subst hr
      go_wp2_with fail
      clear h1d h2d h3d c0 c1
      go_loopw [19, 20] (fun o v wr => ∃ (n f : Nat) (x : Int), v = .int .i64 (n : Nat) ∧ o = .int .u64 x ∧ nb + 1 ≤ n + f ∧ n ≤ 63 + 1 ∧ rangeG nb 1 f n x = r ∧ wr = w5) (fun _ v _ => nb + 1 - (intOf v).toNat)
      case atStart => exact ⟨na, nb + 1, 0, rfl, rfl, by omega, by omega, HR0.out, rfl⟩
      case round =>
        obtain ⟨n, f, x, rfl, rfl, hnf, hn63, hg, rfl⟩ := hrel
        have HG := hid hg
        clear hg HR0
        by_cases hnt : n ≤ nb
        · have hnd : decide (n ≤ nb) = true := decide_eq_true hnt
          obtain ⟨f, rfl⟩ : ∃ f', f = f' + 1 := ⟨f - 1, by omega⟩
          have hg := HG.out
          rw [rangeG, if_neg (by omega)] at hg
          have HG2 := hid hg
          clear hg HG
          have hlt : n < 64 := by omega
          go_wp2_with fail
          go_roundw
          case rel => exact ⟨n + 1, f, bits .or .u64 x (shlI n), by go_num, rfl, by omega, by omega, HG2.out, trivial⟩
          case measure => simp [intOf]; omega
        · have hnd : decide (n ≤ nb) = false := decide_eq_false hnt
          obtain rfl : x = r := by
            have h := HG.out
            cases f with
            | zero => rw [rangeG] at h; exact h
            | succ f => rw [rangeG, if_pos (by omega)] at h; exact h
          clear HG
          go_wp2_with fail
          go_ret2
          exact ⟨rfl, HO5.out⟩
  have hp := HP'.out
  clear HP'
  simp only [if_true] at hp
  cases okN
  · simp only [if_true] at hp
    subst hp
    go_wp2_with fail
    refine HN1.out.mono ?_
    rintro x w3 ⟨rfl, rfl⟩
    go_wp2_with fail
    go_ret2
    exact ⟨rfl, HO2.out⟩
  simp only [Bool.true_eq_false, if_false] at hp
  by_cases hN0 : N = 0
  · subst hN0
    rw [if_pos rfl] at hp
    subst hp
    go_wp2_with fail
    refine HN1.out.mono ?_
    rintro x w3 ⟨rfl, rfl⟩
    go_wp2_with fail
    go_ret2
    exact ⟨rfl, HO2.out⟩
  rw [if_neg hN0] at hp
  have HR := hid hp
  have hNb : ((N : Int) == 0) = false := beq_eq_false_iff_ne.2 (by omega)
  clear hp
  go_wp2_with fail
  refine HN1.out.mono ?_
  rintro x w3 ⟨rfl, rfl⟩
  have HBA : Hid (∀ W, Only (fun _ => False) w3 W → W.heap[gs]? = some (.cells #[.int .i64 (lo : Nat), .int .i64 (hi : Nat)] 77 (0, 0))) := hid fun W hW => blk_only HB2.out hW (fun e => e)
  go_upto_region 10 with fail
  refine region_pt 5 [] (by kernel_rfl) (by kernel_rfl) (by kernel_rfl) [(40, fun _ v => v = .pointer (some ⟨gs, 0, none⟩)), (41, fun _ v => v = .int .i64 (lo : Nat)), (42, fun _ v => v = .pointer (some ⟨gs, 1, none⟩)), (43, fun _ v => v = .int .i64 (hi : Nat)), (12, fun _ v => v = .int .i64 (lo : Nat))] (fun _ W => Only (fun _ => False) w3 W) (by show [40, 41, 42, 43, 12].Nodup; decide) (by show ∀ d ∈ [40, 41, 42, 43, 12], d < 101; decide) ((Only.refl _ _).drew) (.inl rfl) ?_ ?_ ?_
  · exact trivial
  · have hstab : PtStabs (Only (fun _ => False)) [(40, fun _ v => v = .pointer (some ⟨gs, 0, none⟩)), (41, fun _ v => v = .int .i64 (lo : Nat)), (42, fun _ v => v = .pointer (some ⟨gs, 1, none⟩)), (43, fun _ v => v = .int .i64 (hi : Nat)), (12, fun _ v => v = .int .i64 (lo : Nat))] := ⟨fun _ _ _ _ h => h, fun _ _ _ _ h => h, fun _ _ _ _ h => h, fun _ _ _ _ h => h, fun _ _ _ _ h => h, trivial⟩
    refine PtAllS.cons rfl ⟨rfl, rfl⟩ ?_ (PtAllS.cons rfl ⟨rfl, rfl⟩ ?_ (PtAllS.cons rfl ⟨rfl, rfl⟩ ?_ (PtAllS.cons rfl ⟨rfl, rfl⟩ ?_ (PtAllS.cons rfl ⟨rfl, rfl⟩ ?_ (PtAllS.nil rfl)))))
    · intro L a W K hI hn hd hK
      have e2 : a.eval (.tmp 2) = .pointer (some ⟨gs, 0, none⟩) := hI.ev 2 (by show ¬ (2 ∈ [40, 41, 42, 43, 12]); decide) rfl
      exact pt_val (v := .pointer (some ⟨gs, 0, none⟩)) (by unfold execOp; simp only [e2]; kernel_rfl) (hK _ _ hI.j PtKeep.refl rfl)
    · intro L a W K hI hn hd hK
      have e40 : a.eval (.tmp 40) = .pointer (some ⟨gs, 0, none⟩) := hI.fact 0 40 _ rfl (dep_of hd 0 (by kernel_rfl))
      exact pt_load _ (.tmp 40) rfl ⟨gs, 0, none⟩ (.int .i64 (lo : Nat)) _ e40 (cell_blk (HBA.out W hI.j) 0) Tryz.underlying3 rfl (hK _ _ hI.j PtKeep.refl rfl)
    · intro L a W K hI hn hd hK
      have e2 : a.eval (.tmp 2) = .pointer (some ⟨gs, 0, none⟩) := hI.ev 2 (by show ¬ (2 ∈ [40, 41, 42, 43, 12]); decide) rfl
      exact pt_val (v := .pointer (some ⟨gs, 1, none⟩)) (by unfold execOp; simp only [e2]; kernel_rfl) (hK _ _ hI.j PtKeep.refl rfl)
    · intro L a W K hI hn hd hK
      have e42 : a.eval (.tmp 42) = .pointer (some ⟨gs, 1, none⟩) := hI.fact 2 42 _ rfl (dep_of hd 2 (by kernel_rfl))
      exact pt_load _ (.tmp 42) rfl ⟨gs, 1, none⟩ (.int .i64 (hi : Nat)) _ e42 (cell_blk (HBA.out W hI.j) 1) Tryz.underlying3 rfl (hK _ _ hI.j PtKeep.refl rfl)
    · intro L a W K hI hn hd hK
      have e41 : a.eval (.tmp 41) = .int .i64 (lo : Nat) := hI.fact 1 41 _ rfl (dep_of hd 1 (by kernel_rfl))
      exact pt_move _ (by first | exact .inl rfl | exact .inr rfl) _ e41 (hK _ _ hI.j PtKeep.refl rfl)
  · intro L a w4 hal hj hfs
    dsimp only [PtAll] at hfs
    obtain ⟨f40, f41, f42, f43, f12, -⟩ := hfs
    have hA := hal.turned
    simp only [List.map_cons, List.map_nil, Act.turned, f40, f41, f42, f43, f12] at hA
    simp only [Act.put, List.setIfInBounds_toArray, List.set_cons_zero, List.set_cons_succ] at hA
    clear hal f40 f41 f42 f43 f12
    subst hA
    change wpList _ _ _ [_] _ _
    have HO4 := hid (HO2.out.trans hj (fun _ _ e => e))
    have HB4 := hid (HBA.out _ hj)
    have HM4 := hid (HM2.out.only hj (fun e => e))
    clear HBA hj
    have hr := HR.out
    unfold bodyR at hr
    clear HR
    by_cases hst : b = [42]
    · subst hst
      rw [if_pos rfl] at hr
      have HF := hid hr
      clear hr HCL
      have ht : ((strOf [42]).toList == [42]) = true := by rw [strOf_list]; rfl
      have hf := HF.out
      unfold finR at hf
      have HF2 := hid hf
      clear hf HF
      have c0 : w4.cell? ⟨gs, 0, none⟩ = some (.int .i64 (lo : Nat)) := cell_blk HB4.out 0
      have c1 : w4.cell? ⟨gs, 1, none⟩ = some (.int .i64 (hi : Nat)) := cell_blk HB4.out 1
      have h1d : True := trivial
      have h2d : True := trivial
      have h3d : decide (hi < lo) = false := decide_eq_false (by omega)
      obtain ⟨r, hr0⟩ : ∃ x, rangeG hi N (hi + 1) lo 0 = x := ⟨_, rfl⟩
      have hr : R = (r, 0) := by rw [← HF2.out, if_neg (by omega), hr0]
      have HR0 := hid hr0
      clear hr0 HF2
      subst hr
      go_wp2_with fail
      clear h1d h2d h3d c0 c1
      go_loopw [19, 20] (fun o v wr => ∃ (n f : Nat) (x : Int), v = .int .i64 (n : Nat) ∧ o = .int .u64 x ∧ hi + 1 ≤ n + f ∧ n ≤ 63 + N ∧ rangeG hi N f n x = r ∧ wr = w4) (fun _ v _ => hi + 1 - (intOf v).toNat)
      case atStart => exact ⟨lo, hi + 1, 0, rfl, rfl, by omega, by omega, HR0.out, rfl⟩
      case round =>
        obtain ⟨n, f, x, rfl, rfl, hnf, hn63, hg, rfl⟩ := hrel
        have HG := hid hg
        clear hg HR0
        by_cases hnt : n ≤ hi
        · have hnd : decide (n ≤ hi) = true := decide_eq_true hnt
          obtain ⟨f, rfl⟩ : ∃ f', f = f' + 1 := ⟨f - 1, by omega⟩
          have hg := HG.out
          rw [rangeG, if_neg (by omega)] at hg
          have HG2 := hid hg
          clear hg HG
          have hlt : n < 64 := by omega
          go_wp2_with fail
          go_roundw
          case rel => exact ⟨n + N, f, bits .or .u64 x (shlI n), by go_num, rfl, by omega, by omega, HG2.out, trivial⟩
          case measure => simp [intOf]; omega
        · have hnd : decide (n ≤ hi) = false := decide_eq_false hnt
          obtain rfl : x = r := by
            have h := HG.out
            cases f with
            | zero => rw [rangeG] at h; exact h
            | succ f => rw [rangeG, if_pos (by omega)] at h; exact h
          clear HG
          go_wp2_with fail
          go_ret2
          exact ⟨rfl, HO4.out⟩
    rw [if_neg hst] at hr
    have ht : ((strOf b).toList == [42]) = false := by rw [strOf_list]; exact beq_eq_false_iff_ne.2 hst
    have hcl2 := cut_len b [45]
    have HC2 := hid (crcut_c (w := w4) HM4.out b 45 (by have := HCL.out; omega))
    obtain ⟨⟨ca, cb, rg⟩, hc2⟩ : ∃ x, Lib.cut b [45] = x := ⟨_, rfl⟩
    rw [hc2] at HC2 hcl2 hr
    simp only at HC2 hcl2 hr
    have hna := numR_le ca
    have hnb := numR_le cb
    have HNA : Hid (∀ W, Calls Tryz.prog 77 #[.string (strOf ca)] W fun e w' => e = .returned (.tuple #[.int .i64 ((numR ca).1 : Nat), .bool (numR ca).2]) ∧ W = w') := hid fun W => (crnum_c (w := W) ca (by have := HCL.out; omega)).mono fun e w' ⟨h1, h2⟩ => ⟨h1, h2.symm⟩
    have HNB : Hid (∀ W, Calls Tryz.prog 77 #[.string (strOf cb)] W fun e w' => e = .returned (.tuple #[.int .i64 ((numR cb).1 : Nat), .bool (numR cb).2]) ∧ W = w') := hid fun W => (crnum_c (w := W) cb (by have := HCL.out; omega)).mono fun e w' ⟨h1, h2⟩ => ⟨h1, h2.symm⟩
    obtain ⟨⟨na, oa⟩, ha⟩ : ∃ x, numR ca = x := ⟨_, rfl⟩
    obtain ⟨⟨nb, ob⟩, hb⟩ : ∃ x, numR cb = x := ⟨_, rfl⟩
    rw [ha] at HNA hna hr
    rw [hb] at HNB hnb hr
    simp only at HNA HNB hna hnb hr
    have HR := hid hr
    clear hr hcl2 hc2 ha hb hst HCL
    go_wp2_with fail
    refine HC2.out.mono ?_
    rintro x w5 ⟨rfl, ho5⟩
    have HO5 := hid (HO4.out.trans ho5 (fun _ _ e => e))
    have HB5 := hid (blk_only HB4.out ho5 (fun e => e))
    clear ho5 HC2 HB4 HO4 HM4
    go_wp2_with fail
    refine (HNA.out _).mono ?_
    rintro x w6 ⟨rfl, rfl⟩
    clear HNA ht
    cases oa
    · obtain rfl : (0, 8) = R := by have h := HR.out; simpa using h
      clear HR HNB
      go_wp2_with fail
      go_ret2
      exact ⟨rfl, HO5.out⟩
    cases rg
    · have HF : Hid (finR lo hi na hi N = R) := hid (by have h := HR.out; simpa using h)
      clear HR HNB
      have hf := HF.out
      unfold finR at hf
      have HF2 := hid hf
      clear hf HF
      have c0 : w5.cell? ⟨gs, 0, none⟩ = some (.int .i64 (lo : Nat)) := cell_blk HB5.out 0
      have c1 : w5.cell? ⟨gs, 1, none⟩ = some (.int .i64 (hi : Nat)) := cell_blk HB5.out 1
      by_cases h1 : na < lo
      · have h1d : decide (na < lo) = true := decide_eq_true h1
        have hr : R = (0, 1) := by rw [← HF2.out, if_pos (by omega)]
        clear HF2
        subst hr
        go_wp2_with fail
        go_ret2
        exact ⟨rfl, HO5.out⟩
      have h1d : decide (na < lo) = false := decide_eq_false h1
      have h2d : True := trivial
      by_cases h3 : hi < na
      · have h3d : decide (hi < na) = true := decide_eq_true h3
        have hr : R = (0, 1) := by rw [← HF2.out, if_pos (by omega)]
        clear HF2
        subst hr
        go_wp2_with fail
        go_ret2
        exact ⟨rfl, HO5.out⟩
      have h3d : decide (hi < na) = false := decide_eq_false h3
      obtain ⟨r, hr0⟩ : ∃ x, rangeG hi N (hi + 1) na 0 = x := ⟨_, rfl⟩
      have hr : R = (r, 0) := by rw [← HF2.out, if_neg (by omega), hr0]
      have HR0 := hid hr0
      clear hr0 HF2
      subst hr
      go_wp2_with fail
      clear h1d h2d h3d c0 c1
      go_loopw [19, 20] (fun o v wr => ∃ (n f : Nat) (x : Int), v = .int .i64 (n : Nat) ∧ o = .int .u64 x ∧ hi + 1 ≤ n + f ∧ n ≤ 63 + N ∧ rangeG hi N f n x = r ∧ wr = w5) (fun _ v _ => hi + 1 - (intOf v).toNat)
      case atStart => exact ⟨na, hi + 1, 0, rfl, rfl, by omega, by omega, HR0.out, rfl⟩
      case round =>
        obtain ⟨n, f, x, rfl, rfl, hnf, hn63, hg, rfl⟩ := hrel
        have HG := hid hg
        clear hg HR0
        by_cases hnt : n ≤ hi
        · have hnd : decide (n ≤ hi) = true := decide_eq_true hnt
          obtain ⟨f, rfl⟩ : ∃ f', f = f' + 1 := ⟨f - 1, by omega⟩
          have hg := HG.out
          rw [rangeG, if_neg (by omega)] at hg
          have HG2 := hid hg
          clear hg HG
          have hlt : n < 64 := by omega
          go_wp2_with fail
          go_roundw
          case rel => exact ⟨n + N, f, bits .or .u64 x (shlI n), by go_num, rfl, by omega, by omega, HG2.out, trivial⟩
          case measure => simp [intOf]; omega
        · have hnd : decide (n ≤ hi) = false := decide_eq_false hnt
          obtain rfl : x = r := by
            have h := HG.out
            cases f with
            | zero => rw [rangeG] at h; exact h
            | succ f => rw [rangeG, if_pos (by omega)] at h; exact h
          clear HG
          go_wp2_with fail
          go_ret2
          exact ⟨rfl, HO5.out⟩
    cases ob
    · obtain rfl : (0, 8) = R := by have h := HR.out; simpa using h
      clear HR
      go_wp2_with fail
      refine (HNB.out _).mono ?_
      rintro x w7 ⟨rfl, rfl⟩
      go_wp2_with fail
      go_ret2
      exact ⟨rfl, HO5.out⟩
    have HF : Hid (finR lo hi na nb N = R) := hid (by have h := HR.out; simpa using h)
    clear HR
    go_wp2_with fail
    refine (HNB.out _).mono ?_
    rintro x w7 ⟨rfl, rfl⟩
    clear HNB
    have hf := HF.out
    unfold finR at hf
    have HF2 := hid hf
    clear hf HF
    have c0 : w5.cell? ⟨gs, 0, none⟩ = some (.int .i64 (lo : Nat)) := cell_blk HB5.out 0
    have c1 : w5.cell? ⟨gs, 1, none⟩ = some (.int .i64 (hi : Nat)) := cell_blk HB5.out 1
    by_cases h1 : na < lo
    · have h1d : decide (na < lo) = true := decide_eq_true h1
      have hr : R = (0, 1) := by rw [← HF2.out, if_pos (by omega)]
      clear HF2
      subst hr
      go_wp2_with fail
      go_ret2
      exact ⟨rfl, HO5.out⟩
    have h1d : decide (na < lo) = false := decide_eq_false h1
    by_cases h2 : hi < nb
    · have h2d : decide (hi < nb) = true := decide_eq_true h2
      have hr : R = (0, 1) := by rw [← HF2.out, if_pos (by omega)]
      clear HF2
      subst hr
      go_wp2_with fail
      go_ret2
      exact ⟨rfl, HO5.out⟩
    have h2d : decide (hi < nb) = false := decide_eq_false h2
    by_cases h3 : nb < na
    · have h3d : decide (nb < na) = true := decide_eq_true h3
      have hr : R = (0, 1) := by rw [← HF2.out, if_pos (by omega)]
      clear HF2
      subst hr
      go_wp2_with fail
      go_ret2
      exact ⟨rfl, HO5.out⟩
    have h3d : decide (nb < na) = false := decide_eq_false h3
    obtain ⟨r, hr0⟩ : ∃ x, rangeG nb N (nb + 1) na 0 = x := ⟨_, rfl⟩
    have hr : R = (r, 0) := by rw [← HF2.out, if_neg (by omega), hr0]
    have HR0 := hid hr0
    clear hr0 HF2
    subst hr
    go_wp2_with fail
    clear h1d h2d h3d c0 c1
    go_loopw [19, 20] (fun o v wr => ∃ (n f : Nat) (x : Int), v = .int .i64 (n : Nat) ∧ o = .int .u64 x ∧ nb + 1 ≤ n + f ∧ n ≤ 63 + N ∧ rangeG nb N f n x = r ∧ wr = w5) (fun _ v _ => nb + 1 - (intOf v).toNat)
    case atStart => exact ⟨na, nb + 1, 0, rfl, rfl, by omega, by omega, HR0.out, rfl⟩
    case round =>
      obtain ⟨n, f, x, rfl, rfl, hnf, hn63, hg, rfl⟩ := hrel
      have HG := hid hg
      clear hg HR0
      by_cases hnt : n ≤ nb
      · have hnd : decide (n ≤ nb) = true := decide_eq_true hnt
        obtain ⟨f, rfl⟩ : ∃ f', f = f' + 1 := ⟨f - 1, by omega⟩
        have hg := HG.out
        rw [rangeG, if_neg (by omega)] at hg
        have HG2 := hid hg
        clear hg HG
        have hlt : n < 64 := by omega
        go_wp2_with fail
        go_roundw
        case rel => exact ⟨n + N, f, bits .or .u64 x (shlI n), by go_num, rfl, by omega, by omega, HG2.out, trivial⟩
        case measure => simp [intOf]; omega
      · have hnd : decide (n ≤ nb) = false := decide_eq_false hnt
        obtain rfl : x = r := by
          have h := HG.out
          cases f with
          | zero => rw [rangeG] at h; exact h
          | succ f => rw [rangeG, if_pos (by omega)] at h; exact h
        clear HG
        go_wp2_with fail
        go_ret2
        exact ⟨rfl, HO5.out⟩
end
end Go.Proofs.YtokefeemhgcmhaaGreatDoor
