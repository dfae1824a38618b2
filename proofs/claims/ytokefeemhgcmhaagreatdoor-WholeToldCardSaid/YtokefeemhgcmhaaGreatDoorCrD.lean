/- package cron: the next time. -/
import Derived.Test.YtokefeemhgcmhaaGreatDoorCrC
namespace Go.Proofs.YtokefeemhgcmhaaGreatDoor
open Go.RowKit
def nx (s : SpM) (lim : Nat) : Nat → Nat → Option Nat
  | 0, _ => none
  | f + 1, m0 => if lim < m0 then none
    else if dayR s (dateR m0) = false then nx s lim f (m0 + (1440 - 60 * (dateR m0).hour - (dateR m0).minute))
    else if hasB s.f1 ((dateR m0).hour : Nat) = false then nx s lim f (m0 + (60 - (dateR m0).minute))
    else if hasB s.f0 ((dateR m0).minute : Nat) = false then nx s lim f (m0 + 1)
    else some m0
/-- The next time behind a minute, or that it is never. -/
def nextR (s : SpM) (t : Nat) : Option Nat := nx s (t + 527040) 527041 (t + 1)
def nCode : Option Nat → Int | some _ => 0 | none => 41
def nVal : Option Nat → Nat | some x => x | none => 0
section
variable {w : World}
set_option maxRecDepth 100000 in
set_option maxHeartbeats 3200000 in
theorem crnext_c {g : Nat} {s : SpM} (hS : SpAt w g s) (t : Nat) (ht : t ≤ 4294440255) : Calls Tryz.prog 15 #[.pointer (some ⟨g, 0, none⟩), .int .i64 (t : Nat)] w fun e w' => e = .returned (.tuple #[.int .i64 (nVal (nextR s t) : Nat), .int .i64 (nCode (nextR s t))]) ∧ Only (fun _ => False) w w' := by
  have h0 : ¬ ((t : Nat) : Int) < -1 := by omega
  have h1 : ¬ (4294440255 : Int) < ((t : Nat) : Int) := by omega
  obtain ⟨r, hr⟩ : ∃ x, nextR s t = x := ⟨_, rfl⟩
  rw [hr]
  unfold nextR at hr
  have HR := hid hr
  have HS : Hid (∀ W, Only (fun _ => False) w W → SpAt W g s) := hid fun W hW => blk_only hS hW (fun e => e)
  have HHS : Hid (∀ (a b : Int) (W : World), Calls Tryz.prog 35 #[.int .u64 a, .int .i64 b] W fun e w' => e = .returned (.bool (hasB a b)) ∧ Only (fun _ => False) W w') := hid fun a b W => (crhas_c a b).mono fun e w' ⟨h1, h2⟩ => ⟨h1, by rw [h2]; exact Only.refl _ _⟩
  clear hr hS
  go_enter Tryz.func15, Tryz.ntmps15
  go_wp2_with fail
  go_loopw [6] (fun v wr => ∃ (m0 f : Nat), v = .int .i64 (m0 : Nat) ∧ t + 527041 ≤ m0 + f ∧ nx s (t + 527040) f m0 = r ∧ m0 ≤ t + 528480 ∧ Only (fun _ => False) w wr) (fun v _ => t + 527041 - (intOf v).toNat)
  case atStart => exact ⟨t + 1, 527041, by go_num, by omega, HR.out, by omega, Only.refl _ _⟩
  case round =>
    obtain ⟨m0, f, rfl, hmf, hnx, hml, ho⟩ := hrel
    have HNX := hid hnx; have HO := hid ho
    clear hnx ho
    by_cases hle : m0 ≤ t + 527040
    rotate_left
    · have hlei : ¬ (m0 : Int) ≤ (t : Int) + 527040 := by omega
      have hn : r = none := by
        have h := HNX.out
        cases f with
        | zero => rw [nx] at h; exact h.symm
        | succ f => rw [nx, if_pos (by omega)] at h; exact h.symm
      subst hn
      clear HNX HR
      go_wp2_with fail
      go_ret2
      exact ⟨rfl, HO.out⟩
    have hlei : (m0 : Int) ≤ (t : Int) + 527040 := by omega
    obtain ⟨f, rfl⟩ : ∃ f', f = f' + 1 := ⟨f - 1, by omega⟩
    have hnx := HNX.out
    rw [nx, if_neg (by omega)] at hnx
    have hH : (dateR m0).hour ≤ 23 := by show m0 / 60 % 24 ≤ 23; omega
    have hM : (dateR m0).minute ≤ 59 := by show m0 % 60 ≤ 59; omega
    have HDO := hid (dateof_c (w := wr) m0 (by omega))
    obtain ⟨D, hD⟩ : ∃ x, dateR m0 = x := ⟨_, rfl⟩
    rw [hD] at hnx hH hM HDO
    have HNX' := hid hnx
    clear hnx HNX hD
    go_wp2_with fail
    refine HDO.out.mono ?_
    rintro x w2 ⟨rfl, ho2⟩
    rw [show D.cells.toArray = #[.int .i64 D.year, .int .i64 D.month, .int .i64 (D.day : Nat), .int .i64 (D.hour : Nat), .int .i64 (D.minute : Nat), .int .i64 (D.week : Nat)] from rfl]
    have HO2 := hid (HO.out.trans ho2 (fun _ _ e => e))
    clear ho2 HDO
    go_upto_region 7 with fail
    obtain ⟨w3, hw3⟩ : ∃ x, w2.alloc (.cells #[.int .i64 D.year, .int .i64 D.month, .int .i64 (D.day : Nat), .int .i64 (D.hour : Nat), .int .i64 (D.minute : Nat), .int .i64 (D.week : Nat)] 83) = x := ⟨_, rfl⟩
    rw [hw3]
    have hb7 : w3.heap[w2.heap.size]? = some (.cells #[.int .i64 D.year, .int .i64 D.month, .int .i64 (D.day : Nat), .int .i64 (D.hour : Nat), .int .i64 (D.minute : Nat), .int .i64 (D.week : Nat)] 83 (0, 0)) := by rw [← hw3]; exact blk_new _ _
    have ho3 : Only (fun _ => False) w2 w3 := by rw [← hw3]; exact only_new _ _
    obtain ⟨gb, hgb⟩ : ∃ x, w2.heap.size = x := ⟨_, rfl⟩
    rw [hgb] at hb7 ⊢
    have HB7 := hid hb7
    have HO3 := hid (HO2.out.trans ho3 (fun _ _ e => e))
    have HDY : Hid (Calls Tryz.prog 34 #[.pointer (some ⟨g, 0, none⟩), .agg #[.int .i64 D.year, .int .i64 D.month, .int .i64 (D.day : Nat), .int .i64 (D.hour : Nat), .int .i64 (D.minute : Nat), .int .i64 (D.week : Nat)]] w3 fun e w' => e = .returned (.bool (dayR s D)) ∧ Only (fun _ => False) w3 w') := hid (crday_c (HS.out w3 HO3.out) D)
    have c0 : w3.cell? ⟨gb, 0, none⟩ = some (.int .i64 D.year) := cell_blk hb7 0
    have c1 : w3.cell? ⟨gb, 1, none⟩ = some (.int .i64 D.month) := cell_blk hb7 1
    have c2 : w3.cell? ⟨gb, 2, none⟩ = some (.int .i64 (D.day : Nat)) := cell_blk hb7 2
    have c3 : w3.cell? ⟨gb, 3, none⟩ = some (.int .i64 (D.hour : Nat)) := cell_blk hb7 3
    have c4 : w3.cell? ⟨gb, 4, none⟩ = some (.int .i64 (D.minute : Nat)) := cell_blk hb7 4
    have c5 : w3.cell? ⟨gb, 5, none⟩ = some (.int .i64 (D.week : Nat)) := cell_blk hb7 5
    clear hb7 ho3 hgb hw3 HO2
    go_wp2_with fail
    refine HDY.out.mono ?_
    rintro x w4 ⟨rfl, ho4⟩
    have HB4 := hid (blk_only HB7.out ho4 (fun e => e))
    have HO4 := hid (HO3.out.trans ho4 (fun _ _ e => e))
    have c3 : w4.cell? ⟨gb, 3, none⟩ = some (.int .i64 (D.hour : Nat)) := cell_blk HB4.out 3
    have c4 : w4.cell? ⟨gb, 4, none⟩ = some (.int .i64 (D.minute : Nat)) := cell_blk HB4.out 4
    clear c0 c1 c2 c5 ho4 HB7 HDY HO3
    have hnx := HNX'.out
    clear HNX'
    cases hq : dayR s D
    · rw [if_pos hq] at hnx
      have HNX := hid hnx
      clear hnx hq
      go_wp2_with fail
      go_roundw
      case rel => exact ⟨m0 + (1440 - 60 * D.hour - D.minute), f, by go_num, by omega, HNX.out, by omega, HO4.out⟩
      case measure => simp [intOf]; omega
    rw [if_neg (by rw [hq]; simp)] at hnx
    have HNX := hid hnx
    clear hnx hq
    have HSC : Hid (∀ W, Only (fun _ => False) w4 W → SpAt W g s) := hid fun W hW => HS.out W (HO4.out.trans hW (fun _ _ e => e))
    have HDC : Hid (∀ W, Only (fun _ => False) w4 W → W.heap[gb]? = some (.cells #[.int .i64 D.year, .int .i64 D.month, .int .i64 (D.day : Nat), .int .i64 (D.hour : Nat), .int .i64 (D.minute : Nat), .int .i64 (D.week : Nat)] 83 (0, 0))) := hid fun W hW => blk_only HB4.out hW (fun e => e)
    have H1 := hid (HHS.out s.f1 (D.hour : Nat))
    have H0 := hid (HHS.out s.f0 (D.minute : Nat))
    obtain ⟨x1, hx1⟩ : ∃ x, hasB s.f1 (D.hour : Nat) = x := ⟨_, rfl⟩
    obtain ⟨x0, hx0⟩ : ∃ x, hasB s.f0 (D.minute : Nat) = x := ⟨_, rfl⟩
    rw [hx1] at H1; rw [hx0] at H0
    have hnx := HNX.out
    rw [hx1, hx0] at hnx
    have HNX2 := hid hnx
    clear hnx HNX hx1 hx0 c3 c4
    go_upto_region 9 with fail
    refine region_pt 7 [] (by kernel_rfl) (by kernel_rfl) (by kernel_rfl) [(42, fun _ v => v = .pointer (some ⟨g, 0, none⟩)), (43, fun _ v => v = .pointer (some ⟨g, 0, none⟩)), (44, fun _ v => v = .pointer (some ⟨g, 0, none⟩)), (45, fun _ v => v = .pointer (some ⟨g, 1, none⟩)), (46, fun _ v => v = .int .u64 s.f1), (47, fun _ v => v = .pointer (some ⟨gb, 3, none⟩)), (48, fun _ v => v = .int .i64 (D.hour : Nat))] (fun _ W => Only (fun _ => False) w4 W) (by show [42, 43, 44, 45, 46, 47, 48].Nodup; decide) (by show ∀ d ∈ [42, 43, 44, 45, 46, 47, 48], d < 68; decide) ((Only.refl _ _).drew) (.inl rfl) ?_ ?_ ?_
    · exact trivial
    · have hstab : PtStabs (Only (fun _ => False)) [(42, fun _ v => v = .pointer (some ⟨g, 0, none⟩)), (43, fun _ v => v = .pointer (some ⟨g, 0, none⟩)), (44, fun _ v => v = .pointer (some ⟨g, 0, none⟩)), (45, fun _ v => v = .pointer (some ⟨g, 1, none⟩)), (46, fun _ v => v = .int .u64 s.f1), (47, fun _ v => v = .pointer (some ⟨gb, 3, none⟩)), (48, fun _ v => v = .int .i64 (D.hour : Nat))] := ⟨fun _ _ _ _ h => h, fun _ _ _ _ h => h, fun _ _ _ _ h => h, fun _ _ _ _ h => h, fun _ _ _ _ h => h, fun _ _ _ _ h => h, fun _ _ _ _ h => h, trivial⟩
      refine PtAllS.cons rfl ⟨rfl, rfl⟩ ?_ (PtAllS.cons rfl ⟨rfl, rfl⟩ ?_ (PtAllS.cons rfl ⟨rfl, rfl⟩ ?_ (PtAllS.cons rfl ⟨rfl, rfl⟩ ?_ (PtAllS.cons rfl ⟨rfl, rfl⟩ ?_ (PtAllS.cons rfl ⟨rfl, rfl⟩ ?_ (PtAllS.cons rfl ⟨rfl, rfl⟩ ?_ (PtAllS.nil rfl)))))))
      · intro L a W K hI hn hd hK
        have e0 : a.eval (.tmp 0) = .pointer (some ⟨g, 0, none⟩) := hI.ev 0 (by show ¬ (0 ∈ [42, 43, 44, 45, 46, 47, 48]); decide) rfl
        exact pt_move _ (by first | exact .inl rfl | exact .inr rfl) _ e0 (hK _ _ hI.j PtKeep.refl rfl)
      · intro L a W K hI hn hd hK
        have e42 : a.eval (.tmp 42) = .pointer (some ⟨g, 0, none⟩) := hI.fact 0 42 _ rfl (dep_of hd 0 (by kernel_rfl))
        exact pt_val (v := .pointer (some ⟨g, 0, none⟩)) (by unfold execOp; simp only [e42]; kernel_rfl) (hK _ _ hI.j PtKeep.refl rfl)
      · intro L a W K hI hn hd hK
        have e43 : a.eval (.tmp 43) = .pointer (some ⟨g, 0, none⟩) := hI.fact 1 43 _ rfl (dep_of hd 1 (by kernel_rfl))
        exact pt_val (v := .pointer (some ⟨g, 0, none⟩)) (by unfold execOp; simp only [e43]; kernel_rfl) (hK _ _ hI.j PtKeep.refl rfl)
      · intro L a W K hI hn hd hK
        have e44 : a.eval (.tmp 44) = .pointer (some ⟨g, 0, none⟩) := hI.fact 2 44 _ rfl (dep_of hd 2 (by kernel_rfl))
        exact pt_val (v := .pointer (some ⟨g, 1, none⟩)) (by unfold execOp; simp only [e44]; kernel_rfl) (hK _ _ hI.j PtKeep.refl rfl)
      · intro L a W K hI hn hd hK
        have e45 : a.eval (.tmp 45) = .pointer (some ⟨g, 1, none⟩) := hI.fact 3 45 _ rfl (dep_of hd 3 (by kernel_rfl))
        exact pt_load _ (.tmp 45) rfl ⟨g, 1, none⟩ (.int .u64 s.f1) _ e45 (cell_blk (HSC.out W hI.j) 1) Tryz.underlying71 rfl (hK _ _ hI.j PtKeep.refl rfl)
      · intro L a W K hI hn hd hK
        have e7 : a.eval (.tmp 7) = .pointer (some ⟨gb, 0, none⟩) := hI.ev 7 (by show ¬ (7 ∈ [42, 43, 44, 45, 46, 47, 48]); decide) rfl
        exact pt_val (v := .pointer (some ⟨gb, 3, none⟩)) (by unfold execOp; simp only [e7]; kernel_rfl) (hK _ _ hI.j PtKeep.refl rfl)
      · intro L a W K hI hn hd hK
        have e47 : a.eval (.tmp 47) = .pointer (some ⟨gb, 3, none⟩) := hI.fact 5 47 _ rfl (dep_of hd 5 (by kernel_rfl))
        exact pt_load _ (.tmp 47) rfl ⟨gb, 3, none⟩ (.int .i64 (D.hour : Nat)) _ e47 (cell_blk (HDC.out W hI.j) 3) Tryz.underlying3 rfl (hK _ _ hI.j PtKeep.refl rfl)
    · intro L a w5z hal hj hfs
      dsimp only [PtAll] at hfs
      obtain ⟨f42, f43, f44, f45, f46, f47, f48, -⟩ := hfs
      have hA := hal.turned
      simp only [List.map_cons, List.map_nil, Act.turned, f42, f43, f44, f45, f46, f47, f48] at hA
      simp only [Act.put, List.setIfInBounds_toArray, List.set_cons_zero, List.set_cons_succ] at hA
      clear hal f42 f43 f44 f45 f46 f47 f48
      subst hA
      change wpList _ _ _ [_, _, _] _ _
      go_wp2_with fail
      refine (H1.out w5z).mono ?_
      rintro x w5 ⟨rfl, ho5⟩
      have HJ5 := hid (hj.trans ho5 (fun _ _ e => e))
      clear hj ho5
      cases x1
      · have c4 : w5.cell? ⟨gb, 4, none⟩ = some (.int .i64 (D.minute : Nat)) := cell_blk (HDC.out w5 HJ5.out) 4
        go_wp2_with fail
        go_roundw
        case rel => exact ⟨m0 + (60 - D.minute), f, by go_num, by omega, by have h := HNX2.out; simpa using h, by omega, HO4.out.trans HJ5.out (fun _ _ e => e)⟩
        case measure => simp [intOf]; omega
      go_upto_region 11 with fail
      refine region_pt 7 [] (by kernel_rfl) (by kernel_rfl) (by kernel_rfl) [(57, fun _ v => v = .pointer (some ⟨g, 0, none⟩)), (58, fun _ v => v = .pointer (some ⟨g, 0, none⟩)), (59, fun _ v => v = .pointer (some ⟨g, 0, none⟩)), (60, fun _ v => v = .pointer (some ⟨g, 0, none⟩)), (61, fun _ v => v = .int .u64 s.f0), (62, fun _ v => v = .pointer (some ⟨gb, 4, none⟩)), (63, fun _ v => v = .int .i64 (D.minute : Nat))] (fun _ W => Only (fun _ => False) w5 W) (by show [57, 58, 59, 60, 61, 62, 63].Nodup; decide) (by show ∀ d ∈ [57, 58, 59, 60, 61, 62, 63], d < 68; decide) ((Only.refl _ _).drew) (.inl rfl) ?_ ?_ ?_
      · exact trivial
      · have hstab : PtStabs (Only (fun _ => False)) [(57, fun _ v => v = .pointer (some ⟨g, 0, none⟩)), (58, fun _ v => v = .pointer (some ⟨g, 0, none⟩)), (59, fun _ v => v = .pointer (some ⟨g, 0, none⟩)), (60, fun _ v => v = .pointer (some ⟨g, 0, none⟩)), (61, fun _ v => v = .int .u64 s.f0), (62, fun _ v => v = .pointer (some ⟨gb, 4, none⟩)), (63, fun _ v => v = .int .i64 (D.minute : Nat))] := ⟨fun _ _ _ _ h => h, fun _ _ _ _ h => h, fun _ _ _ _ h => h, fun _ _ _ _ h => h, fun _ _ _ _ h => h, fun _ _ _ _ h => h, fun _ _ _ _ h => h, trivial⟩
        refine PtAllS.cons rfl ⟨rfl, rfl⟩ ?_ (PtAllS.cons rfl ⟨rfl, rfl⟩ ?_ (PtAllS.cons rfl ⟨rfl, rfl⟩ ?_ (PtAllS.cons rfl ⟨rfl, rfl⟩ ?_ (PtAllS.cons rfl ⟨rfl, rfl⟩ ?_ (PtAllS.cons rfl ⟨rfl, rfl⟩ ?_ (PtAllS.cons rfl ⟨rfl, rfl⟩ ?_ (PtAllS.nil rfl)))))))
        · intro L a W K hI hn hd hK
          have e0 : a.eval (.tmp 0) = .pointer (some ⟨g, 0, none⟩) := hI.ev 0 (by show ¬ (0 ∈ [57, 58, 59, 60, 61, 62, 63]); decide) rfl
          exact pt_move _ (by first | exact .inl rfl | exact .inr rfl) _ e0 (hK _ _ hI.j PtKeep.refl rfl)
        · intro L a W K hI hn hd hK
          have e57 : a.eval (.tmp 57) = .pointer (some ⟨g, 0, none⟩) := hI.fact 0 57 _ rfl (dep_of hd 0 (by kernel_rfl))
          exact pt_val (v := .pointer (some ⟨g, 0, none⟩)) (by unfold execOp; simp only [e57]; kernel_rfl) (hK _ _ hI.j PtKeep.refl rfl)
        · intro L a W K hI hn hd hK
          have e58 : a.eval (.tmp 58) = .pointer (some ⟨g, 0, none⟩) := hI.fact 1 58 _ rfl (dep_of hd 1 (by kernel_rfl))
          exact pt_val (v := .pointer (some ⟨g, 0, none⟩)) (by unfold execOp; simp only [e58]; kernel_rfl) (hK _ _ hI.j PtKeep.refl rfl)
        · intro L a W K hI hn hd hK
          have e59 : a.eval (.tmp 59) = .pointer (some ⟨g, 0, none⟩) := hI.fact 2 59 _ rfl (dep_of hd 2 (by kernel_rfl))
          exact pt_val (v := .pointer (some ⟨g, 0, none⟩)) (by unfold execOp; simp only [e59]; kernel_rfl) (hK _ _ hI.j PtKeep.refl rfl)
        · intro L a W K hI hn hd hK
          have e60 : a.eval (.tmp 60) = .pointer (some ⟨g, 0, none⟩) := hI.fact 3 60 _ rfl (dep_of hd 3 (by kernel_rfl))
          exact pt_load _ (.tmp 60) rfl ⟨g, 0, none⟩ (.int .u64 s.f0) _ e60 (cell_blk (HSC.out W (HJ5.out.trans hI.j (fun _ _ e => e))) 0) Tryz.underlying71 rfl (hK _ _ hI.j PtKeep.refl rfl)
        · intro L a W K hI hn hd hK
          have e7 : a.eval (.tmp 7) = .pointer (some ⟨gb, 0, none⟩) := hI.ev 7 (by show ¬ (7 ∈ [57, 58, 59, 60, 61, 62, 63]); decide) rfl
          exact pt_val (v := .pointer (some ⟨gb, 4, none⟩)) (by unfold execOp; simp only [e7]; kernel_rfl) (hK _ _ hI.j PtKeep.refl rfl)
        · intro L a W K hI hn hd hK
          have e62 : a.eval (.tmp 62) = .pointer (some ⟨gb, 4, none⟩) := hI.fact 5 62 _ rfl (dep_of hd 5 (by kernel_rfl))
          exact pt_load _ (.tmp 62) rfl ⟨gb, 4, none⟩ (.int .i64 (D.minute : Nat)) _ e62 (cell_blk (HDC.out W (HJ5.out.trans hI.j (fun _ _ e => e))) 4) Tryz.underlying3 rfl (hK _ _ hI.j PtKeep.refl rfl)
      · intro L a w6z hal hj6 hfs
        dsimp only [PtAll] at hfs
        obtain ⟨f57, f58, f59, f60, f61, f62, f63, -⟩ := hfs
        have hA := hal.turned
        simp only [List.map_cons, List.map_nil, Act.turned, f57, f58, f59, f60, f61, f62, f63] at hA
        simp only [Act.put, List.setIfInBounds_toArray, List.set_cons_zero, List.set_cons_succ] at hA
        clear hal f57 f58 f59 f60 f61 f62 f63
        subst hA
        change wpList _ _ _ [_, _, _] _ _
        go_wp2_with fail
        refine (H0.out w6z).mono ?_
        rintro x w6 ⟨rfl, ho6⟩
        have HJ6 := hid (HJ5.out.trans (hj6.trans ho6 (fun _ _ e => e)) (fun _ _ e => e))
        clear hj6 ho6
        cases x0
        · go_wp2_with fail
          go_roundw
          case rel => exact ⟨m0 + 1, f, by go_num, by omega, by have h := HNX2.out; simpa using h, by omega, HO4.out.trans HJ6.out (fun _ _ e => e)⟩
          case measure => simp [intOf]; omega
        · have hr : some m0 = r := by have h := HNX2.out; simpa using h
          subst hr
          clear HNX2 HR
          go_wp2_with fail
          go_ret2
          exact ⟨rfl, HO4.out.trans HJ6.out (fun _ _ e => e)⟩
end
end Go.Proofs.YtokefeemhgcmhaaGreatDoor
