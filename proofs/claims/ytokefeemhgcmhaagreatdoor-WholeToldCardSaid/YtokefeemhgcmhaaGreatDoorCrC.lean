/- package cron: a day. -/
import Derived.Test.YtokefeemhgcmhaaGreatDoorCrB
namespace Go.Proofs.YtokefeemhgcmhaaGreatDoor
open Go.RowKit
/-- When something is to happen. -/
structure SpM where
  f0 : Int
  f1 : Int
  f2 : Int
  f3 : Int
  f4 : Int
  b0 : Bool
  b1 : Bool
  b2 : Bool
  b3 : Bool
  b4 : Bool
  text : List UInt8
def SpAt (w : World) (g : Nat) (s : SpM) : Prop := w.heap[g]? = some (.cells #[.int .u64 s.f0, .int .u64 s.f1, .int .u64 s.f2, .int .u64 s.f3, .int .u64 s.f4, .bool s.b0, .bool s.b1, .bool s.b2, .bool s.b3, .bool s.b4, .string (strOf s.text)] 75 (0, 0))
def dayR (s : SpM) (d : DateM) : Bool :=
  if hasB s.f3 d.month = false then false
  else if (s.b2 || s.b4) = true then hasB s.f2 (d.day : Nat) && hasB s.f4 (d.week : Nat) else hasB s.f2 (d.day : Nat) || hasB s.f4 (d.week : Nat)
section
variable {w : World}
set_option maxRecDepth 100000 in
set_option maxHeartbeats 3200000 in
theorem crday_c {g : Nat} {s : SpM} (hS : SpAt w g s) (d : DateM) : Calls Tryz.prog 34 #[.pointer (some ⟨g, 0, none⟩), .agg d.cells.toArray] w fun e w' => e = .returned (.bool (dayR s d)) ∧ Only (fun _ => False) w w' := by
  have HB := hid (blk_new w (.cells d.cells.toArray 83))
  have HO := hid (only_new w (.cells d.cells.toArray 83))
  obtain ⟨w1, hw1⟩ : ∃ x, w.alloc (.cells d.cells.toArray 83) = x := ⟨_, rfl⟩
  rw [hw1] at HB HO
  have HSC : Hid (∀ W, Only (fun _ => False) w1 W → SpAt W g s) := hid fun W hW => blk_only hS (HO.out.trans hW (fun _ _ e => e)) (fun e => e)
  have HDC : Hid (∀ W, Only (fun _ => False) w1 W → W.heap[w.heap.size]? = some (.cells d.cells.toArray 83 (0, 0))) := hid fun W hW => blk_only HB.out hW (fun e => e)
  have HHS : Hid (∀ (a b : Int) (W : World), Calls Tryz.prog 35 #[.int .u64 a, .int .i64 b] W fun e w' => e = .returned (.bool (hasB a b)) ∧ Only (fun _ => False) W w') := hid fun a b W => (crhas_c a b).mono fun e w' ⟨h1, h2⟩ => ⟨h1, by rw [h2]; exact Only.refl _ _⟩
  obtain ⟨gd, hgd⟩ : ∃ x, w.heap.size = x := ⟨_, rfl⟩
  rw [hgd] at HDC
  obtain ⟨x2, hx2⟩ : ∃ x, hasB s.f2 (d.day : Nat) = x := ⟨_, rfl⟩
  obtain ⟨x4, hx4⟩ : ∃ x, hasB s.f4 (d.week : Nat) = x := ⟨_, rfl⟩
  obtain ⟨x3, hx3⟩ : ∃ x, hasB s.f3 d.month = x := ⟨_, rfl⟩
  obtain ⟨y2, hy2⟩ : ∃ x, s.b2 = x := ⟨_, rfl⟩
  obtain ⟨y4, hy4⟩ : ∃ x, s.b4 = x := ⟨_, rfl⟩
  have hr : dayR s d = (if x3 = false then false else if (y2 || y4) = true then x2 && x4 else x2 || x4) := by unfold dayR; rw [hx2, hx3, hx4, hy2, hy4]
  rw [hr]
  have H2 : Hid (∀ (W : World), Calls Tryz.prog 35 #[.int .u64 s.f2, .int .i64 (d.day : Nat)] W fun e w' => e = .returned (.bool x2) ∧ Only (fun _ => False) W w') := hid fun W => by have := HHS.out s.f2 (d.day : Nat) W; rw [hx2] at this; exact this
  have H4 : Hid (∀ (W : World), Calls Tryz.prog 35 #[.int .u64 s.f4, .int .i64 (d.week : Nat)] W fun e w' => e = .returned (.bool x4) ∧ Only (fun _ => False) W w') := hid fun W => by have := HHS.out s.f4 (d.week : Nat) W; rw [hx4] at this; exact this
  have H3 : Hid (∀ (W : World), Calls Tryz.prog 35 #[.int .u64 s.f3, .int .i64 d.month] W fun e w' => e = .returned (.bool x3) ∧ Only (fun _ => False) W w') := hid fun W => by have := HHS.out s.f3 d.month W; rw [hx3] at this; exact this
  have HY2 : Hid (∀ W, Only (fun _ => False) w1 W → W.cell? ⟨g, 7, none⟩ = some (.bool y2)) := hid fun W hW => by rw [← hy2]; exact cell_blk (HSC.out W hW) 7
  have HY4 : Hid (∀ W, Only (fun _ => False) w1 W → W.cell? ⟨g, 9, none⟩ = some (.bool y4)) := hid fun W hW => by rw [← hy4]; exact cell_blk (HSC.out W hW) 9
  have HW1 := hid hw1; have HGD := hid hgd
  clear hS hx2 hx3 hx4 hy2 hy4 hr HHS HB hw1 hgd
  go_enter Tryz.func34, Tryz.ntmps34
  go_upto_region 1 with fail
  rw [HW1.out, HGD.out]
  clear HW1 HGD
  refine region_pt 15 [] (by kernel_rfl) (by kernel_rfl) (by kernel_rfl) [(7, fun _ v => v = .pointer (some ⟨g, 0, none⟩)), (8, fun _ v => v = .pointer (some ⟨g, 0, none⟩)), (9, fun _ v => v = .pointer (some ⟨g, 0, none⟩)), (10, fun _ v => v = .pointer (some ⟨g, 2, none⟩)), (11, fun _ v => v = .int .u64 s.f2), (12, fun _ v => v = .pointer (some ⟨gd, 2, none⟩)), (13, fun _ v => v = .int .i64 (d.day : Nat)), (14, fun _ v => v = .bool x2), (15, fun _ v => v = .pointer (some ⟨g, 0, none⟩)), (16, fun _ v => v = .pointer (some ⟨g, 0, none⟩)), (17, fun _ v => v = .pointer (some ⟨g, 0, none⟩)), (18, fun _ v => v = .pointer (some ⟨g, 4, none⟩)), (19, fun _ v => v = .int .u64 s.f4), (20, fun _ v => v = .pointer (some ⟨gd, 5, none⟩)), (21, fun _ v => v = .int .i64 (d.week : Nat))] (fun _ W => Only (fun _ => False) w1 W) (by show [7, 8, 9, 10, 11, 12, 13, 14, 15, 16, 17, 18, 19, 20, 21].Nodup; decide) (by show ∀ d ∈ [7, 8, 9, 10, 11, 12, 13, 14, 15, 16, 17, 18, 19, 20, 21], d < 52; decide) ((Only.refl _ _).drew) (.inl rfl) ?_ ?_ ?_
  · exact trivial
  · have hstab : PtStabs (Only (fun _ => False)) [(7, fun _ v => v = .pointer (some ⟨g, 0, none⟩)), (8, fun _ v => v = .pointer (some ⟨g, 0, none⟩)), (9, fun _ v => v = .pointer (some ⟨g, 0, none⟩)), (10, fun _ v => v = .pointer (some ⟨g, 2, none⟩)), (11, fun _ v => v = .int .u64 s.f2), (12, fun _ v => v = .pointer (some ⟨gd, 2, none⟩)), (13, fun _ v => v = .int .i64 (d.day : Nat)), (14, fun _ v => v = .bool x2), (15, fun _ v => v = .pointer (some ⟨g, 0, none⟩)), (16, fun _ v => v = .pointer (some ⟨g, 0, none⟩)), (17, fun _ v => v = .pointer (some ⟨g, 0, none⟩)), (18, fun _ v => v = .pointer (some ⟨g, 4, none⟩)), (19, fun _ v => v = .int .u64 s.f4), (20, fun _ v => v = .pointer (some ⟨gd, 5, none⟩)), (21, fun _ v => v = .int .i64 (d.week : Nat))] := ⟨fun _ _ _ _ h => h, fun _ _ _ _ h => h, fun _ _ _ _ h => h, fun _ _ _ _ h => h, fun _ _ _ _ h => h, fun _ _ _ _ h => h, fun _ _ _ _ h => h, fun _ _ _ _ h => h, fun _ _ _ _ h => h, fun _ _ _ _ h => h, fun _ _ _ _ h => h, fun _ _ _ _ h => h, fun _ _ _ _ h => h, fun _ _ _ _ h => h, fun _ _ _ _ h => h, trivial⟩
    refine PtAllS.cons rfl ⟨rfl, rfl⟩ ?_ (PtAllS.cons rfl ⟨rfl, rfl⟩ ?_ (PtAllS.cons rfl ⟨rfl, rfl⟩ ?_ (PtAllS.cons rfl ⟨rfl, rfl⟩ ?_ (PtAllS.cons rfl ⟨rfl, rfl⟩ ?_ (PtAllS.cons rfl ⟨rfl, rfl⟩ ?_ (PtAllS.cons rfl ⟨rfl, rfl⟩ ?_ (PtAllS.cons rfl ⟨rfl, rfl⟩ ?_ (PtAllS.cons rfl ⟨rfl, rfl⟩ ?_ (PtAllS.cons rfl ⟨rfl, rfl⟩ ?_ (PtAllS.cons rfl ⟨rfl, rfl⟩ ?_ (PtAllS.cons rfl ⟨rfl, rfl⟩ ?_ (PtAllS.cons rfl ⟨rfl, rfl⟩ ?_ (PtAllS.cons rfl ⟨rfl, rfl⟩ ?_ (PtAllS.cons rfl ⟨rfl, rfl⟩ ?_ (PtAllS.nil rfl)))))))))))))))
    · intro L a W K hI hn hd hK
      have e0 : a.eval (.tmp 0) = .pointer (some ⟨g, 0, none⟩) := hI.ev 0 (by show ¬ (0 ∈ [7, 8, 9, 10, 11, 12, 13, 14, 15, 16, 17, 18, 19, 20, 21]); decide) rfl
      exact pt_move _ (by first | exact .inl rfl | exact .inr rfl) _ e0 (hK _ _ hI.j PtKeep.refl rfl)
    · intro L a W K hI hn hd hK
      have e7 : a.eval (.tmp 7) = .pointer (some ⟨g, 0, none⟩) := hI.fact 0 7 _ rfl (dep_of hd 0 (by kernel_rfl))
      exact pt_val (v := .pointer (some ⟨g, 0, none⟩)) (by unfold execOp; simp only [e7]; kernel_rfl) (hK _ _ hI.j PtKeep.refl rfl)
    · intro L a W K hI hn hd hK
      have e8 : a.eval (.tmp 8) = .pointer (some ⟨g, 0, none⟩) := hI.fact 1 8 _ rfl (dep_of hd 1 (by kernel_rfl))
      exact pt_val (v := .pointer (some ⟨g, 0, none⟩)) (by unfold execOp; simp only [e8]; kernel_rfl) (hK _ _ hI.j PtKeep.refl rfl)
    · intro L a W K hI hn hd hK
      have e9 : a.eval (.tmp 9) = .pointer (some ⟨g, 0, none⟩) := hI.fact 2 9 _ rfl (dep_of hd 2 (by kernel_rfl))
      exact pt_val (v := .pointer (some ⟨g, 2, none⟩)) (by unfold execOp; simp only [e9]; kernel_rfl) (hK _ _ hI.j PtKeep.refl rfl)
    · intro L a W K hI hn hd hK
      have e10 : a.eval (.tmp 10) = .pointer (some ⟨g, 2, none⟩) := hI.fact 3 10 _ rfl (dep_of hd 3 (by kernel_rfl))
      exact pt_load _ (.tmp 10) rfl ⟨g, 2, none⟩ (.int .u64 s.f2) _ e10 (cell_blk (HSC.out W hI.j) 2) Tryz.underlying71 rfl (hK _ _ hI.j PtKeep.refl rfl)
    · intro L a W K hI hn hd hK
      have e3 : a.eval (.tmp 3) = .pointer (some ⟨gd, 0, none⟩) := hI.ev 3 (by show ¬ (3 ∈ [7, 8, 9, 10, 11, 12, 13, 14, 15, 16, 17, 18, 19, 20, 21]); decide) rfl
      exact pt_val (v := .pointer (some ⟨gd, 2, none⟩)) (by unfold execOp; simp only [e3]; kernel_rfl) (hK _ _ hI.j PtKeep.refl rfl)
    · intro L a W K hI hn hd hK
      have e12 : a.eval (.tmp 12) = .pointer (some ⟨gd, 2, none⟩) := hI.fact 5 12 _ rfl (dep_of hd 5 (by kernel_rfl))
      exact pt_load _ (.tmp 12) rfl ⟨gd, 2, none⟩ (.int .i64 (d.day : Nat)) _ e12 (cell_blk (HDC.out W hI.j) 2) Tryz.underlying3 rfl (hK _ _ hI.j PtKeep.refl rfl)
    · intro L a W K hI hn hd hK
      have e11 : a.eval (.tmp 11) = .int .u64 s.f2 := hI.fact 4 11 _ rfl (dep_of hd 4 (by kernel_rfl))
      have e13 : a.eval (.tmp 13) = .int .i64 (d.day : Nat) := hI.fact 6 13 _ rfl (dep_of hd 6 (by kernel_rfl))
      refine wp_callc (f := 35) (args := #[a.eval (.tmp 11), a.eval (.tmp 13)]) (by kernel_rfl) ?_
      rw [e11, e13]
      refine ((fun W _ => H2.out W) _ hI.j).mono ?_
      rintro x W' ⟨rfl, ho⟩
      exact ⟨_, rfl, hK _ _ (hI.j.trans ho (fun _ _ e => e.elim)) (hstab.keep ho) rfl⟩
    · intro L a W K hI hn hd hK
      have e0 : a.eval (.tmp 0) = .pointer (some ⟨g, 0, none⟩) := hI.ev 0 (by show ¬ (0 ∈ [7, 8, 9, 10, 11, 12, 13, 14, 15, 16, 17, 18, 19, 20, 21]); decide) rfl
      exact pt_move _ (by first | exact .inl rfl | exact .inr rfl) _ e0 (hK _ _ hI.j PtKeep.refl rfl)
    · intro L a W K hI hn hd hK
      have e15 : a.eval (.tmp 15) = .pointer (some ⟨g, 0, none⟩) := hI.fact 8 15 _ rfl (dep_of hd 8 (by kernel_rfl))
      exact pt_val (v := .pointer (some ⟨g, 0, none⟩)) (by unfold execOp; simp only [e15]; kernel_rfl) (hK _ _ hI.j PtKeep.refl rfl)
    · intro L a W K hI hn hd hK
      have e16 : a.eval (.tmp 16) = .pointer (some ⟨g, 0, none⟩) := hI.fact 9 16 _ rfl (dep_of hd 9 (by kernel_rfl))
      exact pt_val (v := .pointer (some ⟨g, 0, none⟩)) (by unfold execOp; simp only [e16]; kernel_rfl) (hK _ _ hI.j PtKeep.refl rfl)
    · intro L a W K hI hn hd hK
      have e17 : a.eval (.tmp 17) = .pointer (some ⟨g, 0, none⟩) := hI.fact 10 17 _ rfl (dep_of hd 10 (by kernel_rfl))
      exact pt_val (v := .pointer (some ⟨g, 4, none⟩)) (by unfold execOp; simp only [e17]; kernel_rfl) (hK _ _ hI.j PtKeep.refl rfl)
    · intro L a W K hI hn hd hK
      have e18 : a.eval (.tmp 18) = .pointer (some ⟨g, 4, none⟩) := hI.fact 11 18 _ rfl (dep_of hd 11 (by kernel_rfl))
      exact pt_load _ (.tmp 18) rfl ⟨g, 4, none⟩ (.int .u64 s.f4) _ e18 (cell_blk (HSC.out W hI.j) 4) Tryz.underlying71 rfl (hK _ _ hI.j PtKeep.refl rfl)
    · intro L a W K hI hn hd hK
      have e3 : a.eval (.tmp 3) = .pointer (some ⟨gd, 0, none⟩) := hI.ev 3 (by show ¬ (3 ∈ [7, 8, 9, 10, 11, 12, 13, 14, 15, 16, 17, 18, 19, 20, 21]); decide) rfl
      exact pt_val (v := .pointer (some ⟨gd, 5, none⟩)) (by unfold execOp; simp only [e3]; kernel_rfl) (hK _ _ hI.j PtKeep.refl rfl)
    · intro L a W K hI hn hd hK
      have e20 : a.eval (.tmp 20) = .pointer (some ⟨gd, 5, none⟩) := hI.fact 13 20 _ rfl (dep_of hd 13 (by kernel_rfl))
      exact pt_load _ (.tmp 20) rfl ⟨gd, 5, none⟩ (.int .i64 (d.week : Nat)) _ e20 (cell_blk (HDC.out W hI.j) 5) Tryz.underlying3 rfl (hK _ _ hI.j PtKeep.refl rfl)
  · intro L a w5z hal hj hfs
    dsimp only [PtAll] at hfs
    obtain ⟨f7, f8, f9, f10, f11, f12, f13, f14, f15, f16, f17, f18, f19, f20, f21, -⟩ := hfs
    have hA := hal.turned
    simp only [List.map_cons, List.map_nil, Act.turned, f7, f8, f9, f10, f11, f12, f13, f14, f15, f16, f17, f18, f19, f20, f21] at hA
    simp only [Act.put, List.setIfInBounds_toArray, List.set_cons_zero, List.set_cons_succ] at hA
    clear hal f7 f8 f9 f10 f11 f12 f13 f14 f15 f16 f17 f18 f19 f20 f21
    subst hA
    change wpList _ _ _ [_, _, _] _ _
    go_wp2_with fail
    refine (H4.out w5z).mono ?_
    rintro x w5 ⟨rfl, ho5⟩
    have HJ5 := hid (hj.trans ho5 (fun _ _ e => e))
    clear hj ho5
    go_upto_region 2 with fail
    refine region_pt 7 [] (by kernel_rfl) (by kernel_rfl) (by kernel_rfl) [(23, fun _ v => v = .pointer (some ⟨g, 0, none⟩)), (24, fun _ v => v = .pointer (some ⟨g, 0, none⟩)), (25, fun _ v => v = .pointer (some ⟨g, 0, none⟩)), (26, fun _ v => v = .pointer (some ⟨g, 3, none⟩)), (27, fun _ v => v = .int .u64 s.f3), (28, fun _ v => v = .pointer (some ⟨gd, 1, none⟩)), (29, fun _ v => v = .int .i64 d.month)] (fun _ W => Only (fun _ => False) w5 W) (by show [23, 24, 25, 26, 27, 28, 29].Nodup; decide) (by show ∀ d ∈ [23, 24, 25, 26, 27, 28, 29], d < 52; decide) ((Only.refl _ _).drew) (.inl rfl) ?_ ?_ ?_
    · exact trivial
    · have hstab : PtStabs (Only (fun _ => False)) [(23, fun _ v => v = .pointer (some ⟨g, 0, none⟩)), (24, fun _ v => v = .pointer (some ⟨g, 0, none⟩)), (25, fun _ v => v = .pointer (some ⟨g, 0, none⟩)), (26, fun _ v => v = .pointer (some ⟨g, 3, none⟩)), (27, fun _ v => v = .int .u64 s.f3), (28, fun _ v => v = .pointer (some ⟨gd, 1, none⟩)), (29, fun _ v => v = .int .i64 d.month)] := ⟨fun _ _ _ _ h => h, fun _ _ _ _ h => h, fun _ _ _ _ h => h, fun _ _ _ _ h => h, fun _ _ _ _ h => h, fun _ _ _ _ h => h, fun _ _ _ _ h => h, trivial⟩
      refine PtAllS.cons rfl ⟨rfl, rfl⟩ ?_ (PtAllS.cons rfl ⟨rfl, rfl⟩ ?_ (PtAllS.cons rfl ⟨rfl, rfl⟩ ?_ (PtAllS.cons rfl ⟨rfl, rfl⟩ ?_ (PtAllS.cons rfl ⟨rfl, rfl⟩ ?_ (PtAllS.cons rfl ⟨rfl, rfl⟩ ?_ (PtAllS.cons rfl ⟨rfl, rfl⟩ ?_ (PtAllS.nil rfl)))))))
      · intro L a W K hI hn hd hK
        have e0 : a.eval (.tmp 0) = .pointer (some ⟨g, 0, none⟩) := hI.ev 0 (by show ¬ (0 ∈ [23, 24, 25, 26, 27, 28, 29]); decide) rfl
        exact pt_move _ (by first | exact .inl rfl | exact .inr rfl) _ e0 (hK _ _ hI.j PtKeep.refl rfl)
      · intro L a W K hI hn hd hK
        have e23 : a.eval (.tmp 23) = .pointer (some ⟨g, 0, none⟩) := hI.fact 0 23 _ rfl (dep_of hd 0 (by kernel_rfl))
        exact pt_val (v := .pointer (some ⟨g, 0, none⟩)) (by unfold execOp; simp only [e23]; kernel_rfl) (hK _ _ hI.j PtKeep.refl rfl)
      · intro L a W K hI hn hd hK
        have e24 : a.eval (.tmp 24) = .pointer (some ⟨g, 0, none⟩) := hI.fact 1 24 _ rfl (dep_of hd 1 (by kernel_rfl))
        exact pt_val (v := .pointer (some ⟨g, 0, none⟩)) (by unfold execOp; simp only [e24]; kernel_rfl) (hK _ _ hI.j PtKeep.refl rfl)
      · intro L a W K hI hn hd hK
        have e25 : a.eval (.tmp 25) = .pointer (some ⟨g, 0, none⟩) := hI.fact 2 25 _ rfl (dep_of hd 2 (by kernel_rfl))
        exact pt_val (v := .pointer (some ⟨g, 3, none⟩)) (by unfold execOp; simp only [e25]; kernel_rfl) (hK _ _ hI.j PtKeep.refl rfl)
      · intro L a W K hI hn hd hK
        have e26 : a.eval (.tmp 26) = .pointer (some ⟨g, 3, none⟩) := hI.fact 3 26 _ rfl (dep_of hd 3 (by kernel_rfl))
        exact pt_load _ (.tmp 26) rfl ⟨g, 3, none⟩ (.int .u64 s.f3) _ e26 (cell_blk (HSC.out W (HJ5.out.trans hI.j (fun _ _ e => e))) 3) Tryz.underlying71 rfl (hK _ _ hI.j PtKeep.refl rfl)
      · intro L a W K hI hn hd hK
        have e3 : a.eval (.tmp 3) = .pointer (some ⟨gd, 0, none⟩) := hI.ev 3 (by show ¬ (3 ∈ [23, 24, 25, 26, 27, 28, 29]); decide) rfl
        exact pt_val (v := .pointer (some ⟨gd, 1, none⟩)) (by unfold execOp; simp only [e3]; kernel_rfl) (hK _ _ hI.j PtKeep.refl rfl)
      · intro L a W K hI hn hd hK
        have e28 : a.eval (.tmp 28) = .pointer (some ⟨gd, 1, none⟩) := hI.fact 5 28 _ rfl (dep_of hd 5 (by kernel_rfl))
        exact pt_load _ (.tmp 28) rfl ⟨gd, 1, none⟩ (.int .i64 d.month) _ e28 (cell_blk (HDC.out W (HJ5.out.trans hI.j (fun _ _ e => e))) 1) Tryz.underlying3 rfl (hK _ _ hI.j PtKeep.refl rfl)
    · intro L a w6z hal hj6 hfs
      dsimp only [PtAll] at hfs
      obtain ⟨f23, f24, f25, f26, f27, f28, f29, -⟩ := hfs
      have hA := hal.turned
      simp only [List.map_cons, List.map_nil, Act.turned, f23, f24, f25, f26, f27, f28, f29] at hA
      simp only [Act.put, List.setIfInBounds_toArray, List.set_cons_zero, List.set_cons_succ] at hA
      clear hal f23 f24 f25 f26 f27 f28 f29
      subst hA
      change wpList _ _ _ [_, _] _ _
      go_wp2_with fail
      refine (H3.out w6z).mono ?_
      rintro x w6 ⟨rfl, ho6⟩
      have HJ6 := hid (HJ5.out.trans (hj6.trans ho6 (fun _ _ e => e)) (fun _ _ e => e))
      clear hj6 ho6
      cases x3
      · go_wp2_with fail
        go_ret
        exact ⟨rfl, HO.out.trans HJ6.out (fun _ _ e => e)⟩
      have c7 := HY2.out w6 HJ6.out
      have c9 := HY4.out w6 HJ6.out
      cases y2 <;> cases y4 <;> cases x2 <;> cases x4
      all_goals
        go_wp2_with fail
        go_ret
        exact ⟨rfl, HO.out.trans HJ6.out (fun _ _ e => e)⟩
end
end Go.Proofs.YtokefeemhgcmhaaGreatDoor
