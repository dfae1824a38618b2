/- package cron: a minute's date. -/
import Derived.Test.YtokefeemhgcmhaaGreatDoorCrA
namespace Go.Proofs.YtokefeemhgcmhaaGreatDoor
open Go.RowKit
def yDays (y : Int) : Nat := if cLeap y = true then 366 else 365
def mDays (y m : Int) : Nat := (cDays y m).toNat
theorem cDays_m (y m : Int) : cDays y m = (mDays y m : Nat) ∧ 28 ≤ mDays y m ∧ mDays y m ≤ 31 := by
  have h : 28 ≤ cDays y m ∧ cDays y m ≤ 31 := by
    unfold cDays
    split
    · split <;> omega
    · split <;> omega
  unfold mDays
  omega
/-- From a year on, day for day; from a month on. -/
def yl : Nat → Int → Nat → Int × Nat
  | 0, y, d => (y, d)
  | f + 1, y, d => if d < yDays y then (y, d) else yl f (y + 1) (d - yDays y)
def ml (y : Int) : Nat → Int → Nat → Int × Nat
  | 0, m, d => (m, d)
  | f + 1, m, d => if d < mDays y m then (m, d) else ml y f (m + 1) (d - mDays y m)
structure DateM where
  year : Int
  month : Int
  day : Nat
  hour : Nat
  minute : Nat
  week : Nat
def DateM.cells (d : DateM) : List Value := [.int .i64 d.year, .int .i64 d.month, .int .i64 (d.day : Nat), .int .i64 (d.hour : Nat), .int .i64 (d.minute : Nat), .int .i64 (d.week : Nat)]
def dateR (t : Nat) : DateM :=
  let r := yl (t / 1440 % 146097) (2000 + 400 * ((t / 1440 / 146097 : Nat) : Int)) (t / 1440 % 146097)
  let q := ml r.1 r.2 1 r.2
  ⟨r.1, q.1, q.2 + 1, t / 60 % 24, t % 60, (t / 1440 + 6) % 7⟩
theorem yl_le : ∀ (f : Nat) (y : Int) (d : Nat), (yl f y d).2 ≤ d ∧ y ≤ (yl f y d).1 ∧ (yl f y d).1 ≤ y + f
  | 0, y, d => by rw [yl]; exact ⟨Nat.le_refl _, by omega, by omega⟩
  | f + 1, y, d => by
    rw [yl]
    split
    · exact ⟨Nat.le_refl _, by omega, by omega⟩
    · have := yl_le f (y + 1) (d - yDays y)
      omega
theorem yl_lt : ∀ (f : Nat) (y : Int) (d : Nat), d ≤ f → (yl f y d).2 < 366
  | 0, y, d, h => by rw [yl]; show d < 366; omega
  | f + 1, y, d, h => by
    have h1 : 365 ≤ yDays y ∧ yDays y ≤ 366 := by unfold yDays; split <;> omega
    rw [yl]
    split
    · show d < 366; omega
    · exact yl_lt f (y + 1) (d - yDays y) (by omega)
theorem info_date : (Tryz.prog.info? 83).map (·.size) = some 6 := by kernel_rfl
section
variable {w : World}
/-- A date on its way: its block; nothing that was there has turned. -/
structure DS (w0 w : World) (gr gd : Nat) (y m d h mi wk : Int) : Prop where
  blk : w.heap[gd]? = some (.cells #[.int .i64 y, .int .i64 m, .int .i64 d, .int .i64 h, .int .i64 mi, .int .i64 wk] 83 (0, 0))
  res : w.heap[gr]? = some (.cells #[.int .i64 0, .int .i64 0, .int .i64 0, .int .i64 0, .int .i64 0, .int .i64 0] 83 (0, 0))
  only : Only (fun _ => False) w0 w
  lo : w0.heap.size ≤ gr
  ne : gr ≠ gd
  lo2 : w0.heap.size ≤ gd
theorem DS.year {w0 w : World} {gr gd : Nat} {y m d h mi wk : Int} (s : DS w0 w gr gd y m d h mi wk) (z : Int) : DS w0 (w.setCell ⟨gd, 0, none⟩ (.int .i64 z)) gr gd z m d h mi wk :=
  ⟨by have := blk_set s.blk 0 (.int .i64 z); simpa using this, blk_only s.res (only_set (w := w) gd 0 (.int .i64 z)) s.ne, s.only.trans (only_set (w := w) gd 0 (.int .i64 z)) (fun k hk e => by have e' : k = gd := e; have := s.lo2; omega), s.lo, s.ne, s.lo2⟩
theorem DS.mon {w0 w : World} {gr gd : Nat} {y m d h mi wk : Int} (s : DS w0 w gr gd y m d h mi wk) (z : Int) : DS w0 (w.setCell ⟨gd, 1, none⟩ (.int .i64 z)) gr gd y z d h mi wk :=
  ⟨by have := blk_set s.blk 1 (.int .i64 z); simpa using this, blk_only s.res (only_set (w := w) gd 1 (.int .i64 z)) s.ne, s.only.trans (only_set (w := w) gd 1 (.int .i64 z)) (fun k hk e => by have e' : k = gd := e; have := s.lo2; omega), s.lo, s.ne, s.lo2⟩
theorem set6 {W : World} {g : Nat} (h : W.heap[g]? = some (.cells #[.int .i64 0, .int .i64 0, .int .i64 0, .int .i64 0, .int .i64 0, .int .i64 0] 83 (0, 0))) (a b c d e f : Value) :
    ((((((W.setCell ⟨g, 0, none⟩ a).setCell ⟨g, 1, none⟩ b).setCell ⟨g, 2, none⟩ c).setCell ⟨g, 3, none⟩ d).setCell ⟨g, 4, none⟩ e).setCell ⟨g, 5, none⟩ f).heap[g]? = some (.cells #[a, b, c, d, e, f] 83 (0, 0)) ∧ Only (fun k => k = g) W ((((((W.setCell ⟨g, 0, none⟩ a).setCell ⟨g, 1, none⟩ b).setCell ⟨g, 2, none⟩ c).setCell ⟨g, 3, none⟩ d).setCell ⟨g, 4, none⟩ e).setCell ⟨g, 5, none⟩ f) := by
  have b0 := blk_set h 0 a
  have b1 := blk_set b0 1 b
  have b2 := blk_set b1 2 c
  have b3 := blk_set b2 3 d
  have b4 := blk_set b3 4 e
  have b5 := blk_set b4 5 f
  refine ⟨by simpa using b5, ?_⟩
  exact ((((((only_set (w := W) g 0 a).trans (only_set g 1 b) (fun _ _ e => e)).trans (only_set g 2 c) (fun _ _ e => e)).trans (only_set g 3 d) (fun _ _ e => e)).trans (only_set g 4 e) (fun _ _ e => e)).trans (only_set g 5 f) (fun _ _ e => e))
set_option maxRecDepth 100000 in
set_option maxHeartbeats 3200000 in
theorem dateof_c (t : Nat) (ht : t ≤ 4294967296) : Calls Tryz.prog 33 #[.int .i64 (t : Nat)] w fun e w' => e = .returned (.tuple #[.agg (dateR t).cells.toArray, .int .i64 0]) ∧ Only (fun _ => False) w w' := by
  have h0 : ¬ ((t : Nat) : Int) < 0 := by omega
  have h1 : ¬ (4294967296 : Int) < ((t : Nat) : Int) := by omega
  obtain ⟨r, hr⟩ : ∃ x, yl (t / 1440 % 146097) (2000 + 400 * ((t / 1440 / 146097 : Nat) : Int)) (t / 1440 % 146097) = x := ⟨_, rfl⟩
  obtain ⟨q, hq⟩ : ∃ x, ml r.1 r.2 1 r.2 = x := ⟨_, rfl⟩
  have hR : dateR t = ⟨r.1, q.1, q.2 + 1, t / 60 % 24, t % 60, (t / 1440 + 6) % 7⟩ := by unfold dateR; simp only [hr, hq]
  have hy1 := yl_le (t / 1440 % 146097) (2000 + 400 * ((t / 1440 / 146097 : Nat) : Int)) (t / 1440 % 146097)
  have hd1 := yl_lt (t / 1440 % 146097) (2000 + 400 * ((t / 1440 / 146097 : Nat) : Int)) (t / 1440 % 146097) (Nat.le_refl _)
  rw [hr] at hy1 hd1
  rw [hR]
  have HR := hid hr; have HQ := hid hq; have HY := hid hy1; have HD := hid hd1; have HT := hid ht
  clear hR hr hq hy1 hd1
  go_enter Tryz.func33, Tryz.ntmps33
  go_wp2_with fail
  obtain ⟨hI, hhI⟩ : ∃ x : Int, (t : Int) / 60 % 24 = x := ⟨_, rfl⟩
  obtain ⟨mI, hmI⟩ : ∃ x : Int, (t : Int) % 60 = x := ⟨_, rfl⟩
  obtain ⟨kI, hkI⟩ : ∃ x : Int, ((t : Int) / 1440 + 6) % 7 = x := ⟨_, rfl⟩
  rw [hhI, hmI, hkI]
  have HH : Hid (hI = ((t / 60 % 24 : Nat) : Int)) := hid (by omega)
  have HM : Hid (mI = ((t % 60 : Nat) : Int)) := hid (by omega)
  have HK : Hid (kI = (((t / 1440 + 6) % 7 : Nat) : Int)) := hid (by omega)
  clear hhI hmI hkI
  go_loopw [5] (fun v wr => ∃ (y : Int) (d f : Nat), v = .int .i64 d ∧ d ≤ f ∧ yl f y d = r ∧ (2000 ≤ y ∧ y + f ≤ 10000000) ∧ DS w wr w.heap.size (w.heap.size + 1) y 0 0 hI mI kI) (fun v _ => (intOf v).toNat)
  case atStart =>
    refine ⟨2000 + 400 * ((t : Int) / 1440 / 146097), t / 1440 % 146097, t / 1440 % 146097, by congr 1, Nat.le_refl _, ?_, ?_, ?_⟩
    · rw [← HR.out]; congr 1
    · omega
    · have b1 := blk_new w (.cells #[.int .i64 0, .int .i64 0, .int .i64 0, .int .i64 0, .int .i64 0, .int .i64 0] 83)
      have o1 := only_new w (.cells #[.int .i64 0, .int .i64 0, .int .i64 0, .int .i64 0, .int .i64 0, .int .i64 0] 83)
      have b2 := blk_new (w.alloc (.cells #[.int .i64 0, .int .i64 0, .int .i64 0, .int .i64 0, .int .i64 0, .int .i64 0] 83)) (.cells #[.int .i64 (2000 + 400 * ((t : Int) / 1440 / 146097)), .int .i64 0, .int .i64 0, .int .i64 hI, .int .i64 mI, .int .i64 kI] 83)
      have o2 := only_new (w.alloc (.cells #[.int .i64 0, .int .i64 0, .int .i64 0, .int .i64 0, .int .i64 0, .int .i64 0] 83)) (.cells #[.int .i64 (2000 + 400 * ((t : Int) / 1440 / 146097)), .int .i64 0, .int .i64 0, .int .i64 hI, .int .i64 mI, .int .i64 kI] 83)
      rw [World.size_alloc] at b2
      exact ⟨b2, blk_only b1 o2 (fun e => e), o1.trans o2 (fun _ _ e => e), Nat.le_refl _, by omega, by omega⟩
  case round =>
    obtain ⟨y, d, f, rfl, hdf, hy, hyb, hds⟩ := hrel
    have HDS := hid hds; have HYL := hid hy
    have hyd : 365 ≤ yDays y ∧ yDays y ≤ 366 := by unfold yDays; split <;> omega
    have e0 : wr.cell? ⟨w.heap.size + 1, 0, none⟩ = some (.int .i64 y) := cell_blk hds.blk 0
    have HLP := hid (leap_c (w := wr) y)
    clear hds hy
    obtain ⟨nd, hnd⟩ : ∃ n : Nat, yDays y = n := ⟨_, rfl⟩
    rw [hnd] at hyd
    have hyl : (d < nd ∧ r = (y, d)) ∨ (nd ≤ d ∧ ∃ f', f = f' + 1 ∧ yl f' (y + 1) (d - nd) = r) := by
      have h := HYL.out
      rcases Nat.lt_or_ge d nd with g | g
      · refine .inl ⟨g, ?_⟩
        cases f with
        | zero => rw [yl] at h; exact h.symm
        | succ f => rw [yl, hnd, if_pos g] at h; exact h.symm
      · refine .inr ⟨g, ?_⟩
        cases f with
        | zero => omega
        | succ f => rw [yl, hnd, if_neg (by omega)] at h; exact ⟨f, rfl, h⟩
    clear HYL
    cases hl : cLeap y
    all_goals
      rw [hl] at HLP
      rw [show yDays y = if cLeap y = true then 366 else 365 from rfl, hl] at hnd
      simp only [Bool.false_eq_true, if_false, if_true] at hnd
      subst hnd
      clear hl
      rcases hyl with ⟨hlt, hr⟩ | ⟨hge, f', rfl, hyl⟩
      · subst hr
        first | have hlti : (d : Int) < 365 := by omega | have hlti : (d : Int) < 366 := by omega
        go_wp2_with fail
        refine HLP.out.mono ?_
        rintro e w' ⟨rfl, rfl⟩
        clear HLP e0
        have HDM := hid (HDS.out.mon 1)
        have c1 : w'.cell? ⟨w.heap.size + 1, 1, none⟩ = some (.int .i64 0) := cell_blk HDS.out.blk 1
        have z1 := frozen_blk HDS.out.blk
        clear HDS
        go_wp2_with fail
        go_loopw [5] (fun v wr2 => ∃ (m : Int) (d2 f2 : Nat), v = .int .i64 d2 ∧ d2 ≤ f2 ∧ ml y f2 m d2 = q ∧ (1 ≤ m ∧ m + f2 ≤ 10000) ∧ DS w wr2 w.heap.size (w.heap.size + 1) y m 0 hI mI kI) (fun v _ => (intOf v).toNat)
        case atStart => exact ⟨1, d, d, rfl, Nat.le_refl _, HQ.out, by have h' : d < 366 := HD.out; omega, HDM.out⟩
        case round =>
          obtain ⟨m, d2, f2, rfl, hdf2, hm, hmb, hds2⟩ := hrel
          have HDS2 := hid hds2; have HML := hid hm
          have hmd := cDays_m y m
          obtain ⟨k, hk⟩ : ∃ n : Nat, mDays y m = n := ⟨_, rfl⟩
          rw [hk] at hmd
          have e0 : wr.cell? ⟨w.heap.size + 1, 0, none⟩ = some (.int .i64 y) := cell_blk hds2.blk 0
          have e1 : wr.cell? ⟨w.heap.size + 1, 1, none⟩ = some (.int .i64 m) := cell_blk hds2.blk 1
          have e2 : wr.cell? ⟨w.heap.size + 1, 2, none⟩ = some (.int .i64 0) := cell_blk hds2.blk 2
          have z1 := frozen_blk hds2.blk
          have HDY := hid (days_c (w := wr) y m)
          rw [hmd.1] at HDY
          have hml : (d2 < k ∧ q = (m, d2)) ∨ (k ≤ d2 ∧ ∃ f', f2 = f' + 1 ∧ ml y f' (m + 1) (d2 - k) = q) := by
            have h := HML.out
            rcases Nat.lt_or_ge d2 k with g | g
            · refine .inl ⟨g, ?_⟩
              cases f2 with
              | zero => rw [ml] at h; exact h.symm
              | succ f => rw [ml, hk, if_pos g] at h; exact h.symm
            · refine .inr ⟨g, ?_⟩
              cases f2 with
              | zero => omega
              | succ f => rw [ml, hk, if_neg (by omega)] at h; exact ⟨f, rfl, h⟩
          obtain ⟨-, hk28, hk31⟩ := hmd
          clear HML hm hds2 hk
          rcases hml with ⟨hlt2, hq⟩ | ⟨hge2, f', rfl, hml⟩
          · subst hq
            have hlt2i : ¬ (k : Int) ≤ d2 := by omega
            go_wp2_with fail
            refine HDY.out.mono ?_
            rintro e w3 ⟨rfl, rfl⟩
            clear HDY
            have HB3 : Hid ((w3.setCell ⟨w.heap.size + 1, 2, none⟩ (.int .i64 ((d2 : Int) + 1))).heap[w.heap.size + 1]? = some (.cells #[.int .i64 y, .int .i64 m, .int .i64 ((d2 : Int) + 1), .int .i64 hI, .int .i64 mI, .int .i64 kI] 83 (0, 0))) := hid (by have := blk_set HDS2.out.blk 2 (.int .i64 ((d2 : Int) + 1)); simpa using this)
            have HO3 := hid (only_set (w := w3) (w.heap.size + 1) 2 (.int .i64 ((d2 : Int) + 1)))
            have HRS := hid (blk_only HDS2.out.res HO3.out HDS2.out.ne)
            have HX := hid (set6 HRS.out (.int .i64 y) (.int .i64 m) (.int .i64 ((d2 : Int) + 1)) (.int .i64 hI) (.int .i64 mI) (.int .i64 kI))
            have e3 : w3.cell? ⟨w.heap.size + 1, 3, none⟩ = some (.int .i64 hI) := cell_blk HDS2.out.blk 3
            have e4 : w3.cell? ⟨w.heap.size + 1, 4, none⟩ = some (.int .i64 mI) := cell_blk HDS2.out.blk 4
            have e5 : w3.cell? ⟨w.heap.size + 1, 5, none⟩ = some (.int .i64 kI) := cell_blk HDS2.out.blk 5
            have r0 : w3.cell? ⟨w.heap.size, 0, none⟩ = some (.int .i64 0) := cell_blk HDS2.out.res 0
            have r1 : w3.cell? ⟨w.heap.size, 1, none⟩ = some (.int .i64 0) := cell_blk HDS2.out.res 1
            have r2 : w3.cell? ⟨w.heap.size, 2, none⟩ = some (.int .i64 0) := cell_blk HDS2.out.res 2
            have r3 : w3.cell? ⟨w.heap.size, 3, none⟩ = some (.int .i64 0) := cell_blk HDS2.out.res 3
            have r4 : w3.cell? ⟨w.heap.size, 4, none⟩ = some (.int .i64 0) := cell_blk HDS2.out.res 4
            have r5 : w3.cell? ⟨w.heap.size, 5, none⟩ = some (.int .i64 0) := cell_blk HDS2.out.res 5
            have zr := frozen_blk HDS2.out.res
            go_wp2_with fail
            exact bodyPost_ret (results_cell1 rfl _ _ w.heap.size 83 #[.int .i64 y, .int .i64 m, .int .i64 ((d2 : Int) + 1), .int .i64 hI, .int .i64 mI, .int .i64 kI] (0, 0) _ rfl HX.out.1 Tryz.underlying83 rfl info_date) rfl ⟨by
              rw [HH.out, HM.out, HK.out]; rfl, (HDS2.out.only.trans HO3.out (fun k hk e => by have e' : k = w.heap.size + 1 := e; omega)).trans HX.out.2 (fun k hk e => by have e' : k = w.heap.size := e; omega)⟩
          · have hge2i : (k : Int) ≤ d2 := by omega
            have HDM2 := hid (HDS2.out.mon (m + 1))
            have HML := hid hml
            clear hml HDS2
            go_wp2_with fail
            refine HDY.out.mono ?_
            rintro e w3 ⟨rfl, rfl⟩
            go_wp2_with fail
            refine HDY.out.mono ?_
            rintro e w3 ⟨rfl, rfl⟩
            go_wp2_with fail
            go_roundw
            case rel => exact ⟨m + 1, d2 - k, f', by go_num, by omega, HML.out, by omega, HDM2.out⟩
            case measure => simp [intOf]; omega
      · first | have hgei : ¬ (d : Int) < 366 := by omega | have hgei : ¬ (d : Int) < 365 := by omega
        have HDM := hid (HDS.out.year (y + 1))
        have z1 := frozen_blk HDS.out.blk
        have HYL := hid hyl
        clear hyl HDS
        go_wp2_with fail
        refine HLP.out.mono ?_
        rintro e w' ⟨rfl, rfl⟩
        go_wp2_with fail
        go_roundw
        case rel => exact ⟨y + 1, d - _, f', by go_num, by omega, HYL.out, by omega, HDM.out⟩
        case measure => simp [intOf]; omega
end
end Go.Proofs.YtokefeemhgcmhaaGreatDoor
