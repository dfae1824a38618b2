/- DiskOwn: the walk. -/
import Derived.Test.YtepndjojodbhdaaBytes
import Derived.Test.YtepndjojodbhdaaFuse
import Derived.Deep.RegionWith
namespace Go.Proofs.Ytepndjojodbhdaa
open Go.RowKit

/-- The disk of one sector, written once, with these bytes. -/
def O1 (l : List UInt8) : DiskM := ((DiskM.new 1).write 0 (sectorL l)).1
theorem o1_code (l : List UInt8) : ((DiskM.new 1).write 0 (sectorL l)).2 = 0 := by simp [DiskM.write, DiskM.new, DiskM.burns]
theorem o1_eq (l : List UInt8) : O1 l = { (DiskM.new 1).put 0 (sectorL l) with nw := 1 } := by
  simp [O1, DiskM.write, DiskM.new, DiskM.burns, DiskM.burn, wrap64, DiskM.put]
theorem o1_cur (l : List UInt8) : (O1 l).cur 0 = sectorL l := by simp [o1_eq, DiskM.cur, DiskM.put]
theorem o2_code (l : List UInt8) : (O1 l).flush.2 = 0 := by simp [o1_eq, DiskM.flush, DiskM.put, DiskM.new, DiskM.burns]
theorem o2_down (l : List UInt8) : (O1 l).flush.1.down = false := by simp [o1_eq, DiskM.flush, DiskM.put, DiskM.new, DiskM.burns, DiskM.flushed, DiskM.burn]
theorem o1_n (l : List UInt8) : (O1 l).n = 1 := by rw [o1_eq]; rfl
theorem o2_n (l : List UInt8) : (O1 l).flush.1.n = 1 := by rw [flush_n, o1_eq]; rfl
theorem o2_sure (l : List UInt8) : (O1 l).flush.1.sure 0 = sectorL l := by
  have : (O1 l).flush.1.sure = (O1 l).cur := by
    have e : (O1 l).flush = ({ (O1 l).burn.flushed with nf := wrap64 ((O1 l).nf + 1) }, 0) := by
      have h1 : (O1 l).down = false := by rw [o1_eq]; rfl
      have h2 : (O1 l).burns = true := by rw [o1_eq]; rfl
      simp [DiskM.flush, h1, h2]
    rw [e]
    show (O1 l).burn.cur = _
    unfold DiskM.cur; rw [burn_pend, burn_sure]
  rw [this, o1_cur]
theorem o2_cur (l : List UInt8) : (O1 l).flush.1.cur 0 = sectorL l := by
  have : (O1 l).flush.1.pend 0 = none := by
    have h1 : (O1 l).down = false := by rw [o1_eq]; rfl
    have h2 : (O1 l).burns = true := by rw [o1_eq]; rfl
    simp [DiskM.flush, h1, h2, DiskM.flushed]
  unfold DiskM.cur; rw [this, ← o2_sure l]; rfl

theorem sectorL_len (l : List UInt8) : (sectorL l).length = 128 := by simp

set_option maxRecDepth 100000 in
set_option maxHeartbeats 3200000 in
theorem diskOwn_c (w : World) (v : Value) (l : List UInt8) (hs : Src w v l) (hvl : l ≠ [] → ∀ g o c, v = .slice (some ⟨g, o, none⟩) l.length c → g < w.heap.size) :
    Calls Try.prog 4 #[v] w fun e w' => e = .returned (.bool true) ∧ Only (fun _ => False) w w' := by
  obtain ⟨a, c, rfl⟩ := hs.len
  have HS := hid hs; have HVL := hid hvl
  clear hs hvl
  go_enter Try.func4, Try.ntmps4
  go_wp2_with fail
  refine (works_c w).mono ?_
  rintro e w1 ⟨rfl, ho1⟩
  have Ho1 := hid ho1
  clear ho1
  by_cases h128 : 128 < l.length
  · go_wp2_with fail
    go_ret
    exact ⟨rfl, Ho1.out⟩
  go_wp2_with fail
  refine (new_ok w1 1 (by decide) (by decide)).mono ?_
  rintro e w2 ⟨b, F0, rfl, h0, ho0, hF0⟩
  have H0 := hid h0; have Ho2 := hid (Ho1.out.trans ho0 (fun _ _ e => e))
  have HF0 : Hid (∀ k, F0 k → w.heap.size ≤ k) := hid (fun k hk => by have h1 := Ho1.out.size; have h2 := hF0 k hk; omega)
  clear h0 ho0 hF0 Ho1
  go_wp2_with fail
  refine (sector_c w2 _ l (HS.out.only Ho2.out (fun _ _ _ _ _ e => e))).mono ?_
  rintro e w3 ⟨g1, rfl, hm, ho⟩
  have h1 := H0.out.only ho (fun _ _ e => e)
  have HC := hid (write_c h1 0 _ _ (made_src128 hm (sectorL_len l)) (hm.apart H0.out) (by simp))
  rw [o1_code] at HC
  have Ho3 := hid (Ho2.out.trans ho (fun _ _ e => e))
  have hg1 : Hid (w.heap.size ≤ g1 ∧ ¬ F0 g1) := hid ⟨by have h1 := Ho2.out.size; have := hm.lo; omega, fun hf => by have := H0.out.lt hf; have := hm.lo; omega⟩
  have Hm1 := hid hm.row
  clear h1 hm ho Ho2
  go_wp2_with fail
  refine HC.out.mono ?_
  rintro e w4 ⟨rfl, F1, h1, ho, hF1⟩
  have H1 : Hid (DiskAt w4 b (O1 l) F1) := hid h1
  have Ho4 := hid (Ho3.out.trans ho (fun k hk hf => by have := HF0.out k hf; omega))
  have HF1 : Hid (∀ k, F1 k → w.heap.size ≤ k) := hid (fun k hk => by have h5 := Ho3.out.size; rcases hF1 k hk with h | h; exact HF0.out k h; omega)
  have hg1' : Hid (¬ F1 g1) := hid (fun hf => by rcases hF1 g1 hf with h | h; exact hg1.out.2 h; have := Hm1.out.lt; omega)
  have HI1 := hid (IncInv.start (Hm1.out.only ho hg1.out.2))
  rw [sectorL_len] at HI1
  clear HC Ho3 HF0 h1 ho hF1 H0 Hm1
  go_wp2_with fail
  try go_frame
  go_loopw [36, 6] (fun i _ wr => ∃ k : Nat, i = .int .i64 k ∧ k ≤ 128 ∧ IncInv w4 wr g1 128 128) (fun i _ _ => 128 - (intOf i).toNat)
  case atStart => exact ⟨0, rfl, by omega, HI1.out⟩
  case round =>
  obtain ⟨k, rfl, hk, hinv⟩ := hrel
  have HI := hid hinv
  clear hinv
  by_cases hkl : k < 128
  · obtain ⟨x, hcx, hzx, hnx⟩ := HI.out.cell k hkl
    have HN := hid hnx
    clear hnx HI
    go_wp2
    go_roundw
    case rel => exact ⟨k + 1, by go_num, by omega, HN.out _⟩
    case measure => simp [intOf]; omega
  obtain rfl : k = 128 := by omega
  obtain ⟨w5, hwn⟩ : ∃ w', w' = wr := ⟨_, rfl⟩
  have ho1 : Only (fun j => j = g1) w4 w5 := by rw [hwn]; obtain ⟨_, _, _, h⟩ := HI.out; exact h
  have HO1 := hid ho1
  subst hwn
  clear ho1 HI
  have H2 := hid (H1.out.only HO1.out (fun k hk e => hg1'.out (e ▸ hk)))
  have Ho5 := hid (Ho4.out.trans HO1.out (fun k hk e => by have := hg1.out.1; omega))
  clear H1 Ho4 HO1 HI1
  go_wp2_with fail
  refine (read_ok H2.out (by rw [o1_eq]; rfl) 0 (by decide) (by rw [o1_n]; decide)).mono ?_
  rintro e w6 ⟨g2, c2, rfl, hm, ho⟩
  have H3 := hid (H2.out.only ho (fun _ _ e => e))
  have Ho6 := hid (Ho5.out.trans ho (fun _ _ e => e.elim))
  have hg2 : Hid (w.heap.size ≤ g2 ∧ ¬ F1 g2) := hid ⟨by have h1 := Ho5.out.size; have := hm.lo; omega, fun hf => by have := H2.out.lt hf; have := hm.lo; omega⟩
  have HI2 := hid (IncInv.start hm.row)
  rw [H2.out.cur_len (by rw [o1_n]; decide)] at HI2
  clear hm ho Ho5 H2
  unfold secV
  go_wp2_with fail
  try go_frame
  go_loopw [53, 9] (fun i _ wr => ∃ k : Nat, i = .int .i64 k ∧ k ≤ 128 ∧ IncInv w6 wr g2 c2 128) (fun i _ _ => 128 - (intOf i).toNat)
  case atStart => exact ⟨0, rfl, by omega, HI2.out⟩
  case round =>
  obtain ⟨k, rfl, hk, hinv⟩ := hrel
  have HI := hid hinv
  clear hinv
  by_cases hkl : k < 128
  · obtain ⟨x, hcx, hzx, hnx⟩ := HI.out.cell k hkl
    have HN := hid hnx
    clear hnx HI
    go_wp2
    go_roundw
    case rel => exact ⟨k + 1, by go_num, by omega, HN.out _⟩
    case measure => simp [intOf]; omega
  obtain rfl : k = 128 := by omega
  obtain ⟨w7, hwn⟩ : ∃ w', w' = wr := ⟨_, rfl⟩
  have ho2 : Only (fun j => j = g2) w6 w7 := by rw [hwn]; obtain ⟨_, _, _, h⟩ := HI.out; exact h
  have HO2 := hid ho2
  subst hwn
  clear ho2 HI
  have H4 := hid (H3.out.only HO2.out (fun k hk e => hg2.out.2 (e ▸ hk)))
  have Ho7 := hid (Ho6.out.trans HO2.out (fun k hk e => by have := hg2.out.1; omega))
  clear H3 Ho6 HO2 HI2
  go_wp2_with fail
  have hf := flush_c H4.out
  rw [o2_code] at hf
  refine hf.mono ?_
  rintro e w8 ⟨rfl, h5, ho⟩
  have H5 := hid h5
  have Ho8 := hid (Ho7.out.trans ho (fun k hk hf => by have := HF1.out k hf; omega))
  clear hf h5 ho Ho7 H4
  go_wp2_with fail
  refine (read_ok H5.out (o2_down l) 0 (by decide) (by rw [o2_n]; decide)).mono ?_
  rintro e w9 ⟨g3, c3, rfl, hm, ho⟩
  have H6 := hid (H5.out.only ho (fun _ _ e => e))
  have Ho9 := hid (Ho8.out.trans ho (fun _ _ e => e.elim))
  have hg3 : Hid (w.heap.size ≤ g3 ∧ ¬ F1 g3) := hid ⟨by have h1 := Ho8.out.size; have := hm.lo; omega, fun hf => by have := H5.out.lt hf; have := hm.lo; omega⟩
  have HI3 := hid (IncInv.start hm.row)
  rw [H5.out.cur_len (by rw [o2_n]; decide)] at HI3
  clear hm ho Ho8 H5
  unfold secV
  go_wp2_with fail
  try go_frame
  go_loopw [72, 12] (fun i _ wr => ∃ k : Nat, i = .int .i64 k ∧ k ≤ 128 ∧ IncInv w9 wr g3 c3 128) (fun i _ _ => 128 - (intOf i).toNat)
  case atStart => exact ⟨0, rfl, by omega, HI3.out⟩
  case round =>
  obtain ⟨k, rfl, hk, hinv⟩ := hrel
  have HI := hid hinv
  clear hinv
  by_cases hkl : k < 128
  · obtain ⟨x, hcx, hzx, hnx⟩ := HI.out.cell k hkl
    have HN := hid hnx
    clear hnx HI
    go_wp2
    go_roundw
    case rel => exact ⟨k + 1, by go_num, by omega, HN.out _⟩
    case measure => simp [intOf]; omega
  obtain rfl : k = 128 := by omega
  obtain ⟨w10, hwn⟩ : ∃ w', w' = wr := ⟨_, rfl⟩
  have ho3 : Only (fun j => j = g3) w9 w10 := by rw [hwn]; obtain ⟨_, _, _, h⟩ := HI.out; exact h
  have HO3 := hid ho3
  subst hwn
  clear ho3 HI
  have H7 := hid (H6.out.only HO3.out (fun k hk e => hg3.out.2 (e ▸ hk)))
  have Ho10 := hid (Ho9.out.trans HO3.out (fun k hk e => by have := hg3.out.1; omega))
  clear H6 Ho9 HO3 HI3
  go_wp2_with fail
  refine (sure_ok H7.out 0 (by decide) (by rw [o2_n]; decide)).mono ?_
  rintro e w11 ⟨g4, c4, rfl, hm, ho⟩
  have H8 := hid (H7.out.only ho (fun _ _ e => e))
  have Ho11 := hid (Ho10.out.trans ho (fun _ _ e => e.elim))
  have hg4 : Hid (w.heap.size ≤ g4 ∧ ¬ F1 g4) := hid ⟨by have h1 := Ho10.out.size; have := hm.lo; omega, fun hf => by have := H7.out.lt hf; have := hm.lo; omega⟩
  have HI4 := hid (IncInv.start hm.row)
  rw [H7.out.sure_len (by rw [o2_n]; decide)] at HI4
  clear hm ho Ho10 H7
  unfold secV
  go_wp2_with fail
  try go_frame
  go_loopw [89, 15] (fun i _ wr => ∃ k : Nat, i = .int .i64 k ∧ k ≤ 128 ∧ IncInv w11 wr g4 c4 128) (fun i _ _ => 128 - (intOf i).toNat)
  case atStart => exact ⟨0, rfl, by omega, HI4.out⟩
  case round =>
  obtain ⟨k, rfl, hk, hinv⟩ := hrel
  have HI := hid hinv
  clear hinv
  by_cases hkl : k < 128
  · obtain ⟨x, hcx, hzx, hnx⟩ := HI.out.cell k hkl
    have HN := hid hnx
    clear hnx HI
    go_wp2
    go_roundw
    case rel => exact ⟨k + 1, by go_num, by omega, HN.out _⟩
    case measure => simp [intOf]; omega
  obtain rfl : k = 128 := by omega
  obtain ⟨w12, hwn⟩ : ∃ w', w' = wr := ⟨_, rfl⟩
  have ho4 : Only (fun j => j = g4) w11 w12 := by rw [hwn]; obtain ⟨_, _, _, h⟩ := HI.out; exact h
  have HO4 := hid ho4
  subst hwn
  clear ho4 HI
  have H9 := hid (H8.out.only HO4.out (fun k hk e => hg4.out.2 (e ▸ hk)))
  have Ho12 := hid (Ho11.out.trans HO4.out (fun k hk e => by have := hg4.out.1; omega))
  clear H8 Ho11 HO4 HI4
  go_wp2_with fail
  refine (read_ok H9.out (o2_down l) 0 (by decide) (by rw [o2_n]; decide)).mono ?_
  rintro e w13 ⟨g5, c5, rfl, hm, ho⟩
  rw [show ((0 : Int).toNat) = 0 from rfl, o2_cur] at hm
  have Ho13 := hid (Ho12.out.trans ho (fun _ _ e => e.elim))
  have HSrc := hid hm.src
  have HArg := hid (HS.out.only Ho13.out (fun _ _ _ _ _ e => e))
  clear hm ho Ho12 H9
  unfold secV
  go_wp2_with fail
  have hod : Only (fun _ => False) w13 w13.drew := (Only.refl _ _).drew
  have HSrcD : Hid (Src w13.drew (.slice (some ⟨g5, 0, none⟩) 128 c5) (sectorL l)) := hid (HSrc.out.only hod (fun _ _ _ _ _ e => e))
  have HArgD := hid (HArg.out.only hod (fun _ _ _ _ _ e => e))
  have hcv := conv_str HSrcD.out
  have hsl := strOf_list (sectorL l)
  clear hod HSrc HArg
  go_region_with ((go_at_call 29; refine (sector_c _ _ l HArgD.out).mono ?_; rintro e w14 ⟨g6, rfl, hm6, ho6⟩; have hcv2 := conv_str (made_src128 hm6 (sectorL_len l)); have hcv3 := conv_str (HSrcD.out.only ho6 (fun _ _ _ _ _ e => e)); have Ho14 := hid ho6; clear hm6 ho6))
  all_goals
    go_wp2
    go_ret
    exact ⟨rfl, Ho13.out.drew.trans Ho14.out (fun _ _ e => e)⟩
end Go.Proofs.Ytepndjojodbhdaa
