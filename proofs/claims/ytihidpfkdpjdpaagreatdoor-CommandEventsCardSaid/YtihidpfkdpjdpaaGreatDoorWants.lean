/- foliotlaw10.wants is true. -/
import Derived.Test.YtihidpfkdpjdpaaGreatDoorCmO
import Derived.Test.YtihidpfkdpjdpaaGreatDoorCmQ
import Derived.Test.YtihidpfkdpjdpaaGreatDoorCmF
import Derived.Deep.RegionHeld3
namespace Go.Proofs.YtihidpfkdpjdpaaGreatDoor
open Go.RowKit
/-- A timer, and an end. -/
def cw0 : EM := ⟨0, 4, 1, 1, 5, [], [], .nil⟩
def cw1 : EM := ⟨0, 4, 4, 0, 0, [], [], .nil⟩
theorem cw0_rg : cw0.rg := by unfold EM.rg cw0; simp only [List.length_nil]; exact ⟨by omega, by omega, by omega, by omega, by omega, by omega, by omega, nil_vrg⟩
theorem cw1_rg : cw1.rg := by unfold EM.rg cw1; simp only [List.length_nil]; exact ⟨by omega, by omega, by omega, by omega, by omega, by omega, by omega, nil_vrg⟩
theorem cw_ok : ∀ e ∈ [cw0, cw1], e.rg ∧ e.isC := by
  intro e he
  rcases List.mem_cons.1 he with rfl | he
  · exact ⟨cw0_rg, rfl, rfl⟩
  · rw [List.mem_singleton.1 he]; exact ⟨cw1_rg, rfl, rfl⟩
theorem cw_all : cAll [cw0, cw1] = 0 := by decide
theorem cw0_cl : cw0.cl = cw0 := by unfold EM.cl cw0 VT.nil; rw [VT.cl]; simp
theorem cw1_cl : cw1.cl = cw1 := by unfold EM.cl cw1 VT.nil; rw [VT.cl]; simp
theorem cw_dec : cdR (cwrL [cw0, cw1]) = ([cw0, cw1], 0) := by
  rw [cd_enc cw_all (fun e he => ⟨(cw_ok e he).2, (cw_ok e he).1⟩)]
  simp only [List.map_cons, List.map_nil, cw0_cl, cw1_cl]
theorem cw0_cev : cw0.cev = ⟨0, 4, 11, 1, 9, [], [], .nil⟩ := by unfold EM.cev cw0; rfl
theorem itoa_1 {n : Nat} (h : n < 10) : Lib.itoa n = [UInt8.ofNat (48 + n)] := by unfold Lib.itoa; rw [if_neg (by omega)]; exact Lib.decDigits_one h
theorem cw0_pr : cw0.cpr = [64, 52, 32, 115, 116, 97, 114, 116, 45, 116, 105, 109, 101, 114, 32, 49, 32, 53] := by
  have h4 : Lib.itoa 4 = [52] := itoa_1 (n := 4) (by omega)
  have h1 : Lib.itoa 1 = [49] := itoa_1 (n := 1) (by omega)
  have h5 : Lib.itoa 5 = [53] := itoa_1 (n := 5) (by omega)
  show 64 :: (Lib.itoa 4 ++ 32 :: (cName 1 ++ (cFlds 1).flatMap cw0.ft)) = _
  rw [h4, show cFlds 1 = [65, 66] from rfl]
  simp only [List.flatMap_cons, List.flatMap_nil, List.append_nil]
  rw [show cw0.ft 65 = 32 :: Lib.itoa 1 from rfl, show cw0.ft 66 = 32 :: Lib.itoa 5 from rfl, h1, h5]; rfl
theorem cw0_fits : cw0.fits ⟨0, 4, 11, 1, 9, [], [], .nil⟩ = true := by decide
theorem cw_wr_len : (cwrL [cw0, cw1]).length ≤ 1000000000 := by decide
section
variable {w : World}
theorem cw_vs {w : World} {g : Nat} (h : w.heap[g]? = some (.cells #[.int .i64 1, .int .i64 4, .int .i64 1, .int .i64 5, .string ⟨#[]⟩, .int .i64 0, .int .i64 0, .string ⟨#[]⟩, .slice none 0 0, .int .i64 4, .int .i64 4, .int .i64 0, .int .i64 0, .string ⟨#[]⟩, .int .i64 0, .int .i64 0, .string ⟨#[]⟩, .slice none 0 0] 26 (0, 0))) : CmsV w (fun k => k = g) (.slice (some ⟨g, 0, none⟩) 2 2) [cw0, cw1] := by
  refine ⟨_, 2, g, 0, rfl, fun _ => ⟨rfl, rfl⟩, fun i e hi => ?_⟩
  match i, hi with
  | 0, hi =>
    obtain rfl := Option.some.inj hi
    refine ⟨[.int .i64 1, .int .i64 4, .int .i64 1, .int .i64 5, .string ⟨#[]⟩, .int .i64 0, .int .i64 0, .string ⟨#[]⟩, .slice none 0 0], fun j u hj => ?_, ⟨_, rfl, novlc _ _ 0 0 []⟩⟩
    rw [cell_blk h]
    have hj9 : j < 9 := by
      rcases Nat.lt_or_ge j 9 with h | h
      · exact h
      · rw [List.getElem?_eq_none (by simpa using h)] at hj; cases hj
    simp only [Nat.zero_mul, Nat.zero_add]
    rw [← hj]
    match j, hj9 with
    | 0, _ => rfl
    | 1, _ => rfl
    | 2, _ => rfl
    | 3, _ => rfl
    | 4, _ => rfl
    | 5, _ => rfl
    | 6, _ => rfl
    | 7, _ => rfl
    | 8, _ => rfl
  | 1, hi =>
    obtain rfl := Option.some.inj hi
    refine ⟨[.int .i64 4, .int .i64 4, .int .i64 0, .int .i64 0, .string ⟨#[]⟩, .int .i64 0, .int .i64 0, .string ⟨#[]⟩, .slice none 0 0], fun j u hj => ?_, ⟨_, rfl, novlc _ _ 0 0 []⟩⟩
    rw [cell_blk h]
    have hj9 : j < 9 := by
      rcases Nat.lt_or_ge j 9 with h | h
      · exact h
      · rw [List.getElem?_eq_none (by simpa using h)] at hj; cases hj
    rw [← hj]
    match j, hj9 with
    | 0, _ => rfl
    | 1, _ => rfl
    | 2, _ => rfl
    | 3, _ => rfl
    | 4, _ => rfl
    | 5, _ => rfl
    | 6, _ => rfl
    | 7, _ => rfl
    | 8, _ => rfl
  | i + 2, hi => exact absurd hi (by simp)
set_option maxRecDepth 100000 in
set_option maxHeartbeats 6400000 in
theorem wants_c (hT : Tab w) : Calls Tryz.prog 4 #[] w fun x w' => x = .returned (.bool true) ∧ Only (fun _ => False) w w' := by
  have HT := hid hT
  clear hT
  have HB0 := hid (blk_new w (.cells #[.int .i64 1, .int .i64 4, .int .i64 1, .int .i64 5, .string ⟨#[]⟩, .int .i64 0, .int .i64 0, .string ⟨#[]⟩, .slice none 0 0, .int .i64 4, .int .i64 4, .int .i64 0, .int .i64 0, .string ⟨#[]⟩, .int .i64 0, .int .i64 0, .string ⟨#[]⟩, .slice none 0 0] 26))
  have HO0 := hid (only_new w (.cells #[.int .i64 1, .int .i64 4, .int .i64 1, .int .i64 5, .string ⟨#[]⟩, .int .i64 0, .int .i64 0, .string ⟨#[]⟩, .slice none 0 0, .int .i64 4, .int .i64 4, .int .i64 0, .int .i64 0, .string ⟨#[]⟩, .int .i64 0, .int .i64 0, .string ⟨#[]⟩, .slice none 0 0] 26))
  have HC := hid (cencode_c (w := w.alloc (.cells #[.int .i64 1, .int .i64 4, .int .i64 1, .int .i64 5, .string ⟨#[]⟩, .int .i64 0, .int .i64 0, .string ⟨#[]⟩, .slice none 0 0, .int .i64 4, .int .i64 4, .int .i64 0, .int .i64 0, .string ⟨#[]⟩, .int .i64 0, .int .i64 0, .string ⟨#[]⟩, .slice none 0 0] 26)) (cw_vs (blk_new w _)) (fun k hk => by have e' : k = w.heap.size := hk; simp; omega) cw_ok (by decide))
  go_enter Tryz.func4, Tryz.ntmps4
  go_wp2_with fail
  refine HC.out.mono ?_
  rintro x w2 ⟨v, rfl, hv⟩
  rw [cw_all, if_pos rfl] at hv
  rw [cw_all]
  have hwl := cw_wr_len
  have hdc := cw_dec
  obtain ⟨wl, hwl'⟩ : ∃ x, cwrL [cw0, cw1] = x := ⟨_, rfl⟩
  rw [hwl'] at hv hwl hdc
  obtain ⟨ao, cp, rfl, hgr, -, ho2⟩ := hv
  have HO2 := hid (HO0.out.trans ho2 (fun _ _ e => e))
  have HB2 := hid (blk_only HB0.out ho2 (fun e => e))
  have HD := hid (cdecode_c hgr.src hwl)
  have HDC := hid hdc
  clear hgr ho2 HC hwl hwl' hdc
  go_wp2_with fail
  refine HD.out.mono ?_
  rintro x w3 ⟨v3, rfl, hk3, ho3, -⟩
  rw [HDC.out] at hk3 ⊢
  simp only at hk3 ⊢
  obtain ⟨ad, cap, g, o, rfl, hne, hel⟩ := hk3
  obtain ⟨rfl, hGg⟩ := hne (by simp)
  obtain ⟨cs, hcs, hEe⟩ := hel 0 cw0 rfl
  obtain ⟨vk, vn, vs, va, vm, vc, rfl, hV⟩ := hEe.form
  simp only [cw0] at hcs hV
  have HO3 := hid (HO2.out.trans ho3 (fun _ _ e => e))
  have HB3 := hid (blk_only HB2.out ho3 (fun e => e))
  have HCS := hid hcs; have HV3 := hid hV
  have HEV := hid (cevent_c (w := w3) (G := fun _ => False) (e := cw0) (cs := [.int .i64 1, .int .i64 4, .int .i64 1, .int .i64 5, .string ⟨#[]⟩, .int .i64 0, .int .i64 0, .string ⟨#[]⟩, .slice none 0 0]) ⟨_, rfl, novlc _ _ 0 0 []⟩ (fun k hk => hk.elim) cw0_rg (by decide))
  rw [cw0_cev] at HEV
  clear hel hne hEe hV hcs ho3 HD
  have l0 : w3.cell? ⟨w.heap.size, 0, none⟩ = some (.int .i64 1) := cell_blk HB3.out 0
  have l1 : w3.cell? ⟨w.heap.size, 1, none⟩ = some (.int .i64 4) := cell_blk HB3.out 1
  have l2 : w3.cell? ⟨w.heap.size, 2, none⟩ = some (.int .i64 1) := cell_blk HB3.out 2
  have l3 : w3.cell? ⟨w.heap.size, 3, none⟩ = some (.int .i64 5) := cell_blk HB3.out 3
  have l4 : w3.cell? ⟨w.heap.size, 4, none⟩ = some (.string ⟨#[]⟩) := cell_blk HB3.out 4
  have l5 : w3.cell? ⟨w.heap.size, 5, none⟩ = some (.int .i64 0) := cell_blk HB3.out 5
  have l6 : w3.cell? ⟨w.heap.size, 6, none⟩ = some (.int .i64 0) := cell_blk HB3.out 6
  have l7 : w3.cell? ⟨w.heap.size, 7, none⟩ = some (.string ⟨#[]⟩) := cell_blk HB3.out 7
  have l8 : w3.cell? ⟨w.heap.size, 8, none⟩ = some (.slice none 0 0) := cell_blk HB3.out 8
  have l9 : w3.cell? ⟨w.heap.size, 9, none⟩ = some (.int .i64 4) := cell_blk HB3.out 9
  have l10 : w3.cell? ⟨w.heap.size, 10, none⟩ = some (.int .i64 4) := cell_blk HB3.out 10
  have l11 : w3.cell? ⟨w.heap.size, 11, none⟩ = some (.int .i64 0) := cell_blk HB3.out 11
  have l12 : w3.cell? ⟨w.heap.size, 12, none⟩ = some (.int .i64 0) := cell_blk HB3.out 12
  have l13 : w3.cell? ⟨w.heap.size, 13, none⟩ = some (.string ⟨#[]⟩) := cell_blk HB3.out 13
  have l14 : w3.cell? ⟨w.heap.size, 14, none⟩ = some (.int .i64 0) := cell_blk HB3.out 14
  have l15 : w3.cell? ⟨w.heap.size, 15, none⟩ = some (.int .i64 0) := cell_blk HB3.out 15
  have l16 : w3.cell? ⟨w.heap.size, 16, none⟩ = some (.string ⟨#[]⟩) := cell_blk HB3.out 16
  have l17 : w3.cell? ⟨w.heap.size, 17, none⟩ = some (.slice none 0 0) := cell_blk HB3.out 17
  have hl3 := blk_lt HB3.out
  go_wp2_with fail
  refine HEV.out.mono ?_
  rintro x w4 ⟨ds, rfl, hev, ho4, -⟩
  obtain ⟨zk, zn, zs, za, zm, zc, rfl, hZ⟩ := hev.form
  simp only at hev hZ ⊢
  have hbx : (w4.alloc (.cells #[.int .i64 0, .int .i64 4, .int .i64 11, .int .i64 1, .int .i64 9, .string (strOf []), .string (strOf []), .int .i64 zk, .int .i64 zn, .string (strOf zs), .slice za zm zc] 31)).heap[w4.heap.size]? = some (.cells #[.int .i64 0, .int .i64 4, .int .i64 11, .int .i64 1, .int .i64 9, .string (strOf []), .string (strOf []), .int .i64 zk, .int .i64 zn, .string (strOf zs), .slice za zm zc] 31 (0, 0)) := blk_new w4 _
  have ho34 := ho4.trans (only_new w4 (.cells #[.int .i64 0, .int .i64 4, .int .i64 11, .int .i64 1, .int .i64 9, .string (strOf []), .string (strOf []), .int .i64 zk, .int .i64 zn, .string (strOf zs), .slice za zm zc] 31)) (fun _ _ e => e)
  obtain ⟨w5, hw5⟩ : ∃ x, w4.alloc (.cells #[.int .i64 0, .int .i64 4, .int .i64 11, .int .i64 1, .int .i64 9, .string (strOf []), .string (strOf []), .int .i64 zk, .int .i64 zn, .string (strOf zs), .slice za zm zc] 31) = x := ⟨_, rfl⟩
  obtain ⟨nx, hnx⟩ : ∃ x, w4.heap.size = x := ⟨_, rfl⟩
  rw [hw5] at hbx ho34
  rw [hnx] at hbx
  have hb5 := blk_only HB3.out ho34 (fun e => e)
  have HX5 := hid hbx; have HB5 := hid hb5; have HO35 := hid ho34
  have HO5 := hid (HO3.out.trans ho34 (fun _ _ e => e))
  have HZ5 : Hid (EAt w5 (New w3 w4) ⟨0, 4, 11, 1, 9, [], [], .nil⟩ [.int .i64 0, .int .i64 4, .int .i64 11, .int .i64 1, .int .i64 9, .string (strOf []), .string (strOf []), .int .i64 zk, .int .i64 zn, .string (strOf zs), .slice za zm zc]) := hid (by rw [← hw5]; exact hev.same (only_new w4 _))
  have HLN := hid (show nx < w5.heap.size from blk_lt hbx)
  have HZB : Hid (∀ k, New w3 w4 k → k < w5.heap.size) := hid (fun k hk => by have := hk.2; rw [← hw5]; simp; omega)
  have HK5 : Hid (∀ i u, [.int .i64 1, .int .i64 4, .int .i64 1, .int .i64 5, .string (strOf []), .int .i64 vk, .int .i64 vn, .string (strOf vs), .slice va vm vc][i]? = some u → w5.cell? ⟨g, o + 0 * 9 + i, none⟩ = some u) := hid (fun i u hu => (World.cell?_of_block (HO35.out.block g (World.block_lt_of_cell? _ _ (HCS.out i u hu)) (fun e => e))).trans (HCS.out i u hu))
  clear hev hZ hbx ho34 hb5 ho4 HEV l0 l1 l2 l3 l4 l5 l6 l7 l8 l9 l10 l11 l12 l13 l14 l15 l16 l17 hl3
  have l0 : w5.cell? ⟨w.heap.size, 0, none⟩ = some (.int .i64 1) := cell_blk HB5.out 0
  have l1 : w5.cell? ⟨w.heap.size, 1, none⟩ = some (.int .i64 4) := cell_blk HB5.out 1
  have l2 : w5.cell? ⟨w.heap.size, 2, none⟩ = some (.int .i64 1) := cell_blk HB5.out 2
  have l3 : w5.cell? ⟨w.heap.size, 3, none⟩ = some (.int .i64 5) := cell_blk HB5.out 3
  have l4 : w5.cell? ⟨w.heap.size, 4, none⟩ = some (.string ⟨#[]⟩) := cell_blk HB5.out 4
  have l5 : w5.cell? ⟨w.heap.size, 5, none⟩ = some (.int .i64 0) := cell_blk HB5.out 5
  have l6 : w5.cell? ⟨w.heap.size, 6, none⟩ = some (.int .i64 0) := cell_blk HB5.out 6
  have l7 : w5.cell? ⟨w.heap.size, 7, none⟩ = some (.string ⟨#[]⟩) := cell_blk HB5.out 7
  have l8 : w5.cell? ⟨w.heap.size, 8, none⟩ = some (.slice none 0 0) := cell_blk HB5.out 8
  have l9 : w5.cell? ⟨w.heap.size, 9, none⟩ = some (.int .i64 4) := cell_blk HB5.out 9
  have l10 : w5.cell? ⟨w.heap.size, 10, none⟩ = some (.int .i64 4) := cell_blk HB5.out 10
  have l11 : w5.cell? ⟨w.heap.size, 11, none⟩ = some (.int .i64 0) := cell_blk HB5.out 11
  have l12 : w5.cell? ⟨w.heap.size, 12, none⟩ = some (.int .i64 0) := cell_blk HB5.out 12
  have l13 : w5.cell? ⟨w.heap.size, 13, none⟩ = some (.string ⟨#[]⟩) := cell_blk HB5.out 13
  have l14 : w5.cell? ⟨w.heap.size, 14, none⟩ = some (.int .i64 0) := cell_blk HB5.out 14
  have l15 : w5.cell? ⟨w.heap.size, 15, none⟩ = some (.int .i64 0) := cell_blk HB5.out 15
  have l16 : w5.cell? ⟨w.heap.size, 16, none⟩ = some (.string ⟨#[]⟩) := cell_blk HB5.out 16
  have l17 : w5.cell? ⟨w.heap.size, 17, none⟩ = some (.slice none 0 0) := cell_blk HB5.out 17
  have hlb := blk_lt HB5.out
  have x0 : w5.cell? ⟨nx, 0, none⟩ = some (.int .i64 0) := cell_blk HX5.out 0
  have x1 : w5.cell? ⟨nx, 1, none⟩ = some (.int .i64 4) := cell_blk HX5.out 1
  have x2 : w5.cell? ⟨nx, 2, none⟩ = some (.int .i64 11) := cell_blk HX5.out 2
  have x3 : w5.cell? ⟨nx, 3, none⟩ = some (.int .i64 1) := cell_blk HX5.out 3
  have x4 : w5.cell? ⟨nx, 4, none⟩ = some (.int .i64 9) := cell_blk HX5.out 4
  have x5 : w5.cell? ⟨nx, 5, none⟩ = some (.string (strOf [])) := cell_blk HX5.out 5
  have x6 : w5.cell? ⟨nx, 6, none⟩ = some (.string (strOf [])) := cell_blk HX5.out 6
  have x7 : w5.cell? ⟨nx, 7, none⟩ = some (.int .i64 zk) := cell_blk HX5.out 7
  have x8 : w5.cell? ⟨nx, 8, none⟩ = some (.int .i64 zn) := cell_blk HX5.out 8
  have x9 : w5.cell? ⟨nx, 9, none⟩ = some (.string (strOf zs)) := cell_blk HX5.out 9
  have x10 : w5.cell? ⟨nx, 10, none⟩ = some (.slice za zm zc) := cell_blk HX5.out 10
  have hlx := blk_lt HX5.out
  have k0 : w5.cell? ⟨g, o, none⟩ = some (.int .i64 1) := HK5.out 0 _ rfl
  have k1 : w5.cell? ⟨g, o + 1, none⟩ = some (.int .i64 4) := HK5.out 1 _ rfl
  have k2 : w5.cell? ⟨g, o + 2, none⟩ = some (.int .i64 1) := HK5.out 2 _ rfl
  have k3 : w5.cell? ⟨g, o + 3, none⟩ = some (.int .i64 5) := HK5.out 3 _ rfl
  have k4 : w5.cell? ⟨g, o + 4, none⟩ = some (.string (strOf [])) := HK5.out 4 _ rfl
  have k5 : w5.cell? ⟨g, o + 5, none⟩ = some (.int .i64 vk) := HK5.out 5 _ rfl
  have k6 : w5.cell? ⟨g, o + 6, none⟩ = some (.int .i64 vn) := HK5.out 6 _ rfl
  have k7 : w5.cell? ⟨g, o + 7, none⟩ = some (.string (strOf vs)) := HK5.out 7 _ rfl
  have k8 : w5.cell? ⟨g, o + 8, none⟩ = some (.slice va vm vc) := HK5.out 8 _ rfl
  have HG : Hid (∀ W, Only (fun _ => False) w5 W → (W.cell? ⟨w.heap.size, 0, none⟩ = some (.int .i64 1) ∧ W.cell? ⟨w.heap.size, 1, none⟩ = some (.int .i64 4) ∧ W.cell? ⟨w.heap.size, 2, none⟩ = some (.int .i64 1) ∧ W.cell? ⟨w.heap.size, 3, none⟩ = some (.int .i64 5) ∧ W.cell? ⟨w.heap.size, 4, none⟩ = some (.string ⟨#[]⟩) ∧ W.cell? ⟨w.heap.size, 5, none⟩ = some (.int .i64 0) ∧ W.cell? ⟨w.heap.size, 6, none⟩ = some (.int .i64 0) ∧ W.cell? ⟨w.heap.size, 7, none⟩ = some (.string ⟨#[]⟩) ∧ W.cell? ⟨w.heap.size, 8, none⟩ = some (.slice none 0 0) ∧ W.cell? ⟨w.heap.size, 9, none⟩ = some (.int .i64 4) ∧ W.cell? ⟨w.heap.size, 10, none⟩ = some (.int .i64 4) ∧ W.cell? ⟨w.heap.size, 11, none⟩ = some (.int .i64 0) ∧ W.cell? ⟨w.heap.size, 12, none⟩ = some (.int .i64 0) ∧ W.cell? ⟨w.heap.size, 13, none⟩ = some (.string ⟨#[]⟩) ∧ W.cell? ⟨w.heap.size, 14, none⟩ = some (.int .i64 0) ∧ W.cell? ⟨w.heap.size, 15, none⟩ = some (.int .i64 0) ∧ W.cell? ⟨w.heap.size, 16, none⟩ = some (.string ⟨#[]⟩) ∧ W.cell? ⟨w.heap.size, 17, none⟩ = some (.slice none 0 0) ∧ W.cell? ⟨nx, 0, none⟩ = some (.int .i64 0) ∧ W.cell? ⟨nx, 1, none⟩ = some (.int .i64 4) ∧ W.cell? ⟨nx, 2, none⟩ = some (.int .i64 11) ∧ W.cell? ⟨nx, 3, none⟩ = some (.int .i64 1) ∧ W.cell? ⟨nx, 4, none⟩ = some (.int .i64 9) ∧ W.cell? ⟨nx, 5, none⟩ = some (.string (strOf [])) ∧ W.cell? ⟨nx, 6, none⟩ = some (.string (strOf [])) ∧ W.cell? ⟨nx, 7, none⟩ = some (.int .i64 zk) ∧ W.cell? ⟨nx, 8, none⟩ = some (.int .i64 zn) ∧ W.cell? ⟨nx, 9, none⟩ = some (.string (strOf zs)) ∧ W.cell? ⟨nx, 10, none⟩ = some (.slice za zm zc) ∧ W.cell? ⟨g, o, none⟩ = some (.int .i64 1) ∧ W.cell? ⟨g, o + 1, none⟩ = some (.int .i64 4) ∧ W.cell? ⟨g, o + 2, none⟩ = some (.int .i64 1) ∧ W.cell? ⟨g, o + 3, none⟩ = some (.int .i64 5) ∧ W.cell? ⟨g, o + 4, none⟩ = some (.string (strOf [])) ∧ W.cell? ⟨g, o + 5, none⟩ = some (.int .i64 vk) ∧ W.cell? ⟨g, o + 6, none⟩ = some (.int .i64 vn) ∧ W.cell? ⟨g, o + 7, none⟩ = some (.string (strOf vs)) ∧ W.cell? ⟨g, o + 8, none⟩ = some (.slice va vm vc))) := hid (fun W h => by have h1 := blk_only HB5.out h (fun e => e); have h2 := blk_only HX5.out h (fun e => e); have h3 : ∀ i u, [.int .i64 1, .int .i64 4, .int .i64 1, .int .i64 5, .string (strOf []), .int .i64 vk, .int .i64 vn, .string (strOf vs), .slice va vm vc][i]? = some u → W.cell? ⟨g, o + 0 * 9 + i, none⟩ = some u := fun i u hu => (World.cell?_of_block (h.block g (World.block_lt_of_cell? _ _ (HK5.out i u hu)) (fun e => e))).trans (HK5.out i u hu); exact ⟨cell_blk h1 0, cell_blk h1 1, cell_blk h1 2, cell_blk h1 3, cell_blk h1 4, cell_blk h1 5, cell_blk h1 6, cell_blk h1 7, cell_blk h1 8, cell_blk h1 9, cell_blk h1 10, cell_blk h1 11, cell_blk h1 12, cell_blk h1 13, cell_blk h1 14, cell_blk h1 15, cell_blk h1 16, cell_blk h1 17, cell_blk h2 0, cell_blk h2 1, cell_blk h2 2, cell_blk h2 3, cell_blk h2 4, cell_blk h2 5, cell_blk h2 6, cell_blk h2 7, cell_blk h2 8, cell_blk h2 9, cell_blk h2 10, h3 0 _ rfl, h3 1 _ rfl, h3 2 _ rfl, h3 3 _ rfl, h3 4 _ rfl, h3 5 _ rfl, h3 6 _ rfl, h3 7 _ rfl, h3 8 _ rfl⟩)
  have HSA := hid (csame_c (w := w5.drew) (e := cw0) (f := cw0) (G := New w2 w3) (H := fun _ => False) (cs := [.int .i64 1, .int .i64 4, .int .i64 1, .int .i64 5, .string (strOf []), .int .i64 vk, .int .i64 vn, .string (strOf vs), .slice va vm vc]) (ds := [.int .i64 1, .int .i64 4, .int .i64 1, .int .i64 5, .string ⟨#[]⟩, .int .i64 0, .int .i64 0, .string ⟨#[]⟩, .slice none 0 0]) ⟨_, rfl, (HV3.out.same HO35.out.drew)⟩ ⟨_, rfl, novlc _ _ 0 0 []⟩ nil_vrg nil_vrg ⟨rfl, rfl⟩ ⟨rfl, rfl⟩)
  rw [show cw0.same cw0 = true from by decide] at HSA
  have HFT : Hid (∀ W, Only (fun _ => False) w5 W → Calls Tryz.prog 16 #[.agg (List.toArray [.int .i64 1, .int .i64 4, .int .i64 1, .int .i64 5, .string ⟨#[]⟩, .int .i64 0, .int .i64 0, .string ⟨#[]⟩, .slice none 0 0]), .agg (List.toArray [.int .i64 0, .int .i64 4, .int .i64 11, .int .i64 1, .int .i64 9, .string (strOf []), .string (strOf []), .int .i64 zk, .int .i64 zn, .string (strOf zs), .slice za zm zc])] W fun x w' => x = .returned (.bool true) ∧ Only (fun _ => False) W w') := hid (fun W h => by
    have := cfits_c (w := W) (c := cw0) (e := ⟨0, 4, 11, 1, 9, [], [], .nil⟩) (G := fun _ => False) (H := New w3 w4) (cs := [.int .i64 1, .int .i64 4, .int .i64 1, .int .i64 5, .string ⟨#[]⟩, .int .i64 0, .int .i64 0, .string ⟨#[]⟩, .slice none 0 0]) (ds := [.int .i64 0, .int .i64 4, .int .i64 11, .int .i64 1, .int .i64 9, .string (strOf []), .string (strOf []), .int .i64 zk, .int .i64 zn, .string (strOf zs), .slice za zm zc]) ⟨_, rfl, novlc _ _ 0 0 []⟩ (HZ5.out.same h) (fun k hk => hk.elim) (fun k hk => by have := HZB.out k hk; have := h.size; omega) cw0_rg nil_vrg (by decide) (by decide)
    rwa [cw0_fits] at this)
  have HMD : Hid (∀ W, Only (fun _ => False) w5 W → Calls Tryz.prog 12 #[.agg (List.toArray [.int .i64 0, .int .i64 4, .int .i64 11, .int .i64 1, .int .i64 9, .string (strOf []), .string (strOf []), .int .i64 zk, .int .i64 zn, .string (strOf zs), .slice za zm zc])] W fun x w' => x = .returned (.bool true) ∧ Only (fun _ => False) W w') := hid (fun W h => cmade_c (w := W) (e := ⟨0, 4, 11, 1, 9, [], [], .nil⟩) (G := New w3 w4) (cs := [.int .i64 0, .int .i64 4, .int .i64 11, .int .i64 1, .int .i64 9, .string (strOf []), .string (strOf []), .int .i64 zk, .int .i64 zn, .string (strOf zs), .slice za zm zc]) (HZ5.out.same h))
  have HED : Hid (∀ W, Only (fun _ => False) w5 W → Calls Tryz.prog 10 #[.agg (List.toArray [.int .i64 4, .int .i64 4, .int .i64 0, .int .i64 0, .string ⟨#[]⟩, .int .i64 0, .int .i64 0, .string ⟨#[]⟩, .slice none 0 0])] W fun x w' => x = .returned (.bool true) ∧ Only (fun _ => False) W w') := hid (fun W _ => cmends_c (w := W) (e := cw1) (G := fun _ => False) (cs := [.int .i64 4, .int .i64 4, .int .i64 0, .int .i64 0, .string ⟨#[]⟩, .int .i64 0, .int .i64 0, .string ⟨#[]⟩, .slice none 0 0]) ⟨_, rfl, novlc _ _ 0 0 []⟩)
  have HPR : Hid (∀ W, Only (fun _ => False) w5 W → Calls Tryz.prog 20 #[.agg (List.toArray [.int .i64 1, .int .i64 4, .int .i64 1, .int .i64 5, .string ⟨#[]⟩, .int .i64 0, .int .i64 0, .string ⟨#[]⟩, .slice none 0 0])] W fun x w' => x = .returned (.string (strOf [64, 52, 32, 115, 116, 97, 114, 116, 45, 116, 105, 109, 101, 114, 32, 49, 32, 53])) ∧ Only (fun _ => False) W w') := hid (fun W h => by
    have := cprint_c (w := W) (e := cw0) (G := fun _ => False) (cs := [.int .i64 1, .int .i64 4, .int .i64 1, .int .i64 5, .string ⟨#[]⟩, .int .i64 0, .int .i64 0, .string ⟨#[]⟩, .slice none 0 0]) ⟨_, rfl, novlc _ _ 0 0 []⟩ (fun k hk => hk.elim) cw0_rg (HT.out.only (HO5.out.trans h (fun _ _ e => e))) (by decide) (by decide)
    rwa [cw0_pr] at this)
  have HNM := fun wc => hid (cmname_c (w := wc) 6)
  simp only [show cName 6 = [97, 103, 97, 105, 110] from rfl] at HNM
  have HSU := fun wc => hid (satu_c (w := wc) 1 2 (by decide) (by decide))
  simp only [show satu 1 2 = 3 from rfl] at HSU
  have hcs1 : (strOf [64, 52, 32, 115, 116, 97, 114, 116, 45, 116, 105, 109, 101, 114, 32, 49, 32, 53]).toList = [64, 52, 32, 115, 116, 97, 114, 116, 45, 116, 105, 109, 101, 114, 32, 49, 32, 53] := strOf_list _
  have hcs2 : (strOf [97, 103, 97, 105, 110]).toList = [97, 103, 97, 105, 110] := strOf_list _
  go_wp2_with fail
  clear hw5 hnx
  go_region_held3 (fun W => (W.cell? ⟨w.heap.size, 0, none⟩ = some (.int .i64 1) ∧ W.cell? ⟨w.heap.size, 1, none⟩ = some (.int .i64 4) ∧ W.cell? ⟨w.heap.size, 2, none⟩ = some (.int .i64 1) ∧ W.cell? ⟨w.heap.size, 3, none⟩ = some (.int .i64 5) ∧ W.cell? ⟨w.heap.size, 4, none⟩ = some (.string ⟨#[]⟩) ∧ W.cell? ⟨w.heap.size, 5, none⟩ = some (.int .i64 0) ∧ W.cell? ⟨w.heap.size, 6, none⟩ = some (.int .i64 0) ∧ W.cell? ⟨w.heap.size, 7, none⟩ = some (.string ⟨#[]⟩) ∧ W.cell? ⟨w.heap.size, 8, none⟩ = some (.slice none 0 0) ∧ W.cell? ⟨w.heap.size, 9, none⟩ = some (.int .i64 4) ∧ W.cell? ⟨w.heap.size, 10, none⟩ = some (.int .i64 4) ∧ W.cell? ⟨w.heap.size, 11, none⟩ = some (.int .i64 0) ∧ W.cell? ⟨w.heap.size, 12, none⟩ = some (.int .i64 0) ∧ W.cell? ⟨w.heap.size, 13, none⟩ = some (.string ⟨#[]⟩) ∧ W.cell? ⟨w.heap.size, 14, none⟩ = some (.int .i64 0) ∧ W.cell? ⟨w.heap.size, 15, none⟩ = some (.int .i64 0) ∧ W.cell? ⟨w.heap.size, 16, none⟩ = some (.string ⟨#[]⟩) ∧ W.cell? ⟨w.heap.size, 17, none⟩ = some (.slice none 0 0) ∧ W.cell? ⟨nx, 0, none⟩ = some (.int .i64 0) ∧ W.cell? ⟨nx, 1, none⟩ = some (.int .i64 4) ∧ W.cell? ⟨nx, 2, none⟩ = some (.int .i64 11) ∧ W.cell? ⟨nx, 3, none⟩ = some (.int .i64 1) ∧ W.cell? ⟨nx, 4, none⟩ = some (.int .i64 9) ∧ W.cell? ⟨nx, 5, none⟩ = some (.string (strOf [])) ∧ W.cell? ⟨nx, 6, none⟩ = some (.string (strOf [])) ∧ W.cell? ⟨nx, 7, none⟩ = some (.int .i64 zk) ∧ W.cell? ⟨nx, 8, none⟩ = some (.int .i64 zn) ∧ W.cell? ⟨nx, 9, none⟩ = some (.string (strOf zs)) ∧ W.cell? ⟨nx, 10, none⟩ = some (.slice za zm zc) ∧ W.cell? ⟨g, o, none⟩ = some (.int .i64 1) ∧ W.cell? ⟨g, o + 1, none⟩ = some (.int .i64 4) ∧ W.cell? ⟨g, o + 2, none⟩ = some (.int .i64 1) ∧ W.cell? ⟨g, o + 3, none⟩ = some (.int .i64 5) ∧ W.cell? ⟨g, o + 4, none⟩ = some (.string (strOf [])) ∧ W.cell? ⟨g, o + 5, none⟩ = some (.int .i64 vk) ∧ W.cell? ⟨g, o + 6, none⟩ = some (.int .i64 vn) ∧ W.cell? ⟨g, o + 7, none⟩ = some (.string (strOf vs)) ∧ W.cell? ⟨g, o + 8, none⟩ = some (.slice va vm vc)))
    (first | with_reducible exact HSK.out | go_keep)
    (first
      | (go_at_call 17; (with_reducible refine HSA.out.mono ?_); rintro x w6 ⟨rfl, ho6⟩; have hp6 : Only (fun _ => False) w5 w6 := ((Only.refl _ w5).drew).trans ho6 (fun _ _ e => e); have HSK := hid (HG.out w6 hp6); have HP6 := hid hp6; have HCN := hid (HFT.out w6 hp6); clear ho6 hp6)
      | (go_at_call 16; (with_reducible refine HCN.out.mono ?_); rintro x w7 ⟨rfl, ho7⟩; have hp7 : Only (fun _ => False) w5 w7 := HP6.out.trans ho7 (fun _ _ e => e); have HSK := hid (HG.out w7 hp7); have HP7 := hid hp7; have HCN := hid (HMD.out w7 hp7); clear ho7 hp7)
      | (go_at_call 12; (with_reducible refine HCN.out.mono ?_); rintro x w8 ⟨rfl, ho8⟩; have hp8 : Only (fun _ => False) w5 w8 := HP7.out.trans ho8 (fun _ _ e => e); have HSK := hid (HG.out w8 hp8); have HP8 := hid hp8; have HCN := hid (HED.out w8 hp8); clear ho8 hp8)
      | (go_at_call 10; (with_reducible refine HCN.out.mono ?_); rintro x w9 ⟨rfl, ho9⟩; have hp9 : Only (fun _ => False) w5 w9 := HP8.out.trans ho9 (fun _ _ e => e); have HSK := hid (HG.out w9 hp9); have HP9 := hid hp9; have HCN := hid (HPR.out w9 hp9); clear ho9 hp9)
      | (go_at_call 20; (with_reducible refine HCN.out.mono ?_); rintro x wa ⟨rfl, hoa⟩; have hpa : Only (fun _ => False) w5 wa := HP9.out.trans hoa (fun _ _ e => e); have HSK := hid (HG.out wa hpa); have HPA := hid hpa; clear hoa hpa)
      | (go_at_call 21; (with_reducible refine (HNM _).out.mono ?_); rintro x wc ⟨rfl, rfl⟩)
      | (go_at_call 22; (with_reducible refine (HSU _).out.mono ?_); rintro x wd ⟨rfl, rfl⟩))
  all_goals
    go_wp2_with fail
    go_ret
    exact ⟨rfl, HO5.out.trans HPA.out (fun _ _ e => e)⟩
end
end Go.Proofs.YtihidpfkdpjdpaaGreatDoor
