/- foliotref03: Bytes, walk, Check. -/
import Derived.Test.YtnoopajedgllhaaRf02
import Derived.Test.YtnoopajedgllhaaValM
namespace Go.Proofs.Ytnoopajedgllhaa
open Go.RowKit

def RBytesC (n : Nat) : Prop := ∀ (t : VT), t.sz ≤ n → ∀ (w : World) (G : Nat → Prop) (cs : List Value), VAt w G t cs → t.rg → t.wr.length ≤ 1000000000 →
    Calls Try.prog 73 #[.agg cs.toArray] w fun e w' => e = .returned (.string (strOf t.wr)) ∧ Only (fun _ => False) w w'
def RWalkC (n : Nat) : Prop := ∀ (t : VT), t.sz ≤ n → ∀ (w : World) (G : Nat → Prop) (cs : List Value) (d p : Nat), VAt w G t cs → t.rg → d ≤ 8 → p ≤ 256 →
    Calls Try.prog 78 #[.agg cs.toArray, .int .i64 d, .int .i64 p] w fun e w' => e = .returned (.tuple #[.int .i64 (t.walk d p 0).2, .int .i64 ((t.walk d p 0).1 : Nat)]) ∧ Only (fun _ => False) w w'
section
variable {w : World}
set_option maxRecDepth 100000 in
set_option maxHeartbeats 3200000 in
theorem rbytes_step (m : Nat) (ih : RBytesC m) : RBytesC (m + 1) := by
  intro t hsz w G cs hV hg hl
  obtain ⟨k, n, s, l⟩ := t
  rw [VAt] at hV
  obtain ⟨a, cap, g, o, rfl, ha, hLs⟩ := hV
  rw [VT.rg] at hg
  obtain ⟨hk1, hk2, hn1, hn2, hs, hll, hgl⟩ := hg
  rw [VT.wr] at hl
  have HW : Hid ((VT.mk k n s l).wr = UInt8.ofNat (k % 256).toNat :: (if k = 1 then numB (zigN n) else if k = 2 then textB s else if k = 3 then numB l.length ++ VT.wrL l else [])) := hid (by rw [VT.wr])
  rw [List.length_cons] at hl
  rw [VT.sz] at hsz
  obtain ⟨y, hy⟩ : ∃ y, (k % 256).toNat = y := ⟨_, rfl⟩
  have hwk : IntKind.u8.wrap k = (y : Int) := by rw [IntKind.wrap_u8]; omega
  have hyl : y < 256 := by omega
  rw [hy] at HW
  have HA := hid ha; have HL := hid hLs; have HG := hid hgl
  have hbx : ((w.alloc (.cells #[.int .i64 k, .int .i64 n, .string (strOf s), .slice a l.length cap] 42)).alloc (.cells #[.int .u8 y] 5)).heap[w.heap.size]? = some (.cells #[.int .i64 k, .int .i64 n, .string (strOf s), .slice a l.length cap] 42 (0, 0)) := blk_alloc (blk_new w _)
  have hbn : ((w.alloc (.cells #[.int .i64 k, .int .i64 n, .string (strOf s), .slice a l.length cap] 42)).alloc (.cells #[.int .u8 y] 5)).heap[w.heap.size + 1]? = some (.cells #[.int .u8 y] 5 (0, 0)) := by
    have := blk_new (w.alloc (.cells #[.int .i64 k, .int .i64 n, .string (strOf s), .slice a l.length cap] 42)) (.cells #[.int .u8 y] 5)
    rw [World.size_alloc] at this; exact this
  have hcv : (convert 72 9 (.slice (some ⟨w.heap.size + 1, 0, none⟩) 1 1)).run Try.prog ((w.alloc (.cells #[.int .i64 k, .int .i64 n, .string (strOf s), .slice a l.length cap] 42)).alloc (.cells #[.int .u8 y] 5)) = .ok (.string (strOf [UInt8.ofNat y])) ((w.alloc (.cells #[.int .i64 k, .int .i64 n, .string (strOf s), .slice a l.length cap] 42)).alloc (.cells #[.int .u8 y] 5)) := conv_str (src1 hbn hyl)
  have HBX := hid hbx
  have HO0 := hid ((only_new w (.cells #[.int .i64 k, .int .i64 n, .string (strOf s), .slice a l.length cap] 42)).trans (only_new _ (.cells #[.int .u8 y] 5)) (fun _ _ e => e))
  have hs0 : ∀ l : List UInt8, (strOf l).size = l.length := fun l => rfl
  have HS0 := hid hs0
  have hkb : ∀ k' : Int, k ≠ k' → (k == k') = false := fun k' h => by simpa using h
  have HKB := hid hkb
  clear ha hLs hgl hy hbx hbn hs0 hkb
  by_cases h1 : k = 1
  · subst h1
    have HF := hid (HW.out.trans (by rw [if_pos rfl]))
    rw [if_pos rfl] at hl
    have HI := hid (rfint_c (w := (w.alloc (.cells #[.int .i64 1, .int .i64 n, .string (strOf s), .slice a l.length cap] 42)).alloc (.cells #[.int .u8 y] 5)) n hn1 hn2)
    obtain ⟨z, hz⟩ : ∃ z, numB (zigN n) = z := ⟨_, rfl⟩
    rw [hz] at HI HF hl
    have cc : strOf [UInt8.ofNat y] ++ strOf z = strOf (UInt8.ofNat y :: z) := strOf_app' [UInt8.ofNat y] z
    have z1 : ¬ 9223372036854775807 < (strOf [UInt8.ofNat y]).size + (strOf z).size := by rw [HS0.out, HS0.out]; simp; omega
    clear hz
    go_enter Try.func73, Try.ntmps73
    go_wp2_with fail
    refine HI.out.mono ?_
    rintro e w2 ⟨rfl, ho⟩
    have HO2 := hid (HO0.out.trans ho (fun _ _ e => e))
    clear ho
    go_wp2_with fail
    go_ret
    rw [HF.out]; exact ⟨rfl, HO2.out⟩
  have kb1 := HKB.out 1 h1
  by_cases h2 : k = 2
  · subst h2
    have HF := hid (HW.out.trans (by rw [if_neg (by decide), if_pos rfl]))
    rw [if_neg (by decide), if_pos rfl] at hl
    have hsl : s.length ≤ (textB s).length := by unfold textB; rw [List.length_append]; omega
    have HI := hid (rftext_c (w := (w.alloc (.cells #[.int .i64 2, .int .i64 n, .string (strOf s), .slice a l.length cap] 42)).alloc (.cells #[.int .u8 y] 5)) s (by omega))
    obtain ⟨z, hz⟩ : ∃ z, textB s = z := ⟨_, rfl⟩
    rw [hz] at HI HF hl
    have cc : strOf [UInt8.ofNat y] ++ strOf z = strOf (UInt8.ofNat y :: z) := strOf_app' [UInt8.ofNat y] z
    have z1 : ¬ 9223372036854775807 < (strOf [UInt8.ofNat y]).size + (strOf z).size := by rw [HS0.out, HS0.out]; simp; omega
    clear hz
    go_enter Try.func73, Try.ntmps73
    go_wp2_with fail
    refine HI.out.mono ?_
    rintro e w2 ⟨rfl, ho⟩
    have HO2 := hid (HO0.out.trans ho (fun _ _ e => e))
    clear ho
    go_wp2_with fail
    go_ret
    rw [HF.out]; exact ⟨rfl, HO2.out⟩
  have kb2 := HKB.out 2 h2
  by_cases h3 : k = 3
  · subst h3
    have HF := hid (HW.out.trans (by rw [if_neg (by decide), if_neg (by decide), if_pos rfl]))
    rw [if_neg (by decide), if_neg (by decide), if_pos rfl, List.length_append] at hl
    have HI := hid (rfnum_c (w := (w.alloc (.cells #[.int .i64 3, .int .i64 n, .string (strOf s), .slice a l.length cap] 42)).alloc (.cells #[.int .u8 y] 5)) l.length (by omega))
    obtain ⟨z, hz⟩ : ∃ z, numB l.length = z := ⟨_, rfl⟩
    rw [hz] at HI HF hl
    have cc : strOf [UInt8.ofNat y] ++ strOf z = strOf (UInt8.ofNat y :: z) := strOf_app' [UInt8.ofNat y] z
    have z1 : ¬ 9223372036854775807 < (strOf [UInt8.ofNat y]).size + (strOf z).size := by rw [HS0.out, HS0.out]; simp; omega
    have HZ := hid hz
    clear hz h1 h2
    go_enter Try.func73, Try.ntmps73
    go_wp2_with fail
    refine HI.out.mono ?_
    rintro e w2 ⟨rfl, ho⟩
    have HO2 := hid (HO0.out.trans ho (fun _ _ e => e))
    have HB2 := hid (blk_only HBX.out ho (fun e => e))
    clear ho
    go_wp2_with fail
    clear cc z1 hcv
    obtain ⟨pre, hpre⟩ : ∃ x, UInt8.ofNat y :: z = x := ⟨_, rfl⟩
    have hpl : pre.length = z.length + 1 := by rw [← hpre]; rfl
    have HFF : Hid ((VT.mk 3 n s l).wr = pre ++ VT.wrL l) := hid (by rw [HF.out, ← hpre]; rfl)
    rw [hpre]
    clear hpre
    go_loopw [3, 4] (fun u i wr => ∃ j : Nat, i = .int .i64 j ∧ j ≤ l.length ∧ u = .string (strOf (pre ++ VT.wrL (l.take j))) ∧ Only (fun _ => False) w2 wr) (fun _ i _ => l.length - (intOf i).toNat)
    case atStart => exact ⟨0, rfl, Nat.zero_le _, by rw [List.take_zero, VT.wrL, List.append_nil], Only.refl _ _⟩
    case round =>
      obtain ⟨j, rfl, hj, rfl, ho⟩ := hrel
      have hb := blk_only HB2.out ho (fun e => e)
      have r3 : wr.cell? ⟨w.heap.size, 3, none⟩ = some (.slice a l.length cap) := cell_blk hb 3
      have hlb := blk_lt hb
      have hor := HO2.out.trans ho (fun _ _ e => e)
      have HO := hid ho; have HOR := hid hor
      clear hb ho hor
      by_cases hjl : j < l.length
      · have hji : (j : Int) < l.length := by omega
        obtain ⟨t, ht⟩ : ∃ t, l[j]? = some t := ⟨_, List.getElem?_eq_getElem hjl⟩
        obtain ⟨rfl, -⟩ := HA.out (by rintro rfl; simp at hjl)
        obtain ⟨cs, hcs, hVt⟩ := HL.out.get ht
        have htz := szL_get ht
        have htg := rgL_get HG.out ht
        have hnx := wrL_take ht
        have hle := wrL_take_le l (j + 1)
        rw [hnx, List.length_append] at hle
        have hcw : ∀ i u, cs[i]? = some u → wr.cell? ⟨g, o + j * 4 + i, none⟩ = some u := fun i u hu =>
          (World.cell?_of_block (HOR.out.block g (World.block_lt_of_cell? _ _ (hcs i u hu)) (fun e => e))).trans (hcs i u hu)
        have hVw := hVt.same HOR.out
        obtain ⟨kx, nx, sx, ax, mx, cx, rfl⟩ := hVt.form
        have e0 := hcw 0 _ rfl
        rw [Nat.add_zero] at e0
        have e1 := hcw 1 _ rfl
        have e2 := hcw 2 _ rfl
        have e3 := hcw 3 _ rfl
        have HI2 := hid (ih t (by omega) wr G _ hVw htg (by omega))
        obtain ⟨q, hq⟩ : ∃ q, pre ++ VT.wrL (l.take j) = q := ⟨_, rfl⟩
        have hql : q.length ≤ 1000000100 := by rw [← hq, List.length_append]; omega
        have HNX : Hid (pre ++ VT.wrL (l.take (j + 1)) = q ++ t.wr) := hid (by rw [hnx, ← List.append_assoc, hq])
        rw [hq]
        obtain ⟨tw, htw⟩ : ∃ x, t.wr = x := ⟨_, rfl⟩
        rw [htw] at HI2 HNX hle
        have cc : strOf q ++ strOf tw = strOf (q ++ tw) := strOf_app' q tw
        have z1 : ¬ 9223372036854775807 < (strOf q).size + (strOf tw).size := by rw [HS0.out, HS0.out]; omega
        clear hcs hVt hcw hVw htg hnx hle hq htw ht
        go_wp2_with fail
        refine HI2.out.mono ?_
        rintro e w5 ⟨rfl, ho5⟩
        have HO5 := hid (HO.out.trans ho5 (fun _ _ e => e))
        clear ho5
        go_wp2_with fail
        go_roundw
        case rel => exact ⟨j + 1, by go_num, by omega, by rw [HNX.out], HO5.out⟩
        case measure => simp [intOf]; omega
      · have hje : j = l.length := by omega
        have HE : Hid (pre ++ VT.wrL (l.take j) = (VT.mk 3 n s l).wr) := hid (by rw [HFF.out, hje, List.take_length])
        rw [HE.out]
        obtain ⟨out, hout⟩ : ∃ x, (VT.mk 3 n s l).wr = x := ⟨_, rfl⟩
        rw [hout]
        have HOUT := hid hout
        clear hje hout
        have hjl2 : ¬ (j : Int) < l.length := by omega
        go_wp2_with fail
        go_ret
        rw [HOUT.out]; exact ⟨rfl, HOR.out⟩
  · have kb3 := HKB.out 3 h3
    have HF : Hid ((VT.mk k n s l).wr = [UInt8.ofNat y]) := hid (by rw [HW.out]; simp [h1, h2, h3])
    clear h1 h2 h3
    go_enter Try.func73, Try.ntmps73
    go_wp2_with fail
    go_ret
    rw [HF.out]; exact ⟨rfl, HO0.out⟩
theorem rbytesC : ∀ m, RBytesC m
  | 0 => fun t h => by have := sz_pos t; omega
  | m + 1 => rbytes_step m (rbytesC m)
theorem rfbytes_c {t : VT} {G : Nat → Prop} {cs : List Value} (hV : VAt w G t cs) (hg : t.rg) (hl : t.wr.length ≤ 1000000000) :
    Calls Try.prog 73 #[.agg cs.toArray] w fun e w' => e = .returned (.string (strOf t.wr)) ∧ Only (fun _ => False) w w' :=
  rbytesC t.sz t (Nat.le_refl _) w G cs hV hg hl
set_option maxRecDepth 100000 in
set_option maxHeartbeats 3200000 in
theorem rwalk_step (m : Nat) (ih : RWalkC m) : RWalkC (m + 1) := by
  intro t hsz w G cs d p hV hg hd hp
  obtain ⟨k, n, s, l⟩ := t
  rw [VAt] at hV
  obtain ⟨a, cap, g, o, rfl, ha, hLs⟩ := hV
  rw [VT.rg] at hg
  obtain ⟨hk1, hk2, hn1, hn2, hs, hll, hgl⟩ := hg
  rw [VT.sz] at hsz
  have HA := hid ha; have HL := hid hLs; have HG := hid hgl
  have HWK : Hid (VT.walk d p 0 (.mk k n s l) = if (0 : Int) ≠ 0 then (p, 0) else if 256 < p + 1 then (p + 1, 2) else if k = 0 ∨ k = 1 then (p + 1, 0) else if k = 2 then (p + 1, if 256 < s.length then 2 else 0) else if k = 3 then VT.walkL (d + 1) (p + 1) (if 8 ≤ d then 30 else if 64 < l.length then 2 else 0) l else (p + 1, 9)) := hid (by rw [VT.walk])
  have hsl : (strOf s).size = s.length := rfl
  have HBX := hid (blk_new w (.cells #[.int .i64 k, .int .i64 n, .string (strOf s), .slice a l.length cap] 42))
  have HO0 := hid (only_new w (.cells #[.int .i64 k, .int .i64 n, .string (strOf s), .slice a l.length cap] 42))
  clear ha hLs hgl
  by_cases h256 : 256 < p + 1
  · obtain rfl : p = 256 := by omega
    have HF : Hid (VT.walk d 256 0 (.mk k n s l) = (257, 2)) := hid (by rw [HWK.out, if_neg (by simp), if_pos (by decide)])
    clear h256
    go_enter Try.func78, Try.ntmps78
    go_wp2_with fail
    go_ret2
    rw [HF.out]; exact ⟨rfl, HO0.out⟩
  have hp1 : (p : Int) + 1 ≤ 256 := by omega
  by_cases h01 : k = 0 ∨ k = 1
  · have HF : Hid (VT.walk d p 0 (.mk k n s l) = (p + 1, 0)) := hid (by rw [HWK.out, if_neg (by simp), if_neg h256, if_pos h01])
    clear h256
    rcases h01 with rfl | rfl
    all_goals
      go_enter Try.func78, Try.ntmps78
      go_wp2_with fail
      go_ret2
      rw [HF.out]; exact ⟨rfl, HO0.out⟩
  have b0 : (k == 0) = false := by simp; omega
  have b1 : (k == 1) = false := by simp; omega
  by_cases h2 : k = 2
  · subst h2
    by_cases hs : 256 < (s.length : Int)
    · have HF : Hid (VT.walk d p 0 (.mk 2 n s l) = (p + 1, 2)) := hid (by rw [HWK.out, if_neg (by simp), if_neg h256, if_neg h01, if_pos rfl, if_pos (by omega)])
      clear h256 h01
      go_enter Try.func78, Try.ntmps78
      go_wp2_with fail
      go_ret2
      rw [HF.out]; exact ⟨rfl, HO0.out⟩
    · have HF : Hid (VT.walk d p 0 (.mk 2 n s l) = (p + 1, 0)) := hid (by rw [HWK.out, if_neg (by simp), if_neg h256, if_neg h01, if_pos rfl, if_neg (by omega)])
      clear h256 h01
      go_enter Try.func78, Try.ntmps78
      go_wp2_with fail
      go_ret2
      rw [HF.out]; exact ⟨rfl, HO0.out⟩
  have b2 : (k == 2) = false := by simpa using h2
  by_cases h3 : k = 3
  · subst h3
    by_cases hd8 : 8 ≤ (d : Int)
    · have HF : Hid (VT.walk d p 0 (.mk 3 n s l) = (p + 1, 30)) := hid (by rw [HWK.out, if_neg (by simp), if_neg h256, if_neg h01, if_neg h2, if_pos rfl, if_pos (by omega), walkL_bad _ _ _ _ (by decide)])
      clear h256 h01 h2
      go_enter Try.func78, Try.ntmps78
      go_wp2_with fail
      go_ret2
      rw [HF.out]; exact ⟨rfl, HO0.out⟩
    by_cases hl64 : 64 < (l.length : Int)
    · have HF : Hid (VT.walk d p 0 (.mk 3 n s l) = (p + 1, 2)) := hid (by rw [HWK.out, if_neg (by simp), if_neg h256, if_neg h01, if_neg h2, if_pos rfl, if_neg (by omega), if_pos (by omega), walkL_bad _ _ _ _ (by decide)])
      clear h256 h01 h2
      go_enter Try.func78, Try.ntmps78
      go_wp2_with fail
      go_ret2
      rw [HF.out]; exact ⟨rfl, HO0.out⟩
    have HFN : Hid (VT.walk d p 0 (.mk 3 n s l) = VT.walkL (d + 1) (p + 1) 0 l) := hid (by rw [HWK.out, if_neg (by simp), if_neg h256, if_neg h01, if_neg h2, if_pos rfl, if_neg (by omega), if_neg (by omega)])
    have hd1 : ((d : Int) + 1) ≤ 8 := by omega
    clear h256 h01 h2
    go_enter Try.func78, Try.ntmps78
    go_wp2_with fail
    go_loopw [2, 8] (fun q i wr => ∃ j pj : Nat, i = .int .i64 j ∧ q = .int .i64 pj ∧ j ≤ l.length ∧ pj ≤ 256 ∧ VT.walkL (d + 1) (p + 1) 0 l = VT.walkL (d + 1) pj 0 (l.drop j) ∧ Only (fun _ => False) (w.alloc (.cells #[.int .i64 3, .int .i64 n, .string (strOf s), .slice a l.length cap] 42)) wr) (fun _ i _ => l.length - (intOf i).toNat)
    case atStart => exact ⟨0, p + 1, rfl, by go_num, Nat.zero_le _, by omega, rfl, Only.refl _ _⟩
    case round =>
      obtain ⟨j, pj, rfl, rfl, hj, hpj, hwj, ho⟩ := hrel
      have hb := blk_only HBX.out ho (fun e => e)
      have r3 : wr.cell? ⟨w.heap.size, 3, none⟩ = some (.slice a l.length cap) := cell_blk hb 3
      have hlb := blk_lt hb
      have hor := HO0.out.trans ho (fun _ _ e => e)
      have HO := hid ho; have HOR := hid hor; have HWJ := hid hwj
      clear hb ho hor hwj
      by_cases hjl : j < l.length
      · have hji : (j : Int) < l.length := by omega
        obtain ⟨t, ht⟩ : ∃ t, l[j]? = some t := ⟨_, List.getElem?_eq_getElem hjl⟩
        have hdrop : l.drop j = t :: l.drop (j + 1) := by rw [List.drop_eq_getElem_cons hjl]; congr 1; rw [List.getElem?_eq_getElem hjl] at ht; exact Option.some.inj ht
        obtain ⟨rfl, -⟩ := HA.out (by rintro rfl; simp at hjl)
        obtain ⟨cs, hcs, hVt⟩ := HL.out.get ht
        have htz := szL_get ht
        have htg := rgL_get HG.out ht
        have hcw : ∀ i u, cs[i]? = some u → wr.cell? ⟨g, o + j * 4 + i, none⟩ = some u := fun i u hu =>
          (World.cell?_of_block (HOR.out.block g (World.block_lt_of_cell? _ _ (hcs i u hu)) (fun e => e))).trans (hcs i u hu)
        have hVw := hVt.same HOR.out
        obtain ⟨kx, nx, sx, ax, mx, cx, rfl⟩ := hVt.form
        have e0 := hcw 0 _ rfl
        rw [Nat.add_zero] at e0
        have e1 := hcw 1 _ rfl
        have e2 := hcw 2 _ rfl
        have e3 := hcw 3 _ rfl
        have hI := ih t (by omega) wr G _ (d + 1) pj hVw htg (by omega) hpj
        rw [show ((d + 1 : Nat) : Int) = (d : Int) + 1 from by omega] at hI
        have hle := walk_le t (d + 1) pj 0 (fun _ => hpj)
        have HCS : Hid (VT.walkL (d + 1) (p + 1) 0 l = VT.walkL (d + 1) (t.walk (d + 1) pj 0).1 (t.walk (d + 1) pj 0).2 (l.drop (j + 1))) := hid (by rw [HWJ.out, hdrop, VT.walkL, if_neg (by simp)])
        obtain ⟨⟨q, e⟩, hx⟩ : ∃ x, t.walk (d + 1) pj 0 = x := ⟨_, rfl⟩
        rw [hx] at hI hle HCS
        simp only at hI hle HCS
        have HI := hid hI; have HLE := hid hle
        clear hcs hVt hcw hVw htg hx hI hle ht hdrop
        by_cases he : e = 0
        · subst he
          have hq := HLE.out rfl
          go_wp2_with fail
          refine HI.out.mono ?_
          rintro e w5 ⟨rfl, ho5⟩
          have HO5 := hid (HO.out.trans ho5 (fun _ _ e => e))
          clear ho5
          go_wp2_with fail
          go_roundw
          case rel => exact ⟨j + 1, q, by go_num, rfl, by omega, hq, HCS.out, HO5.out⟩
          case measure => simp [intOf]; omega
        · have heb : (e != 0) = true := by simpa using he
          have HF : Hid (VT.walkL (d + 1) (p + 1) 0 l = (q, e)) := hid (by rw [HCS.out, walkL_bad _ _ _ _ he])
          clear he
          go_wp2_with fail
          refine HI.out.mono ?_
          rintro e w5 ⟨rfl, ho5⟩
          have HO5 := hid (HOR.out.trans ho5 (fun _ _ e => e))
          clear ho5
          go_wp2_with fail
          go_ret2
          rw [HFN.out, HF.out]; exact ⟨rfl, HO5.out⟩
      · have HF : Hid (VT.walkL (d + 1) (p + 1) 0 l = (pj, 0)) := hid (by rw [HWJ.out, List.drop_eq_nil_of_le (by omega), VT.walkL])
        have hjl2 : ¬ (j : Int) < l.length := by omega
        go_wp2_with fail
        go_ret2
        rw [HFN.out, HF.out]; exact ⟨rfl, HOR.out⟩
  · have b3 : (k != 3) = true := by simpa using h3
    have HF : Hid (VT.walk d p 0 (.mk k n s l) = (p + 1, 9)) := hid (by rw [HWK.out, if_neg (by simp), if_neg h256, if_neg h01, if_neg h2, if_neg h3])
    clear h256 h01 h2 h3
    go_enter Try.func78, Try.ntmps78
    go_wp2_with fail
    go_ret2
    rw [HF.out]; exact ⟨rfl, HO0.out⟩
theorem rwalkC : ∀ m, RWalkC m
  | 0 => fun t h => by have := sz_pos t; omega
  | m + 1 => rwalk_step m (rwalkC m)
set_option maxRecDepth 100000 in
set_option maxHeartbeats 1600000 in
theorem rfcheck_c {t : VT} {G : Nat → Prop} {cs : List Value} (hV : VAt w G t cs) (hg : t.rg) :
    Calls Try.prog 58 #[.agg cs.toArray, .int .i64 0, .int .i64 0] w fun e w' => e = .returned (.tuple #[.int .i64 t.chk, .int .i64 ((t.walk 0 0 0).1 : Nat)]) ∧ Only (fun _ => False) w w' := by
  obtain ⟨k, n, s, a, m, c, rfl⟩ := hV.form
  have hI := rwalkC t.sz t (Nat.le_refl _) (w.alloc (.cells #[.int .i64 k, .int .i64 n, .string (strOf s), .slice a m c] 42)) G _ 0 0 (hV.same (only_new w _)) hg (by omega) (by omega)
  have HO0 := hid (only_new w (.cells #[.int .i64 k, .int .i64 n, .string (strOf s), .slice a m c] 42))
  have HBX := hid (blk_new w (.cells #[.int .i64 k, .int .i64 n, .string (strOf s), .slice a m c] 42))
  have HC : Hid (t.chk = if (t.walk 0 0 0).2 ≠ 0 then (t.walk 0 0 0).2 else if 512 < t.wr.length then 2 else 0) := hid rfl
  have hwl := fun q h => wr_len t 0 0 q h
  have hwp := walk_le t 0 0 0 (fun _ => by omega)
  obtain ⟨⟨q, e⟩, hx⟩ : ∃ x, t.walk 0 0 0 = x := ⟨_, rfl⟩
  rw [hx] at hI HC hwp
  simp only [hx] at hI HC hwl hwp
  rw [hx]
  have HI := hid hI; have HV := hid hV; have Hg := hid hg; have HWL := hid hwl; have HWP := hid hwp
  clear hI hx hV hg hwl hwp
  by_cases he : e = 0
  · subst he
    have hl : t.wr.length ≤ 100000 := by
      have h1 := HWL.out q rfl
      have h2 := HWP.out rfl
      omega
    go_enter Try.func58, Try.ntmps58
    go_wp2_with fail
    refine HI.out.mono ?_
    rintro e w2 ⟨rfl, ho⟩
    have hb := blk_only HBX.out ho (fun e => e)
    have c0 : w2.cell? ⟨w.heap.size, 0, none⟩ = some (.int .i64 k) := cell_blk hb 0
    have c1 : w2.cell? ⟨w.heap.size, 1, none⟩ = some (.int .i64 n) := cell_blk hb 1
    have c2 : w2.cell? ⟨w.heap.size, 2, none⟩ = some (.string (strOf s)) := cell_blk hb 2
    have c3 : w2.cell? ⟨w.heap.size, 3, none⟩ = some (.slice a m c) := cell_blk hb 3
    have hlb := blk_lt hb
    have HO2 := hid (HO0.out.trans ho (fun _ _ e => e))
    have HBY := hid (rfbytes_c (HV.out.same HO2.out) Hg.out (by omega))
    obtain ⟨wr, hwr⟩ : ∃ x, t.wr = x := ⟨_, rfl⟩
    rw [hwr] at HBY HC hl
    have hsz : (strOf wr).size = wr.length := rfl
    clear ho hb hwr
    go_wp2_with fail
    refine HBY.out.mono ?_
    rintro e w3 ⟨rfl, ho3⟩
    have HO3 := hid (HO2.out.trans ho3 (fun _ _ e => e))
    clear ho3
    by_cases h5 : 512 < (wr.length : Int)
    · have HF : Hid (t.chk = 2) := hid (by rw [HC.out, if_neg (by simp), if_pos (by omega)])
      go_wp2_with fail
      go_ret2
      rw [HF.out]; exact ⟨rfl, HO3.out⟩
    · have HF : Hid (t.chk = 0) := hid (by rw [HC.out, if_neg (by simp), if_neg (by omega)])
      go_wp2_with fail
      go_ret2
      rw [HF.out]; exact ⟨rfl, HO3.out⟩
  · have heb : (e == 0) = false := by simpa using he
    have HF : Hid (t.chk = e) := hid (by rw [HC.out, if_pos he])
    clear he
    go_enter Try.func58, Try.ntmps58
    go_wp2_with fail
    refine HI.out.mono ?_
    rintro e w2 ⟨rfl, ho⟩
    have HO2 := hid (HO0.out.trans ho (fun _ _ e => e))
    clear ho
    go_wp2_with fail
    go_ret2
    rw [HF.out]; exact ⟨rfl, HO2.out⟩
end
end Go.Proofs.Ytnoopajedgllhaa
