/- package cron: a field. -/
import Derived.Test.YtokefeemhgcmhaaGreatDoorCrE
namespace Go.Proofs.YtokefeemhgcmhaaGreatDoor
open Go.RowKit
def pieces (c : UInt8) (s : List UInt8) : List (List UInt8) := (Lib.splitB ⟨#[c]⟩ 0 (Lib.countB (strOf s) ⟨#[c]⟩) (strOf s)).map (·.data.toList)
theorem splitB_le (sep : ByteArray) : ∀ (k : Nat) (s : ByteArray), ∀ x ∈ Lib.splitB sep 0 k s, x.size ≤ s.size
  | 0, s, x, h => by rw [Lib.splitB_zero, List.mem_singleton] at h; rw [h]; exact Nat.le_refl _
  | k + 1, s, x, h => by
    unfold Lib.splitB at h
    split at h
    · rw [List.mem_singleton] at h; rw [h]; exact Nat.le_refl _
    · rcases List.mem_cons.1 h with rfl | h
      · rw [ByteArray.size_extract]; omega
      · have := splitB_le sep k _ x h
        rw [ByteArray.size_extract] at this; omega
theorem pieces_len (c : UInt8) (s : List UInt8) : ∀ x ∈ pieces c s, x.length ≤ s.length := by
  intro x hx
  obtain ⟨b, hb, rfl⟩ := List.mem_map.1 hx
  have h := splitB_le _ _ _ b hb
  have h1 : (strOf s).size = s.length := rfl
  have h2 : b.data.toList.length = b.size := by simp
  omega
theorem pieces_n (c : UInt8) (s : List UInt8) : (pieces c s).length = Lib.countB (strOf s) ⟨#[c]⟩ + 1 := by
  rw [pieces, List.length_map]; exact Lib.splitB_all ⟨#[c]⟩ (by show 1 ≤ 1; exact Nat.le_refl _) 0 _ _ rfl
theorem pieces_le (c : UInt8) (s : List UInt8) : (pieces c s).length ≤ s.length + 1 := by
  rw [pieces_n]
  have h := Lib.countB_le ⟨#[c]⟩ (by show 1 ≤ 1; exact Nat.le_refl _) (strOf s).size (strOf s) (Nat.le_refl _)
  have h1 : (strOf s).size = s.length := rfl
  omega
def strsV (l : List (List UInt8)) : List Value := l.map fun x => .string (strOf x)
theorem pieces_cells (c : UInt8) (s : List UInt8) : (Lib.splitB ⟨#[c]⟩ 0 (Lib.countB (strOf s) ⟨#[c]⟩) (strOf s)).map Value.string = strsV (pieces c s) := by
  rw [strsV, pieces, List.map_map]
  refine List.map_congr_left fun b _ => ?_
  rfl
section
variable {w : World}
theorem crsplit_c (hm : MaxL w) (s : List UInt8) (c : UInt8) (hs : s.length ≤ 1000000000) : Calls Tryz.prog 30 #[.string (strOf s), .string ⟨#[c]⟩] w fun e w' => e = .returned (.slice (some ⟨w.heap.size, 0, none⟩) (pieces c s).length (pieces c s).length) ∧ w'.heap[w.heap.size]? = some (.cells (strsV (pieces c s)).toArray 9 (0, 0)) ∧ Only (fun _ => False) w w' := by
  obtain ⟨m, hm⟩ := hm
  have hz : (strOf s).size = s.length := rfl
  refine (Tryz.strings_Split (strOf s) ⟨#[c]⟩ m w (by omega) hm (by show 1 ≤ 1; exact Nat.le_refl _)).mono ?_
  rintro e w' ⟨h1, rfl⟩
  rw [pieces_cells, pieces_n]
  exact ⟨by rw [h1], blk_new _ _, only_new _ _⟩
def fieldR (lo hi : Nat) : List (List UInt8) → Int → Int × Int
  | [], out => (out, 0)
  | x :: xs, out => if (partR lo hi x).2 ≠ 0 then (0, (partR lo hi x).2) else fieldR lo hi xs (bits .or .u64 out (partR lo hi x).1)
set_option maxRecDepth 100000 in
set_option maxHeartbeats 3200000 in
theorem crfield_c (hm : MaxL w) (lo hi : Nat) (hlh : lo ≤ hi) (hh : hi ≤ 63) (s : List UInt8) (hs : s.length ≤ 500) : Calls Tryz.prog 32 #[.agg #[.int .i64 (lo : Nat), .int .i64 (hi : Nat)], .string (strOf s)] w fun e w' => e = .returned (.tuple #[.int .u64 (fieldR lo hi (pieces 44 s) 0).1, .int .i64 (fieldR lo hi (pieces 44 s) 0).2]) ∧ Only (fun _ => False) w w' := by
  obtain ⟨w1, hw1⟩ : ∃ x, w.alloc (.cells #[.int .i64 (lo : Nat), .int .i64 (hi : Nat)] 77) = x := ⟨_, rfl⟩
  obtain ⟨gs, hgs⟩ : ∃ x, w.heap.size = x := ⟨_, rfl⟩
  have hb1 : w1.heap[gs]? = some (.cells #[.int .i64 (lo : Nat), .int .i64 (hi : Nat)] 77 (0, 0)) := by rw [← hw1, ← hgs]; exact blk_new _ _
  have ho1 : Only (fun _ => False) w w1 := by rw [← hw1]; exact only_new _ _
  have HB1 := hid hb1; have HO1 := hid ho1; have HM1 := hid (hm.only ho1 (fun e => e)); have HW1 := hid hw1; have HGS := hid hgs
  have HS1 := hid (crsplit_c (w := w1) HM1.out s 44 (by omega))
  have hpl := pieces_len 44 s
  have hpn := pieces_le 44 s
  obtain ⟨P, hP⟩ : ∃ x, pieces 44 s = x := ⟨_, rfl⟩
  rw [hP] at HS1 hpl hpn ⊢
  have HPL := hid hpl
  have hpn2 : P.length ≤ 501 := by omega
  obtain ⟨R, hR⟩ : ∃ x, fieldR lo hi P 0 = x := ⟨_, rfl⟩
  rw [hR]
  have HR := hid hR
  clear hR hP hm hb1 ho1 hw1 hgs hpl hpn
  go_enter Tryz.func32, Tryz.ntmps32
  go_upto_region 1 with fail
  rw [HW1.out, HGS.out]
  clear HW1 HGS
  go_wp2_with fail
  refine HS1.out.mono ?_
  rintro x w2 ⟨rfl, hb2, ho2⟩
  obtain ⟨gp, hgp⟩ : ∃ x, w1.heap.size = x := ⟨_, rfl⟩
  rw [hgp] at hb2 ⊢
  have HB2 := hid hb2
  have HBS2 := hid (blk_only HB1.out ho2 (fun e => e))
  have HO2 := hid (HO1.out.trans ho2 (fun _ _ e => e))
  have HM2 := hid (HM1.out.only ho2 (fun e => e))
  clear hb2 ho2 hgp HS1 HB1 HO1 HM1
  go_wp2_with fail
  go_loopw [14, 6] (fun iv ov wr => ∃ (i : Nat) (o : Int), iv = .int .i64 (i : Nat) ∧ i ≤ P.length ∧ ov = .int .u64 o ∧ fieldR lo hi (P.drop i) o = R ∧ Only (fun _ => False) w2 wr) (fun iv _ _ => P.length - (intOf iv).toNat)
  case atStart => exact ⟨0, 0, rfl, Nat.zero_le _, rfl, HR.out, Only.refl _ _⟩
  case round =>
    obtain ⟨i, o, rfl, hi', rfl, hg, ho⟩ := hrel
    have HG := hid hg; have HO := hid ho
    clear hg ho HR
    by_cases hlt : i < P.length
    · have hltd : decide (i < P.length) = true := decide_eq_true hlt
      have hlti : ((i : Nat) : Int) < (P.length : Nat) := by omega
      obtain ⟨x, hx⟩ : ∃ x, P[i]? = some x := ⟨_, List.getElem?_eq_getElem hlt⟩
      have hxl : x.length ≤ 500 := Nat.le_trans (HPL.out x (List.mem_of_getElem? hx)) hs
      have hb := blk_only HB2.out HO.out (fun e => e)
      have c0 : wr.cell? ⟨gp, i, none⟩ = some (.string (strOf x)) := by
        refine (cell_blk hb i).trans ?_
        rw [List.getElem?_toArray, strsV, List.getElem?_map, hx]; rfl
      have HC0 := hid c0
      have hbs := blk_only HBS2.out HO.out (fun e => e)
      have s0 : wr.cell? ⟨gs, 0, none⟩ = some (.int .i64 (lo : Nat)) := cell_blk hbs 0
      have s1 : wr.cell? ⟨gs, 1, none⟩ = some (.int .i64 (hi : Nat)) := cell_blk hbs 1
      have HPT := hid (crpart_c (w := wr) (HM2.out.only HO.out (fun e => e)) lo hi hlh hh x (by omega))
      have hg := HG.out
      rw [List.drop_eq_getElem_cons hlt, fieldR, show P[i] = x from by rw [List.getElem?_eq_getElem hlt] at hx; exact Option.some.inj hx] at hg
      obtain ⟨⟨pv, pe⟩, hpt⟩ : ∃ x', partR lo hi x = x' := ⟨_, rfl⟩
      rw [hpt] at HPT hg
      simp only at HPT hg
      have HG2 := hid hg
      clear hb hbs hx hg hpt HG
      go_wp2_with fail
      refine HPT.out.mono ?_
      rintro x w3 ⟨rfl, ho3⟩
      have HO3 := hid (HO.out.trans ho3 (fun _ _ e => e))
      clear ho3 c0 s0 s1 HPT HO
      by_cases hpe : pe = 0
      · subst hpe
        have HG3 : Hid (fieldR lo hi (P.drop (i + 1)) (bits .or .u64 o pv) = R) := hid (by have h := HG2.out; rwa [if_neg (by simp)] at h)
        clear HG2
        go_wp2_with fail
        go_roundw
        case rel => exact ⟨i + 1, bits .or .u64 o pv, by go_num, hlt, rfl, HG3.out, HO3.out⟩
        case measure => simp [intOf]; omega
      · have hpb : (pe != 0) = true := bne_iff_ne.2 hpe
        obtain rfl : (0, pe) = R := by have h := HG2.out; rwa [if_pos hpe] at h
        clear HG2 hpe
        go_wp2_with fail
        go_ret2
        exact ⟨rfl, HO2.out.trans HO3.out (fun _ _ e => e)⟩
    · have hltd : decide (i < P.length) = false := decide_eq_false hlt
      have hlti : ¬ ((i : Nat) : Int) < (P.length : Nat) := by omega
      obtain rfl : (o, 0) = R := by have h := HG.out; rwa [List.drop_of_length_le (by omega), fieldR] at h
      clear HG
      go_wp2_with fail
      go_ret2
      exact ⟨rfl, HO2.out.trans HO.out (fun _ _ e => e)⟩
end
end Go.Proofs.YtokefeemhgcmhaaGreatDoor
