/- SHA-256: what the machine's bit operations reckon, in plain numbers. sum.four, math/bits.RotateLeft32. sum.spread: a block's 64 words. sum.state.block: the numbers behind a block. -/
import Derived.Test.YtfmdngeooelcpaaGreatSha
import Derived.Test.YtfmdngeooelcpaaGreatBase
import Derived.Laws.BitsAllLaws
import Derived.Test.YtfmdngeooelcpaaGreatGrow
import Derived.Deep.QuietTactic
import Derived.BigQuiet
import Derived.Test.YtfmdngeooelcpaaGreatWhole
import Derived.StillTailTactics
import Derived.Test.YtfmdngeooelcpaaGreatRegion
import Derived.Deep.Cut
import Derived.Deep.CutRange
namespace Go.Proofs.YtfmdngeooelcpaaGreat
open Go.RowKit

theorem rotr_or {k x : Nat} (hk : k ≤ 32) (hx : x < 4294967296) : (x * 2 ^ (32 - k) % 4294967296) ||| (x / 2 ^ k) = rotr k x := by
  have e : 4294967296 = 2 ^ k * 2 ^ (32 - k) := by rw [← Nat.pow_add, show k + (32 - k) = 32 from by omega]
  have h1 : x * 2 ^ (32 - k) % 4294967296 = x % 2 ^ k * 2 ^ (32 - k) := by
    conv => lhs; rw [e]
    exact Nat.mul_mod_mul_right _ _ _
  have h2 : x / 2 ^ k < 2 ^ (32 - k) := Nat.div_lt_of_lt_mul (by rw [← e]; exact hx)
  rw [h1, Nat.mul_comm, ← Nat.two_pow_add_eq_or_of_lt h2, Nat.mul_comm]
  unfold rotr
  rw [Nat.add_comm]
theorem four_or {a b c d : Nat} (hb : b < 256) (hc : c < 256) (hd : d < 256) : ((a * 16777216 ||| b * 65536) ||| c * 256) ||| d = four a b c d := by
  have h1 : a * 16777216 ||| b * 65536 = 65536 * (256 * a + b) := by
    rw [show a * 16777216 = 2 ^ 24 * a from by omega, ← Nat.two_pow_add_eq_or_of_lt (show b * 65536 < 2 ^ 24 by omega)]; omega
  have h2 : 65536 * (256 * a + b) ||| c * 256 = 256 * (65536 * a + 256 * b + c) := by
    rw [show 65536 * (256 * a + b) = 2 ^ 16 * (256 * a + b) from rfl, ← Nat.two_pow_add_eq_or_of_lt (show c * 256 < 2 ^ 16 by omega)]; omega
  have h3 : 256 * (65536 * a + 256 * b + c) ||| d = four a b c d := by
    rw [show 256 * (65536 * a + 256 * b + c) = 2 ^ 8 * (65536 * a + 256 * b + c) from rfl, ← Nat.two_pow_add_eq_or_of_lt (show d < 2 ^ 8 by omega)]; unfold four; omega
  rw [h1, h2, h3]
theorem four_orI {a b c d : Nat} (ha : a < 256) (hb : b < 256) (hc : c < 256) (hd : d < 256) : bits .or .u32 (bits .or .u32 (bits .or .u32 ((a : Int) * 16777216) ((b : Int) * 65536)) ((c : Int) * 256)) (d : Int) = ((four a b c d : Nat) : Int) := by
  have e1 : bits .or .u32 ((a : Int) * 16777216) ((b : Int) * 65536) = (((a * 16777216) ||| (b * 65536) : Nat) : Int) := u32_or_nat (a * 16777216) (b * 65536) (by omega) (by omega)
  have l1 : (a * 16777216) ||| (b * 65536) < 4294967296 := Nat.or_lt_two_pow (n := 32) (by omega) (by omega)
  have e2 := u32_or_nat ((a * 16777216) ||| (b * 65536)) (c * 256) l1 (by omega)
  have l2 : ((a * 16777216) ||| (b * 65536)) ||| (c * 256) < 4294967296 := Nat.or_lt_two_pow (n := 32) l1 (by omega)
  have e3 := u32_or_nat (((a * 16777216) ||| (b * 65536)) ||| (c * 256)) d l2 (by omega)
  rw [e1, show (c : Int) * 256 = ((c * 256 : Nat) : Int) from by omega, e2, e3, four_or hb hc hd]
theorem sub_ones32 (a : Nat) (h : a < 4294967296) : a ^^^ 4294967295 = 4294967295 - a := by
  have h1 : (BitVec.ofNat 32 a ^^^ BitVec.allOnes 32).toNat = a ^^^ 4294967295 := by
    rw [BitVec.toNat_xor, BitVec.toNat_ofNat, BitVec.toNat_allOnes, Nat.mod_eq_of_lt (by omega)]
  have h2 : BitVec.ofNat 32 a ^^^ BitVec.allOnes 32 = ~~~(BitVec.ofNat 32 a) := by rw [BitVec.not_def, BitVec.xor_comm]
  rw [← h1, h2, BitVec.toNat_not, BitVec.toNat_ofNat, Nat.mod_eq_of_lt (by omega)]
theorem not32 {a : Nat} (h : a < 4294967296) : bits .xor .u32 IntKind.u32.max (a : Nat) = ((4294967295 - a : Nat) : Int) :=
  (u32_xor_nat 4294967295 a (by decide) h).trans (by rw [Nat.xor_comm, sub_ones32 a h])
theorem xor3 {a b c : Nat} (ha : a < 4294967296) (hb : b < 4294967296) (hc : c < 4294967296) : bits .xor .u32 (bits .xor .u32 (a : Int) (b : Int)) (c : Int) = ((a ^^^ b ^^^ c : Nat) : Int) := by
  rw [u32_xor_nat a b ha hb, u32_xor_nat (a ^^^ b) c (xor_lt32 ha hb) hc]
theorem wrap32 (n : Nat) : IntKind.u32.wrap (n : Int) = ((n % 4294967296 : Nat) : Int) := by rw [IntKind.wrap_u32]; omega
end Go.Proofs.YtfmdngeooelcpaaGreat
namespace Go.Proofs.YtfmdngeooelcpaaGreat
open Go.RowKit
section
variable {w : World}
theorem strOf_byt {l : List UInt8} {i : Nat} (hi : i < (strOf l).size) : (((strOf l)[i]'hi).toNat : Int) = (byt l i : Nat) := by
  have h : i < l.length := hi
  have : (strOf l)[i]'hi = l[i] := by
    show (strOf l).data[i] = l[i]
    simp [strOf]
  rw [this]; unfold byt; rw [List.getD_eq_getElem?_getD, List.getElem?_eq_getElem h]; rfl
set_option maxRecDepth 100000 in
theorem rotl_c (k : Nat) (hs : bits .and .u64 (IntKind.u64.wrap (-(k : Int))) 31 = ((32 - k : Nat) : Int)) (hk : 0 < k ∧ k < 32) (x : Nat) (hx : x < 4294967296) :
    Calls Tryz.prog 104 #[.int .u32 x, .int .i64 (-(k : Int))] w fun e w' => e = .returned (.int .u32 (rotr k x : Nat)) ∧ w = w' := by
  have HS := hid hs
  go_enter Tryz.func104, Tryz.ntmps104
  go_wp2
  have e1 : ((x : Int) * 2 ^ (32 - k) % 4294967296) = ((x * 2 ^ (32 - k) % 4294967296 : Nat) : Int) := by rw [Int.natCast_emod, Int.natCast_mul, Int.natCast_pow]; rfl
  have e2 : ((x : Int) / 2 ^ (32 - (32 - k))) = ((x / 2 ^ k : Nat) : Int) := by rw [show 32 - (32 - k) = k from by omega, Int.natCast_ediv, Int.natCast_pow]; rfl
  have hb : bits .or .u32 ((x : Int) * 2 ^ (32 - k) % 4294967296) ((x : Int) / 2 ^ (32 - (32 - k))) = ((rotr k x : Nat) : Int) := by
    rw [e1, e2, u32_or_nat _ _ (Nat.mod_lt _ (by decide)) (Nat.lt_of_le_of_lt (Nat.div_le_self _ _) hx), rotr_or (by omega) hx]
  rw [hb]
  go_ret
  exact ⟨rfl, rfl⟩
set_option maxRecDepth 100000 in
theorem four_c (l : List UInt8) (i : Nat) (h : i + 4 ≤ l.length) (hl : l.length ≤ 1000000000) :
    Calls Tryz.prog 105 #[.string (strOf l), .int .i64 i] w fun e w' => e = .returned (.int .u32 (fourL l i : Nat)) ∧ ∃ n, w' = w.drewN n := by
  have hz : (strOf l).size = l.length := rfl
  have h0 : i < (strOf l).size := by omega
  have h1 : i + 1 < (strOf l).size := by omega
  have h2 : i + 2 < (strOf l).size := by omega
  have h3 : i + 3 < (strOf l).size := by omega
  have g0 := strOf_byt h0
  have g1 := strOf_byt h1
  have g2 := strOf_byt h2
  have g3 := strOf_byt h3
  have i0 : (i : Int) < (strOf l).size := by omega
  have i1 : (i : Int) + 1 < (strOf l).size := by omega
  have i2 : (i : Int) + 2 < (strOf l).size := by omega
  have i3 : (i : Int) + 3 < (strOf l).size := by omega
  have b0 := byt_lt l i; have b1 := byt_lt l (i + 1); have b2 := byt_lt l (i + 2); have b3 := byt_lt l (i + 3)
  have w1 : IntKind.i64.wrap ((i : Int) + 1) = (i : Int) + 1 := IntWalk.i64_in _ (by omega)
  have w2 : IntKind.i64.wrap ((i : Int) + 2) = (i : Int) + 2 := IntWalk.i64_in _ (by omega)
  have w3 : IntKind.i64.wrap ((i : Int) + 3) = (i : Int) + 3 := IntWalk.i64_in _ (by omega)
  have t1 : ((i : Int) + 1).toNat = i + 1 := by omega
  have t2 : ((i : Int) + 2).toNat = i + 2 := by omega
  have t3 : ((i : Int) + 3).toNat = i + 3 := by omega
  have c0 : IntKind.u32.wrap (byt l i : Int) = byt l i := by rw [IntKind.wrap_u32]; omega
  have c1 : IntKind.u32.wrap (byt l (i + 1) : Int) = byt l (i + 1) := by rw [IntKind.wrap_u32]; omega
  have c2 : IntKind.u32.wrap (byt l (i + 2) : Int) = byt l (i + 2) := by rw [IntKind.wrap_u32]; omega
  have c3 : IntKind.u32.wrap (byt l (i + 3) : Int) = byt l (i + 3) := by rw [IntKind.wrap_u32]; omega
  have s0 : IntKind.u32.wrap ((byt l i : Int) * 16777216) = (byt l i : Int) * 16777216 := by rw [IntKind.wrap_u32]; omega
  have s1 : IntKind.u32.wrap ((byt l (i + 1) : Int) * 65536) = (byt l (i + 1) : Int) * 65536 := by rw [IntKind.wrap_u32]; omega
  have s2 : IntKind.u32.wrap ((byt l (i + 2) : Int) * 256) = (byt l (i + 2) : Int) * 256 := by rw [IntKind.wrap_u32]; omega
  have hfo := four_orI b0 b1 b2 b3
  clear hz
  go_enter Tryz.func105, Tryz.ntmps105
  go_wp2
  go_quiet (fail)
  go_wp2
  go_ret
  exact ⟨rfl, _, rfl⟩
end
end Go.Proofs.YtfmdngeooelcpaaGreat
namespace Go.Proofs.YtfmdngeooelcpaaGreat
open Go.RowKit

def u32V (n : Nat) : Value := .int .u32 (n : Int)
/-- So many words, the rest nought. -/
def arrW (ws : List Nat) : Array Value := (ws.map u32V ++ List.replicate (64 - ws.length) (u32V 0)).toArray
theorem arrW_set {ws : List Nat} {x : Nat} (h : ws.length < 64) : (arrW ws).setIfInBounds ws.length (u32V x) = arrW (ws ++ [x]) := by
  unfold arrW
  apply Array.ext'
  rw [Array.toList_setIfInBounds]
  simp only [List.map_append, List.map_cons, List.map_nil, List.append_assoc, List.length_append, List.length_cons, List.length_nil]
  obtain ⟨m, hm⟩ : ∃ m, 64 - ws.length = m + 1 := ⟨64 - ws.length - 1, by omega⟩
  rw [hm, List.replicate_succ, show 64 - (ws.length + (0 + 1)) = m from by omega]
  rw [List.set_append_right _ _ (by simp)]
  simp
theorem arrW_size {ws : List Nat} (h : ws.length ≤ 64) : (arrW ws).size = 64 := by unfold arrW; simp; omega
theorem arrW_get {ws : List Nat} {i : Nat} (h : i < ws.length) : (arrW ws)[i]? = some (u32V (ws.getD i 0)) := by
  unfold arrW
  rw [List.getElem?_toArray, List.getElem?_append_left (by simpa using h), List.getElem?_map, List.getElem?_eq_getElem h, List.getD_eq_getElem?_getD, List.getElem?_eq_getElem h]; rfl
theorem arrW_get0 {ws : List Nat} {i : Nat} (h : ws.length ≤ i) (hi : i < 64) : (arrW ws)[i]? = some (.int .u32 0) := by
  unfold arrW
  rw [List.getElem?_toArray, List.getElem?_append_right (by simpa using h), List.getElem?_replicate, if_pos (by simp; omega)]; rfl
section
variable {w : World}
set_option maxRecDepth 100000 in
set_option maxHeartbeats 3200000 in
theorem spread_c (l : List UInt8) (h : 64 ≤ l.length) (hl : l.length ≤ 1000000000) :
    Calls Tryz.prog 103 #[.string (strOf l)] w fun e w' => e = .returned (.agg ((wds l).map u32V).toArray) ∧ Only (fun _ => False) w w' := by
  have H := hid h
  have hf : ∀ (wx : World) (j : Nat), j < 16 → Hid (Calls Tryz.prog 105 #[.string (strOf l), .int .i64 (4 * (j : Int))] wx fun e w' => e = .returned (.int .u32 (fourL l (4 * j) : Nat)) ∧ ∃ n, w' = wx.drewN n) := fun wx j hj => hid (by
    have := four_c (w := wx) l (4 * j) (by omega) hl
    rwa [show (((4 * j : Nat)) : Int) = 4 * (j : Int) from by omega] at this)
  have HF := hid hf
  clear hf
  go_enter Tryz.func103, Tryz.ntmps103
  go_wp2_with fail
  go_loopw [10] (fun i wr => ∃ j : Nat, i = .int .i64 j ∧ j ≤ 16 ∧ wr.heap[w.heap.size]? = some (.cells (arrW []) 184 (0, 0)) ∧ wr.heap[w.heap.size + 1]? = some (.cells (arrW (wds0 l j)) 184 (0, 0)) ∧ Only (fun _ => False) w wr) (fun i _ => 16 - (intOf i).toNat)
  case atStart => exact ⟨0, rfl, Nat.zero_le _, by have := blk_new w (.cells (arrW []) 184); exact blk_alloc this, by have := blk_new (w.alloc (.cells (arrW []) 184)) (.cells (arrW []) 184); rw [World.size_alloc] at this; exact this, (only_new w _).trans (only_new _ _) (fun _ _ e => e)⟩
  case round =>
    obtain ⟨j, rfl, hj, h0, h1, ho⟩ := hrel
    by_cases hjl : j < 16
    · have hji : (j : Int) < 16 := by omega
      have HFj := (HF.out wr j hjl)
      have hsz := arrW_size (ws := wds0 l j) (by rw [wds0_len]; omega)
      have H0 := hid h0; have H1 := hid h1; have HO := hid ho
      clear h0 h1 ho hsz
      go_wp2_with fail
      refine HFj.out.mono ?_
      rintro e w5 ⟨rfl, nd, rfl⟩
      obtain ⟨wb, hwb⟩ : ∃ wb, wr.drewN nd = wb := ⟨_, rfl⟩
      have B0 : wb.heap[w.heap.size]? = some (.cells (arrW []) 184 (0, 0)) := by rw [← hwb]; exact H0.out
      have B1 : wb.heap[w.heap.size + 1]? = some (.cells (arrW (wds0 l j)) 184 (0, 0)) := by rw [← hwb]; exact H1.out
      have OB : Only (fun _ => False) w wb := by rw [← hwb]; exact HO.out.trans (only_drewN _ _) (fun _ _ e => e)
      rw [hwb]
      have c1 : wb.cell? ⟨w.heap.size + 1, j, none⟩ = some (.int .u32 0) := by rw [cell_blk B1]; exact arrW_get0 (by rw [wds0_len]; omega) (by omega)
      have z1 : ∀ i, wb.frozen? ⟨w.heap.size + 1, i, none⟩ = false := frozen_blk B1
      have l1 := blk_lt B1
      have HB0 := hid B0; have HB1 := hid B1; have HOB := hid OB
      clear B0 B1 OB hwb
      go_wp2_with fail
      go_roundw
      case rel =>
        have hs := blk_set HB1.out j (u32V (fourL l (4 * j)))
        refine ⟨j + 1, by go_num, by omega, ?_, ?_, HOB.out.trans (only_set _ _ _) (fun i hi e => by have e' : i = w.heap.size + 1 := e; omega)⟩
        · exact blk_only HB0.out (only_set (w.heap.size + 1) j _) (by show ¬ w.heap.size = w.heap.size + 1; omega)
        · rw [wds0]
          have e := arrW_set (ws := wds0 l j) (x := fourL l (4 * j)) (by rw [wds0_len]; omega)
          rw [wds0_len] at e
          rw [← e]; exact hs
      case measure => simp [intOf]; omega
    · obtain rfl : j = 16 := by omega
      have H0 := hid h0; have H1 := hid h1; have HO := hid ho
      clear h0 h1 ho HF
      have hwl := wds0_len l 16
      have hw32 := wds0_32 l 16
      obtain ⟨W0, hW0⟩ : ∃ x, wds0 l 16 = x := ⟨_, rfl⟩
      have HWS : Hid (wds l = wdsN W0 48) := hid (by unfold wds; rw [hW0])
      rw [hW0] at H1 hwl hw32
      clear hW0
      have HWL := hid hwl; have HW32 := hid hw32
      clear hwl hw32
      go_wp2_with fail
      go_loopw [5] (fun i wr => ∃ n : Nat, i = .int .i64 n ∧ 16 ≤ n ∧ n ≤ 64 ∧ wr.heap[w.heap.size]? = some (.cells (arrW []) 184 (0, 0)) ∧ wr.heap[w.heap.size + 1]? = some (.cells (arrW (wdsN W0 (n - 16))) 184 (0, 0)) ∧ Only (fun _ => False) w wr) (fun i _ => 64 - (intOf i).toNat)
      case atStart => exact ⟨16, rfl, Nat.le_refl _, by omega, H0.out, H1.out, HO.out⟩
      case round =>
        obtain ⟨n, rfl, hn0, hn, h0, h1, ho⟩ := hrel
        have hl2 : (wdsN W0 (n - 16)).length = n := by rw [wdsN_len, HWL.out]; omega
        by_cases hnl : n < 64
        · have hni : (n : Int) < 64 := by omega
          have h32 := wdsN_32 HW32.out (n - 16)
          obtain ⟨U, hU⟩ : ∃ x, wdsN W0 (n - 16) = x := ⟨_, rfl⟩
          have HNX : Hid (wdsN W0 (n + 1 - 16) = U ++ [ext U]) := hid (by rw [show n + 1 - 16 = (n - 16) + 1 from by omega, wdsN, hU])
          rw [hU] at h1 hl2 h32
          have hx : ext U = (U.getD (n - 16) 0 + sg0 (U.getD (n - 15) 0) + U.getD (n - 7) 0 + sg1 (U.getD (n - 2) 0)) % 4294967296 := by unfold ext; rw [hl2]
          have d15 : wr.cell? ⟨w.heap.size + 1, n - 15, none⟩ = some (.int .u32 (U.getD (n - 15) 0 : Nat)) := by rw [cell_blk h1]; exact arrW_get (by omega)
          have d2 : wr.cell? ⟨w.heap.size + 1, n - 2, none⟩ = some (.int .u32 (U.getD (n - 2) 0 : Nat)) := by rw [cell_blk h1]; exact arrW_get (by omega)
          have d16 : wr.cell? ⟨w.heap.size + 1, n - 16, none⟩ = some (.int .u32 (U.getD (n - 16) 0 : Nat)) := by rw [cell_blk h1]; exact arrW_get (by omega)
          have d7 : wr.cell? ⟨w.heap.size + 1, n - 7, none⟩ = some (.int .u32 (U.getD (n - 7) 0 : Nat)) := by rw [cell_blk h1]; exact arrW_get (by omega)
          have dn : wr.cell? ⟨w.heap.size + 1, n, none⟩ = some (.int .u32 0) := by rw [cell_blk h1]; exact arrW_get0 (by omega) hnl
          have x15 := h32.getD (n - 15); have x2 := h32.getD (n - 2); have x16 := h32.getD (n - 16); have x7 := h32.getD (n - 7)
          obtain ⟨a15, e15⟩ : ∃ x, U.getD (n - 15) 0 = x := ⟨_, rfl⟩
          obtain ⟨a2, e2⟩ : ∃ x, U.getD (n - 2) 0 = x := ⟨_, rfl⟩
          obtain ⟨a16, e16⟩ : ∃ x, U.getD (n - 16) 0 = x := ⟨_, rfl⟩
          obtain ⟨a7, e7⟩ : ∃ x, U.getD (n - 7) 0 = x := ⟨_, rfl⟩
          rw [e15, e2, e16, e7] at hx
          rw [e15] at d15 x15
          rw [e2] at d2 x2
          rw [e16] at d16 x16
          rw [e7] at d7 x7
          have r1 := fun (wx : World) => rotl_c (w := wx) 7 (by decide) (by decide) a15 x15
          have r2 := fun (wx : World) => rotl_c (w := wx) 18 (by decide) (by decide) a15 x15
          have r3 := fun (wx : World) => rotl_c (w := wx) 17 (by decide) (by decide) a2 x2
          have r4 := fun (wx : World) => rotl_c (w := wx) 19 (by decide) (by decide) a2 x2
          have R1 := hid r1; have R2 := hid r2; have R3 := hid r3; have R4 := hid r4
          have HX := hid hx; have H0 := hid h0; have H1 := hid h1; have HO := hid ho; have HU2 := hid hl2
          have b1 := blk_lt h1
          have z1 : ∀ i, wr.frozen? ⟨w.heap.size + 1, i, none⟩ = false := frozen_blk h1
          have t15 : ((n : Int) - 15).toNat = n - 15 := by omega
          have t2 : ((n : Int) - 2).toNat = n - 2 := by omega
          have t16 : ((n : Int) - 16).toNat = n - 16 := by omega
          have t7 : ((n : Int) - 7).toNat = n - 7 := by omega
          have v15 : IntKind.i64.wrap ((n : Int) - 15) = (n : Int) - 15 := IntWalk.i64_in _ (by omega)
          have v2 : IntKind.i64.wrap ((n : Int) - 2) = (n : Int) - 2 := IntWalk.i64_in _ (by omega)
          have v16 : IntKind.i64.wrap ((n : Int) - 16) = (n : Int) - 16 := IntWalk.i64_in _ (by omega)
          have v7 : IntKind.i64.wrap ((n : Int) - 7) = (n : Int) - 7 := IntWalk.i64_in _ (by omega)
          clear hx h0 h1 ho hl2 h32 hU e15 e2 e16 e7 r1 r2 r3 r4
          go_wp2_with fail
          go_quiet (fail)
          obtain ⟨wb, hwb⟩ : ∃ wb, wr.drewN nq = wb := ⟨_, rfl⟩
          rw [hwb]
          have HB0 : Hid (wb.heap[w.heap.size]? = some (.cells (arrW []) 184 (0, 0))) := hid (by rw [← hwb]; exact H0.out)
          have g1 : wb.heap[w.heap.size + 1]? = some (.cells (arrW U) 184 (0, 0)) := by rw [← hwb]; exact H1.out
          have HOB : Hid (Only (fun _ => False) w wb) := hid (by rw [← hwb]; exact HO.out.trans (only_drewN _ _) (fun _ _ e => e))
          have d16 : wb.cell? ⟨w.heap.size + 1, n - 16, none⟩ = some (.int .u32 (a16 : Nat)) := by rw [← hwb]; exact d16
          have d7 : wb.cell? ⟨w.heap.size + 1, n - 7, none⟩ = some (.int .u32 (a7 : Nat)) := by rw [← hwb]; exact d7
          have dn : wb.cell? ⟨w.heap.size + 1, n, none⟩ = some (.int .u32 0) := by rw [← hwb]; exact dn
          have b1 := blk_lt g1
          have z1 : ∀ i, wb.frozen? ⟨w.heap.size + 1, i, none⟩ = false := frozen_blk g1
          have HB1 := hid g1
          have q7 := rotr_lt (n := 7) (by decide) x15; have q18 := rotr_lt (n := 18) (by decide) x15
          have q17 := rotr_lt (n := 17) (by decide) x2; have q19 := rotr_lt (n := 19) (by decide) x2
          have hs0 : bits .xor .u32 (bits .xor .u32 ((rotr 7 a15 : Nat) : Int) ((rotr 18 a15 : Nat) : Int)) ((a15 : Int) / 8) = ((sg0 a15 : Nat) : Int) := xor3 (c := a15 / 8) q7 q18 (by omega)
          have hs1 : bits .xor .u32 (bits .xor .u32 ((rotr 17 a2 : Nat) : Int) ((rotr 19 a2 : Nat) : Int)) ((a2 : Int) / 1024) = ((sg1 a2 : Nat) : Int) := xor3 (c := a2 / 1024) q17 q19 (by omega)
          have s0l := sg0_lt x15; have s1l := sg1_lt x2
          obtain ⟨y7, e7⟩ : ∃ x, rotr 7 a15 = x := ⟨_, rfl⟩
          obtain ⟨y18, e18⟩ : ∃ x, rotr 18 a15 = x := ⟨_, rfl⟩
          obtain ⟨y17, e17⟩ : ∃ x, rotr 17 a2 = x := ⟨_, rfl⟩
          obtain ⟨y19, e19⟩ : ∃ x, rotr 19 a2 = x := ⟨_, rfl⟩
          obtain ⟨f0, hf0⟩ : ∃ x, sg0 a15 = x := ⟨_, rfl⟩
          obtain ⟨f1, hf1⟩ : ∃ x, sg1 a2 = x := ⟨_, rfl⟩
          rw [hf0] at hs0 s0l
          rw [hf1] at hs1 s1l
          rw [hf0, hf1] at HX
          rw [e7, e18] at hs0
          rw [e17, e19] at hs1
          simp only [e7] at R1
          simp only [e18] at R2
          simp only [e17] at R3
          simp only [e19] at R4
          have HS0 := hid hs0; have HS1 := hid hs1
          have p1 : (0 : Int) ≤ (n : Int) - 16 := by omega
          have p2 : (n : Int) - 16 < 64 := by omega
          have p3 : (0 : Int) ≤ (n : Int) - 7 := by omega
          have p4 : (n : Int) - 7 < 64 := by omega
          have p5 : n - 16 < 64 := by omega
          have p6 : n - 7 < 64 := by omega
          have p7 : (16 : Int) ≤ n := by omega
          have p8 : (7 : Int) ≤ n := by omega
          have k1 : IntKind.u32.wrap ((a16 : Int) + (f0 : Int)) = (((a16 + f0) % 4294967296 : Nat) : Int) := by rw [IntKind.wrap_u32]; omega
          have k2 : IntKind.u32.wrap ((((a16 + f0) % 4294967296 : Nat) : Int) + (a7 : Int)) = (((a16 + f0 + a7) % 4294967296 : Nat) : Int) := by rw [IntKind.wrap_u32]; omega
          have k3 : IntKind.u32.wrap ((((a16 + f0 + a7) % 4294967296 : Nat) : Int) + (f1 : Int)) = ((ext U : Nat) : Int) := by rw [IntKind.wrap_u32, HX.out]; omega
          obtain ⟨m1, hm1⟩ : ∃ x, (a16 + f0) % 4294967296 = x := ⟨_, rfl⟩
          obtain ⟨m2, hm2⟩ : ∃ x, (a16 + f0 + a7) % 4294967296 = x := ⟨_, rfl⟩
          obtain ⟨m3, hm3⟩ : ∃ x, ext U = x := ⟨_, rfl⟩
          rw [hm1] at k1 k2
          rw [hm2] at k2 k3
          rw [hm3] at k3 HNX
          clear g1 hwb e7 e18 e17 e19 hf0 hf1 HX H0 H1 HO d15 d2 hm1 hm2 hm3
          go_wp2_with fail
          refine (R1.out _).mono ?_
          rintro e w5 ⟨rfl, rfl⟩
          go_wp2_with fail
          refine (R2.out _).mono ?_
          rintro e w5 ⟨rfl, rfl⟩
          go_wp2_with fail
          refine (R3.out _).mono ?_
          rintro e w5 ⟨rfl, rfl⟩
          go_wp2_with fail
          refine (R4.out _).mono ?_
          rintro e w5 ⟨rfl, rfl⟩
          go_wp2_with fail
          go_still_tail 15, (by kernel_rfl)
          change wpList _ _ _ _ _ wb.drew
          obtain ⟨wd, hwd⟩ : ∃ wd, wb.drew = wd := ⟨_, rfl⟩
          have HD0 : Hid (wd.heap[w.heap.size]? = some (.cells (arrW []) 184 (0, 0))) := hid (by rw [← hwd]; exact HB0.out)
          have g1 : wd.heap[w.heap.size + 1]? = some (.cells (arrW U) 184 (0, 0)) := by rw [← hwd]; exact HB1.out
          have HOD : Hid (Only (fun _ => False) w wd) := hid (by rw [← hwd]; exact HOB.out.trans (Only.refl (fun _ => False) wb).drew (fun _ _ e => e))
          have dn' : wd.cell? ⟨w.heap.size + 1, n, none⟩ = some (.int .u32 0) := by rw [cell_blk g1]; exact arrW_get0 (by have := HU2.out; omega) hnl
          have z1' : ∀ i, wd.frozen? ⟨w.heap.size + 1, i, none⟩ = false := frozen_blk g1
          have b1' := blk_lt g1
          have HD1 := hid g1
          rw [hwd]
          clear g1 hwd dn d16 d7 z1 b1
          go_wp2_with fail
          go_roundw
          case rel =>
            have hs := blk_set HD1.out n (u32V m3)
            have hrr : ∃ n' : Nat, Value.int .i64 ((n : Int) + 1) = .int .i64 n' ∧ 16 ≤ n' ∧ n' ≤ 64 ∧ (wd.setCell ⟨w.heap.size + 1, n, none⟩ (.int .u32 (m3 : Nat))).heap[w.heap.size]? = some (.cells (arrW []) 184 (0, 0)) ∧ (wd.setCell ⟨w.heap.size + 1, n, none⟩ (.int .u32 (m3 : Nat))).heap[w.heap.size + 1]? = some (.cells (arrW (wdsN W0 (n' - 16))) 184 (0, 0)) ∧ Only (fun _ => False) w (wd.setCell ⟨w.heap.size + 1, n, none⟩ (.int .u32 (m3 : Nat))) := by
              refine ⟨n + 1, by go_num, by omega, by omega, ?_, ?_, HOD.out.trans (only_set _ _ _) (fun i hi e => by have e' : i = w.heap.size + 1 := e; omega)⟩
              · exact blk_only HD0.out (only_set (w.heap.size + 1) n _) (by show ¬ w.heap.size = w.heap.size + 1; omega)
              · rw [HNX.out]
                have e := arrW_set (ws := U) (x := m3) (by have := HU2.out; omega)
                rw [HU2.out] at e
                rw [← e]; exact hs
            first
              | (iterate 47 (apply Exists.intro)); refine And.intro ?_ rfl; exact hrr
              | (iterate 48 (apply Exists.intro)); refine And.intro ?_ rfl; exact hrr
              | (iterate 46 (apply Exists.intro)); refine And.intro ?_ rfl; exact hrr
              | (iterate 49 (apply Exists.intro)); refine And.intro ?_ rfl; exact hrr
              | (iterate 45 (apply Exists.intro)); refine And.intro ?_ rfl; exact hrr
              | (iterate 50 (apply Exists.intro)); refine And.intro ?_ rfl; exact hrr
              | (iterate 44 (apply Exists.intro)); refine And.intro ?_ rfl; exact hrr
              | (iterate 51 (apply Exists.intro)); refine And.intro ?_ rfl; exact hrr
              | (iterate 43 (apply Exists.intro)); refine And.intro ?_ rfl; exact hrr
          case measure => simp [intOf]; omega
        · obtain rfl : n = 64 := by omega
          have H0 := hid h0; have H1 := hid h1; have HO := hid ho
          have hsz : (arrW (wdsN W0 48)) = ((wds l).map u32V).toArray := by
            rw [HWS.out]; unfold arrW; rw [wdsN_len, HWL.out]; simp
          have H1' : Hid (wr.heap[w.heap.size + 1]? = some (.cells ((wds l).map u32V).toArray 184 (0, 0))) := hid (by rw [← hsz]; exact h1)
          have hws := wds_len l
          have hinf : (Tryz.prog.info? 184).map (·.size) = some ((wds l).map u32V).toArray.size := by
            rw [show ((wds l).map u32V).toArray.size = 64 by simp [hws]]; kernel_rfl
          have h1c : (((wds l).map u32V).toArray).all (·.oneCell') = true := by simp [u32V, Value.oneCell']
          have hsz64 : (((wds l).map u32V).toArray).size = (arrW []).size := by simp [hws, arrW]
          obtain ⟨A, hA⟩ : ∃ x, ((wds l).map u32V).toArray = x := ⟨_, rfl⟩
          rw [hA] at H1' hinf h1c hsz64
          have HA := hid hA
          obtain ⟨Z, hZ⟩ : ∃ x, arrW [] = x := ⟨_, rfl⟩
          rw [hZ] at H0 hsz64
          have HINF := hid hinf; have HONE := hid h1c; have HFIT := hid hsz64
          clear h0 h1 ho hsz hl2 hA hZ hinf h1c hsz64 H1 hws
          go_wp2_with (first
            | ((guard_target =~ wpList _ _ _ (⟨some 63, _, _, _, _, _⟩ :: _) _ _); refine wpList_load_row rfl 184 (.tmp 3) rfl (w.heap.size + 1) rfl 184 A (0, 0) _ H1'.out Tryz.underlying184 rfl HINF.out ?_)
            | ((guard_target =~ wpList _ _ _ (⟨none, .store _ _ _, _, _, _, _⟩ :: _) _ _); refine wpList_store_all rfl 184 (.tmp 2) (.tmp 63) rfl w.heap.size A rfl rfl Z 184 H0.out HFIT.out HINF.out HONE.out ?_; intro w9 hb9 ho9 hs9; have HB9 := hid hb9; have HO9 := hid ho9; clear hb9 ho9 hs9))
          refine bodyPost_ret (results_cell_row rfl _ _ w.heap.size 184 A (0, 0) _ rfl HB9.out Tryz.underlying184 rfl HINF.out) rfl ⟨by rw [HA.out], HO.out.trans HO9.out (fun i hi e => by have e' : i = w.heap.size := e; omega)⟩
end
end Go.Proofs.YtfmdngeooelcpaaGreat
namespace Go.Proofs.YtfmdngeooelcpaaGreat
open Go.RowKit

def stA (s : ST) : Array Value := #[u32V s.a, u32V s.b, u32V s.c, u32V s.d, u32V s.e, u32V s.f, u32V s.g, u32V s.h]
def stV (s : ST) : Value := .agg (stA s)
theorem infoS8 : (Tryz.prog.info? 165).map (·.size) = some 8 := by kernel_rfl
theorem info64 : (Tryz.prog.info? 184).map (·.size) = some 64 := by kernel_rfl
def z8A : Array Value := #[.int .u32 0, .int .u32 0, .int .u32 0, .int .u32 0, .int .u32 0, .int .u32 0, .int .u32 0, .int .u32 0]
def keysL : List UInt8 := [66, 138, 47, 152, 113, 55, 68, 145, 181, 192, 251, 207, 233, 181, 219, 165, 57, 86, 194, 91, 89, 241, 17, 241, 146, 63, 130, 164, 171, 28, 94, 213, 216, 7, 170, 152, 18, 131, 91, 1, 36, 49, 133, 190, 85, 12, 125, 195, 114, 190, 93, 116, 128, 222, 177, 254, 155, 220, 6, 167, 193, 155, 241, 116, 228, 155, 105, 193, 239, 190, 71, 134, 15, 193, 157, 198, 36, 12, 161, 204, 45, 233, 44, 111, 74, 116, 132, 170, 92, 176, 169, 220, 118, 249, 136, 218, 152, 62, 81, 82, 168, 49, 198, 109, 176, 3, 39, 200, 191, 89, 127, 199, 198, 224, 11, 243, 213, 167, 145, 71, 6, 202, 99, 81, 20, 41, 41, 103, 39, 183, 10, 133, 46, 27, 33, 56, 77, 44, 109, 252, 83, 56, 13, 19, 101, 10, 115, 84, 118, 106, 10, 187, 129, 194, 201, 46, 146, 114, 44, 133, 162, 191, 232, 161, 168, 26, 102, 75, 194, 75, 139, 112, 199, 108, 81, 163, 209, 146, 232, 25, 214, 153, 6, 36, 244, 14, 53, 133, 16, 106, 160, 112, 25, 164, 193, 22, 30, 55, 108, 8, 39, 72, 119, 76, 52, 176, 188, 181, 57, 28, 12, 179, 78, 216, 170, 74, 91, 156, 202, 79, 104, 46, 111, 243, 116, 143, 130, 238, 120, 165, 99, 111, 132, 200, 120, 20, 140, 199, 2, 8, 144, 190, 255, 250, 164, 80, 108, 235, 190, 249, 163, 247, 198, 113, 120, 242]
set_option maxRecDepth 100000 in
theorem keys_all : ∀ i : Fin 64, fourL keysL (4 * i.val) = kK.getD i.val 0 := by decide +kernel
/-- An array by value, at a place that it has. -/
theorem run_index_in {cs : Array Value} {i x : Nat} {w : World} (hi : i < 64) (hv : cs[i]? = some (u32V x)) :
    (Instr.index 184 (.agg cs) (.int .i64 i)).run Tryz.prog w = .ok (.int .u32 (x : Nat)) w := by
  have hs : (sizeOf 121).run Tryz.prog w = .ok 1 w := by kernel_rfl
  simp [Instr.index, run_underlying Tryz.underlying184, asIntOf, hi, go_sem, hs, hv, u32V]
/-- The first so many numbers are added. -/
def addA (s v : ST) (j : Nat) : Array Value := ((List.range 8).map fun i => u32V (if i < j then (s.l.getD i 0 + v.l.getD i 0) % 4294967296 else s.l.getD i 0)).toArray
theorem j8 {j : Nat} (h : j < 8) : j = 0 ∨ j = 1 ∨ j = 2 ∨ j = 3 ∨ j = 4 ∨ j = 5 ∨ j = 6 ∨ j = 7 := by omega
theorem addA_set (s v : ST) {j : Nat} (h : j < 8) : (addA s v j).setIfInBounds j (u32V ((s.l.getD j 0 + v.l.getD j 0) % 4294967296)) = addA s v (j + 1) := by
  rcases j8 h with rfl | rfl | rfl | rfl | rfl | rfl | rfl | rfl <;> rfl
theorem addA_get (s v : ST) {j : Nat} (h : j < 8) : (addA s v j)[j]? = some (u32V (s.l.getD j 0)) := by
  rcases j8 h with rfl | rfl | rfl | rfl | rfl | rfl | rfl | rfl <;> rfl
theorem stA_get (s : ST) {j : Nat} (h : j < 8) : (stA s)[j]? = some (u32V (s.l.getD j 0)) := by
  rcases j8 h with rfl | rfl | rfl | rfl | rfl | rfl | rfl | rfl <;> rfl
theorem ST.Ok.get {s : ST} (h : s.Ok) {j : Nat} (hj : j < 8) : s.l.getD j 0 < 4294967296 := by
  obtain ⟨h0, h1, h2, h3, h4, h5, h6, h7⟩ := h
  rcases j8 hj with rfl | rfl | rfl | rfl | rfl | rfl | rfl | rfl <;> assumption
theorem addA_8 (s v : ST) : addA s v 8 = stA (s.add v) := rfl
theorem addA_0 (s v : ST) : addA s v 0 = stA s := rfl
theorem stA_one (s : ST) : (stA s).all (·.oneCell') = true := by simp [stA, u32V, Value.oneCell']
/-- What is known while the block's variables are made, in whatever order. -/
structure BInv (w0 : World) (l : List UInt8) (A S : Array Value) (a0 : Act) (L : Nat → Bool) (a : Act) (w : World) : Prop where
  alike : Alike [14, 15, 16, 5, 6] a0 a
  only : Only (fun _ => False) w0 w
  f0 : L 0 = true → a.eval (.tmp 14) = .string (strOf l)
  f1 : L 1 = true → a.eval (.tmp 15) = .agg A
  f2 : L 2 = true → a.eval (.tmp 16) = .agg S
  f3 : L 3 = true → ∃ g, a.eval (.tmp 5) = .pointer (some ⟨g, 0, none⟩) ∧ w0.heap.size ≤ g ∧ w.heap[g]? = some (.cells (if L 5 = true then A else arrW []) 184 (0, 0))
  f4 : L 4 = true → ∃ g, a.eval (.tmp 6) = .pointer (some ⟨g, 0, none⟩) ∧ w0.heap.size ≤ g ∧ w.heap[g]? = some (.cells (if L 6 = true then S else z8A) 165 (0, 0))
  f34 : L 3 = true → L 4 = true → a.eval (.tmp 5) ≠ a.eval (.tmp 6)
  f5 : L 5 = true → L 3 = true
  f6 : L 6 = true → L 4 = true
section
variable {w : World}
set_option maxRecDepth 100000 in
set_option maxHeartbeats 3200000 in
theorem block_c {s : ST} (hs : s.Ok) (l : List UInt8) (h : 64 ≤ l.length) (hl : l.length ≤ 1000000000) :
    Calls Tryz.prog 96 #[stV s, .string (strOf l)] w fun e w' => e = .returned (stV (blk s l)) ∧ Only (fun _ => False) w w' := by
  have HSP := hid (fun (wx : World) => spread_c (w := wx) l h hl)
  have hws := wds_len l
  have hw32 := wds_32 l
  obtain ⟨WS, hWS⟩ : ∃ x, wds l = x := ⟨_, rfl⟩
  have HBL : Hid (blk s l = s.add (rndN WS s 64)) := hid (by unfold blk; rw [hWS])
  rw [hWS] at hws hw32
  simp only [hWS] at HSP
  have hAi : (Tryz.prog.info? 184).map (·.size) = some ((WS.map u32V).toArray).size := by rw [info64]; simp [hws]
  have hA1 : ((WS.map u32V).toArray).all (·.oneCell') = true := by simp [u32V, Value.oneCell']
  have hAf : ((WS.map u32V).toArray).size = (arrW []).size := by simp [hws, arrW]
  have hAg : ∀ j, j < 64 → ((WS.map u32V).toArray)[j]? = some (u32V (WS.getD j 0)) := fun j hj => by
    rw [List.getElem?_toArray, List.getElem?_map, List.getElem?_eq_getElem (by omega), List.getD_eq_getElem?_getD, List.getElem?_eq_getElem (by omega)]; rfl
  obtain ⟨A, hA⟩ : ∃ x, (WS.map u32V).toArray = x := ⟨_, rfl⟩
  rw [hA] at hAi hA1 hAf
  simp only [hA] at HSP hAg
  have HAi := hid hAi; have HA1 := hid hA1; have HAf := hid hAf; have HAg := hid hAg; have HW32 := hid hw32
  have hs0 := hs
  obtain ⟨s0, s1, s2, s3, s4, s5, s6, s7⟩ := s
  obtain ⟨k0, k1, k2, k3, k4, k5, k6, k7⟩ := hs
  simp only at k0 k1 k2 k3 k4 k5 k6 k7
  have HS := hid hs0
  have HX0 := hid (blk_new w (.cells #[u32V s0, u32V s1, u32V s2, u32V s3, u32V s4, u32V s5, u32V s6, u32V s7] 165))
  clear hAi hA1 hAf hAg hA hWS hws hw32 hs0
  go_enter Tryz.func96, Tryz.ntmps96
  go_upto_region 1 with fail
  obtain ⟨wk, hwk⟩ : ∃ wk, (w.alloc (.cells #[u32V s0, u32V s1, u32V s2, u32V s3, u32V s4, u32V s5, u32V s6, u32V s7] 165)).alloc (.cells z8A 165) = wk := ⟨_, rfl⟩
  change Code.wp _ _ _ _ ((w.alloc (.cells #[u32V s0, u32V s1, u32V s2, u32V s3, u32V s4, u32V s5, u32V s6, u32V s7] 165)).alloc (.cells z8A 165))
  have hx0 : wk.heap[w.heap.size]? = some (.cells #[u32V s0, u32V s1, u32V s2, u32V s3, u32V s4, u32V s5, u32V s6, u32V s7] 165 (0, 0)) := by rw [← hwk]; exact blk_alloc HX0.out
  have hx1 : wk.heap[w.heap.size + 1]? = some (.cells z8A 165 (0, 0)) := by rw [← hwk]; have := blk_new (w.alloc (.cells #[u32V s0, u32V s1, u32V s2, u32V s3, u32V s4, u32V s5, u32V s6, u32V s7] 165)) (.cells z8A 165); rw [World.size_alloc] at this; exact this
  have hwo : Only (fun _ => False) w wk := by rw [← hwk]; exact (only_new _ _).trans (only_new _ _) (fun _ _ e => e)
  have hks : w.heap.size + 2 ≤ wk.heap.size := by rw [← hwk]; simp
  obtain ⟨S, hS⟩ : ∃ S, (#[u32V s0, u32V s1, u32V s2, u32V s3, u32V s4, u32V s5, u32V s6, u32V s7] : Array Value) = S := ⟨_, rfl⟩
  have hSs : S.size = 8 := by rw [← hS]; rfl
  have hS1 : S.all (·.oneCell') = true := by rw [← hS]; simp [u32V, Value.oneCell']
  rw [hwk]
  rw [hS] at hx0
  have HS8 := hid hS; have HX1 := hid hx0; have HX2 := hid hx1; have HWO := hid hwo
  clear hwk hx0 hx1 hwo HX0
  refine region_inv (by kernel_rfl) (by kernel_rfl) (BInv wk l A S) ?_ ?_ ?_
  · exact ⟨Alike.refl _ _, (Only.refl _ _).drew, fun h => (by cases h), fun h => (by cases h), fun h => (by cases h), fun h => (by cases h), fun h => (by cases h), fun h => (by cases h), fun h => (by cases h), fun h => (by cases h)⟩
  · refine AllSteps.cons rfl ?_ (AllSteps.cons rfl ?_ (AllSteps.cons rfl ?_ (AllSteps.cons rfl ?_ (AllSteps.cons rfl ?_ (AllSteps.cons rfl ?_ (AllSteps.cons rfl ?_ AllSteps.nil))))))
    · intro L a w' K hI hn hdeps hK
      have e : a.eval (.tmp 1) = .string (strOf l) := hI.alike.eval 1 (by decide)
      have hd : ∀ k, (a.put (some 14) (.string (strOf l))).eval (.tmp k) = if k = 14 then .string (strOf l) else a.eval (.tmp k) := fun k => eval_put _ _ _ _ (by rw [hI.alike.size]; show 14 < 112; decide)
      refine step_of rfl (wp_value rfl (hK _ _ ?_))
      show BInv wk l A S _ _ (a.put (some 14) (a.eval (.tmp 1))) w'
      rw [e]
      refine ⟨hI.alike.put 14 _ (by decide), hI.only, fun _ => by rw [hd]; rfl, fun h => by rw [hd, if_neg (by decide)]; exact hI.f1 (by simpa using h), fun h => by rw [hd, if_neg (by decide)]; exact hI.f2 (by simpa using h), fun h => by rw [hd, if_neg (by decide)]; simpa using hI.f3 (by simpa using h), fun h => by rw [hd, if_neg (by decide)]; simpa using hI.f4 (by simpa using h), fun h g => by rw [hd, hd, if_neg (by decide), if_neg (by decide)]; exact hI.f34 (by simpa using h) (by simpa using g), fun h => by simpa using hI.f5 (by simpa using h), fun h => by simpa using hI.f6 (by simpa using h)⟩
    · intro L a w' K hI hn hdeps hK
      have hL0 : L 0 = true := by simpa [Region.binds] using hdeps
      have e := hI.f0 hL0
      have hd : ∀ k, (a.put (some 15) (.agg A)).eval (.tmp k) = if k = 15 then (.agg A) else a.eval (.tmp k) := fun k => eval_put _ _ _ _ (by rw [hI.alike.size]; show 15 < 112; decide)
      refine step_of rfl (wp_callc (f := 103) (args := #[a.eval (.tmp 14)]) (by kernel_rfl) ?_)
      rw [e]
      refine (HSP.out _).mono ?_
      rintro e w'' ⟨rfl, ho⟩
      refine ⟨_, rfl, hK _ _ ?_⟩
      exact ⟨hI.alike.put 15 _ (by decide), hI.only.trans ho (fun _ _ e => e), fun h => by rw [hd, if_neg (by decide)]; exact hI.f0 hL0, fun _ => by rw [hd]; rfl, fun h => by rw [hd, if_neg (by decide)]; exact hI.f2 (by simpa using h), fun h => by
        rw [hd, if_neg (by decide)]; obtain ⟨g, h1, h2, h3⟩ := hI.f3 (by simpa using h); exact ⟨g, h1, h2, by simpa using blk_only h3 ho (fun e => e)⟩, fun h => by
        rw [hd, if_neg (by decide)]; obtain ⟨g, h1, h2, h3⟩ := hI.f4 (by simpa using h); exact ⟨g, h1, h2, by simpa using blk_only h3 ho (fun e => e)⟩, fun h g => by rw [hd, hd, if_neg (by decide), if_neg (by decide)]; exact hI.f34 (by simpa using h) (by simpa using g), fun h => by simpa using hI.f5 (by simpa using h), fun h => by simpa using hI.f6 (by simpa using h)⟩
    · intro L a w' K hI hn hdeps hK
      have e : a.eval (.tmp 2) = .pointer (some ⟨w.heap.size, 0, none⟩) := hI.alike.eval 2 (by decide)
      have hd : ∀ k, (a.put (some 16) (.agg S)).eval (.tmp k) = if k = 16 then (.agg S) else a.eval (.tmp k) := fun k => eval_put _ _ _ _ (by rw [hI.alike.size]; show 16 < 112; decide)
      refine step_of rfl (wp_load_row 165 (.tmp 2) rfl w.heap.size e 165 S (0, 0) _ (blk_only HX1.out hI.only (fun e => e)) Tryz.underlying165 rfl (by rw [infoS8, hSs]) (hK _ _ ?_))
      exact ⟨hI.alike.put 16 _ (by decide), hI.only, fun h => by rw [hd, if_neg (by decide)]; exact hI.f0 (by simpa using h), fun h => by rw [hd, if_neg (by decide)]; exact hI.f1 (by simpa using h), fun _ => by rw [hd]; rfl, fun h => by rw [hd, if_neg (by decide)]; simpa using hI.f3 (by simpa using h), fun h => by rw [hd, if_neg (by decide)]; simpa using hI.f4 (by simpa using h), fun h g => by rw [hd, hd, if_neg (by decide), if_neg (by decide)]; exact hI.f34 (by simpa using h) (by simpa using g), fun h => by simpa using hI.f5 (by simpa using h), fun h => by simpa using hI.f6 (by simpa using h)⟩
    · intro L a w' K hI hn hdeps hK
      have hd : ∀ k, (a.put (some 5) (.pointer (some ⟨w'.heap.size, 0, none⟩))).eval (.tmp k) = if k = 5 then (.pointer (some ⟨w'.heap.size, 0, none⟩)) else a.eval (.tmp k) := fun k => eval_put _ _ _ _ (by rw [hI.alike.size]; show 5 < 112; decide)
      have ho := only_new w' (.cells (arrW []) 184)
      have h5 : L 5 = false := by
        cases h : L 5 with
        | false => rfl
        | true => rw [hI.f5 h] at hn; cases hn
      refine step_of rfl (wp_value (w' := w'.alloc (.cells (arrW []) 184)) (v := .pointer (some ⟨w'.heap.size, 0, none⟩)) (by kernel_rfl) (hK _ _ ?_))
      have hsz := hI.only.size
      exact ⟨hI.alike.put 5 _ (by decide), hI.only.trans ho (fun _ _ e => e), fun h => by rw [hd, if_neg (by decide)]; exact hI.f0 (by simpa using h), fun h => by rw [hd, if_neg (by decide)]; exact hI.f1 (by simpa using h), fun h => by rw [hd, if_neg (by decide)]; exact hI.f2 (by simpa using h), fun _ => by
        rw [hd]; exact ⟨w'.heap.size, rfl, hsz, by simpa [h5] using blk_new w' (.cells (arrW []) 184)⟩, fun h => by
        rw [hd, if_neg (by decide)]; obtain ⟨g, h1, h2, h3⟩ := hI.f4 (by simpa using h); exact ⟨g, h1, h2, by simpa using blk_only h3 ho (fun e => e)⟩, fun h g => by
        rw [hd, hd, if_pos rfl, if_neg (by decide)]; obtain ⟨q, h1, h2, h3⟩ := hI.f4 (by simpa using g); rw [h1]; intro e; have := blk_lt h3; simp only [Value.pointer.injEq, Option.some.injEq, Addr.mk.injEq, and_true] at e; omega, fun h => by simp, fun h => by simpa using hI.f6 (by simpa using h)⟩
    · intro L a w' K hI hn hdeps hK
      have hd : ∀ k, (a.put (some 6) (.pointer (some ⟨w'.heap.size, 0, none⟩))).eval (.tmp k) = if k = 6 then (.pointer (some ⟨w'.heap.size, 0, none⟩)) else a.eval (.tmp k) := fun k => eval_put _ _ _ _ (by rw [hI.alike.size]; show 6 < 112; decide)
      have ho := only_new w' (.cells z8A 165)
      have h6 : L 6 = false := by
        cases h : L 6 with
        | false => rfl
        | true => rw [hI.f6 h] at hn; cases hn
      refine step_of rfl (wp_value (w' := w'.alloc (.cells z8A 165)) (v := .pointer (some ⟨w'.heap.size, 0, none⟩)) (by kernel_rfl) (hK _ _ ?_))
      have hsz := hI.only.size
      exact ⟨hI.alike.put 6 _ (by decide), hI.only.trans ho (fun _ _ e => e), fun h => by rw [hd, if_neg (by decide)]; exact hI.f0 (by simpa using h), fun h => by rw [hd, if_neg (by decide)]; exact hI.f1 (by simpa using h), fun h => by rw [hd, if_neg (by decide)]; exact hI.f2 (by simpa using h), fun h => by
        rw [hd, if_neg (by decide)]; obtain ⟨g, h1, h2, h3⟩ := hI.f3 (by simpa using h); exact ⟨g, h1, h2, by simpa using blk_only h3 ho (fun e => e)⟩, fun _ => by
        rw [hd]; exact ⟨w'.heap.size, rfl, hsz, by simpa [h6] using blk_new w' (.cells z8A 165)⟩, fun h g => by
        rw [hd, hd, if_neg (by decide)]; obtain ⟨q, h1, h2, h3⟩ := hI.f3 (by simpa using h); rw [h1]; intro e; have := blk_lt h3; simp only [if_true, Value.pointer.injEq, Option.some.injEq, Addr.mk.injEq, and_true] at e; omega, fun h => by simpa using hI.f5 (by simpa using h), fun h => by simp⟩
    · intro L a w' K hI hn hdeps hK
      have hL : L 1 = true ∧ L 3 = true := by have := hdeps; simp [Region.binds] at this; exact ⟨this.2.1, this.1⟩
      obtain ⟨g, e5, h2, h3⟩ := hI.f3 hL.2
      rw [hn] at h3
      have hu : ∀ k, (a.put none undef).eval (.tmp k) = a.eval (.tmp k) := fun k => rfl
      refine step_of rfl (wp_store_all 184 (.tmp 5) (.tmp 15) rfl g A e5 (hI.f1 hL.1) (arrW []) 184 h3 HAf.out HAi.out HA1.out (fun w'' g1 g2 g3 => hK _ _ ?_))
      exact ⟨hI.alike, hI.only.trans g2 (fun i hi e => by have e' : i = g := e; omega), fun h => hI.f0 (by simpa using h), fun h => hI.f1 (by simpa using h), fun h => hI.f2 (by simpa using h), fun h => ⟨g, e5, h2, by simpa using g1⟩, fun h => by
        obtain ⟨q, q1, q2, q3⟩ := hI.f4 (by simpa using h)
        have hne : q ≠ g := fun e => hI.f34 hL.2 (by simpa using h) (by rw [e5]; subst e; exact q1.symm)
        exact ⟨q, q1, q2, by simpa using blk_only q3 g2 hne⟩, fun h g => hI.f34 (by simpa using h) (by simpa using g), fun h => by simpa using hL.2, fun h => by simpa using hI.f6 (by simpa using h)⟩
    · intro L a w' K hI hn hdeps hK
      have hL : L 2 = true ∧ L 4 = true := by have := hdeps; simp [Region.binds] at this; exact ⟨this.2.1, this.1⟩
      obtain ⟨g, e6, h2, h3⟩ := hI.f4 hL.2
      rw [hn] at h3
      refine step_of rfl (wp_store_all 165 (.tmp 6) (.tmp 16) rfl g S e6 (hI.f2 hL.1) z8A 165 h3 (by rw [hSs]; rfl) (by rw [infoS8, hSs]) hS1 (fun w'' g1 g2 g3 => hK _ _ ?_))
      exact ⟨hI.alike, hI.only.trans g2 (fun i hi e => by have e' : i = g := e; omega), fun h => hI.f0 (by simpa using h), fun h => hI.f1 (by simpa using h), fun h => hI.f2 (by simpa using h), fun h => by
        obtain ⟨q, q1, q2, q3⟩ := hI.f3 (by simpa using h)
        have hne : q ≠ g := fun e => hI.f34 (by simpa using h) hL.2 (by rw [e6]; subst e; exact q1)
        exact ⟨q, q1, q2, by simpa using blk_only q3 g2 hne⟩, fun h => ⟨g, e6, h2, by simpa using g1⟩, fun h g => hI.f34 (by simpa using h) (by simpa using g), fun h => by simpa using hI.f5 (by simpa using h), fun h => by simpa using hL.2⟩
  · intro L a w' hI hall
    have hL : ∀ i, i < 7 → L i = true := fun i hi => hall i hi
    have e0 := hI.f0 (hL 0 (by decide)); have e1 := hI.f1 (hL 1 (by decide)); have e2 := hI.f2 (hL 2 (by decide))
    obtain ⟨g5, e3, n5, h5⟩ := hI.f3 (hL 3 (by decide))
    obtain ⟨gv, e4, n6, h6⟩ := hI.f4 (hL 4 (by decide))
    rw [hL 5 (by decide), if_pos rfl] at h5
    rw [hL 6 (by decide), if_pos rfl] at h6
    have hne : g5 ≠ gv := fun e => hI.f34 (hL 3 (by decide)) (hL 4 (by decide)) (by rw [e3, e4, e])
    have hA' := hI.alike.turned
    simp only [Act.turned, e0, e1, e2, e3, e4] at hA'
    have HO := hid (HWO.out.trans hI.only (fun _ _ e => e))
    have HB0 := hid (blk_only HX1.out hI.only (fun e => e))
    have HB1 := hid (blk_only HX2.out hI.only (fun e => e))
    have H5 := hid h5; have H6 := hid h6
    clear hall hL hI e0 e1 e2 e3 e4 h5 h6
    subst hA'
    have hsa : S = stA ⟨s0, s1, s2, s3, s4, s5, s6, s7⟩ := HS8.out.symm
    have H60 : Hid (w'.heap[gv]? = some (.cells (stA (rndN WS ⟨s0, s1, s2, s3, s4, s5, s6, s7⟩ 0)) 165 (0, 0))) := hid (by rw [rndN, ← hsa]; exact H6.out)
    have hA64 : A.size = 64 := by have := HAf.out; rw [this]; rfl
    obtain ⟨SS, hSS⟩ : ∃ x, (⟨s0, s1, s2, s3, s4, s5, s6, s7⟩ : ST) = x := ⟨_, rfl⟩
    rw [hSS] at H60 HBL HS
    have HSS := hid hSS; have HSA := hid hsa
    clear hsa hSS hSs hS1 hS
    go_wp2_with ((guard_target =~ wpList _ _ _ (⟨some 17, _, _, _, _, _⟩ :: _) _ _); refine wpList_load_row rfl 184 (.tmp 5) rfl g5 rfl 184 A (0, 0) _ H5.out Tryz.underlying184 rfl HAi.out ?_)
    go_loopw [18] (fun i wr => ∃ n : Nat, i = .int .i64 n ∧ n ≤ 64 ∧ wr.heap[gv]? = some (.cells (stA (rndN WS SS n)) 165 (0, 0)) ∧ Only (fun k => k = gv) w' wr) (fun i _ => 64 - (intOf i).toNat)
    case atStart => exact ⟨0, rfl, Nat.zero_le _, H60.out, Only.refl _ _⟩
    case round =>
      obtain ⟨n, rfl, hn, hb, ho⟩ := hrel
      by_cases hnl : n < 64
      · have hni : (n : Int) < 64 := by omega
        have hok := rndN_ok WS HS.out n
        have hg := HAg.out n hnl
        have hxl := HW32.out.getD n
        have hkl := kK_32.getD n
        have hnx : rndN WS SS (n + 1) = rnd (rndN WS SS n) (kK.getD n 0) (WS.getD n 0) := rfl
        obtain ⟨x, hx⟩ : ∃ x, WS.getD n 0 = x := ⟨_, rfl⟩
        obtain ⟨kk, hk⟩ : ∃ x, kK.getD n 0 = x := ⟨_, rfl⟩
        obtain ⟨⟨a0, a1, a2, a3, a4, a5, a6, a7⟩, hR⟩ : ∃ x, rndN WS SS n = x := ⟨_, rfl⟩
        rw [hx] at hg hxl hnx
        rw [hk] at hkl hnx
        rw [hR] at hb hok hnx
        obtain ⟨j0, j1, j2, j3, j4, j5, j6, j7⟩ := hok
        simp only at j0 j1 j2 j3 j4 j5 j6 j7
        have HNX := hid hnx; have HB := hid hb; have HOR := hid ho; have HKK := hid hk
        have c4 : wr.cell? ⟨gv, 4, none⟩ = some (.int .u32 a4) := cell_blk hb 4
        have hix := run_index_in (w := wr) hnl hg
        clear hg
        clear hx hk hR hnx ho
        have hok4 := hkl
        have R6 : Hid (∀ m : Nat, Calls Tryz.prog 104 #[.int .u32 (a4 : Nat), .int .i64 (-6)] (wr.drewN m) fun e w' => e = .returned (.int .u32 (rotr 6 a4 : Nat)) ∧ w' = wr.drewN m) := hid (fun m => (rotl_c (w := wr.drewN m) 6 (by decide) (by decide) a4 j4).mono (fun _ _ h => ⟨h.1, h.2.symm⟩))
        have R11 : Hid (∀ m : Nat, Calls Tryz.prog 104 #[.int .u32 (a4 : Nat), .int .i64 (-11)] (wr.drewN m) fun e w' => e = .returned (.int .u32 (rotr 11 a4 : Nat)) ∧ w' = wr.drewN m) := hid (fun m => (rotl_c (w := wr.drewN m) 11 (by decide) (by decide) a4 j4).mono (fun _ _ h => ⟨h.1, h.2.symm⟩))
        have R25 : Hid (∀ m : Nat, Calls Tryz.prog 104 #[.int .u32 (a4 : Nat), .int .i64 (-25)] (wr.drewN m) fun e w' => e = .returned (.int .u32 (rotr 25 a4 : Nat)) ∧ w' = wr.drewN m) := hid (fun m => (rotl_c (w := wr.drewN m) 25 (by decide) (by decide) a4 j4).mono (fun _ _ h => ⟨h.1, h.2.symm⟩))
        have FK : Hid (∀ q : Nat, Calls Tryz.prog 105 #[.string (strOf keysL), .int .i64 (4 * (n : Int))] (wr.drewN q) fun e w' => e = .returned (.int .u32 (kk : Nat)) ∧ ∃ m, w' = (wr.drewN q).drewN m) := hid (fun q => by
          have := four_c (w := wr.drewN q) keysL (4 * n) (by show 4 * n + 4 ≤ 256; omega) (by decide)
          rwa [show (((4 * n : Nat)) : Int) = 4 * (n : Int) from by omega, keys_all ⟨n, hnl⟩, HKK.out] at this)
        have hm4 : IntKind.i64.wrap (4 * (n : Int)) = 4 * (n : Int) := IntWalk.i64_in _ (by omega)
        have p6 := rotr_lt (n := 6) (by decide) j4; have p11 := rotr_lt (n := 11) (by decide) j4; have p25 := rotr_lt (n := 25) (by decide) j4
        have p2 := rotr_lt (n := 2) (by decide) j0; have p13 := rotr_lt (n := 13) (by decide) j0; have p22 := rotr_lt (n := 22) (by decide) j0
        have g1 : bits .xor .u32 (bits .xor .u32 ((rotr 6 a4 : Nat) : Int) ((rotr 11 a4 : Nat) : Int)) ((rotr 25 a4 : Nat) : Int) = ((Sg1 a4 : Nat) : Int) := xor3 p6 p11 p25
        have g2 : bits .xor .u32 (bits .xor .u32 ((rotr 2 a0 : Nat) : Int) ((rotr 13 a0 : Nat) : Int)) ((rotr 22 a0 : Nat) : Int) = ((Sg0 a0 : Nat) : Int) := xor3 p2 p13 p22
        have g3 : bits .and .u32 (a4 : Nat) (a5 : Nat) = ((a4 &&& a5 : Nat) : Int) := u32_and_nat _ _ j4 j5
        have g4 : bits .xor .u32 IntKind.u32.max (a4 : Nat) = ((4294967295 - a4 : Nat) : Int) := not32 j4
        have g4i : bits .xor .u32 (if IntKind.u32.signed = true then (-1 : Int) else IntKind.u32.max) (a4 : Nat) = ((4294967295 - a4 : Nat) : Int) := by rw [if_neg (by decide)]; exact not32 j4
        have g5 : bits .and .u32 ((4294967295 - a4 : Nat) : Int) (a6 : Nat) = (((4294967295 - a4) &&& a6 : Nat) : Int) := u32_and_nat _ _ (by omega) j6
        have q6 : bits .xor .u32 ((a4 &&& a5 : Nat) : Int) (((4294967295 - a4) &&& a6 : Nat) : Int) = ((chx a4 a5 a6 : Nat) : Int) := u32_xor_nat _ _ (and_lt32 j4) (and_lt32 (by omega))
        have g7 : bits .and .u32 (a0 : Nat) (a1 : Nat) = ((a0 &&& a1 : Nat) : Int) := u32_and_nat _ _ j0 j1
        have g8 : bits .and .u32 (a0 : Nat) (a2 : Nat) = ((a0 &&& a2 : Nat) : Int) := u32_and_nat _ _ j0 j2
        have g9 : bits .and .u32 (a1 : Nat) (a2 : Nat) = ((a1 &&& a2 : Nat) : Int) := u32_and_nat _ _ j1 j2
        have g10 : bits .xor .u32 (bits .xor .u32 ((a0 &&& a1 : Nat) : Int) ((a0 &&& a2 : Nat) : Int)) ((a1 &&& a2 : Nat) : Int) = ((maj a0 a1 a2 : Nat) : Int) := xor3 (and_lt32 j0) (and_lt32 j0) (and_lt32 j1)
        have hT : rT ⟨a0, a1, a2, a3, a4, a5, a6, a7⟩ kk x = (a7 + Sg1 a4 + chx a4 a5 a6 + kk + x) % 4294967296 := rfl
        have hU : rU ⟨a0, a1, a2, a3, a4, a5, a6, a7⟩ = (Sg0 a0 + maj a0 a1 a2) % 4294967296 := rfl
        have hN : rnd ⟨a0, a1, a2, a3, a4, a5, a6, a7⟩ kk x = ⟨(rT ⟨a0, a1, a2, a3, a4, a5, a6, a7⟩ kk x + rU ⟨a0, a1, a2, a3, a4, a5, a6, a7⟩) % 4294967296, a0, a1, a2, (a3 + rT ⟨a0, a1, a2, a3, a4, a5, a6, a7⟩ kk x) % 4294967296, a4, a5, a6⟩ := rfl
        have o1 := Sg1_lt j4; have o2 := Sg0_lt j0; have o3 := chx_lt (f := a5) (g := a6) j4; have o4 := maj_lt (c := a2) j0 j1
        obtain ⟨T, hTe⟩ : ∃ y, rT ⟨a0, a1, a2, a3, a4, a5, a6, a7⟩ kk x = y := ⟨_, rfl⟩
        obtain ⟨U, hUe⟩ : ∃ y, rU ⟨a0, a1, a2, a3, a4, a5, a6, a7⟩ = y := ⟨_, rfl⟩
        rw [hTe] at hT hN
        rw [hUe] at hU hN
        obtain ⟨y6, e6⟩ : ∃ y, rotr 6 a4 = y := ⟨_, rfl⟩
        obtain ⟨y11, e11⟩ : ∃ y, rotr 11 a4 = y := ⟨_, rfl⟩
        obtain ⟨y25, e25⟩ : ∃ y, rotr 25 a4 = y := ⟨_, rfl⟩
        obtain ⟨y2, e2⟩ : ∃ y, rotr 2 a0 = y := ⟨_, rfl⟩
        obtain ⟨y13, e13⟩ : ∃ y, rotr 13 a0 = y := ⟨_, rfl⟩
        obtain ⟨y22, e22⟩ : ∃ y, rotr 22 a0 = y := ⟨_, rfl⟩
        obtain ⟨z1, f1⟩ : ∃ y, Sg1 a4 = y := ⟨_, rfl⟩
        obtain ⟨z0, f0⟩ : ∃ y, Sg0 a0 = y := ⟨_, rfl⟩
        obtain ⟨zc, fc⟩ : ∃ y, chx a4 a5 a6 = y := ⟨_, rfl⟩
        obtain ⟨zm, fm⟩ : ∃ y, maj a0 a1 a2 = y := ⟨_, rfl⟩
        obtain ⟨b45, h45⟩ : ∃ y, a4 &&& a5 = y := ⟨_, rfl⟩
        obtain ⟨na4, hna⟩ : ∃ y, 4294967295 - a4 = y := ⟨_, rfl⟩
        rw [h45] at g3 q6
        rw [hna] at g4 g4i g5 q6
        obtain ⟨b46, h46⟩ : ∃ y, na4 &&& a6 = y := ⟨_, rfl⟩
        rw [h46] at g5 q6
        obtain ⟨b01, h01⟩ : ∃ y, a0 &&& a1 = y := ⟨_, rfl⟩
        obtain ⟨b02, h02⟩ : ∃ y, a0 &&& a2 = y := ⟨_, rfl⟩
        obtain ⟨b12, h12⟩ : ∃ y, a1 &&& a2 = y := ⟨_, rfl⟩
        rw [h01] at g7 g10
        rw [h02] at g8 g10
        rw [h12] at g9 g10
        rw [e6, e11, e25, f1] at g1
        rw [e2, e13, e22, f0] at g2
        rw [fc] at q6 hT o3
        rw [fm] at g10 hU o4
        rw [f1] at hT o1
        rw [f0] at hU o2
        simp only [e6] at R6
        simp only [e11] at R11
        simp only [e25] at R25
        have s1 : IntKind.u32.wrap ((a7 : Int) + (z1 : Int)) = (((a7 + z1) % 4294967296 : Nat) : Int) := by rw [IntKind.wrap_u32]; omega
        have s2 : IntKind.u32.wrap ((((a7 + z1) % 4294967296 : Nat) : Int) + (zc : Int)) = (((a7 + z1 + zc) % 4294967296 : Nat) : Int) := by rw [IntKind.wrap_u32]; omega
        have s3 : IntKind.u32.wrap ((((a7 + z1 + zc) % 4294967296 : Nat) : Int) + (kk : Int)) = (((a7 + z1 + zc + kk) % 4294967296 : Nat) : Int) := by rw [IntKind.wrap_u32]; omega
        have s4 : IntKind.u32.wrap ((((a7 + z1 + zc + kk) % 4294967296 : Nat) : Int) + (x : Int)) = ((T : Nat) : Int) := by rw [IntKind.wrap_u32, hT]; omega
        have s5 : IntKind.u32.wrap ((z0 : Int) + (zm : Int)) = ((U : Nat) : Int) := by rw [IntKind.wrap_u32, hU]; omega
        have s6 : IntKind.u32.wrap ((T : Int) + (U : Int)) = (((T + U) % 4294967296 : Nat) : Int) := by rw [IntKind.wrap_u32]; omega
        have s7 : IntKind.u32.wrap ((a3 : Int) + (T : Int)) = (((a3 + T) % 4294967296 : Nat) : Int) := by rw [IntKind.wrap_u32]; omega
        have tl : T < 4294967296 := by rw [hT]; exact Nat.mod_lt _ (by decide)
        have ul : U < 4294967296 := by rw [hU]; exact Nat.mod_lt _ (by decide)
        obtain ⟨m1, hm1⟩ : ∃ y, (a7 + z1) % 4294967296 = y := ⟨_, rfl⟩
        obtain ⟨m2, hm2⟩ : ∃ y, (a7 + z1 + zc) % 4294967296 = y := ⟨_, rfl⟩
        obtain ⟨m3, hm3⟩ : ∃ y, (a7 + z1 + zc + kk) % 4294967296 = y := ⟨_, rfl⟩
        obtain ⟨n0, hn0⟩ : ∃ y, (T + U) % 4294967296 = y := ⟨_, rfl⟩
        obtain ⟨n4, hn4⟩ : ∃ y, (a3 + T) % 4294967296 = y := ⟨_, rfl⟩
        rw [hm1] at s1 s2
        rw [hm2] at s2 s3
        rw [hm3] at s3 s4
        rw [hn0] at s6 hN
        rw [hn4] at s7 hN
        have v1 : ((a7 : Int) + (z1 : Int)) % 4294967296 = (m1 : Int) := by rw [← IntKind.wrap_u32]; exact s1
        have v2 : ((m1 : Int) + (zc : Int)) % 4294967296 = (m2 : Int) := by rw [← IntKind.wrap_u32]; exact s2
        have v3 : ((m2 : Int) + (kk : Int)) % 4294967296 = (m3 : Int) := by rw [← IntKind.wrap_u32]; exact s3
        have v4 : ((m3 : Int) + (x : Int)) % 4294967296 = (T : Int) := by rw [← IntKind.wrap_u32]; exact s4
        have v5 : ((z0 : Int) + (zm : Int)) % 4294967296 = (U : Int) := by rw [← IntKind.wrap_u32]; exact s5
        have v6 : ((T : Int) + (U : Int)) % 4294967296 = (n0 : Int) := by rw [← IntKind.wrap_u32]; exact s6
        have v7 : ((a3 : Int) + (T : Int)) % 4294967296 = (n4 : Int) := by rw [← IntKind.wrap_u32]; exact s7
        have HN := hid hN
        have E2 := hid e2; have E13 := hid e13; have E22 := hid e22
        clear hT hU hN hTe hUe e6 e11 e25 e2 e13 e22 f1 f0 fc fm h45 hna h46 h01 h02 h12 hm1 hm2 hm3 hn0 hn4 hb
        have c0 : wr.cell? ⟨gv, 0, none⟩ = some (.int .u32 a0) := cell_blk HB.out 0
        have c1 : wr.cell? ⟨gv, 1, none⟩ = some (.int .u32 a1) := cell_blk HB.out 1
        have c2 : wr.cell? ⟨gv, 2, none⟩ = some (.int .u32 a2) := cell_blk HB.out 2
        have c3 : wr.cell? ⟨gv, 3, none⟩ = some (.int .u32 a3) := cell_blk HB.out 3
        have c5 : wr.cell? ⟨gv, 5, none⟩ = some (.int .u32 a5) := cell_blk HB.out 5
        have c6 : wr.cell? ⟨gv, 6, none⟩ = some (.int .u32 a6) := cell_blk HB.out 6
        have c7 : wr.cell? ⟨gv, 7, none⟩ = some (.int .u32 a7) := cell_blk HB.out 7
        have zf : ∀ i, wr.frozen? ⟨gv, i, none⟩ = false := frozen_blk HB.out
        have lb := blk_lt HB.out
        go_wp2_with fail
        go_quiet ((first | (go_at_call 105; exact Calls.quiet_of (FK.out _)) | (with_reducible exact Calls.quiet_of_same (R6.out _)) | (with_reducible exact Calls.quiet_of_same (R11.out _)) | (with_reducible exact Calls.quiet_of_same (R25.out _))))
        obtain ⟨wq, hwq⟩ : ∃ wq, wr.drewN nq = wq := ⟨_, rfl⟩
        rw [hwq]
        have hbq : wq.heap[gv]? = some (.cells (stA ⟨a0, a1, a2, a3, a4, a5, a6, a7⟩) 165 (0, 0)) := by rw [← hwq]; exact HB.out
        have HOQ : Hid (Only (fun k => k = gv) w' wq) := hid (by rw [← hwq]; exact HOR.out.trans ((only_drewN _ _).mono (fun _ _ e => e.elim)) (fun _ _ e => e))
        clear c0 c1 c2 c3 c4 c5 c6 c7 zf lb hwq
        have c0 : wq.cell? ⟨gv, 0, none⟩ = some (.int .u32 a0) := cell_blk hbq 0
        have c1 : wq.cell? ⟨gv, 1, none⟩ = some (.int .u32 a1) := cell_blk hbq 1
        have c2 : wq.cell? ⟨gv, 2, none⟩ = some (.int .u32 a2) := cell_blk hbq 2
        have c3 : wq.cell? ⟨gv, 3, none⟩ = some (.int .u32 a3) := cell_blk hbq 3
        have c4 : wq.cell? ⟨gv, 4, none⟩ = some (.int .u32 a4) := cell_blk hbq 4
        have c5 : wq.cell? ⟨gv, 5, none⟩ = some (.int .u32 a5) := cell_blk hbq 5
        have c6 : wq.cell? ⟨gv, 6, none⟩ = some (.int .u32 a6) := cell_blk hbq 6
        have c7 : wq.cell? ⟨gv, 7, none⟩ = some (.int .u32 a7) := cell_blk hbq 7
        have R2 : Hid (∀ m : Nat, Calls Tryz.prog 104 #[.int .u32 (a0 : Nat), .int .i64 (-2)] (wq.drewN m) fun e w' => e = .returned (.int .u32 (y2 : Nat)) ∧ w' = wq.drewN m) := hid (fun m => (rotl_c (w := wq.drewN m) 2 (by decide) (by decide) a0 j0).mono (fun _ _ h => ⟨by rw [h.1, E2.out], h.2.symm⟩))
        have R13 : Hid (∀ m : Nat, Calls Tryz.prog 104 #[.int .u32 (a0 : Nat), .int .i64 (-13)] (wq.drewN m) fun e w' => e = .returned (.int .u32 (y13 : Nat)) ∧ w' = wq.drewN m) := hid (fun m => (rotl_c (w := wq.drewN m) 13 (by decide) (by decide) a0 j0).mono (fun _ _ h => ⟨by rw [h.1, E13.out], h.2.symm⟩))
        have R22 : Hid (∀ m : Nat, Calls Tryz.prog 104 #[.int .u32 (a0 : Nat), .int .i64 (-22)] (wq.drewN m) fun e w' => e = .returned (.int .u32 (y22 : Nat)) ∧ w' = wq.drewN m) := hid (fun m => (rotl_c (w := wq.drewN m) 22 (by decide) (by decide) a0 j0).mono (fun _ _ h => ⟨by rw [h.1, E22.out], h.2.symm⟩))
        have zf : ∀ i, wq.frozen? ⟨gv, i, none⟩ = false := frozen_blk hbq
        have lb := blk_lt hbq
        have HBQ := hid hbq
        clear hbq
        go_wp2_with fail
        go_quiet ((first | (with_reducible exact Calls.quiet_of_same (R2.out _)) | (with_reducible exact Calls.quiet_of_same (R13.out _)) | (with_reducible exact Calls.quiet_of_same (R22.out _))))
        obtain ⟨wz, hwz⟩ : ∃ wz, wq.drewN nq = wz := ⟨_, rfl⟩
        rw [hwz]
        have hbz : wz.heap[gv]? = some (.cells (stA ⟨a0, a1, a2, a3, a4, a5, a6, a7⟩) 165 (0, 0)) := by rw [← hwz]; exact HBQ.out
        have HOZ : Hid (Only (fun k => k = gv) w' wz) := hid (by rw [← hwz]; exact HOQ.out.trans ((only_drewN _ _).mono (fun _ _ e => e.elim)) (fun _ _ e => e))
        clear c0 c1 c2 c3 c4 c5 c6 c7 zf lb hwz
        have c0 : wz.cell? ⟨gv, 0, none⟩ = some (.int .u32 a0) := cell_blk hbz 0
        have c1 : wz.cell? ⟨gv, 1, none⟩ = some (.int .u32 a1) := cell_blk hbz 1
        have c2 : wz.cell? ⟨gv, 2, none⟩ = some (.int .u32 a2) := cell_blk hbz 2
        have c3 : wz.cell? ⟨gv, 3, none⟩ = some (.int .u32 a3) := cell_blk hbz 3
        have c4 : wz.cell? ⟨gv, 4, none⟩ = some (.int .u32 a4) := cell_blk hbz 4
        have c5 : wz.cell? ⟨gv, 5, none⟩ = some (.int .u32 a5) := cell_blk hbz 5
        have c6 : wz.cell? ⟨gv, 6, none⟩ = some (.int .u32 a6) := cell_blk hbz 6
        have c7 : wz.cell? ⟨gv, 7, none⟩ = some (.int .u32 a7) := cell_blk hbz 7
        have lb := blk_lt hbz
        have HBZ := hid hbz
        clear hbz
        go_wp2_with ((guard_target =~ wpList _ _ _ (⟨none, .store _ _ _, _, _, _, _⟩ :: _) _ _); refine wpList_store_all rfl 165 (.tmp 6) (.tmp 97) rfl gv (stA ⟨n0, a0, a1, a2, n4, a4, a5, a6⟩) rfl rfl (stA ⟨a0, a1, a2, a3, a4, a5, a6, a7⟩) 165 HBZ.out rfl infoS8 (stA_one _) ?_; intro w9 hb9 ho9 hs9; have HB9 := hid hb9; have HO9 := hid ho9; clear hb9 ho9 hs9)
        go_roundw
        case rel => exact ⟨n + 1, by go_num, by omega, by rw [HNX.out, HN.out]; exact HB9.out, HOZ.out.trans HO9.out (fun _ _ e => e)⟩
        case measure => simp [intOf]; omega
      · obtain rfl : n = 64 := by omega
        have hok2 := rndN_ok WS HS.out 64
        obtain ⟨V, hV⟩ : ∃ y, rndN WS SS 64 = y := ⟨_, rfl⟩
        rw [hV] at hb hok2
        have HF : Hid (blk SS l = SS.add V) := hid (by rw [← HSS.out] at HBL ⊢; rw [HBL.out, ← hV, HSS.out])
        obtain ⟨wr_o, hwro⟩ : ∃ y, y = wr := ⟨_, rfl⟩
        subst hwro
        have HVB := hid hb; have HVO := hid hok2; have HOR := hid ho
        have HS0 : Hid (wr_o.heap[w.heap.size]? = some (.cells (addA SS V 0) 165 (0, 0))) := hid (by rw [addA_0, ← HSS.out, ← HSA.out]; exact blk_only HB0.out ho (by show ¬ w.heap.size = gv; omega))
        have HZ0 : Hid (wr_o.heap[w.heap.size + 1]? = some (.cells z8A 165 (0, 0))) := hid (blk_only HB1.out ho (by show ¬ w.heap.size + 1 = gv; omega))
        have HOO : Hid (Only (fun _ => False) w wr_o) := hid (HO.out.trans ho (fun i hi e => by have e' : i = gv := e; omega))
        clear hb ho hok2 hV
        go_wp2_with fail
        go_loopw [99] (fun i wy => ∃ n : Nat, i = .int .i64 n ∧ n ≤ 8 ∧ wy.heap[w.heap.size]? = some (.cells (addA SS V n) 165 (0, 0)) ∧ Only (fun k => k = w.heap.size) wr_o wy) (fun i _ => 8 - (intOf i).toNat)
        case atStart => exact ⟨0, rfl, Nat.zero_le _, HS0.out, Only.refl _ _⟩
        case round =>
          obtain ⟨n, rfl, hn8, hb, ho⟩ := hrel
          by_cases hnl : n < 8
          · have hni : (n : Int) < 8 := by omega
            have hsl := HS.out.get hnl
            have hvl := HVO.out.get hnl
            have hset := addA_set SS V hnl
            have hvb := blk_only HVB.out ho (by show ¬ gv = w.heap.size; omega)
            have cs : wr.cell? ⟨w.heap.size, n, none⟩ = some (.int .u32 (SS.l.getD n 0 : Nat)) := by rw [cell_blk hb]; exact addA_get SS V hnl
            have cv : wr.cell? ⟨gv, n, none⟩ = some (.int .u32 (V.l.getD n 0 : Nat)) := by rw [cell_blk hvb]; exact stA_get V hnl
            obtain ⟨sn, hsn⟩ : ∃ y, SS.l.getD n 0 = y := ⟨_, rfl⟩
            obtain ⟨vn, hvn⟩ : ∃ y, V.l.getD n 0 = y := ⟨_, rfl⟩
            rw [hsn] at cs hsl hset
            rw [hvn] at cv hvl hset
            have w1 : IntKind.u32.wrap ((sn : Int) + (vn : Int)) = (((sn + vn) % 4294967296 : Nat) : Int) := by rw [IntKind.wrap_u32]; omega
            have w2 : ((sn : Int) + (vn : Int)) % 4294967296 = (((sn + vn) % 4294967296 : Nat) : Int) := by omega
            obtain ⟨tn, htn⟩ : ∃ y, (sn + vn) % 4294967296 = y := ⟨_, rfl⟩
            rw [htn] at w1 w2 hset
            have HSET := hid hset; have HBW := hid hb; have HOW := hid ho
            have z1 : ∀ i, wr.frozen? ⟨w.heap.size, i, none⟩ = false := frozen_blk hb
            have b1 := blk_lt hb
            have b2 := blk_lt hvb
            clear hb ho hset hvb hsn hvn htn
            go_wp2_with fail
            go_still_tail 8, (by kernel_rfl)
            change wpList _ _ _ _ _ wr.drew
            obtain ⟨wd, hwd⟩ : ∃ wd, wr.drew = wd := ⟨_, rfl⟩
            have g1 : wd.heap[w.heap.size]? = some (.cells (addA SS V n) 165 (0, 0)) := by rw [← hwd]; exact HBW.out
            have HOD : Hid (Only (fun k => k = w.heap.size) wr_o wd) := hid (by rw [← hwd]; exact HOW.out.trans ((Only.refl (fun _ => False) wr).drew.mono (fun _ _ e => e.elim)) (fun _ _ e => e))
            have cs' : wd.cell? ⟨w.heap.size, n, none⟩ = some (.int .u32 (sn : Nat)) := by rw [← hwd]; exact cs
            have z1' : ∀ i, wd.frozen? ⟨w.heap.size, i, none⟩ = false := frozen_blk g1
            have b1' := blk_lt g1
            have HD1 := hid g1
            rw [hwd]
            clear g1 hwd cs cv z1 b1 b2
            go_wp2_with fail
            go_roundw
            case rel =>
              have hs := blk_set HD1.out n (u32V tn)
              rw [HSET.out] at hs
              have hrr : ∃ n' : Nat, Value.int .i64 ((n : Int) + 1) = .int .i64 n' ∧ n' ≤ 8 ∧ (wd.setCell ⟨w.heap.size, n, none⟩ (.int .u32 (tn : Nat))).heap[w.heap.size]? = some (.cells (addA SS V n') 165 (0, 0)) ∧ Only (fun k => k = w.heap.size) wr_o (wd.setCell ⟨w.heap.size, n, none⟩ (.int .u32 (tn : Nat))) := ⟨n + 1, by go_num, by omega, hs, HOD.out.trans (only_set _ _ _) (fun _ _ e => e)⟩
              first
                | (iterate 12 (apply Exists.intro)); refine And.intro ?_ rfl; exact hrr
                | (iterate 11 (apply Exists.intro)); refine And.intro ?_ rfl; exact hrr
                | (iterate 13 (apply Exists.intro)); refine And.intro ?_ rfl; exact hrr
                | (iterate 10 (apply Exists.intro)); refine And.intro ?_ rfl; exact hrr
                | (iterate 14 (apply Exists.intro)); refine And.intro ?_ rfl; exact hrr
                | (iterate 15 (apply Exists.intro)); refine And.intro ?_ rfl; exact hrr
            case measure => simp [intOf]; omega
          · obtain rfl : n = 8 := by omega
            rw [addA_8] at hb
            have HBW := hid hb
            have HZW := hid (blk_only HZ0.out ho (by show ¬ w.heap.size + 1 = w.heap.size; omega))
            have HOW := hid (HOO.out.trans ho (fun i hi e => by have e' : i = w.heap.size := e; omega))
            obtain ⟨R, hR⟩ : ∃ y, stA (SS.add V) = y := ⟨_, rfl⟩
            have hR1 : R.all (·.oneCell') = true := by rw [← hR]; exact stA_one _
            have hRs : R.size = z8A.size := by rw [← hR]; rfl
            have hRi : (Tryz.prog.info? 165).map (·.size) = some R.size := by rw [hRs]; exact infoS8
            rw [hR] at HBW
            have HR := hid hR; have HR1 := hid hR1; have HRs := hid hRs; have HRi := hid hRi
            clear hb ho hR hR1 hRs hRi
            go_wp2_with (first
              | ((guard_target =~ wpList _ _ _ (⟨some 111, _, _, _, _, _⟩ :: _) _ _); refine wpList_load_row rfl 165 (.tmp 2) rfl w.heap.size rfl 165 R (0, 0) _ HBW.out Tryz.underlying165 rfl HRi.out ?_)
              | ((guard_target =~ wpList _ _ _ (⟨none, .store _ _ _, _, _, _, _⟩ :: _) _ _); refine wpList_store_all rfl 165 (.tmp 4) (.tmp 111) rfl (w.heap.size + 1) R rfl rfl z8A 165 HZW.out HRs.out HRi.out HR1.out ?_; intro w9 hb9 ho9 hs9; have HB9 := hid hb9; have HO9 := hid ho9; clear hb9 ho9 hs9))
            refine bodyPost_ret (results_cell_row rfl _ _ (w.heap.size + 1) 165 R (0, 0) _ rfl HB9.out Tryz.underlying165 rfl HRi.out) rfl ⟨by rw [HSS.out, HF.out]; unfold stV; rw [HR.out], HOW.out.trans HO9.out (fun i hi e => by have e' : i = w.heap.size + 1 := e; omega)⟩
end
end Go.Proofs.YtfmdngeooelcpaaGreat
