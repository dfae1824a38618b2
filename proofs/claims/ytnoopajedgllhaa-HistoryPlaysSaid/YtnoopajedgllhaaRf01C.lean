/- foliotref01: right, less. foliotref01: list. foliotref01.Of: the pieces of its code. -/
import Derived.Test.YtnoopajedgllhaaShaE
import Derived.Test.YtnoopajedgllhaaFrm
import Derived.Test.YtnoopajedgllhaaShaI
namespace Go.Proofs.Ytnoopajedgllhaa
open Go.RowKit
section
variable {w : World}
theorem rotrN_s (x : Nat) : ∀ n, rotrN (n + 1) x = rotr1 (rotrN n x) := fun _ => rfl
set_option maxRecDepth 100000 in
theorem rright_c (x n : Nat) (hx : x < 4294967296) (hn : n ≤ 32) :
    Calls Try.prog 63 #[.int .u32 x, .int .i64 n] w fun e w' => e = .returned (.int .u32 (rotr n x : Nat)) ∧ w' = w := by
  have HX := hid hx
  have hni : (n : Int) ≤ 32 := by omega
  go_enter Try.func63, Try.ntmps63
  go_wp2_with fail
  go_loopw [5, 0, 6] (fun i y z wr => ∃ j : Nat, i = .int .i64 j ∧ j ≤ n ∧ y = .int .u32 (rotrN j x : Nat) ∧ wr = w) (fun i _ _ _ => n - (intOf i).toNat)
  case atStart => exact ⟨0, rfl, Nat.zero_le _, rfl, rfl⟩
  case round =>
    obtain ⟨j, rfl, hj, rfl, rfl⟩ := hrel
    by_cases hjl : j < n
    · have hji : (j : Int) < n := by omega
      have hy := rotrN_lt HX.out j
      have hr := rotrN_s x j
      unfold rotr1 at hr
      obtain ⟨y, hY⟩ : ∃ y, rotrN j x = y := ⟨_, rfl⟩
      rw [hY] at hy hr ⊢
      have HR := hid hr
      clear hr
      go_wp2_with fail
      go_roundw
      case rel =>
        refine ⟨j + 1, by go_num, by omega, ?_, trivial⟩
        rw [HR.out]; exact congrArg (Value.int IntKind.u32) (by omega)
      case measure => simp [intOf]; omega
    · obtain rfl : j = n := by omega
      rw [rotrN_eq x j hn]
      go_wp2_with fail
      go_ret
      exact ⟨rfl, rfl⟩
set_option maxRecDepth 100000 in
theorem rless_c (x n : Nat) (hx : x < 4294967296) (hn : n ≤ 32) :
    Calls Try.prog 64 #[.int .u32 x, .int .i64 n] w fun e w' => e = .returned (.int .u32 (x / 2 ^ n : Nat)) ∧ w' = w := by
  have HX := hid hx
  have hni : (n : Int) ≤ 32 := by omega
  go_enter Try.func64, Try.ntmps64
  go_wp2_with fail
  go_loopw [5, 0] (fun i y wr => ∃ j : Nat, i = .int .i64 j ∧ j ≤ n ∧ y = .int .u32 (x / 2 ^ j : Nat) ∧ wr = w) (fun i _ _ => n - (intOf i).toNat)
  case atStart => exact ⟨0, rfl, Nat.zero_le _, by simp, rfl⟩
  case round =>
    obtain ⟨j, rfl, hj, rfl, rfl⟩ := hrel
    by_cases hjl : j < n
    · have hji : (j : Int) < n := by omega
      have hy : x / 2 ^ j < 4294967296 := Nat.lt_of_le_of_lt (Nat.div_le_self _ _) HX.out
      have hr : x / 2 ^ (j + 1) = x / 2 ^ j / 2 := by rw [Nat.pow_succ, Nat.div_div_eq_div_mul]
      obtain ⟨y, hY⟩ : ∃ y, x / 2 ^ j = y := ⟨_, rfl⟩
      rw [hY] at hy hr ⊢
      have HR := hid hr
      clear hr
      go_wp2_with fail
      go_roundw
      case rel =>
        refine ⟨j + 1, by go_num, by omega, ?_, trivial⟩
        rw [HR.out]; exact congrArg (Value.int IntKind.u32) (by omega)
      case measure => simp [intOf]; omega
    · obtain rfl : j = n := by omega
      obtain ⟨y, hY⟩ : ∃ y, x / 2 ^ j = y := ⟨_, rfl⟩
      rw [hY]
      go_wp2_with fail
      go_ret
      rw [hY]
      exact ⟨rfl, rfl⟩
end
end Go.Proofs.Ytnoopajedgllhaa
namespace Go.Proofs.Ytnoopajedgllhaa
open Go.RowKit
section
variable {w : World}
set_option maxRecDepth 100000 in
set_option maxHeartbeats 3200000 in
theorem rlist_c :
    Calls Try.prog 62 #[] w fun e w' => e = .returned (.slice (some ⟨w.heap.size, 0, none⟩) 64 64) ∧ w' = w.alloc (.cells (kK.map u32V).toArray 101) := by
  go_enter Try.func62, Try.ntmps62
  go_wp2_with fail
  go_ret
  exact ⟨rfl, congrArg (fun A => w.alloc (Obj.cells A 101)) (by kernel_rfl)⟩
end
end Go.Proofs.Ytnoopajedgllhaa
namespace Go.Proofs.Ytnoopajedgllhaa
open Go.RowKit
noncomputable def ofB (id : Nat) : Code := ((Try.f25.body).bind (blkOf id)).getD .skip
theorem lit306 (v : Nat → Value) : ((List.range 306).map v).toArray = #[v 0, v 1, v 2, v 3, v 4, v 5, v 6, v 7, v 8, v 9, v 10, v 11, v 12, v 13, v 14, v 15, v 16, v 17, v 18, v 19, v 20, v 21, v 22, v 23, v 24, v 25, v 26, v 27, v 28, v 29, v 30, v 31, v 32, v 33, v 34, v 35, v 36, v 37, v 38, v 39, v 40, v 41, v 42, v 43, v 44, v 45, v 46, v 47, v 48, v 49, v 50, v 51, v 52, v 53, v 54, v 55, v 56, v 57, v 58, v 59, v 60, v 61, v 62, v 63, v 64, v 65, v 66, v 67, v 68, v 69, v 70, v 71, v 72, v 73, v 74, v 75, v 76, v 77, v 78, v 79, v 80, v 81, v 82, v 83, v 84, v 85, v 86, v 87, v 88, v 89, v 90, v 91, v 92, v 93, v 94, v 95, v 96, v 97, v 98, v 99, v 100, v 101, v 102, v 103, v 104, v 105, v 106, v 107, v 108, v 109, v 110, v 111, v 112, v 113, v 114, v 115, v 116, v 117, v 118, v 119, v 120, v 121, v 122, v 123, v 124, v 125, v 126, v 127, v 128, v 129, v 130, v 131, v 132, v 133, v 134, v 135, v 136, v 137, v 138, v 139, v 140, v 141, v 142, v 143, v 144, v 145, v 146, v 147, v 148, v 149, v 150, v 151, v 152, v 153, v 154, v 155, v 156, v 157, v 158, v 159, v 160, v 161, v 162, v 163, v 164, v 165, v 166, v 167, v 168, v 169, v 170, v 171, v 172, v 173, v 174, v 175, v 176, v 177, v 178, v 179, v 180, v 181, v 182, v 183, v 184, v 185, v 186, v 187, v 188, v 189, v 190, v 191, v 192, v 193, v 194, v 195, v 196, v 197, v 198, v 199, v 200, v 201, v 202, v 203, v 204, v 205, v 206, v 207, v 208, v 209, v 210, v 211, v 212, v 213, v 214, v 215, v 216, v 217, v 218, v 219, v 220, v 221, v 222, v 223, v 224, v 225, v 226, v 227, v 228, v 229, v 230, v 231, v 232, v 233, v 234, v 235, v 236, v 237, v 238, v 239, v 240, v 241, v 242, v 243, v 244, v 245, v 246, v 247, v 248, v 249, v 250, v 251, v 252, v 253, v 254, v 255, v 256, v 257, v 258, v 259, v 260, v 261, v 262, v 263, v 264, v 265, v 266, v 267, v 268, v 269, v 270, v 271, v 272, v 273, v 274, v 275, v 276, v 277, v 278, v 279, v 280, v 281, v 282, v 283, v 284, v 285, v 286, v 287, v 288, v 289, v 290, v 291, v 292, v 293, v 294, v 295, v 296, v 297, v 298, v 299, v 300, v 301, v 302, v 303, v 304, v 305] := by kernel_rfl

/-- The first so many bytes of a word. -/
def pt (M : List UInt8) (o : Nat) : Nat → Nat
  | 0 => 0
  | m + 1 => pt M o m * 256 + byt M (o + m)
theorem pt_lt (M : List UInt8) (o : Nat) : ∀ m, pt M o m < 256 ^ m
  | 0 => by simp [pt]
  | m + 1 => by have h1 := pt_lt M o m; have h2 := byt_lt M (o + m); rw [pt, Nat.pow_succ]; omega
theorem byt_blk {M : List UInt8} {n i : Nat} (hi : i < 64) : byt ((M.drop n).take 64) i = byt M (n + i) := by
  unfold byt
  rw [List.getD_eq_getElem?_getD, List.getD_eq_getElem?_getD, List.getElem?_take_of_lt hi, List.getElem?_drop]
theorem pt_4 {M : List UInt8} {n j : Nat} (hj : j < 16) : pt M (n + 4 * j) 4 = fourL ((M.drop n).take 64) (4 * j) := by
  unfold fourL four
  rw [byt_blk (by omega), byt_blk (by omega), byt_blk (by omega), byt_blk (by omega)]
  simp only [pt, Nat.add_assoc, Nat.add_zero]
  omega
theorem elU : Elem Try.prog 99 101 1 4 := .mk Try.underlying99 (z := .int .u32 0) (by kernel_rfl) rfl
theorem u32_ones (ws : List Nat) : ∀ u ∈ ws.map u32V, u.oneCell' = true := fun u hu => by obtain ⟨x, -, rfl⟩ := List.mem_map.1 hu; rfl
section
variable {w : World} {Q : Exit → Act → World → Prop}
theorem rright_i (x n : Nat) (i : Int) (r : Nat) (hi : i = (n : Nat)) (hx : x < 4294967296) (hn : n ≤ 32) (hr : rotr n x = r) (m : Nat) :
    Calls Try.prog 63 #[.int .u32 (x : Nat), .int .i64 i] (w.drewN m) fun e w' => e = .returned (.int .u32 (r : Nat)) ∧ w' = w.drewN m := by
  subst hi hr; exact rright_c x n hx hn
theorem rless_i (x n : Nat) (i : Int) (r : Nat) (hi : i = (n : Nat)) (hx : x < 4294967296) (hn : n ≤ 32) (hr : x / 2 ^ n = r) (m : Nat) :
    Calls Try.prog 64 #[.int .u32 (x : Nat), .int .i64 i] (w.drewN m) fun e w' => e = .returned (.int .u32 (r : Nat)) ∧ w' = w.drewN m := by
  subst hi hr; exact rless_c x n hx hn
set_option maxRecDepth 100000 in
set_option maxHeartbeats 3200000 in
theorem of8 {a : Act} {M : List UInt8} {A j : Nat} {x2 x3 x7 x9 : Value} (hM : A + 4 * j + 4 ≤ M.length) (hMl : M.length ≤ 950000000) (hj : j < 16)
    (hL : Lv 306 a [(0, .string (strOf M)), (2, x2), (3, x3), (7, x7), (8, .int .i64 (A : Nat)), (9, x9), (10, .int .i64 (j : Nat)), (11, .int .u32 0), (12, .int .i64 0)])
    (hQ : ∀ a', Lv 306 a' [(0, .string (strOf M)), (2, x2), (3, x3), (7, x7), (8, .int .i64 (A : Nat)), (9, x9), (10, .int .i64 (j : Nat)), (11, .int .u32 (pt M (A + 4 * j) 4 : Nat))] → Q .normal a' w) :
    (ofB 8).wp Try.prog Q a w := by
  refine Code.wp_mono NoPanic.imp ?_
  conv => arg 2; whnf
  refine wp_block (wp_loop (fun a' w' => w' = w ∧ ∃ m : Nat, m ≤ 4 ∧ Lv 306 a' [(0, .string (strOf M)), (2, x2), (3, x3), (7, x7), (8, .int .i64 (A : Nat)), (9, x9), (10, .int .i64 (j : Nat)), (11, .int .u32 (pt M (A + 4 * j) m : Nat)), (12, .int .i64 (m : Nat))])
    (fun a' _ => 4 - (intOf (a'.tmps.getD 12 undef)).toNat) ⟨rfl, 0, Nat.zero_le _, hL⟩ ?_)
  clear hL
  rintro a' w' ⟨rfl, m, hm, hI⟩
  obtain ⟨v, rfl, hv⟩ := act_fn hI
  rw [lit306] at hI ⊢
  obtain ⟨g0, g2, g3, g7, g8, g9, g10, g11, g12, -⟩ := hI
  change v 0 = _ at g0
  change v 2 = _ at g2
  change v 3 = _ at g3
  change v 7 = _ at g7
  change v 8 = _ at g8
  change v 9 = _ at g9
  change v 10 = _ at g10
  change v 11 = _ at g11
  change v 12 = _ at g12
  rw [g0, g2, g3, g7, g8, g9, g10, g11, g12]
  clear g0 g2 g3 g7 g8 g9 g10 g11 g12 hv
  have HQ := hid hQ
  clear hQ
  have hMs : (strOf M).size = M.length := rfl
  have hpl := pt_lt M (A + 4 * j) m
  by_cases hm4 : m < 4
  · have hmi : (m : Int) < 4 := by omega
    have hp24 : pt M (A + 4 * j) m < 16777216 := Nat.lt_of_lt_of_le hpl (Nat.pow_le_pow_right (by decide) (by omega : m ≤ 3))
    have hpn : pt M (A + 4 * j) (m + 1) = pt M (A + 4 * j) m * 256 + byt M (A + 4 * j + m) := rfl
    have hbt := byt_lt M (A + 4 * j + m)
    have hix : A + 4 * j + m < (strOf M).size := by rw [hMs]; omega
    have hsb := strOf_byt (l := M) hix
    have hxi : (A : Int) + 4 * j + m < (strOf M).size := by omega
    have hxt : ((A : Int) + 4 * j + m).toNat = A + 4 * j + m := by omega
    have HPN := hid hpn
    clear hpl hpn hMs
    go_wp2_with fail
    refine ⟨⟨trivial, m + 1, by omega, rfl, rfl, rfl, rfl, rfl, rfl, rfl, ?_, by show Value.int .i64 _ = _; go_num, rfl, rfl⟩, by simp [intOf]; omega⟩
    show Value.int .u32 _ = _
    rw [HPN.out]; go_num
  · obtain rfl : m = 4 := by omega
    clear hpl hm4
    go_wp2_with fail
    exact HQ.out _ ⟨rfl, rfl, rfl, rfl, rfl, rfl, rfl, rfl, rfl, rfl⟩
set_option maxRecDepth 100000 in
set_option maxHeartbeats 3200000 in
theorem of6 {a : Act} {M : List UInt8} {A : Nat} {x2 x3 x7 : Value} (hM : A + 64 ≤ M.length) (hMl : M.length ≤ 950000000)
    (hL : Lv 306 a [(0, .string (strOf M)), (2, x2), (3, x3), (7, x7), (8, .int .i64 (A : Nat)), (9, .slice none 0 0), (10, .int .i64 0)])
    (hQ : ∀ a' w' cp ao, Lv 306 a' [(0, .string (strOf M)), (2, x2), (3, x3), (7, x7), (8, .int .i64 (A : Nat)), (9, .slice ao 16 cp)] → Gr w' 101 1 ao 16 cp ((wds0 ((M.drop A).take 64) 16).map u32V) → (∀ q, ao = some ⟨q, 0, none⟩ → w.heap.size ≤ q) → Only (fun _ => False) w w' → Q .normal a' w') :
    (ofB 6).wp Try.prog Q a w := by
  refine Code.wp_mono NoPanic.imp ?_
  conv => arg 2; whnf
  refine wp_block (wp_loop (fun a' w' => ∃ (j cp : Nat) (ao : Option Addr), j ≤ 16 ∧ Lv 306 a' [(0, .string (strOf M)), (2, x2), (3, x3), (7, x7), (8, .int .i64 (A : Nat)), (9, .slice ao j cp), (10, .int .i64 (j : Nat))] ∧ Gr w' 101 1 ao j cp ((wds0 ((M.drop A).take 64) j).map u32V) ∧ (∀ q, ao = some ⟨q, 0, none⟩ → w.heap.size ≤ q) ∧ Only (fun _ => False) w w')
    (fun a' _ => 16 - (intOf (a'.tmps.getD 10 undef)).toNat) ⟨0, 0, none, Nat.zero_le _, hL, Gr.nil, by simp, Only.refl _ _⟩ ?_)
  clear hL
  rintro a' w' ⟨j, cp, ao, hj, hI, hgr, hao, ho⟩
  obtain ⟨v, rfl, hv⟩ := act_fn hI
  rw [lit306] at hI ⊢
  obtain ⟨g0, g2, g3, g7, g8, g9, g10, -⟩ := hI
  change v 0 = _ at g0
  change v 2 = _ at g2
  change v 3 = _ at g3
  change v 7 = _ at g7
  change v 8 = _ at g8
  change v 9 = _ at g9
  change v 10 = _ at g10
  rw [g0, g2, g3, g7, g8, g9, g10]
  clear g0 g2 g3 g7 g8 g9 g10 hv
  have HQ := hid hQ
  have HGR := hid hgr; have HAO := hid hao; have HO := hid ho
  have hsz := ho.size
  clear hQ hgr hao ho
  by_cases hj16 : j < 16
  · have hji : (j : Int) < 16 := by omega
    go_upto_block 8 with fail
    refine of8 (a := _) (M := M) (A := A) (j := j) (x2 := x2) (x3 := x3) (x7 := x7) (x9 := .slice ao j cp) (by omega) hMl hj16 ⟨rfl, rfl, rfl, rfl, rfl, rfl, rfl, rfl, rfl, rfl, rfl⟩ ?_
    intro a1 hI
    obtain ⟨v, rfl, hv⟩ := act_fn hI
    rw [lit306] at hI ⊢
    obtain ⟨g0, g2, g3, g7, g8, g9, g10, g11, -⟩ := hI
    change v 0 = _ at g0
    change v 2 = _ at g2
    change v 3 = _ at g3
    change v 7 = _ at g7
    change v 8 = _ at g8
    change v 9 = _ at g9
    change v 10 = _ at g10
    change v 11 = _ at g11
    rw [g0, g2, g3, g7, g8, g9, g10, g11]
    clear g0 g2 g3 g7 g8 g9 g10 g11 hv
    have hpt := pt_4 (M := M) (n := A) hj16
    have hpl := pt_lt M (A + 4 * j) 4
    obtain ⟨x, hx⟩ : ∃ x, pt M (A + 4 * j) 4 = x := ⟨_, rfl⟩
    rw [hx] at hpt hpl
    have HPT := hid hpt
    rw [hx]
    clear hx hpt
    go_wp2_with ((guard_target =~ wpList _ _ _ (⟨some 86, _, _, _, _, _⟩ :: _) _ _); refine wpList_gr (o := ⟨some 86, _, _, _, _, _⟩) rfl elU (.tmp 83) (.tmp 85) rfl (HGR.out.only (only_new w' (.cells #[.int .u32 (x : Nat)] 101)) (fun _ _ e => e)) rfl (some ⟨w'.heap.size, 0, none⟩) 1 1 rfl [.int .u32 (x : Nat)] (SrcG.new (blk_new w' _) rfl (by simp [Value.oneCell'])) (by omega) (by omega) ?_; intro ao2 cp2 w9 hg9 ha9 ho9; have HG9 := hid hg9; have HA9 := hid ha9; have HO9 := hid ho9; clear hg9 ha9 ho9)
    refine ⟨⟨j + 1, cp2, ao2, by omega, ⟨rfl, rfl, rfl, rfl, rfl, rfl, by show Value.int .i64 _ = _; go_num, rfl, rfl⟩, ?_, ?_, ?_⟩, by simp [intOf]; omega⟩
    · rw [wds0, List.map_append]
      rw [HPT.out] at HG9
      exact HG9.out
    · intro q hq
      rcases HA9.out with e | e
      · exact HAO.out q (by rw [← e]; exact hq)
      · rw [hq] at e
        simp only [Option.some.injEq, Addr.mk.injEq, and_true] at e
        rw [World.size_alloc] at e
        omega
    · exact (HO.out.trans (only_new _ _) (fun _ _ e => e)).trans HO9.out (fun k hk e => by have := HAO.out k e; omega)
  · obtain rfl : j = 16 := by omega
    go_wp2_with fail
    exact HQ.out _ _ _ _ ⟨rfl, rfl, rfl, rfl, rfl, rfl, rfl, rfl⟩ HGR.out HAO.out HO.out
set_option maxRecDepth 100000 in
set_option maxHeartbeats 3200000 in
theorem of10 {a : Act} {M : List UInt8} {A g cp : Nat} {x2 x3 x7 : Value} {W0 : List Nat} {wz : World} (hW : W0.length = 16) (hW32 : All32 W0) (hgr : Gr w 101 1 (some ⟨g, 0, none⟩) 16 cp (W0.map u32V)) (hg : wz.heap.size ≤ g) (ho : Only (fun _ => False) wz w)
    (hL : Lv 306 a [(0, .string (strOf M)), (2, x2), (3, x3), (7, x7), (8, .int .i64 (A : Nat)), (9, .slice (some ⟨g, 0, none⟩) 16 cp), (13, .int .i64 16)])
    (hQ : ∀ a' w' cp g, Lv 306 a' [(0, .string (strOf M)), (2, x2), (3, x3), (7, x7), (8, .int .i64 (A : Nat)), (9, .slice (some ⟨g, 0, none⟩) 64 cp)] → Gr w' 101 1 (some ⟨g, 0, none⟩) 64 cp ((wdsN W0 48).map u32V) → wz.heap.size ≤ g → Only (fun _ => False) wz w' → Q .normal a' w') :
    (ofB 10).wp Try.prog Q a w := by
  refine Code.wp_mono NoPanic.imp ?_
  conv => arg 2; whnf
  refine wp_block (wp_loop (fun a' w' => ∃ (n cp : Nat) (g : Nat), 16 ≤ n ∧ n ≤ 64 ∧ Lv 306 a' [(0, .string (strOf M)), (2, x2), (3, x3), (7, x7), (8, .int .i64 (A : Nat)), (9, .slice (some ⟨g, 0, none⟩) n cp), (13, .int .i64 (n : Nat))] ∧ Gr w' 101 1 (some ⟨g, 0, none⟩) n cp ((wdsN W0 (n - 16)).map u32V) ∧ wz.heap.size ≤ g ∧ Only (fun _ => False) wz w')
    (fun a' _ => 64 - (intOf (a'.tmps.getD 13 undef)).toNat) ⟨16, cp, g, Nat.le_refl _, by omega, hL, hgr, hg, ho⟩ ?_)
  clear hL hgr hg ho
  rintro a' w' ⟨n, cp, g, hn0, hn, hI, hgr, hgz, ho⟩
  obtain ⟨v, rfl, hv⟩ := act_fn hI
  rw [lit306] at hI ⊢
  obtain ⟨g0, g2, g3, g7, g8, g9, g13, -⟩ := hI
  change v 0 = _ at g0
  change v 2 = _ at g2
  change v 3 = _ at g3
  change v 7 = _ at g7
  change v 8 = _ at g8
  change v 9 = _ at g9
  change v 13 = _ at g13
  rw [g0, g2, g3, g7, g8, g9, g13]
  clear g0 g2 g3 g7 g8 g9 g13 hv
  have HQ := hid hQ
  have HGR := hid hgr; have HO := hid ho
  have hsz := ho.size
  have hl2 : (wdsN W0 (n - 16)).length = n := by rw [wdsN_len, hW]; omega
  by_cases hnl : n < 64
  · have hni : (n : Int) < 64 := by omega
    have h32 := wdsN_32 hW32 (n - 16)
    obtain ⟨U, hU⟩ : ∃ x, wdsN W0 (n - 16) = x := ⟨_, rfl⟩
    have HNX : Hid (wdsN W0 (n + 1 - 16) = U ++ [ext U]) := hid (by rw [show n + 1 - 16 = (n - 16) + 1 from by omega, wdsN, hU])
    rw [hU] at hl2 h32 hgr HGR
    have hx : ext U = (U.getD (n - 16) 0 + sg0 (U.getD (n - 15) 0) + U.getD (n - 7) 0 + sg1 (U.getD (n - 2) 0)) % 4294967296 := by unfold ext; rw [hl2]
    obtain ⟨g', hg', hcel⟩ := hgr.cells (by omega)
    obtain rfl : g = g' := by simpa using hg'
    have hcell : ∀ i, i < n → w'.cell? ⟨g, i, none⟩ = some (.int .u32 (U.getD i 0 : Nat)) := fun i hi => hcel i _ (by rw [List.getElem?_map, List.getElem?_eq_getElem (by omega), List.getD_eq_getElem?_getD, List.getElem?_eq_getElem (by omega)]; rfl)
    have d15 := hcell (n - 15) (by omega); have d2 := hcell (n - 2) (by omega); have d16 := hcell (n - 16) (by omega); have d7 := hcell (n - 7) (by omega)
    have x15 := h32.getD (n - 15); have x2b := h32.getD (n - 2); have x16 := h32.getD (n - 16); have x7b := h32.getD (n - 7)
    obtain ⟨a15, e15⟩ : ∃ x, U.getD (n - 15) 0 = x := ⟨_, rfl⟩
    obtain ⟨a2, e2⟩ : ∃ x, U.getD (n - 2) 0 = x := ⟨_, rfl⟩
    obtain ⟨a16, e16⟩ : ∃ x, U.getD (n - 16) 0 = x := ⟨_, rfl⟩
    obtain ⟨a7, e7⟩ : ∃ x, U.getD (n - 7) 0 = x := ⟨_, rfl⟩
    rw [e15, e2, e16, e7] at hx
    rw [e15] at d15 x15
    rw [e2] at d2 x2b
    rw [e16] at d16 x16
    rw [e7] at d7 x7b
    have q7 := rotr_lt (n := 7) (by decide) x15; have q18 := rotr_lt (n := 18) (by decide) x15
    have q17 := rotr_lt (n := 17) (by decide) x2b; have q19 := rotr_lt (n := 19) (by decide) x2b
    have hs0 : bits .xor .u32 (bits .xor .u32 ((rotr 7 a15 : Nat) : Int) ((rotr 18 a15 : Nat) : Int)) ((a15 / 8 : Nat) : Int) = ((sg0 a15 : Nat) : Int) := xor3 (c := a15 / 8) q7 q18 (by omega)
    have hs1 : bits .xor .u32 (bits .xor .u32 ((rotr 17 a2 : Nat) : Int) ((rotr 19 a2 : Nat) : Int)) ((a2 / 1024 : Nat) : Int) = ((sg1 a2 : Nat) : Int) := xor3 (c := a2 / 1024) q17 q19 (by omega)
    have s0l := sg0_lt x15; have s1l := sg1_lt x2b
    obtain ⟨y7, f7⟩ : ∃ x, rotr 7 a15 = x := ⟨_, rfl⟩
    obtain ⟨y18, f18⟩ : ∃ x, rotr 18 a15 = x := ⟨_, rfl⟩
    obtain ⟨y3, f3⟩ : ∃ x, a15 / 8 = x := ⟨_, rfl⟩
    obtain ⟨y17, f17⟩ : ∃ x, rotr 17 a2 = x := ⟨_, rfl⟩
    obtain ⟨y19, f19⟩ : ∃ x, rotr 19 a2 = x := ⟨_, rfl⟩
    obtain ⟨y10, f10⟩ : ∃ x, a2 / 1024 = x := ⟨_, rfl⟩
    obtain ⟨f0, hf0⟩ : ∃ x, sg0 a15 = x := ⟨_, rfl⟩
    obtain ⟨f1, hf1⟩ : ∃ x, sg1 a2 = x := ⟨_, rfl⟩
    rw [hf0, f7, f18, f3] at hs0
    rw [hf1, f17, f19, f10] at hs1
    rw [hf0] at s0l
    rw [hf1] at s1l
    rw [hf0, hf1] at hx
    have R1 : Hid (∀ m : Nat, Calls Try.prog 63 #[.int .u32 (a15 : Nat), .int .i64 7] (w'.drewN m) fun e wx => e = .returned (.int .u32 (y7 : Nat)) ∧ wx = w'.drewN m) := hid (fun m => rright_i a15 7 7 y7 rfl x15 (by decide) f7 m)
    have R2 : Hid (∀ m : Nat, Calls Try.prog 63 #[.int .u32 (a15 : Nat), .int .i64 18] (w'.drewN m) fun e wx => e = .returned (.int .u32 (y18 : Nat)) ∧ wx = w'.drewN m) := hid (fun m => rright_i a15 18 18 y18 rfl x15 (by decide) f18 m)
    have R3 : Hid (∀ m : Nat, Calls Try.prog 64 #[.int .u32 (a15 : Nat), .int .i64 3] (w'.drewN m) fun e wx => e = .returned (.int .u32 (y3 : Nat)) ∧ wx = w'.drewN m) := hid (fun m => rless_i a15 3 3 y3 rfl x15 (by decide) f3 m)
    have F17 := hid f17; have F19 := hid f19; have F10 := hid f10
    have HX := hid hx; have HU2 := hid hl2
    have t15 : ((n : Int) - 15).toNat = n - 15 := by omega
    have t2 : ((n : Int) - 2).toNat = n - 2 := by omega
    have t16 : ((n : Int) - 16).toNat = n - 16 := by omega
    have t7 : ((n : Int) - 7).toNat = n - 7 := by omega
    have v15 : IntKind.i64.wrap ((n : Int) - 15) = (n : Int) - 15 := IntWalk.i64_in _ (by omega)
    have v2 : IntKind.i64.wrap ((n : Int) - 2) = (n : Int) - 2 := IntWalk.i64_in _ (by omega)
    have v16 : IntKind.i64.wrap ((n : Int) - 16) = (n : Int) - 16 := IntWalk.i64_in _ (by omega)
    have v7 : IntKind.i64.wrap ((n : Int) - 7) = (n : Int) - 7 := IntWalk.i64_in _ (by omega)
    have p1 : (0 : Int) ≤ (n : Int) - 16 := by omega
    have p2 : (n : Int) - 16 < n := by omega
    have p3 : (0 : Int) ≤ (n : Int) - 7 := by omega
    have p4 : (n : Int) - 7 < n := by omega
    have p5 : (0 : Int) ≤ (n : Int) - 15 := by omega
    have p6 : (n : Int) - 15 < n := by omega
    have p7 : (0 : Int) ≤ (n : Int) - 2 := by omega
    have p8 : (n : Int) - 2 < n := by omega
    have pn1 : n - 16 < n := by omega
    have pn2 : n - 7 < n := by omega
    have pn3 : (16 : Int) ≤ n := by omega
    have pn4 : (7 : Int) ≤ n := by omega
    have k1 : IntKind.u32.wrap ((a16 : Int) + (f0 : Int)) = (((a16 + f0) % 4294967296 : Nat) : Int) := by rw [IntKind.wrap_u32]; omega
    have k2 : IntKind.u32.wrap ((((a16 + f0) % 4294967296 : Nat) : Int) + (a7 : Int)) = (((a16 + f0 + a7) % 4294967296 : Nat) : Int) := by rw [IntKind.wrap_u32]; omega
    have k3 : IntKind.u32.wrap ((((a16 + f0 + a7) % 4294967296 : Nat) : Int) + (f1 : Int)) = ((ext U : Nat) : Int) := by rw [IntKind.wrap_u32, HX.out]; omega
    obtain ⟨m1, hm1⟩ : ∃ x, (a16 + f0) % 4294967296 = x := ⟨_, rfl⟩
    obtain ⟨m2, hm2⟩ : ∃ x, (a16 + f0 + a7) % 4294967296 = x := ⟨_, rfl⟩
    obtain ⟨m3, hm3⟩ : ∃ x, ext U = x := ⟨_, rfl⟩
    rw [hm1] at k1 k2
    rw [hm2] at k2 k3
    rw [hm3] at k3 HNX
    clear hx hl2 h32 hU e15 e2 e16 e7 f7 f18 f3 f17 f19 f10 hf0 hf1 HX hm1 hm2 hm3 hcell hcel hg' hgr ho hQ
    go_wp2_with fail
    go_quiet ((first | (with_reducible exact Calls.quiet_of_same (R1.out _)) | (with_reducible exact Calls.quiet_of_same (R2.out _)) | (with_reducible exact Calls.quiet_of_same (R3.out _))))
    obtain ⟨wq, hwq⟩ : ∃ wq, w'.drewN nq = wq := ⟨_, rfl⟩
    rw [hwq]
    have d2q : wq.cell? ⟨g, n - 2, none⟩ = some (.int .u32 (a2 : Nat)) := by rw [← hwq]; exact d2
    have d16q : wq.cell? ⟨g, n - 16, none⟩ = some (.int .u32 (a16 : Nat)) := by rw [← hwq]; exact d16
    have d7q : wq.cell? ⟨g, n - 7, none⟩ = some (.int .u32 (a7 : Nat)) := by rw [← hwq]; exact d7
    have HOQ : Hid (Only (fun _ => False) w' wq) := hid (by rw [← hwq]; exact only_drewN _ _)
    clear d15 d2 d16 d7 hwq
    have Q4 : Hid (∀ m : Nat, Calls Try.prog 63 #[.int .u32 (a2 : Nat), .int .i64 17] (wq.drewN m) fun e wx => e = .returned (.int .u32 (y17 : Nat)) ∧ wx = wq.drewN m) := hid (fun m => rright_i a2 17 17 y17 rfl x2b (by decide) F17.out m)
    have Q5 : Hid (∀ m : Nat, Calls Try.prog 63 #[.int .u32 (a2 : Nat), .int .i64 19] (wq.drewN m) fun e wx => e = .returned (.int .u32 (y19 : Nat)) ∧ wx = wq.drewN m) := hid (fun m => rright_i a2 19 19 y19 rfl x2b (by decide) F19.out m)
    have Q6 : Hid (∀ m : Nat, Calls Try.prog 64 #[.int .u32 (a2 : Nat), .int .i64 10] (wq.drewN m) fun e wx => e = .returned (.int .u32 (y10 : Nat)) ∧ wx = wq.drewN m) := hid (fun m => rless_i a2 10 10 y10 rfl x2b (by decide) F10.out m)
    clear R1 R2 R3
    go_wp2_with fail
    go_quiet ((first | (with_reducible exact Calls.quiet_of_same (Q4.out _)) | (with_reducible exact Calls.quiet_of_same (Q5.out _)) | (with_reducible exact Calls.quiet_of_same (Q6.out _))))
    obtain ⟨wz2, hwz⟩ : ∃ wz, wq.drewN nq = wz := ⟨_, rfl⟩
    rw [hwz]
    have d16z : wz2.cell? ⟨g, n - 16, none⟩ = some (.int .u32 (a16 : Nat)) := by rw [← hwz]; exact d16q
    have d7z : wz2.cell? ⟨g, n - 7, none⟩ = some (.int .u32 (a7 : Nat)) := by rw [← hwz]; exact d7q
    have HOZ : Hid (Only (fun _ => False) w' wz2) := hid (by rw [← hwz]; exact HOQ.out.trans (only_drewN _ _) (fun _ _ e => e))
    clear d2q d16q d7q hwz Q4 Q5 Q6 HOQ
    go_wp2_with fail
    have HOD : Hid (Only (fun _ => False) w' wz2.drew) := hid (HOZ.out.trans (Only.refl (fun _ => False) wz2).drew (fun _ _ e => e))
    go_region_law (refine step_of rfl (wp_gr (o := ⟨some 148, _, _, _, _, _⟩) elU (.tmp 131) (.tmp 147) rfl (HGR.out.only (HOD.out.trans (only_new _ (.cells #[.int .u32 (m3 : Nat)] 101)) (fun _ _ e => e)) (fun _ _ e => e)) rfl (some ⟨wz2.heap.size, 0, none⟩) 1 1 rfl [.int .u32 (m3 : Nat)] (SrcG.new (blk_new wz2.drew _) rfl (by simp [Value.oneCell'])) (by omega) (by omega) ?_); intro ao2 cp2 w9 hg9 ha9 ho9; have HG9 := hid hg9; have HA9 := hid ha9; have HO9 := hid ho9; clear hg9 ha9 ho9)
    all_goals
      go_wp2_with fail
      have hgl := HGR.out.lt rfl
      obtain ⟨g2, rfl, hg2⟩ : ∃ g2, ao2 = some ⟨g2, 0, none⟩ ∧ wz.heap.size ≤ g2 := by
        rcases HA9.out with e | e
        · exact ⟨g, e, hgz⟩
        · exact ⟨_, e, by have h1 := HOD.out.size; simp at e h1 ⊢; omega⟩
      refine ⟨⟨n + 1, cp2, g2, by omega, by omega, ⟨rfl, rfl, rfl, rfl, rfl, rfl, by show Value.int .i64 _ = _; go_num, rfl, rfl⟩, ?_, hg2, ?_⟩, by simp [intOf]; omega⟩
      · rw [HNX.out, List.map_append]; exact HG9.out
      · exact (HO.out.trans (HOD.out.trans (only_new _ _) (fun _ _ e => e)) (fun _ _ e => e)).trans HO9.out (fun k hk e => by simp only [Option.some.injEq, Addr.mk.injEq, and_true] at e; omega)
  · obtain rfl : n = 64 := by omega
    clear hl2 hgr ho hQ
    go_wp2_with fail
    exact HQ.out _ _ _ _ ⟨rfl, rfl, rfl, rfl, rfl, rfl, rfl, rfl⟩ HGR.out hgz HO.out
set_option maxRecDepth 100000 in
set_option maxHeartbeats 3200000 in
theorem of12 {a : Act} {M : List UInt8} {A g bk cp cap gv B : Nat} {x2 x7 : Value} {WS : List Nat} {SS : ST} (hW32 : All32 WS) (hS : SS.Ok) (hB : B ≤ w.heap.size) (hgB : B ≤ gv)
    (hk : ∀ W, Only (fun _ => False) w W → ∀ i, i < 64 → W.cell? ⟨bk, i, none⟩ = some (.int .u32 (kK.getD i 0 : Nat)))
    (hws : ∀ W, Only (fun _ => False) w W → ∀ i, i < 64 → W.cell? ⟨g, i, none⟩ = some (.int .u32 (WS.getD i 0 : Nat)))
    (hv : ∀ i, i < 8 → w.cell? ⟨gv, i, none⟩ = some (.int .u32 (SS.l.getD i 0 : Nat))) (hcap : 8 ≤ cap)
    (hL : Lv 306 a [(0, .string (strOf M)), (2, x2), (3, .slice (some ⟨bk, 0, none⟩) 64 64), (7, x7), (8, .int .i64 (A : Nat)), (9, .slice (some ⟨g, 0, none⟩) 64 cp), (16, .slice (some ⟨gv, 0, none⟩) 8 cap), (17, .int .i64 0)])
    (hQ : ∀ a' w' cap gv, Lv 306 a' [(0, .string (strOf M)), (2, x2), (3, .slice (some ⟨bk, 0, none⟩) 64 64), (7, x7), (8, .int .i64 (A : Nat)), (9, .slice (some ⟨g, 0, none⟩) 64 cp), (16, .slice (some ⟨gv, 0, none⟩) 8 cap)] → (∀ i, i < 8 → w'.cell? ⟨gv, i, none⟩ = some (.int .u32 ((rndN WS SS 64).l.getD i 0 : Nat))) → B ≤ gv → 8 ≤ cap → Only (fun _ => False) w w' → Q .normal a' w') :
    (ofB 12).wp Try.prog Q a w := by
  refine Code.wp_mono NoPanic.imp ?_
  conv => arg 2; whnf
  refine wp_block (wp_loop (fun a' w' => ∃ n gv cap : Nat, n ≤ 64 ∧ Lv 306 a' [(0, .string (strOf M)), (2, x2), (3, .slice (some ⟨bk, 0, none⟩) 64 64), (7, x7), (8, .int .i64 (A : Nat)), (9, .slice (some ⟨g, 0, none⟩) 64 cp), (16, .slice (some ⟨gv, 0, none⟩) 8 cap), (17, .int .i64 (n : Nat))] ∧ (∀ i, i < 8 → w'.cell? ⟨gv, i, none⟩ = some (.int .u32 ((rndN WS SS n).l.getD i 0 : Nat))) ∧ B ≤ gv ∧ 8 ≤ cap ∧ Only (fun _ => False) w w')
    (fun a' _ => 64 - (intOf (a'.tmps.getD 17 undef)).toNat) ⟨0, gv, cap, Nat.zero_le _, hL, hv, hgB, hcap, Only.refl _ _⟩ ?_)
  clear hL hv hcap hgB
  rintro a' w' ⟨n, gv, cap, hn, hI, hv, hgB, hcap, ho⟩
  obtain ⟨v, rfl, hv⟩ := act_fn hI
  rw [lit306] at hI ⊢
  obtain ⟨g0, g2, g3, g7, g8, g9, g16, g17, -⟩ := hI
  change v 0 = _ at g0
  change v 2 = _ at g2
  change v 3 = _ at g3
  change v 7 = _ at g7
  change v 8 = _ at g8
  change v 9 = _ at g9
  change v 16 = _ at g16
  change v 17 = _ at g17
  rw [g0, g2, g3, g7, g8, g9, g16, g17]
  clear g0 g2 g3 g7 g8 g9 g16 g17 hv
  have HQ := hid hQ
  have HO := hid ho; have HV := hid hv
  have hsz := ho.size
  by_cases hnl : n < 64
  · have hni : (n : Int) < 64 := by omega
    have hok := rndN_ok WS hS n
    have ck := hk w' ho n hnl
    have cw := hws w' ho n hnl
    have hxl := hW32.getD n
    have hkl := kK_32.getD n
    have hnx : rndN WS SS (n + 1) = rnd (rndN WS SS n) (kK.getD n 0) (WS.getD n 0) := rfl
    obtain ⟨x, hx⟩ : ∃ x, WS.getD n 0 = x := ⟨_, rfl⟩
    obtain ⟨kk, hkk⟩ : ∃ x, kK.getD n 0 = x := ⟨_, rfl⟩
    obtain ⟨⟨a0, a1, a2, a3, a4, a5, a6, a7⟩, hR⟩ : ∃ x, rndN WS SS n = x := ⟨_, rfl⟩
    rw [hx] at cw hxl hnx
    rw [hkk] at ck hkl hnx
    rw [hR] at hv hok hnx
    obtain ⟨j0, j1, j2, j3, j4, j5, j6, j7⟩ := hok
    simp only at j0 j1 j2 j3 j4 j5 j6 j7
    have c0 : w'.cell? ⟨gv, 0, none⟩ = some (.int .u32 (a0 : Nat)) := hv 0 (by decide)
    have c1 : w'.cell? ⟨gv, 1, none⟩ = some (.int .u32 (a1 : Nat)) := hv 1 (by decide)
    have c2 : w'.cell? ⟨gv, 2, none⟩ = some (.int .u32 (a2 : Nat)) := hv 2 (by decide)
    have c3 : w'.cell? ⟨gv, 3, none⟩ = some (.int .u32 (a3 : Nat)) := hv 3 (by decide)
    have c4 : w'.cell? ⟨gv, 4, none⟩ = some (.int .u32 (a4 : Nat)) := hv 4 (by decide)
    have c5 : w'.cell? ⟨gv, 5, none⟩ = some (.int .u32 (a5 : Nat)) := hv 5 (by decide)
    have c6 : w'.cell? ⟨gv, 6, none⟩ = some (.int .u32 (a6 : Nat)) := hv 6 (by decide)
    have c7 : w'.cell? ⟨gv, 7, none⟩ = some (.int .u32 (a7 : Nat)) := hv 7 (by decide)
    have HNX := hid hnx
    clear hx hkk hR hnx ho hv hk hws hQ
    have p6 := rotr_lt (n := 6) (by decide) j4; have p11 := rotr_lt (n := 11) (by decide) j4; have p25 := rotr_lt (n := 25) (by decide) j4
    have p2 := rotr_lt (n := 2) (by decide) j0; have p13 := rotr_lt (n := 13) (by decide) j0; have p22 := rotr_lt (n := 22) (by decide) j0
    have g1 : bits .xor .u32 (bits .xor .u32 ((rotr 6 a4 : Nat) : Int) ((rotr 11 a4 : Nat) : Int)) ((rotr 25 a4 : Nat) : Int) = ((Sg1 a4 : Nat) : Int) := xor3 p6 p11 p25
    have g2 : bits .xor .u32 (bits .xor .u32 ((rotr 2 a0 : Nat) : Int) ((rotr 13 a0 : Nat) : Int)) ((rotr 22 a0 : Nat) : Int) = ((Sg0 a0 : Nat) : Int) := xor3 p2 p13 p22
    have g3 : bits .and .u32 (a4 : Nat) (a5 : Nat) = ((a4 &&& a5 : Nat) : Int) := u32_and_nat _ _ j4 j5
    have g4 : IntKind.u32.wrap (4294967295 - (a4 : Int)) = ((4294967295 - a4 : Nat) : Int) := by rw [IntKind.wrap_u32]; omega
    have g5 : bits .and .u32 ((4294967295 - a4 : Nat) : Int) (a6 : Nat) = (((4294967295 - a4) &&& a6 : Nat) : Int) := u32_and_nat _ _ (by omega) j6
    have q6 : bits .xor .u32 ((a4 &&& a5 : Nat) : Int) (((4294967295 - a4) &&& a6 : Nat) : Int) = ((chx a4 a5 a6 : Nat) : Int) := u32_xor_nat _ _ (and_lt32 j4) (and_lt32 (by omega))
    have g7 : bits .and .u32 (a0 : Nat) (a1 : Nat) = ((a0 &&& a1 : Nat) : Int) := u32_and_nat _ _ j0 j1
    have g8 : bits .and .u32 (a0 : Nat) (a2 : Nat) = ((a0 &&& a2 : Nat) : Int) := u32_and_nat _ _ j0 j2
    have g9 : bits .and .u32 (a1 : Nat) (a2 : Nat) = ((a1 &&& a2 : Nat) : Int) := u32_and_nat _ _ j1 j2
    have g10 : bits .xor .u32 (bits .xor .u32 ((a0 &&& a1 : Nat) : Int) ((a0 &&& a2 : Nat) : Int)) ((a1 &&& a2 : Nat) : Int) = ((maj a0 a1 a2 : Nat) : Int) := xor3 (and_lt32 j0) (and_lt32 j0) (and_lt32 j1)
    have hT : rT ⟨a0, a1, a2, a3, a4, a5, a6, a7⟩ kk x = (a7 + Sg1 a4 + chx a4 a5 a6 + kk + x) % 4294967296 := rfl
    have hU : rU ⟨a0, a1, a2, a3, a4, a5, a6, a7⟩ = (Sg0 a0 + maj a0 a1 a2) % 4294967296 := rfl
    have hN : rnd ⟨a0, a1, a2, a3, a4, a5, a6, a7⟩ kk x = ⟨(rT ⟨a0, a1, a2, a3, a4, a5, a6, a7⟩ kk x + rU ⟨a0, a1, a2, a3, a4, a5, a6, a7⟩) % 4294967296, a0, a1, a2, (a3 + rT ⟨a0, a1, a2, a3, a4, a5, a6, a7⟩ kk x) % 4294967296, a4, a5, a6⟩ := rfl
    have o1 := Sg1_lt j4; have o2 := Sg0_lt j0; have o3 := chx_lt (f := a5) (g := a6) j4; have o4 := maj_lt (c := a2) j0 j1
    obtain ⟨T, hTe⟩ : ∃ y, rT ⟨a0, a1, a2, a3, a4, a5, a6, a7⟩ kk x = y := ⟨_, rfl⟩
    obtain ⟨U, hUe⟩ : ∃ y, rU ⟨a0, a1, a2, a3, a4, a5, a6, a7⟩ = y := ⟨_, rfl⟩
    rw [hTe] at hT hN
    rw [hUe] at hU hN
    obtain ⟨y6, e6⟩ : ∃ y, rotr 6 a4 = y := ⟨_, rfl⟩
    obtain ⟨y11, e11⟩ : ∃ y, rotr 11 a4 = y := ⟨_, rfl⟩
    obtain ⟨y25, e25⟩ : ∃ y, rotr 25 a4 = y := ⟨_, rfl⟩
    obtain ⟨y2, e2⟩ : ∃ y, rotr 2 a0 = y := ⟨_, rfl⟩
    obtain ⟨y13, e13⟩ : ∃ y, rotr 13 a0 = y := ⟨_, rfl⟩
    obtain ⟨y22, e22⟩ : ∃ y, rotr 22 a0 = y := ⟨_, rfl⟩
    obtain ⟨z1, f1⟩ : ∃ y, Sg1 a4 = y := ⟨_, rfl⟩
    obtain ⟨z0, f0⟩ : ∃ y, Sg0 a0 = y := ⟨_, rfl⟩
    obtain ⟨zc, fc⟩ : ∃ y, chx a4 a5 a6 = y := ⟨_, rfl⟩
    obtain ⟨zm, fm⟩ : ∃ y, maj a0 a1 a2 = y := ⟨_, rfl⟩
    obtain ⟨b45, h45⟩ : ∃ y, a4 &&& a5 = y := ⟨_, rfl⟩
    obtain ⟨na4, hna⟩ : ∃ y, 4294967295 - a4 = y := ⟨_, rfl⟩
    rw [h45] at g3 q6
    rw [hna] at g4 g5 q6
    obtain ⟨b46, h46⟩ : ∃ y, na4 &&& a6 = y := ⟨_, rfl⟩
    rw [h46] at g5 q6
    obtain ⟨b01, h01⟩ : ∃ y, a0 &&& a1 = y := ⟨_, rfl⟩
    obtain ⟨b02, h02⟩ : ∃ y, a0 &&& a2 = y := ⟨_, rfl⟩
    obtain ⟨b12, h12⟩ : ∃ y, a1 &&& a2 = y := ⟨_, rfl⟩
    rw [h01] at g7 g10
    rw [h02] at g8 g10
    rw [h12] at g9 g10
    rw [e6, e11, e25, f1] at g1
    rw [e2, e13, e22, f0] at g2
    rw [fc] at q6 hT o3
    rw [fm] at g10 hU o4
    rw [f1] at hT o1
    rw [f0] at hU o2
    have s1 : IntKind.u32.wrap ((a7 : Int) + (z1 : Int)) = (((a7 + z1) % 4294967296 : Nat) : Int) := by rw [IntKind.wrap_u32]; omega
    have s2 : IntKind.u32.wrap ((((a7 + z1) % 4294967296 : Nat) : Int) + (zc : Int)) = (((a7 + z1 + zc) % 4294967296 : Nat) : Int) := by rw [IntKind.wrap_u32]; omega
    have s3 : IntKind.u32.wrap ((((a7 + z1 + zc) % 4294967296 : Nat) : Int) + (kk : Int)) = (((a7 + z1 + zc + kk) % 4294967296 : Nat) : Int) := by rw [IntKind.wrap_u32]; omega
    have s4 : IntKind.u32.wrap ((((a7 + z1 + zc + kk) % 4294967296 : Nat) : Int) + (x : Int)) = ((T : Nat) : Int) := by rw [IntKind.wrap_u32, hT]; omega
    have s5 : IntKind.u32.wrap ((z0 : Int) + (zm : Int)) = ((U : Nat) : Int) := by rw [IntKind.wrap_u32, hU]; omega
    have s6 : IntKind.u32.wrap ((T : Int) + (U : Int)) = (((T + U) % 4294967296 : Nat) : Int) := by rw [IntKind.wrap_u32]; omega
    have s7 : IntKind.u32.wrap ((a3 : Int) + (T : Int)) = (((a3 + T) % 4294967296 : Nat) : Int) := by rw [IntKind.wrap_u32]; omega
    have tl : T < 4294967296 := by rw [hT]; exact Nat.mod_lt _ (by decide)
    have ul : U < 4294967296 := by rw [hU]; exact Nat.mod_lt _ (by decide)
    obtain ⟨m1, hm1⟩ : ∃ y, (a7 + z1) % 4294967296 = y := ⟨_, rfl⟩
    obtain ⟨m2, hm2⟩ : ∃ y, (a7 + z1 + zc) % 4294967296 = y := ⟨_, rfl⟩
    obtain ⟨m3, hm3⟩ : ∃ y, (a7 + z1 + zc + kk) % 4294967296 = y := ⟨_, rfl⟩
    obtain ⟨n0, hn0⟩ : ∃ y, (T + U) % 4294967296 = y := ⟨_, rfl⟩
    obtain ⟨n4, hn4⟩ : ∃ y, (a3 + T) % 4294967296 = y := ⟨_, rfl⟩
    rw [hm1] at s1 s2
    rw [hm2] at s2 s3
    rw [hm3] at s3 s4
    rw [hn0] at s6 hN
    rw [hn4] at s7 hN
    have v1 : ((a7 : Int) + (z1 : Int)) % 4294967296 = (m1 : Int) := by rw [← IntKind.wrap_u32]; exact s1
    have v2 : ((m1 : Int) + (zc : Int)) % 4294967296 = (m2 : Int) := by rw [← IntKind.wrap_u32]; exact s2
    have v3 : ((m2 : Int) + (kk : Int)) % 4294967296 = (m3 : Int) := by rw [← IntKind.wrap_u32]; exact s3
    have v4 : ((m3 : Int) + (x : Int)) % 4294967296 = (T : Int) := by rw [← IntKind.wrap_u32]; exact s4
    have v5 : ((z0 : Int) + (zm : Int)) % 4294967296 = (U : Int) := by rw [← IntKind.wrap_u32]; exact s5
    have v6 : ((T : Int) + (U : Int)) % 4294967296 = (n0 : Int) := by rw [← IntKind.wrap_u32]; exact s6
    have v7 : ((a3 : Int) + (T : Int)) % 4294967296 = (n4 : Int) := by rw [← IntKind.wrap_u32]; exact s7
    have HN := hid hN
    have E2 := hid e2; have E13 := hid e13; have E22 := hid e22; have E6 := hid e6; have E11 := hid e11; have E25 := hid e25
    clear hT hU hN hTe hUe e6 e11 e25 e2 e13 e22 f1 f0 fc fm h45 hna h46 h01 h02 h12 hm1 hm2 hm3 hn0 hn4
    have R1 : Hid (∀ m : Nat, Calls Try.prog 63 #[.int .u32 (a4 : Nat), .int .i64 6] (w'.drewN m) fun e wx => e = .returned (.int .u32 (y6 : Nat)) ∧ wx = w'.drewN m) := hid (fun m => rright_i a4 6 6 y6 rfl j4 (by decide) E6.out m)
    have R2 : Hid (∀ m : Nat, Calls Try.prog 63 #[.int .u32 (a4 : Nat), .int .i64 11] (w'.drewN m) fun e wx => e = .returned (.int .u32 (y11 : Nat)) ∧ wx = w'.drewN m) := hid (fun m => rright_i a4 11 11 y11 rfl j4 (by decide) E11.out m)
    have R3 : Hid (∀ m : Nat, Calls Try.prog 63 #[.int .u32 (a4 : Nat), .int .i64 25] (w'.drewN m) fun e wx => e = .returned (.int .u32 (y25 : Nat)) ∧ wx = w'.drewN m) := hid (fun m => rright_i a4 25 25 y25 rfl j4 (by decide) E25.out m)
    go_wp2_with fail
    go_quiet ((first | (with_reducible exact Calls.quiet_of_same (R1.out _)) | (with_reducible exact Calls.quiet_of_same (R2.out _)) | (with_reducible exact Calls.quiet_of_same (R3.out _))))
    obtain ⟨wq, hwwq⟩ : ∃ wxx, w'.drewN nq = wxx := ⟨_, rfl⟩
    rw [hwwq]
    have c0' : wq.cell? ⟨gv, 0, none⟩ = some (.int .u32 (a0 : Nat)) := by rw [← hwwq]; exact c0
    have c1' : wq.cell? ⟨gv, 1, none⟩ = some (.int .u32 (a1 : Nat)) := by rw [← hwwq]; exact c1
    have c2' : wq.cell? ⟨gv, 2, none⟩ = some (.int .u32 (a2 : Nat)) := by rw [← hwwq]; exact c2
    have c3' : wq.cell? ⟨gv, 3, none⟩ = some (.int .u32 (a3 : Nat)) := by rw [← hwwq]; exact c3
    have c4' : wq.cell? ⟨gv, 4, none⟩ = some (.int .u32 (a4 : Nat)) := by rw [← hwwq]; exact c4
    have c5' : wq.cell? ⟨gv, 5, none⟩ = some (.int .u32 (a5 : Nat)) := by rw [← hwwq]; exact c5
    have c6' : wq.cell? ⟨gv, 6, none⟩ = some (.int .u32 (a6 : Nat)) := by rw [← hwwq]; exact c6
    have c7' : wq.cell? ⟨gv, 7, none⟩ = some (.int .u32 (a7 : Nat)) := by rw [← hwwq]; exact c7
    have ck' : wq.cell? ⟨bk, n, none⟩ = some (.int .u32 (kk : Nat)) := by rw [← hwwq]; exact ck
    have cw' : wq.cell? ⟨g, n, none⟩ = some (.int .u32 (x : Nat)) := by rw [← hwwq]; exact cw
    have HOwq : Hid (Only (fun _ => False) w' wq) := hid (by rw [← hwwq]; exact (only_drewN _ _))
    clear c0 c1 c2 c3 c4 c5 c6 c7 ck cw hwwq
    go_wp2_with fail
    go_quiet (fail)
    obtain ⟨wu, hwwu⟩ : ∃ wxx, wq.drewN nq = wxx := ⟨_, rfl⟩
    rw [hwwu]
    have c0'' : wu.cell? ⟨gv, 0, none⟩ = some (.int .u32 (a0 : Nat)) := by rw [← hwwu]; exact c0'
    have c1'' : wu.cell? ⟨gv, 1, none⟩ = some (.int .u32 (a1 : Nat)) := by rw [← hwwu]; exact c1'
    have c2'' : wu.cell? ⟨gv, 2, none⟩ = some (.int .u32 (a2 : Nat)) := by rw [← hwwu]; exact c2'
    have c3'' : wu.cell? ⟨gv, 3, none⟩ = some (.int .u32 (a3 : Nat)) := by rw [← hwwu]; exact c3'
    have c4'' : wu.cell? ⟨gv, 4, none⟩ = some (.int .u32 (a4 : Nat)) := by rw [← hwwu]; exact c4'
    have c5'' : wu.cell? ⟨gv, 5, none⟩ = some (.int .u32 (a5 : Nat)) := by rw [← hwwu]; exact c5'
    have c6'' : wu.cell? ⟨gv, 6, none⟩ = some (.int .u32 (a6 : Nat)) := by rw [← hwwu]; exact c6'
    have c7'' : wu.cell? ⟨gv, 7, none⟩ = some (.int .u32 (a7 : Nat)) := by rw [← hwwu]; exact c7'
    have ck'' : wu.cell? ⟨bk, n, none⟩ = some (.int .u32 (kk : Nat)) := by rw [← hwwu]; exact ck'
    have cw'' : wu.cell? ⟨g, n, none⟩ = some (.int .u32 (x : Nat)) := by rw [← hwwu]; exact cw'
    have HOwu : Hid (Only (fun _ => False) w' wu) := hid (by rw [← hwwu]; exact HOwq.out.trans (only_drewN _ _) (fun _ _ e => e))
    clear c0' c1' c2' c3' c4' c5' c6' c7' ck' cw' hwwu
    have Q1 : Hid (∀ m : Nat, Calls Try.prog 63 #[.int .u32 (a0 : Nat), .int .i64 2] (wu.drewN m) fun e wx => e = .returned (.int .u32 (y2 : Nat)) ∧ wx = wu.drewN m) := hid (fun m => rright_i a0 2 2 y2 rfl j0 (by decide) E2.out m)
    have Q2 : Hid (∀ m : Nat, Calls Try.prog 63 #[.int .u32 (a0 : Nat), .int .i64 13] (wu.drewN m) fun e wx => e = .returned (.int .u32 (y13 : Nat)) ∧ wx = wu.drewN m) := hid (fun m => rright_i a0 13 13 y13 rfl j0 (by decide) E13.out m)
    have Q3 : Hid (∀ m : Nat, Calls Try.prog 63 #[.int .u32 (a0 : Nat), .int .i64 22] (wu.drewN m) fun e wx => e = .returned (.int .u32 (y22 : Nat)) ∧ wx = wu.drewN m) := hid (fun m => rright_i a0 22 22 y22 rfl j0 (by decide) E22.out m)
    go_wp2_with fail
    go_quiet ((first | (with_reducible exact Calls.quiet_of_same (Q1.out _)) | (with_reducible exact Calls.quiet_of_same (Q2.out _)) | (with_reducible exact Calls.quiet_of_same (Q3.out _))))
    obtain ⟨wt, hwwt⟩ : ∃ wxx, wu.drewN nq = wxx := ⟨_, rfl⟩
    rw [hwwt]
    have c0''' : wt.cell? ⟨gv, 0, none⟩ = some (.int .u32 (a0 : Nat)) := by rw [← hwwt]; exact c0''
    have c1''' : wt.cell? ⟨gv, 1, none⟩ = some (.int .u32 (a1 : Nat)) := by rw [← hwwt]; exact c1''
    have c2''' : wt.cell? ⟨gv, 2, none⟩ = some (.int .u32 (a2 : Nat)) := by rw [← hwwt]; exact c2''
    have c3''' : wt.cell? ⟨gv, 3, none⟩ = some (.int .u32 (a3 : Nat)) := by rw [← hwwt]; exact c3''
    have c4''' : wt.cell? ⟨gv, 4, none⟩ = some (.int .u32 (a4 : Nat)) := by rw [← hwwt]; exact c4''
    have c5''' : wt.cell? ⟨gv, 5, none⟩ = some (.int .u32 (a5 : Nat)) := by rw [← hwwt]; exact c5''
    have c6''' : wt.cell? ⟨gv, 6, none⟩ = some (.int .u32 (a6 : Nat)) := by rw [← hwwt]; exact c6''
    have c7''' : wt.cell? ⟨gv, 7, none⟩ = some (.int .u32 (a7 : Nat)) := by rw [← hwwt]; exact c7''
    have ck''' : wt.cell? ⟨bk, n, none⟩ = some (.int .u32 (kk : Nat)) := by rw [← hwwt]; exact ck''
    have cw''' : wt.cell? ⟨g, n, none⟩ = some (.int .u32 (x : Nat)) := by rw [← hwwt]; exact cw''
    have HOwt : Hid (Only (fun _ => False) w' wt) := hid (by rw [← hwwt]; exact HOwu.out.trans (only_drewN _ _) (fun _ _ e => e))
    clear c0'' c1'' c2'' c3'' c4'' c5'' c6'' c7'' ck'' cw'' hwwt
    go_wp2_with fail
    go_quiet (fail)
    obtain ⟨wy, hwwy⟩ : ∃ wxx, wt.drewN nq = wxx := ⟨_, rfl⟩
    rw [hwwy]
    have c0'''' : wy.cell? ⟨gv, 0, none⟩ = some (.int .u32 (a0 : Nat)) := by rw [← hwwy]; exact c0'''
    have c1'''' : wy.cell? ⟨gv, 1, none⟩ = some (.int .u32 (a1 : Nat)) := by rw [← hwwy]; exact c1'''
    have c2'''' : wy.cell? ⟨gv, 2, none⟩ = some (.int .u32 (a2 : Nat)) := by rw [← hwwy]; exact c2'''
    have c3'''' : wy.cell? ⟨gv, 3, none⟩ = some (.int .u32 (a3 : Nat)) := by rw [← hwwy]; exact c3'''
    have c4'''' : wy.cell? ⟨gv, 4, none⟩ = some (.int .u32 (a4 : Nat)) := by rw [← hwwy]; exact c4'''
    have c5'''' : wy.cell? ⟨gv, 5, none⟩ = some (.int .u32 (a5 : Nat)) := by rw [← hwwy]; exact c5'''
    have c6'''' : wy.cell? ⟨gv, 6, none⟩ = some (.int .u32 (a6 : Nat)) := by rw [← hwwy]; exact c6'''
    have c7'''' : wy.cell? ⟨gv, 7, none⟩ = some (.int .u32 (a7 : Nat)) := by rw [← hwwy]; exact c7'''
    have ck'''' : wy.cell? ⟨bk, n, none⟩ = some (.int .u32 (kk : Nat)) := by rw [← hwwy]; exact ck'''
    have cw'''' : wy.cell? ⟨g, n, none⟩ = some (.int .u32 (x : Nat)) := by rw [← hwwy]; exact cw'''
    have HOwy : Hid (Only (fun _ => False) w' wy) := hid (by rw [← hwwy]; exact HOwt.out.trans (only_drewN _ _) (fun _ _ e => e))
    clear c0''' c1''' c2''' c3''' c4''' c5''' c6''' c7''' ck''' cw''' hwwy
    go_wp2_with fail
    go_still_tail 26, (by kernel_rfl)
    change wpList _ _ _ _ _ wy.drew
    obtain ⟨wd, hwd⟩ : ∃ wd, wy.drew = wd := ⟨_, rfl⟩
    have HOD : Hid (Only (fun _ => False) w' wd) := hid (by rw [← hwd]; exact HOwy.out.trans (Only.refl (fun _ => False) wy).drew (fun _ _ e => e))
    rw [hwd]
    clear hwd c0'''' c1'''' c2'''' c3'''' c4'''' c5'''' c6'''' c7'''' ck'''' cw''''
    go_wp2_with fail
    have hdz := HOD.out.size
    refine ⟨⟨n + 1, wd.heap.size, 8, by omega, ⟨rfl, rfl, rfl, rfl, rfl, rfl, rfl, by show Value.int .i64 _ = _; go_num, rfl, rfl⟩, ?_, by omega, Nat.le_refl _, (HO.out.trans HOD.out (fun _ _ e => e)).trans (only_new _ _) (fun _ _ e => e)⟩, by simp [intOf]; omega⟩
    intro i hi
    rw [HNX.out, HN.out]
    have hb := blk_new wd (.cells (stA ⟨n0, a0, a1, a2, n4, a4, a5, a6⟩) 101)
    have h8 := stA_get ⟨n0, a0, a1, a2, n4, a4, a5, a6⟩ hi
    rw [← cell_blk hb i] at h8
    exact h8
  · obtain rfl : n = 64 := by omega
    clear ho hQ hk hws hv
    go_wp2_with fail
    exact HQ.out _ _ _ _ ⟨rfl, rfl, rfl, rfl, rfl, rfl, rfl, rfl, rfl⟩ HV.out hgB hcap HO.out
set_option maxRecDepth 100000 in
set_option maxHeartbeats 3200000 in
theorem of14 {a : Act} {M : List UInt8} {A hb cap gv : Nat} {x2 x3 : Value} {SS V : ST} (hS : SS.Ok) (hV : V.Ok)
    (hv : ∀ W, Only (fun k => k = hb) w W → ∀ i, i < 8 → W.cell? ⟨gv, i, none⟩ = some (.int .u32 (V.l.getD i 0 : Nat)))
    (hh : w.heap[hb]? = some (.cells (stA SS) 101 (0, 0)))
    (hL : Lv 306 a [(0, .string (strOf M)), (2, x2), (3, x3), (7, .slice (some ⟨hb, 0, none⟩) 8 8), (8, .int .i64 (A : Nat)), (16, .slice (some ⟨gv, 0, none⟩) 8 cap), (22, .int .i64 0)])
    (hQ : ∀ a' w', Lv 306 a' [(0, .string (strOf M)), (2, x2), (3, x3), (7, .slice (some ⟨hb, 0, none⟩) 8 8), (8, .int .i64 (A : Nat))] → w'.heap[hb]? = some (.cells (stA (SS.add V)) 101 (0, 0)) → Only (fun k => k = hb) w w' → Q .normal a' w') :
    (ofB 14).wp Try.prog Q a w := by
  refine Code.wp_mono NoPanic.imp ?_
  conv => arg 2; whnf
  refine wp_block (wp_loop (fun a' w' => ∃ n : Nat, n ≤ 8 ∧ Lv 306 a' [(0, .string (strOf M)), (2, x2), (3, x3), (7, .slice (some ⟨hb, 0, none⟩) 8 8), (8, .int .i64 (A : Nat)), (16, .slice (some ⟨gv, 0, none⟩) 8 cap), (22, .int .i64 (n : Nat))] ∧ w'.heap[hb]? = some (.cells (addA SS V n) 101 (0, 0)) ∧ Only (fun k => k = hb) w w')
    (fun a' _ => 8 - (intOf (a'.tmps.getD 22 undef)).toNat) ⟨0, Nat.zero_le _, hL, by rw [addA_0]; exact hh, Only.refl _ _⟩ ?_)
  clear hL hh
  rintro a' w' ⟨n, hn, hI, hb0, ho⟩
  obtain ⟨v, rfl, hv⟩ := act_fn hI
  rw [lit306] at hI ⊢
  obtain ⟨g0, g2, g3, g7, g8, g16, g22, -⟩ := hI
  change v 0 = _ at g0
  change v 2 = _ at g2
  change v 3 = _ at g3
  change v 7 = _ at g7
  change v 8 = _ at g8
  change v 16 = _ at g16
  change v 22 = _ at g22
  rw [g0, g2, g3, g7, g8, g16, g22]
  clear g0 g2 g3 g7 g8 g16 g22 hv
  have HQ := hid hQ
  have HO := hid ho; have HBW := hid hb0
  by_cases hnl : n < 8
  · have hni : (n : Int) < 8 := by omega
    have hsl := hS.get hnl
    have hvl := hV.get hnl
    have hset := addA_set SS V hnl
    have cs : w'.cell? ⟨hb, n, none⟩ = some (.int .u32 (SS.l.getD n 0 : Nat)) := by rw [cell_blk hb0]; exact addA_get SS V hnl
    have cv := hv w' ho n hnl
    obtain ⟨sn, hsn⟩ : ∃ y, SS.l.getD n 0 = y := ⟨_, rfl⟩
    obtain ⟨vn, hvn⟩ : ∃ y, V.l.getD n 0 = y := ⟨_, rfl⟩
    rw [hsn] at cs hsl hset
    rw [hvn] at cv hvl hset
    have w1 : IntKind.u32.wrap ((sn : Int) + (vn : Int)) = (((sn + vn) % 4294967296 : Nat) : Int) := by rw [IntKind.wrap_u32]; omega
    have w2 : ((sn : Int) + (vn : Int)) % 4294967296 = (((sn + vn) % 4294967296 : Nat) : Int) := by omega
    obtain ⟨tn, htn⟩ : ∃ y, (sn + vn) % 4294967296 = y := ⟨_, rfl⟩
    rw [htn] at w1 w2 hset
    have HSET := hid hset
    have z1 : ∀ i, w'.frozen? ⟨hb, i, none⟩ = false := frozen_blk hb0
    have b1 := blk_lt hb0
    clear hb0 ho hset hsn hvn htn hv hQ
    go_wp2_with fail
    go_still_tail 10, (by kernel_rfl)
    change wpList _ _ _ _ _ w'.drew
    obtain ⟨wd, hwd⟩ : ∃ wd, w'.drew = wd := ⟨_, rfl⟩
    have g1 : wd.heap[hb]? = some (.cells (addA SS V n) 101 (0, 0)) := by rw [← hwd]; exact HBW.out
    have HOD : Hid (Only (fun k => k = hb) w wd) := hid (by rw [← hwd]; exact HO.out.trans ((Only.refl (fun _ => False) w').drew.mono (fun _ _ e => e.elim)) (fun _ _ e => e))
    have cs' : wd.cell? ⟨hb, n, none⟩ = some (.int .u32 (sn : Nat)) := by rw [← hwd]; exact cs
    have z1' : ∀ i, wd.frozen? ⟨hb, i, none⟩ = false := frozen_blk g1
    have b1' := blk_lt g1
    have HD1 := hid g1
    rw [hwd]
    clear g1 hwd cs cv z1 b1
    go_wp2_with fail
    have hs := blk_set HD1.out n (u32V tn)
    rw [HSET.out] at hs
    exact ⟨⟨n + 1, by omega, ⟨rfl, rfl, rfl, rfl, rfl, rfl, by show Value.int .i64 _ = _; go_num, rfl, rfl⟩, hs, HOD.out.trans (only_set _ _ _) (fun _ _ e => e)⟩, by simp [intOf]; omega⟩
  · obtain rfl : n = 8 := by omega
    clear hb0 ho hv hQ
    go_wp2_with fail
    exact HQ.out _ _ ⟨rfl, rfl, rfl, rfl, rfl, rfl, rfl⟩ HBW.out HO.out
end
end Go.Proofs.Ytnoopajedgllhaa
