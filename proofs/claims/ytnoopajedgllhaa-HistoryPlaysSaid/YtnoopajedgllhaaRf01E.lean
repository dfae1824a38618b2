/- foliotref01.Of. foliotref01.Of. -/
import Derived.Test.YtnoopajedgllhaaRf01C
namespace Go.Proofs.Ytnoopajedgllhaa
open Go.RowKit
section
variable {w : World} {Q : Exit → Act → World → Prop}
theorem cell_only {F : Nat → Prop} {w w' : World} (h : Only F w w') {b o : Nat} (hb : b < w.heap.size) (hF : ¬ F b) : w'.cell? ⟨b, o, none⟩ = w.cell? ⟨b, o, none⟩ := by simp [World.cell?, h.block b hb hF]
theorem blk_8 {S : ST} {W : World} {hb : Nat} {T : TypeId} {fr : Nat × Nat} (h : W.heap[hb]? = some (.cells (stA S) T fr)) : ∀ i, i < 8 → W.cell? ⟨hb, i, none⟩ = some (.int .u32 (S.l.getD i 0 : Nat)) := fun i hi => by
  rw [cell_blk h]; exact stA_get S hi
theorem blk_kK {W : World} {bk : Nat} {T : TypeId} {fr : Nat × Nat} (h : W.heap[bk]? = some (.cells (kK.map u32V).toArray T fr)) : ∀ i, i < 64 → W.cell? ⟨bk, i, none⟩ = some (.int .u32 (kK.getD i 0 : Nat)) := fun i hi => by
  have hl : kK.length = 64 := rfl
  rw [cell_blk h, List.getElem?_toArray, List.getElem?_map, List.getElem?_eq_getElem (by omega), List.getD_eq_getElem?_getD, List.getElem?_eq_getElem (by omega)]; rfl
theorem gr_cells {W : World} {T : TypeId} {g cp : Nat} {U : List Nat} (h : Gr W T 1 (some ⟨g, 0, none⟩) 64 cp (U.map u32V)) : ∀ i, i < 64 → W.cell? ⟨g, i, none⟩ = some (.int .u32 (U.getD i 0 : Nat)) := fun i hi => by
  obtain ⟨g', hg', hc⟩ := h.cells (by decide)
  obtain rfl : g = g' := by simpa using hg'
  have hl := h.1
  rw [List.length_map] at hl
  exact hc i _ (by rw [List.getElem?_map, List.getElem?_eq_getElem (by omega), List.getD_eq_getElem?_getD, List.getElem?_eq_getElem (by omega)]; rfl)
set_option maxRecDepth 100000 in
set_option maxHeartbeats 3200000 in
theorem of4 {a : Act} {M : List UInt8} {hb bk B : Nat} {x2 : Value} (hM : M.length = 64 * B) (hMl : M.length ≤ 950000000) (hne : bk ≠ hb)
    (hk : w.heap[bk]? = some (.cells (kK.map u32V).toArray 101 (0, 0)))
    (hh : w.heap[hb]? = some (.cells (stA st0) 101 (0, 0)))
    (hL : Lv 306 a [(0, .string (strOf M)), (2, x2), (3, .slice (some ⟨bk, 0, none⟩) 64 64), (7, .slice (some ⟨hb, 0, none⟩) 8 8), (8, .int .i64 0)])
    (hQ : ∀ a' w', Lv 306 a' [(2, x2), (7, .slice (some ⟨hb, 0, none⟩) 8 8)] → w'.heap[hb]? = some (.cells (stA (blks st0 M B)) 101 (0, 0)) → Only (fun k => k = hb) w w' → Q .normal a' w') :
    (ofB 4).wp Try.prog Q a w := by
  refine Code.wp_mono NoPanic.imp ?_
  conv => arg 2; whnf
  refine wp_block (wp_loop (fun a' w' => ∃ n : Nat, n ≤ B ∧ Lv 306 a' [(0, .string (strOf M)), (2, x2), (3, .slice (some ⟨bk, 0, none⟩) 64 64), (7, .slice (some ⟨hb, 0, none⟩) 8 8), (8, .int .i64 (64 * n : Nat))] ∧ w'.heap[hb]? = some (.cells (stA (blks st0 M n)) 101 (0, 0)) ∧ Only (fun k => k = hb) w w')
    (fun a' _ => 64 * B + 64 - (intOf (a'.tmps.getD 8 undef)).toNat) ⟨0, Nat.zero_le _, hL, hh, Only.refl _ _⟩ ?_)
  clear hL hh
  rintro a' w' ⟨n, hn, hI, hb0, ho⟩
  obtain ⟨v, rfl, hv⟩ := act_fn hI
  rw [lit306] at hI ⊢
  obtain ⟨g0, g2, g3, g7, g8, -⟩ := hI
  change v 0 = _ at g0
  change v 2 = _ at g2
  change v 3 = _ at g3
  change v 7 = _ at g7
  change v 8 = _ at g8
  rw [g0, g2, g3, g7, g8]
  clear g0 g2 g3 g7 g8 hv
  have HQ := hid hQ
  have HO := hid ho; have HBW := hid hb0; have HK := hid (blk_only hk ho (fun e => hne e))
  have hMs : (strOf M).size = M.length := rfl
  obtain ⟨A, hA⟩ : ∃ A : Nat, 64 * n = A := ⟨_, rfl⟩
  rw [hA]
  by_cases hnl : n < B
  · have hni : (A : Int) < M.length := by omega
    have hAl : A + 64 ≤ M.length := by omega
    have hMi : (M.length : Int) ≤ 950000000 := by omega
    have hok := blks_ok M st0_ok n
    obtain ⟨SS, hSS⟩ : ∃ x, blks st0 M n = x := ⟨_, rfl⟩
    have HNX : Hid (blks st0 M (n + 1) = SS.add (rndN (wds ((M.drop A).take 64)) SS 64)) := hid (by rw [blks, hSS, blk, hA])
    rw [hSS] at hok HBW
    have HA := hid hA
    clear hb0 ho hSS hk hA hQ hM
    have hbl := blk_lt HBW.out
    go_upto_block 6 with fail
    refine of6 (a := _) (M := M) (A := A) (x2 := x2) (x3 := .slice (some ⟨bk, 0, none⟩) 64 64) (x7 := .slice (some ⟨hb, 0, none⟩) 8 8) hAl hMl ⟨rfl, rfl, rfl, rfl, rfl, rfl, rfl, rfl, rfl⟩ ?_
    intro a1 w1 cp1 ao1 hI hgr hao ho1
    obtain ⟨v, rfl, hv⟩ := act_fn hI
    rw [lit306] at hI ⊢
    obtain ⟨g0, g2, g3, g7, g8, g9, -⟩ := hI
    change v 0 = _ at g0
    change v 2 = _ at g2
    change v 3 = _ at g3
    change v 7 = _ at g7
    change v 8 = _ at g8
    change v 9 = _ at g9
    rw [g0, g2, g3, g7, g8, g9]
    clear g0 g2 g3 g7 g8 g9 hv
    obtain ⟨g, rfl, -⟩ := hgr.cells (by decide)
    have h0l := wds0_len ((M.drop A).take 64) 16
    have h032 := wds0_32 ((M.drop A).take 64) 16
    have HWD : Hid (wds ((M.drop A).take 64) = wdsN (wds0 ((M.drop A).take 64) 16) 48) := hid rfl
    obtain ⟨W0, hW0⟩ : ∃ x, wds0 ((M.drop A).take 64) 16 = x := ⟨_, rfl⟩
    rw [hW0] at hgr h0l h032 HWD
    have HGR := hid hgr; have HAO := hid (hao g rfl); have HO1 := hid ho1
    clear hgr hao ho1 hW0
    go_upto_block 10 with fail
    refine of10 (a := _) (M := M) (A := A) (g := g) (cp := cp1) (x2 := x2) (x3 := .slice (some ⟨bk, 0, none⟩) 64 64) (x7 := .slice (some ⟨hb, 0, none⟩) 8 8) (W0 := W0) (wz := w') h0l h032 HGR.out HAO.out HO1.out ⟨rfl, rfl, rfl, rfl, rfl, rfl, rfl, rfl, rfl⟩ ?_
    intro a2 w2 cp2 g2 hI hgr hg2 ho2
    obtain ⟨v, rfl, hv⟩ := act_fn hI
    rw [lit306] at hI ⊢
    obtain ⟨g0, g2, g3, g7, g8, g9, -⟩ := hI
    change v 0 = _ at g0
    change v 2 = _ at g2
    change v 3 = _ at g3
    change v 7 = _ at g7
    change v 8 = _ at g8
    change v 9 = _ at g9
    rw [g0, g2, g3, g7, g8, g9]
    clear g0 g2 g3 g7 g8 g9 hv
    have hcp2 := hgr.2.1
    have hW32 : All32 (wdsN W0 48) := wdsN_32 h032 48
    rw [← HWD.out] at hgr hW32
    obtain ⟨WS, hWS⟩ : ∃ x, wds ((M.drop A).take 64) = x := ⟨_, rfl⟩
    rw [hWS] at hgr hW32 HNX
    have HB2 := hid (blk_only HBW.out ho2 (fun e => e)); have HK2 := hid (blk_only HK.out ho2 (fun e => e)); have HO2 := hid ho2; have HGR2 := hid hgr
    have hz2 := ho2.size
    have HSG : Hid (SrcG (w2.alloc (.cells #[] 101)) (some ⟨hb, 0, none⟩) 8 1 (SS.l.map u32V)) := hid ⟨rfl, fun _ => ⟨_, rfl, fun j u hj => by
      rw [addr_add, Nat.zero_add, cell_blk (blk_alloc HB2.out)]; simpa [stA, ST.l] using hj⟩, u32_ones _⟩
    have HGE : Hid (Gr (w2.alloc (.cells #[] 101)) 101 1 (some ⟨w2.heap.size, 0, none⟩) 0 0 []) := hid ⟨rfl, Nat.le_refl _, .inr ⟨_, rfl, Row.new w2 [] 101⟩⟩
    clear hgr ho2 hWS HWD h032 h0l HGR HAO HO1
    go_upto_block 12 with ((guard_target =~ wpList _ _ _ (⟨some 151, _, _, _, _, _⟩ :: _) _ _); refine wpList_gr (o := ⟨some 151, _, _, _, _, _⟩) rfl elU (.tmp 149) (.tmp 150) rfl HGE.out rfl (some ⟨hb, 0, none⟩) 8 8 rfl (SS.l.map u32V) HSG.out (by omega) (by omega) ?_; intro ao3 cp3 w3 hg3 ha3 ho3; rw [Nat.zero_add, List.nil_append] at hg3; have HG3 := hid hg3; have HA3 := hid ha3; have HO3 := hid ((only_new w2 _).trans ho3 (fun k hk e => by simp only [Option.some.injEq, Addr.mk.injEq, and_true] at e; omega) : Only (fun _ => False) w2 w3); clear hg3 ha3 ho3)
    obtain ⟨gv, hgv, hgc⟩ := HG3.out.cells (by decide)
    obtain rfl := hgv
    have hgvB : w2.heap.size ≤ gv := by
      rcases HA3.out with e | e <;> simp only [Option.some.injEq, Addr.mk.injEq, and_true] at e <;> first | omega | (simp at e; omega)
    have hcp3 := HG3.out.2.1
    have hz3 := HO3.out.size
    have hv3 : ∀ i, i < 8 → w3.cell? ⟨gv, i, none⟩ = some (.int .u32 (SS.l.getD i 0 : Nat)) := fun i hi => hgc i _ (by rw [List.getElem?_map, List.getElem?_eq_getElem (by exact hi), List.getD_eq_getElem?_getD, List.getElem?_eq_getElem (by exact hi)]; rfl)
    refine of12 (a := _) (M := M) (A := A) (g := g2) (bk := bk) (cp := cp2) (cap := cp3) (gv := gv) (B := w2.heap.size) (x2 := x2) (x7 := .slice (some ⟨hb, 0, none⟩) 8 8) (WS := WS) (SS := SS) hW32 hok hz3 hgvB
      (fun W h => blk_kK (blk_only HK2.out (HO3.out.trans h (fun _ _ e => e)) (fun e => e)))
      (fun W h => gr_cells (HGR2.out.only (HO3.out.trans h (fun _ _ e => e)) (fun _ _ e => e))) hv3 hcp3 ⟨rfl, rfl, rfl, rfl, rfl, rfl, rfl, rfl, rfl, rfl⟩ ?_
    intro a3 w4 cap4 gv4 hI hv4 hgB4 hcap4 ho4
    obtain ⟨v, rfl, hv⟩ := act_fn hI
    rw [lit306] at hI ⊢
    obtain ⟨g0, g2, g3, g7, g8, g9, g16, -⟩ := hI
    change v 0 = _ at g0
    change v 2 = _ at g2
    change v 3 = _ at g3
    change v 7 = _ at g7
    change v 8 = _ at g8
    change v 9 = _ at g9
    change v 16 = _ at g16
    rw [g0, g2, g3, g7, g8, g9, g16]
    clear g0 g2 g3 g7 g8 g9 g16 hv
    have HB4 := hid (blk_only HB2.out (HO3.out.trans ho4 (fun _ _ e => e)) (fun e => e))
    have HO4 := hid (HO3.out.trans ho4 (fun _ _ e => e))
    have hv4l : gv4 < w4.heap.size := World.block_lt_of_cell? w4 _ (hv4 0 (by decide))
    have HV4 : Hid (∀ W, Only (fun k => k = hb) w4 W → ∀ i, i < 8 → W.cell? ⟨gv4, i, none⟩ = some (.int .u32 ((rndN WS SS 64).l.getD i 0 : Nat))) := hid fun W h i hi => by rw [cell_only h hv4l (by show ¬ gv4 = hb; omega)]; exact hv4 i hi
    have hrk := rndN_ok WS hok 64
    obtain ⟨V, hV⟩ : ∃ x, rndN WS SS 64 = x := ⟨_, rfl⟩
    rw [hV] at HV4 hrk HNX
    clear hv3 hgc hv4 hV ho4
    go_upto_block 14 with fail
    refine of14 (a := _) (M := M) (A := A) (hb := hb) (cap := cap4) (gv := gv4) (x2 := x2) (x3 := .slice (some ⟨bk, 0, none⟩) 64 64) (SS := SS) (V := V) hok hrk HV4.out HB4.out ⟨rfl, rfl, rfl, rfl, rfl, rfl, rfl, rfl, rfl⟩ ?_
    intro a4 w5 hI hb5 ho5
    obtain ⟨v, rfl, hv⟩ := act_fn hI
    rw [lit306] at hI ⊢
    obtain ⟨g0, g2, g3, g7, g8, -⟩ := hI
    change v 0 = _ at g0
    change v 2 = _ at g2
    change v 3 = _ at g3
    change v 7 = _ at g7
    change v 8 = _ at g8
    rw [g0, g2, g3, g7, g8]
    clear g0 g2 g3 g7 g8 hv
    have HB5 := hid hb5
    have HO5 : Hid (Only (fun k => k = hb) w w5) := hid ((HO.out.trans ((HO2.out.trans HO4.out (fun _ _ e => e)).mono (fun _ _ e => e.elim)) (fun _ _ e => e)).trans ho5 (fun _ _ e => e))
    clear hb5 ho5
    go_wp2_with fail
    have hAn := HA.out
    exact ⟨⟨n + 1, by omega, ⟨rfl, rfl, rfl, rfl, by show Value.int .i64 _ = _; go_num, rfl, rfl⟩, by rw [HNX.out]; exact HB5.out, HO5.out⟩, by simp [intOf]; omega⟩
  · obtain rfl : n = B := by omega
    have hni : ¬ (A : Int) < M.length := by omega
    clear hb0 ho hk hQ
    go_wp2_with fail
    exact HQ.out _ _ ⟨rfl, rfl, rfl, rfl⟩ HBW.out HO.out
end
end Go.Proofs.Ytnoopajedgllhaa
namespace Go.Proofs.Ytnoopajedgllhaa
open Go.RowKit
section
variable {w : World} {Q : Exit → Act → World → Prop}
/-- The bytes with a one and noughts behind them. -/
def padL (l : List UInt8) (k : Nat) : List UInt8 := l ++ 128 :: List.replicate k 0
theorem strOf_cat (a b : List UInt8) : strOf a ++ strOf b = strOf (a ++ b) := by apply ByteArray.ext; simp [strOf]
theorem padL_s (l : List UInt8) (k : Nat) : padL l (k + 1) = padL l k ++ [0] := by unfold padL; rw [List.replicate_succ']; simp
theorem padL_len (l : List UInt8) (k : Nat) : (padL l k).length = l.length + 1 + k := by unfold padL; simp; omega
theorem padL_end {l : List UInt8} {k : Nat} (hk : k ≤ padZ l.length) (h : (padL l k).length % 64 = 56) : k = padZ l.length := by rw [padL_len] at h; unfold padZ at *; omega
theorem padL_go {l : List UInt8} {k : Nat} (hk : k ≤ padZ l.length) (h : (padL l k).length % 64 ≠ 56) : k + 1 ≤ padZ l.length := by
  rw [padL_len] at h; unfold padZ at *; omega
theorem beN_s (j x : Nat) : beN (j + 1) x = UInt8.ofNat (x / 256 ^ j) :: beN j x := by
  induction j generalizing x with
  | zero => simp [beN]
  | succ j ih => rw [beN, ih, beN]; simp [Nat.div_div_eq_div_mul, Nat.pow_succ, Nat.mul_comm]
theorem pad_msg (l : List UInt8) (h : l.length ≤ 900000000) : padL l (padZ l.length) ++ beN 8 (8 * l.length) = l ++ tailB l.length := by
  unfold padL tailB
  rw [Nat.mod_eq_of_lt (by omega)]; simp
/-- The out bytes when i words are written whole, and k bytes of the next, from its end on. -/
def outA (R : List UInt8) (i k : Nat) : Array Value := ((List.range 32).map fun p => .int .u8 (if p < 4 * i ∨ (4 * i + 4 - k ≤ p ∧ p < 4 * i + 4) then (R.getD p 0).toNat else 0)).toArray
theorem outA_size (R : List UInt8) (i k : Nat) : (outA R i k).size = 32 := by simp [outA]
theorem outA_get (R : List UInt8) (i k p : Nat) (h : p < 32) : (outA R i k)[p]? = some (.int .u8 (if p < 4 * i ∨ (4 * i + 4 - k ≤ p ∧ p < 4 * i + 4) then (R.getD p 0).toNat else 0)) := by
  unfold outA
  rw [List.getElem?_toArray, List.getElem?_map, List.getElem?_range h]; rfl
theorem outA_set (R : List UInt8) {i k : Nat} (hi : i < 8) (hk : k < 4) : (outA R i k).setIfInBounds (4 * i + 3 - k) (.int .u8 ((R.getD (4 * i + 3 - k) 0).toNat)) = outA R i (k + 1) := by
  apply Array.ext_getElem?
  intro p
  rw [Array.getElem?_setIfInBounds]
  rcases Nat.lt_or_ge p 32 with hp | hp
  · rw [outA_get R i k p hp, outA_get R i (k + 1) p hp, outA_size]
    by_cases e : 4 * i + 3 - k = p
    · subst e
      rw [if_pos rfl, if_pos hp, if_pos (by omega)]
    · rw [if_neg e]
      by_cases h1 : p < 4 * i ∨ (4 * i + 4 - k ≤ p ∧ p < 4 * i + 4)
      · rw [if_pos h1, if_pos (by omega)]
      · rw [if_neg h1, if_neg (by omega)]
  · rw [Array.getElem?_eq_none (by rw [outA_size]; exact hp), Array.getElem?_eq_none (by rw [outA_size]; exact hp)]
    by_cases e : 4 * i + 3 - k = p
    · omega
    · rw [if_neg e]
theorem outA_next (R : List UInt8) (i : Nat) : outA R i 4 = outA R (i + 1) 0 := by
  unfold outA
  congr 1
  apply List.map_congr_left
  intro p _
  by_cases h1 : p < 4 * i ∨ (4 * i + 4 - 4 ≤ p ∧ p < 4 * i + 4)
  · rw [if_pos h1, if_pos (by omega)]
  · rw [if_neg h1, if_neg (by omega)]
theorem outA_0 (R : List UInt8) : outA R 0 0 = byA st0 0 := by
  have h : ∀ p, (if p < 4 * 0 ∨ (4 * 0 + 4 - 0 ≤ p ∧ p < 4 * 0 + 4) then ((R.getD p 0).toNat : Int) else 0) = 0 := fun p => by rw [if_neg (by omega)]
  unfold outA
  simp only [h]
  rfl
theorem outA_8 (S : ST) : outA S.bytes 8 0 = (bytesV S.bytes).toArray := by
  obtain ⟨a, b, c, d, e, f, g, h⟩ := S
  rfl
theorem bytes_get (S : ST) {i k : Nat} (hi : i < 8) (hk : k < 4) : S.bytes.getD (4 * i + 3 - k) 0 = UInt8.ofNat (S.l.getD i 0 / 256 ^ k) := by
  obtain ⟨a, b, c, d, e, f, g, h⟩ := S
  have h4 : k = 0 ∨ k = 1 ∨ k = 2 ∨ k = 3 := by omega
  rcases j8 hi with rfl | rfl | rfl | rfl | rfl | rfl | rfl | rfl <;> rcases h4 with rfl | rfl | rfl | rfl <;> first | rfl | (simp [ST.bytes, ST.l, be4])
set_option maxRecDepth 100000 in
set_option maxHeartbeats 3200000 in
theorem of18 {a : Act} {i hb ob : Nat} {x2 : Value} {S : ST} (hS : S.Ok) (hi : i < 8) (ho : w.heap[ob]? = some (.cells (outA S.bytes i 0) 28 (0, 0)))
    (hL : Lv 306 a [(2, x2), (7, .slice (some ⟨hb, 0, none⟩) 8 8), (23, .pointer (some ⟨ob, 0, none⟩)), (24, .int .i64 (i : Nat)), (25, .int .u32 (S.l.getD i 0 : Nat)), (26, .int .i64 3)])
    (hQ : ∀ a' w', Lv 306 a' [(2, x2), (7, .slice (some ⟨hb, 0, none⟩) 8 8), (23, .pointer (some ⟨ob, 0, none⟩)), (24, .int .i64 (i : Nat))] → w'.heap[ob]? = some (.cells (outA S.bytes (i + 1) 0) 28 (0, 0)) → Only (fun k => k = ob) w w' → Q .normal a' w') :
    (ofB 18).wp Try.prog Q a w := by
  refine Code.wp_mono NoPanic.imp ?_
  conv => arg 2; whnf
  refine wp_block (wp_loop (fun a' w' => ∃ k : Nat, k ≤ 4 ∧ Lv 306 a' [(2, x2), (7, .slice (some ⟨hb, 0, none⟩) 8 8), (23, .pointer (some ⟨ob, 0, none⟩)), (24, .int .i64 (i : Nat)), (25, .int .u32 (S.l.getD i 0 / 256 ^ k : Nat)), (26, .int .i64 (3 - (k : Nat)))] ∧ w'.heap[ob]? = some (.cells (outA S.bytes i k) 28 (0, 0)) ∧ Only (fun k => k = ob) w w')
    (fun a' _ => (1 + intOf (a'.tmps.getD 26 undef)).toNat) ⟨0, Nat.zero_le _, by simpa using hL, ho, Only.refl _ _⟩ ?_)
  clear hL ho
  rintro a' w' ⟨k, hk, hI, hb0, ho⟩
  obtain ⟨v, rfl, hv⟩ := act_fn hI
  rw [lit306] at hI ⊢
  obtain ⟨g2, g7, g23, g24, g25, g26, -⟩ := hI
  change v 2 = _ at g2
  change v 7 = _ at g7
  change v 23 = _ at g23
  change v 24 = _ at g24
  change v 25 = _ at g25
  change v 26 = _ at g26
  rw [g2, g7, g23, g24, g25, g26]
  clear g2 g7 g23 g24 g25 g26 hv
  have HQ := hid hQ
  have HO := hid ho; have HB := hid hb0
  by_cases hk4 : k < 4
  · have hki : (3 - (k : Int)) ≥ 0 := by omega
    have hxl : S.l.getD i 0 / 256 ^ k < 4294967296 := Nat.lt_of_le_of_lt (Nat.div_le_self _ _) (hS.get hi)
    have hset := outA_set S.bytes hi hk4
    have hbg := bytes_get S hi hk4
    have hdv : S.l.getD i 0 / 256 ^ (k + 1) = S.l.getD i 0 / 256 ^ k / 256 := by rw [Nat.pow_succ, Nat.div_div_eq_div_mul]
    obtain ⟨y, hy⟩ : ∃ y, S.l.getD i 0 / 256 ^ k = y := ⟨_, rfl⟩
    rw [hy] at hxl hbg hdv
    rw [hbg] at hset
    rw [hy]
    have hyt : ((UInt8.ofNat y).toNat : Int) = (y : Int) % 256 := by rw [UInt8.toNat_ofNat']; omega
    have hset' : (outA S.bytes i k).setIfInBounds (4 * i + 3 - k) (.int .u8 ((y : Int) % 256)) = outA S.bytes i (k + 1) := by rw [← hyt]; exact hset
    have c0 : w'.cell? ⟨ob, 4 * i + 3 - k, none⟩ = some (.int .u8 0) := by
      rw [cell_blk hb0, outA_get _ _ _ _ (by omega), if_neg (by omega)]
    have z0 : ∀ i, w'.frozen? ⟨ob, i, none⟩ = false := frozen_blk hb0
    have b0 := blk_lt hb0
    have p1 : (4 * (i : Int) + (3 - (k : Int))).toNat = 4 * i + 3 - k := by omega
    have p2 : (0 : Int) ≤ 4 * (i : Int) + (3 - (k : Int)) := by omega
    have p3 : 4 * (i : Int) + (3 - (k : Int)) < 32 := by omega
    have p4 : (i : Int) < 8 := by omega
    have p5 : ((y : Int) % 256) % 256 = (y : Int) % 256 := by omega
    have HS := hid hset'; have HD := hid hdv
    clear hset hset' hbg hdv hy hyt hb0 ho hQ
    go_wp2_with fail
    have hs := blk_set HB.out (4 * i + 3 - k) (.int .u8 ((y : Int) % 256))
    rw [HS.out] at hs
    refine ⟨⟨k + 1, by omega, ⟨rfl, rfl, rfl, rfl, ?_, by show Value.int .i64 _ = _; congr 1; omega, rfl, rfl⟩, hs, HO.out.trans (only_set _ _ _) (fun _ _ e => e)⟩, by simp [intOf]; omega⟩
    show Value.int .u32 _ = _
    rw [HD.out]; go_num
  · obtain rfl : k = 4 := by omega
    clear hb0 ho hQ
    go_wp2_with fail
    refine HQ.out _ _ ⟨rfl, rfl, rfl, rfl, rfl, rfl⟩ (by rw [← outA_next]; exact HB.out) HO.out
set_option maxRecDepth 100000 in
set_option maxHeartbeats 3200000 in
theorem of16 {a : Act} {hb ob : Nat} {x2 : Value} {S : ST} (hS : S.Ok) (hne : hb ≠ ob) (hh : w.heap[hb]? = some (.cells (stA S) 101 (0, 0))) (ho : w.heap[ob]? = some (.cells (outA S.bytes 0 0) 28 (0, 0)))
    (hL : Lv 306 a [(2, x2), (7, .slice (some ⟨hb, 0, none⟩) 8 8), (23, .pointer (some ⟨ob, 0, none⟩)), (24, .int .i64 0)])
    (hQ : ∀ a' w', Lv 306 a' [(2, x2), (23, .pointer (some ⟨ob, 0, none⟩))] → w'.heap[ob]? = some (.cells (outA S.bytes 8 0) 28 (0, 0)) → Only (fun k => k = ob) w w' → Q .normal a' w') :
    (ofB 16).wp Try.prog Q a w := by
  refine Code.wp_mono NoPanic.imp ?_
  conv => arg 2; whnf
  refine wp_block (wp_loop (fun a' w' => ∃ i : Nat, i ≤ 8 ∧ Lv 306 a' [(2, x2), (7, .slice (some ⟨hb, 0, none⟩) 8 8), (23, .pointer (some ⟨ob, 0, none⟩)), (24, .int .i64 (i : Nat))] ∧ w'.heap[ob]? = some (.cells (outA S.bytes i 0) 28 (0, 0)) ∧ Only (fun k => k = ob) w w')
    (fun a' _ => 8 - (intOf (a'.tmps.getD 24 undef)).toNat) ⟨0, Nat.zero_le _, hL, ho, Only.refl _ _⟩ ?_)
  clear hL ho
  rintro a' w' ⟨i, hi, hI, hb0, ho⟩
  obtain ⟨v, rfl, hv⟩ := act_fn hI
  rw [lit306] at hI ⊢
  obtain ⟨g2, g7, g23, g24, -⟩ := hI
  change v 2 = _ at g2
  change v 7 = _ at g7
  change v 23 = _ at g23
  change v 24 = _ at g24
  rw [g2, g7, g23, g24]
  clear g2 g7 g23 g24 hv
  have HQ := hid hQ
  have HO := hid ho; have HB := hid hb0
  by_cases hi8 : i < 8
  · have hii : (i : Int) < 8 := by omega
    have hh2 := blk_only hh ho (fun e => hne e)
    have c0 := blk_8 hh2 i hi8
    have z0 := hS.get hi8
    have b0 := blk_lt hh2
    clear hb0 ho hQ hh hh2
    go_upto_block 18 with fail
    refine of18 (a := _) (i := i) (hb := hb) (ob := ob) (x2 := x2) (S := S) hS hi8 HB.out ⟨rfl, rfl, rfl, rfl, rfl, rfl, rfl, rfl⟩ ?_
    intro a1 w1 hI hb1 ho1
    obtain ⟨v, rfl, hv⟩ := act_fn hI
    rw [lit306] at hI ⊢
    obtain ⟨g2, g7, g23, g24, -⟩ := hI
    change v 2 = _ at g2
    change v 7 = _ at g7
    change v 23 = _ at g23
    change v 24 = _ at g24
    rw [g2, g7, g23, g24]
    clear g2 g7 g23 g24 hv
    have HB1 := hid hb1; have HO1 := hid (HO.out.trans ho1 (fun _ _ e => e))
    clear hb1 ho1
    go_wp2_with fail
    exact ⟨⟨i + 1, by omega, ⟨rfl, rfl, rfl, by show Value.int .i64 _ = _; go_num, rfl, rfl⟩, HB1.out, HO1.out⟩, by simp [intOf]; omega⟩
  · obtain rfl : i = 8 := by omega
    clear hb0 ho hQ hh
    go_wp2_with fail
    refine HQ.out _ _ ⟨rfl, rfl, rfl, rfl⟩ HB.out HO.out
set_option maxRecDepth 100000 in
set_option maxHeartbeats 3200000 in
theorem of0 {a : Act} {l : List UInt8} {x2 x3 x4 : Value} (hl : l.length ≤ 900000000)
    (hL : Lv 306 a [(0, .string (strOf (padL l 0))), (2, x2), (3, x3), (4, x4)])
    (hQ : ∀ a', Lv 306 a' [(0, .string (strOf (padL l (padZ l.length)))), (2, x2), (3, x3), (4, x4)] → Q .normal a' w) :
    (ofB 0).wp Try.prog Q a w := by
  refine Code.wp_mono NoPanic.imp ?_
  conv => arg 2; whnf
  refine wp_block (wp_loop (fun a' w' => w' = w ∧ ∃ k : Nat, k ≤ padZ l.length ∧ Lv 306 a' [(0, .string (strOf (padL l k))), (2, x2), (3, x3), (4, x4)])
    (fun a' _ => 2 * l.length + 200 - sizeV (a'.tmps.getD 0 undef)) ⟨rfl, 0, Nat.zero_le _, hL⟩ ?_)
  clear hL
  rintro a' w' ⟨rfl, k, hk, hI⟩
  obtain ⟨v, rfl, hv⟩ := act_fn hI
  rw [lit306] at hI ⊢
  obtain ⟨g0, g2, g3, g4, -⟩ := hI
  change v 0 = _ at g0
  change v 2 = _ at g2
  change v 3 = _ at g3
  change v 4 = _ at g4
  rw [g0, g2, g3, g4]
  clear g0 g2 g3 g4 hv
  have HQ := hid hQ
  have hpz : (strOf (padL l k)).size = (padL l k).length := rfl
  have hpl := padL_len l k
  have hpk : padZ l.length < 64 := Nat.mod_lt _ (by decide)
  by_cases hc : (padL l k).length % 64 = 56
  · obtain rfl := padL_end hk hc
    have hci : ((padL l (padZ l.length)).length : Int) % 64 = 56 := by omega
    clear hQ
    go_wp2_with fail
    exact HQ.out _ ⟨rfl, rfl, rfl, rfl, rfl, rfl⟩
  · have hk2 := padL_go hk hc
    have hci : ¬ ((padL l k).length : Int) % 64 = 56 := by omega
    have hp1 : strOf (padL l k) ++ (⟨#[0]⟩ : ByteArray) = strOf (padL l (k + 1)) := by rw [padL_s]; exact strOf_cat _ [0]
    have hpl2 := padL_len l (k + 1)
    have hpz2 : (strOf (padL l (k + 1))).size = (padL l (k + 1)).length := rfl
    clear hQ
    go_wp2_with fail
    exact ⟨⟨trivial, k + 1, hk2, rfl, rfl, rfl, rfl, rfl, rfl⟩, by show 2 * l.length + 200 - (strOf (padL l (k + 1))).size < 2 * l.length + 200 - (strOf (padL l k)).size; omega⟩
set_option maxRecDepth 100000 in
set_option maxHeartbeats 3200000 in
theorem of2 {a : Act} {N : Nat} {x0 x2 x3 : Value} (hN : N < 18446744073709551616)
    (hL : Lv 306 a [(0, x0), (2, x2), (3, x3), (4, .int .u64 (N : Nat)), (5, .string (strOf [])), (6, .int .i64 0)])
    (hQ : ∀ a' w', Lv 306 a' [(0, x0), (2, x2), (3, x3), (5, .string (strOf (beN 8 N)))] → Only (fun _ => False) w w' → Q .normal a' w') :
    (ofB 2).wp Try.prog Q a w := by
  refine Code.wp_mono NoPanic.imp ?_
  conv => arg 2; whnf
  refine wp_block (wp_loop (fun a' w' => ∃ j : Nat, j ≤ 8 ∧ Lv 306 a' [(0, x0), (2, x2), (3, x3), (4, .int .u64 ((N / 256 ^ j : Nat))), (5, .string (strOf (beN j N))), (6, .int .i64 (j : Nat))] ∧ Only (fun _ => False) w w')
    (fun a' _ => 8 - (intOf (a'.tmps.getD 6 undef)).toNat) ⟨0, Nat.zero_le _, by simpa [beN] using hL, Only.refl _ _⟩ ?_)
  clear hL
  rintro a' wr ⟨j, hj, hI, hoy⟩
  obtain ⟨v, rfl, hv⟩ := act_fn hI
  rw [lit306] at hI ⊢
  obtain ⟨g0, g2, g3, g4, g5, g6, -⟩ := hI
  change v 0 = _ at g0
  change v 2 = _ at g2
  change v 3 = _ at g3
  change v 4 = _ at g4
  change v 5 = _ at g5
  change v 6 = _ at g6
  rw [g0, g2, g3, g4, g5, g6]
  clear g0 g2 g3 g4 g5 g6 hv
  have HQ := hid hQ; have HOY := hid hoy
  by_cases hj8 : j < 8
  · have hji : (j : Int) < 8 := by omega
    have hy : N / 256 ^ j < 18446744073709551616 := Nat.lt_of_le_of_lt (Nat.div_le_self _ _) hN
    have hs := beN_s j N
    have hd : N / 256 ^ (j + 1) = N / 256 ^ j / 256 := by rw [Nat.pow_succ, Nat.div_div_eq_div_mul]
    obtain ⟨y, hY⟩ : ∃ y, N / 256 ^ j = y := ⟨_, rfl⟩
    rw [hY] at hs hd hy
    rw [hY]
    have HS := hid hs; have HD := hid hd
    have hyb : (y : Int) % 256 = ((UInt8.ofNat y).toNat : Int) := by rw [UInt8.toNat_ofNat']; omega
    have hsrc : Src (wr.alloc (.cells #[.int .u8 ((UInt8.ofNat y).toNat : Int)] 5)) (.slice (some ⟨wr.heap.size, 0, none⟩) 1 1) [UInt8.ofNat y] := by
      refine ⟨_, 1, rfl, fun _ => ⟨_, 0, rfl, fun i u hu => ?_⟩⟩
      match i, hu with
      | 0, hu =>
        obtain rfl : Value.int .u8 ((UInt8.ofNat y).toNat : Int) = u := by simpa [bytesV] using hu
        exact cell_blk (blk_new wr _) 0
      | i + 1, hu => exact absurd hu (by simp [bytesV])
    have hcv := conv_str hsrc
    rw [← hyb] at hcv
    have hcat : strOf [UInt8.ofNat y] ++ strOf (beN j N) = strOf (beN (j + 1) N) := by rw [HS.out]; exact strOf_cat _ _
    have hsz1 : (strOf [UInt8.ofNat y]).size = 1 := rfl
    have hsz2 : (strOf (beN j N)).size = j := beN_len j N
    clear hs hd hoy hsrc hyb hQ
    go_wp2_with fail
    exact ⟨⟨j + 1, by omega, ⟨rfl, rfl, rfl, by show Value.int .u64 _ = _; rw [HD.out]; exact congrArg (Value.int IntKind.u64) (by omega), rfl, by show Value.int .i64 _ = _; go_num, rfl, rfl⟩, HOY.out.trans (only_new _ _) (fun _ _ e => e)⟩, by simp [intOf]; omega⟩
  · obtain rfl : j = 8 := by omega
    clear hoy hQ
    go_wp2_with fail
    exact HQ.out _ _ ⟨rfl, rfl, rfl, rfl, rfl, rfl⟩ HOY.out
theorem st0_arr : (#[.int .u32 1779033703, .int .u32 3144134277, .int .u32 1013904242, .int .u32 2773480762, .int .u32 1359893119, .int .u32 2600822924, .int .u32 528734635, .int .u32 1541459225] : Array Value) = stA st0 := rfl
set_option maxRecDepth 100000 in
set_option maxHeartbeats 3200000 in
theorem rof_c (l : List UInt8) (hl : l.length ≤ 900000000) :
    Calls Try.prog 25 #[.string (strOf l)] w fun e w' => e = .returned (.agg (bytesV (sha l)).toArray) ∧ Only (fun _ => False) w w' := by
  have hz : (strOf l).size = l.length := rfl
  have HL := hid (rlist_c (w := w.alloc (.cells (byA st0 0) 28)))
  go_enter Try.func25, Try.ntmps25
  go_wp2_with fail
  refine HL.out.mono ?_
  rintro x w1 ⟨rfl, hw1⟩
  have hb0 : w1.heap[w.heap.size]? = some (.cells (byA st0 0) 28 (0, 0)) := by rw [hw1]; exact blk_alloc (blk_new w _)
  have hbk : w1.heap[w.heap.size + 1]? = some (.cells (kK.map u32V).toArray 101 (0, 0)) := by rw [hw1]; have := blk_new (w.alloc (.cells (byA st0 0) 28)) (.cells (kK.map u32V).toArray 101); rw [World.size_alloc] at this; exact this
  have ho : Only (fun _ => False) w w1 := by rw [hw1]; exact (only_new _ _).trans (only_new _ _) (fun _ _ e => e)
  rw [World.size_alloc]
  have HB0 := hid hb0; have HBK := hid hbk; have HO := hid ho
  have hk1 : w.heap.size + 2 ≤ w1.heap.size := by rw [hw1]; simp
  clear hw1 hb0 hbk ho HL
  have hp0 : strOf l ++ (⟨#[128]⟩ : ByteArray) = strOf (padL l 0) := strOf_cat _ [128]
  go_upto_block 0 with fail
  refine of0 (a := _) (l := l) (x2 := .pointer (some ⟨w.heap.size, 0, none⟩)) (x3 := .slice (some ⟨w.heap.size + 1, 0, none⟩) 64 64) (x4 := .int .u64 ((8 * l.length : Nat))) hl ⟨rfl, rfl, rfl, ?_, rfl, rfl⟩ ?_
  · show Value.int .u64 _ = _
    go_num
  intro a0 hI
  obtain ⟨v, rfl, hv⟩ := act_fn hI
  rw [lit306] at hI ⊢
  obtain ⟨g0, g2, g3, g4, -⟩ := hI
  change v 0 = _ at g0
  change v 2 = _ at g2
  change v 3 = _ at g3
  change v 4 = _ at g4
  rw [g0, g2, g3, g4]
  clear g0 g2 g3 g4 hv
  have hNb : 8 * l.length < 18446744073709551616 := by omega
  have HPM := hid (pad_msg l hl)
  have hpzl : padZ l.length < 64 := Nat.mod_lt _ (by decide)
  have hpl := padL_len l (padZ l.length)
  obtain ⟨P, hP⟩ : ∃ x, padL l (padZ l.length) = x := ⟨_, rfl⟩
  obtain ⟨N, hN⟩ : ∃ x, 8 * l.length = x := ⟨_, rfl⟩
  rw [hP, hN] at HPM
  rw [hP] at hpl
  rw [hN] at hNb
  rw [hP, hN]
  have HN := hid hN
  clear hp0 hP hN
  go_upto_block 2 with fail
  refine of2 (a := _) (N := N) (x0 := .string (strOf P)) (x2 := .pointer (some ⟨w.heap.size, 0, none⟩)) (x3 := .slice (some ⟨w.heap.size + 1, 0, none⟩) 64 64) hNb ⟨rfl, rfl, rfl, rfl, rfl, rfl, rfl, rfl⟩ ?_
  intro a1 w2 hI ho2
  obtain ⟨v, rfl, hv⟩ := act_fn hI
  rw [lit306] at hI ⊢
  obtain ⟨g0, g2, g3, g5, -⟩ := hI
  change v 0 = _ at g0
  change v 2 = _ at g2
  change v 3 = _ at g3
  change v 5 = _ at g5
  rw [g0, g2, g3, g5]
  clear g0 g2 g3 g5 hv
  have hcat : strOf P ++ strOf (beN 8 N) = strOf (P ++ beN 8 N) := strOf_cat _ _
  have hsz2 : (strOf (beN 8 N)).size = 8 := beN_len 8 N
  have hsz1 : (strOf P).size = P.length := rfl
  have hMM := HPM.out
  have hML : (P ++ beN 8 N).length = P.length + 8 := by rw [List.length_append, beN_len]
  have h64 := pad_len l.length
  rw [← List.length_append, ← hMM] at h64
  obtain ⟨B, hB⟩ := h64
  have hsha : sha l = (blks st0 (P ++ beN 8 N) B).bytes := by unfold sha; rw [← List.length_append, ← hMM, hB, Nat.mul_div_cancel_left _ (by decide)]
  obtain ⟨M, hM⟩ : ∃ M, P ++ beN 8 N = M := ⟨_, rfl⟩
  rw [hM] at hML hB hsha hcat
  have HSHA := hid hsha
  have HB2 := hid (blk_only HB0.out ho2 (fun e => e)); have HK2 := hid (blk_only HBK.out ho2 (fun e => e)); have HO2 := hid (HO.out.trans ho2 (fun _ _ e => e))
  have hz2 := ho2.size
  have hMl : M.length ≤ 950000000 := by omega
  have HH : Hid ((w2.alloc (.cells (stA st0) 101)).heap[w2.heap.size]? = some (.cells (stA st0) 101 (0, 0))) := hid (blk_new w2 _)
  have HK3 : Hid ((w2.alloc (.cells (stA st0) 101)).heap[w.heap.size + 1]? = some (.cells (kK.map u32V).toArray 101 (0, 0))) := hid (blk_alloc HK2.out)
  have hBi := hid hB
  clear hM hMM hsha ho2 HPM hML hB
  go_upto_block 4 with fail
  rw [st0_arr]
  refine of4 (w := w2.alloc (.cells (stA st0) 101)) (a := _) (M := M) (hb := w2.heap.size) (bk := w.heap.size + 1) (B := B) (x2 := .pointer (some ⟨w.heap.size, 0, none⟩)) hBi.out hMl (by omega) HK3.out HH.out ⟨rfl, rfl, rfl, rfl, rfl, rfl, rfl⟩ ?_
  intro a2 w3 hI hb3 ho3
  obtain ⟨v, rfl, hv⟩ := act_fn hI
  rw [lit306] at hI ⊢
  obtain ⟨g2, g7, -⟩ := hI
  change v 2 = _ at g2
  change v 7 = _ at g7
  rw [g2, g7]
  clear g2 g7 hv
  have hok := blks_ok M st0_ok B
  obtain ⟨S, hS⟩ : ∃ x, blks st0 M B = x := ⟨_, rfl⟩
  rw [hS] at hok hb3
  have HS : Hid (sha l = S.bytes) := hid (by rw [HSHA.out, hS])
  have hbl := blk_lt hb3
  have hz3 := ho3.size
  have HB3 := hid hb3
  have HR3 := hid (blk_only (blk_alloc (o' := .cells (stA st0) 101) HB2.out) ho3 (by show ¬ w.heap.size = w2.heap.size; omega))
  have HO3 : Hid (Only (fun _ => False) w w3) := hid ((HO2.out.trans (only_new _ _) (fun _ _ e => e)).trans ho3 (fun k hk e => by have e' : k = w2.heap.size := e; omega))
  rw [World.size_alloc] at hz3
  have hbld : (Instr.build 28 #[]).run Try.prog w3 = .ok (.agg (byA st0 0)) w3 := by kernel_rfl
  have HIN : Hid ((Try.prog.info? 28).map (·.size) = some (byA st0 0).size) := hid (by kernel_rfl)
  have HON : Hid ((byA st0 0).all (·.oneCell') = true) := hid (by kernel_rfl)
  clear hS hb3 ho3 HSHA HB2 HK2 HK3 HH
  go_upto_block 16 with ((guard_target =~ wpList _ _ _ (⟨none, .store _ _ _, _, _, _, _⟩ :: _) _ _); refine wpList_store_all rfl 28 (.tmp 23) (.tmp 282) rfl w3.heap.size (byA st0 0) rfl rfl (byA st0 0) 28 (blk_new w3 _) rfl HIN.out HON.out ?_; intro w9 hb9 ho9 hs9; have HB9 := hid hb9; have HO9 := hid ho9; clear hb9 ho9 hs9)
  have hb9 := blk_only (blk_alloc (o' := .cells (byA st0 0) 28) HB3.out) HO9.out (by show ¬ w2.heap.size = w3.heap.size; omega)
  have hr9 := blk_only (blk_alloc (o' := .cells (byA st0 0) 28) HR3.out) HO9.out (by show ¬ w.heap.size = w3.heap.size; omega)
  have HR9 := hid hr9
  have HO4 : Hid (Only (fun _ => False) w w9) := hid ((HO3.out.trans (only_new _ _) (fun _ _ e => e)).trans HO9.out (fun k hk e => by have e' : k = w3.heap.size := e; omega))
  have hz9 := HO9.out.size
  rw [World.size_alloc] at hz9
  refine of16 (w := w9) (a := _) (hb := w2.heap.size) (ob := w3.heap.size) (x2 := .pointer (some ⟨w.heap.size, 0, none⟩)) (S := S) hok (by omega) hb9 (by rw [outA_0]; exact HB9.out) ⟨rfl, rfl, rfl, rfl, rfl, rfl⟩ ?_
  intro a4 w5 hI hb5 ho5
  obtain ⟨v, rfl, hv⟩ := act_fn hI
  rw [lit306] at hI ⊢
  obtain ⟨g2, g23, -⟩ := hI
  change v 2 = _ at g2
  change v 23 = _ at g23
  rw [g2, g23]
  clear g2 g23 hv
  rw [outA_8, ← HS.out] at hb5
  have hsl := sha_len l
  have HR5 := hid (blk_only HR9.out ho5 (by show ¬ w.heap.size = w3.heap.size; omega))
  have HO5 : Hid (Only (fun _ => False) w w5) := hid (HO4.out.trans ho5 (fun k hk e => by have e' : k = w3.heap.size := e; omega))
  have hsz : ((bytesV (sha l)).toArray).size = (byA st0 0).size := by simp [hsl, byA]
  have hinf : (Try.prog.info? 28).map (·.size) = some ((bytesV (sha l)).toArray).size := by rw [hsz]; exact HIN.out
  have hone := bytesV_one' (sha l)
  obtain ⟨R, hR⟩ : ∃ x, (bytesV (sha l)).toArray = x := ⟨_, rfl⟩
  rw [hR] at hb5 hsz hinf hone
  have HB5 := hid hb5; have HSZ := hid hsz; have HINF := hid hinf; have HONE := hid hone; have HR := hid hR
  clear hb5 ho5 hsz hinf hone hR hb9 hr9
  go_wp2_with (first
    | ((guard_target =~ wpList _ _ _ (⟨some 305, _, _, _, _, _⟩ :: _) _ _); refine wpList_load_row rfl 28 (.tmp 23) rfl w3.heap.size rfl 28 R (0, 0) _ HB5.out Try.underlying28 rfl HINF.out ?_)
    | ((guard_target =~ wpList _ _ _ (⟨none, .store _ _ _, _, _, _, _⟩ :: _) _ _); refine wpList_store_all rfl 28 (.tmp 2) (.tmp 305) rfl w.heap.size R rfl rfl (byA st0 0) 28 HR5.out HSZ.out HINF.out HONE.out ?_; intro w7 hb7 ho7 hs7; have HB7 := hid hb7; have HO7 := hid ho7; clear hb7 ho7 hs7))
  refine bodyPost_ret (results_cell_row rfl _ _ w.heap.size 28 R (0, 0) _ rfl HB7.out Try.underlying28 rfl HINF.out) rfl ⟨by rw [HR.out], HO5.out.trans HO7.out (fun i hi e => by have e' : i = w.heap.size := e; omega)⟩
end
end Go.Proofs.Ytnoopajedgllhaa
