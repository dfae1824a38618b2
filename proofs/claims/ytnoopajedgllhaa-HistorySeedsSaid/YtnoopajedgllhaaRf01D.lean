/- foliotref01.Of. -/
import Derived.Test.YtnoopajedgllhaaRf01C
namespace Go.Proofs.Ytnoopajedgllhaa
open Go.RowKit
section
variable {w : World} {Q : Exit → Act → World → Prop}
theorem cell_only {F : Nat → Prop} {w w' : World} (h : Only F w w') {b o : Nat} (hb : b < w.heap.size) (hF : ¬ F b) : w'.cell? ⟨b, o, none⟩ = w.cell? ⟨b, o, none⟩ := by simp [World.cell?, h.block b hb hF]
theorem blk_8 {S : ST} {W : World} {hb : Nat} {T : TypeId} {fr : Nat × Nat} (h : W.heap[hb]? = some (.cells (stA S) T fr)) : ∀ i, i < 8 → W.cell? ⟨hb, i, none⟩ = some (.int .u32 (S.l.getD i 0 : Nat)) := fun i hi => by
  rw [cell_blk h]; exact stA_get S hi
theorem blk_kK {W : World} {bk : Nat} {T : TypeId} {fr : Nat × Nat} (h : W.heap[bk]? = some (.cells (kK.map u32V).toArray T fr)) : ∀ i, i < 64 → W.cell? ⟨bk, i, none⟩ = some (.int .u32 (kK.getD i 0 : Nat)) := fun i hi => by
  have hl : kK.length = 64 := rfl
  rw [cell_blk h, List.getElem?_toArray, List.getElem?_map, List.getElem?_eq_getElem (by omega), List.getD_eq_getElem?_getD, List.getElem?_eq_getElem (by omega)]; rfl
theorem gr_cells {W : World} {T : TypeId} {g cp : Nat} {U : List Nat} (h : Gr W T 1 (some ⟨g, 0, none⟩) 64 cp (U.map u32V)) : ∀ i, i < 64 → W.cell? ⟨g, i, none⟩ = some (.int .u32 (U.getD i 0 : Nat)) := fun i hi => by
  obtain ⟨g', hg', hc⟩ := h.cells (by decide)
  obtain rfl : g = g' := by simpa using hg'
  have hl := h.1
  rw [List.length_map] at hl
  exact hc i _ (by rw [List.getElem?_map, List.getElem?_eq_getElem (by omega), List.getD_eq_getElem?_getD, List.getElem?_eq_getElem (by omega)]; rfl)
set_option maxRecDepth 100000 in
set_option maxHeartbeats 3200000 in
theorem of4 {a : Act} {M : List UInt8} {hb bk B : Nat} {x2 : Value} (hM : M.length = 64 * B) (hMl : M.length ≤ 950000000) (hne : bk ≠ hb)
    (hk : w.heap[bk]? = some (.cells (kK.map u32V).toArray 101 (0, 0)))
    (hh : w.heap[hb]? = some (.cells (stA st0) 101 (0, 0)))
    (hL : Lv 306 a [(0, .string (strOf M)), (2, x2), (3, .slice (some ⟨bk, 0, none⟩) 64 64), (7, .slice (some ⟨hb, 0, none⟩) 8 8), (8, .int .i64 0)])
    (hQ : ∀ a' w', Lv 306 a' [(2, x2), (7, .slice (some ⟨hb, 0, none⟩) 8 8)] → w'.heap[hb]? = some (.cells (stA (blks st0 M B)) 101 (0, 0)) → Only (fun k => k = hb) w w' → Q .normal a' w') :
    (ofB 4).wp Try.prog Q a w := by
  refine Code.wp_mono NoPanic.imp ?_
  conv => arg 2; whnf
  refine wp_block (wp_loop (fun a' w' => ∃ n : Nat, n ≤ B ∧ Lv 306 a' [(0, .string (strOf M)), (2, x2), (3, .slice (some ⟨bk, 0, none⟩) 64 64), (7, .slice (some ⟨hb, 0, none⟩) 8 8), (8, .int .i64 (64 * n : Nat))] ∧ w'.heap[hb]? = some (.cells (stA (blks st0 M n)) 101 (0, 0)) ∧ Only (fun k => k = hb) w w')
    (fun a' _ => 64 * B + 64 - (intOf (a'.tmps.getD 8 undef)).toNat) ⟨0, Nat.zero_le _, hL, hh, Only.refl _ _⟩ ?_)
  clear hL hh
  rintro a' w' ⟨n, hn, hI, hb0, ho⟩
  obtain ⟨v, rfl, hv⟩ := act_fn hI
  rw [lit306] at hI ⊢
  obtain ⟨g0, g2, g3, g7, g8, -⟩ := hI
  change v 0 = _ at g0
  change v 2 = _ at g2
  change v 3 = _ at g3
  change v 7 = _ at g7
  change v 8 = _ at g8
  rw [g0, g2, g3, g7, g8]
  clear g0 g2 g3 g7 g8 hv
  have HQ := hid hQ
  have HO := hid ho; have HBW := hid hb0; have HK := hid (blk_only hk ho (fun e => hne e))
  have hMs : (strOf M).size = M.length := rfl
  obtain ⟨A, hA⟩ : ∃ A : Nat, 64 * n = A := ⟨_, rfl⟩
  rw [hA]
  by_cases hnl : n < B
  · have hni : (A : Int) < M.length := by omega
    have hAl : A + 64 ≤ M.length := by omega
    have hMi : (M.length : Int) ≤ 950000000 := by omega
    have hok := blks_ok M st0_ok n
    obtain ⟨SS, hSS⟩ : ∃ x, blks st0 M n = x := ⟨_, rfl⟩
    have HNX : Hid (blks st0 M (n + 1) = SS.add (rndN (wds ((M.drop A).take 64)) SS 64)) := hid (by rw [blks, hSS, blk, hA])
    rw [hSS] at hok HBW
    have HA := hid hA
    clear hb0 ho hSS hk hA hQ hM
    have hbl := blk_lt HBW.out
    go_upto_block 6 with fail
    refine of6 (a := _) (M := M) (A := A) (x2 := x2) (x3 := .slice (some ⟨bk, 0, none⟩) 64 64) (x7 := .slice (some ⟨hb, 0, none⟩) 8 8) hAl hMl ⟨rfl, rfl, rfl, rfl, rfl, rfl, rfl, rfl, rfl⟩ ?_
    intro a1 w1 cp1 ao1 hI hgr hao ho1
    obtain ⟨v, rfl, hv⟩ := act_fn hI
    rw [lit306] at hI ⊢
    obtain ⟨g0, g2, g3, g7, g8, g9, -⟩ := hI
    change v 0 = _ at g0
    change v 2 = _ at g2
    change v 3 = _ at g3
    change v 7 = _ at g7
    change v 8 = _ at g8
    change v 9 = _ at g9
    rw [g0, g2, g3, g7, g8, g9]
    clear g0 g2 g3 g7 g8 g9 hv
    obtain ⟨g, rfl, -⟩ := hgr.cells (by decide)
    have h0l := wds0_len ((M.drop A).take 64) 16
    have h032 := wds0_32 ((M.drop A).take 64) 16
    have HWD : Hid (wds ((M.drop A).take 64) = wdsN (wds0 ((M.drop A).take 64) 16) 48) := hid rfl
    obtain ⟨W0, hW0⟩ : ∃ x, wds0 ((M.drop A).take 64) 16 = x := ⟨_, rfl⟩
    rw [hW0] at hgr h0l h032 HWD
    have HGR := hid hgr; have HAO := hid (hao g rfl); have HO1 := hid ho1
    clear hgr hao ho1 hW0
    go_upto_block 10 with fail
    refine of10 (a := _) (M := M) (A := A) (g := g) (cp := cp1) (x2 := x2) (x3 := .slice (some ⟨bk, 0, none⟩) 64 64) (x7 := .slice (some ⟨hb, 0, none⟩) 8 8) (W0 := W0) (wz := w') h0l h032 HGR.out HAO.out HO1.out ⟨rfl, rfl, rfl, rfl, rfl, rfl, rfl, rfl, rfl⟩ ?_
    intro a2 w2 cp2 g2 hI hgr hg2 ho2
    obtain ⟨v, rfl, hv⟩ := act_fn hI
    rw [lit306] at hI ⊢
    obtain ⟨g0, g2, g3, g7, g8, g9, -⟩ := hI
    change v 0 = _ at g0
    change v 2 = _ at g2
    change v 3 = _ at g3
    change v 7 = _ at g7
    change v 8 = _ at g8
    change v 9 = _ at g9
    rw [g0, g2, g3, g7, g8, g9]
    clear g0 g2 g3 g7 g8 g9 hv
    have hcp2 := hgr.2.1
    have hW32 : All32 (wdsN W0 48) := wdsN_32 h032 48
    rw [← HWD.out] at hgr hW32
    obtain ⟨WS, hWS⟩ : ∃ x, wds ((M.drop A).take 64) = x := ⟨_, rfl⟩
    rw [hWS] at hgr hW32 HNX
    have HB2 := hid (blk_only HBW.out ho2 (fun e => e)); have HK2 := hid (blk_only HK.out ho2 (fun e => e)); have HO2 := hid ho2; have HGR2 := hid hgr
    have hz2 := ho2.size
    have HSG : Hid (SrcG (w2.alloc (.cells #[] 101)) (some ⟨hb, 0, none⟩) 8 1 (SS.l.map u32V)) := hid ⟨rfl, fun _ => ⟨_, rfl, fun j u hj => by
      rw [addr_add, Nat.zero_add, cell_blk (blk_alloc HB2.out)]; simpa [stA, ST.l] using hj⟩, u32_ones _⟩
    have HGE : Hid (Gr (w2.alloc (.cells #[] 101)) 101 1 (some ⟨w2.heap.size, 0, none⟩) 0 0 []) := hid ⟨rfl, Nat.le_refl _, .inr ⟨_, rfl, Row.new w2 [] 101⟩⟩
    clear hgr ho2 hWS HWD h032 h0l HGR HAO HO1
    go_upto_block 12 with ((guard_target =~ wpList _ _ _ (⟨some 151, _, _, _, _, _⟩ :: _) _ _); refine wpList_gr (o := ⟨some 151, _, _, _, _, _⟩) rfl elU (.tmp 149) (.tmp 150) rfl HGE.out rfl (some ⟨hb, 0, none⟩) 8 8 rfl (SS.l.map u32V) HSG.out (by omega) (by omega) ?_; intro ao3 cp3 w3 hg3 ha3 ho3; rw [Nat.zero_add, List.nil_append] at hg3; have HG3 := hid hg3; have HA3 := hid ha3; have HO3 := hid ((only_new w2 _).trans ho3 (fun k hk e => by simp only [Option.some.injEq, Addr.mk.injEq, and_true] at e; omega) : Only (fun _ => False) w2 w3); clear hg3 ha3 ho3)
    obtain ⟨gv, hgv, hgc⟩ := HG3.out.cells (by decide)
    obtain rfl := hgv
    have hgvB : w2.heap.size ≤ gv := by
      rcases HA3.out with e | e <;> simp only [Option.some.injEq, Addr.mk.injEq, and_true] at e <;> first | omega | (simp at e; omega)
    have hcp3 := HG3.out.2.1
    have hz3 := HO3.out.size
    have hv3 : ∀ i, i < 8 → w3.cell? ⟨gv, i, none⟩ = some (.int .u32 (SS.l.getD i 0 : Nat)) := fun i hi => hgc i _ (by rw [List.getElem?_map, List.getElem?_eq_getElem (by exact hi), List.getD_eq_getElem?_getD, List.getElem?_eq_getElem (by exact hi)]; rfl)
    refine of12 (a := _) (M := M) (A := A) (g := g2) (bk := bk) (cp := cp2) (cap := cp3) (gv := gv) (B := w2.heap.size) (x2 := x2) (x7 := .slice (some ⟨hb, 0, none⟩) 8 8) (WS := WS) (SS := SS) hW32 hok hz3 hgvB
      (fun W h => blk_kK (blk_only HK2.out (HO3.out.trans h (fun _ _ e => e)) (fun e => e)))
      (fun W h => gr_cells (HGR2.out.only (HO3.out.trans h (fun _ _ e => e)) (fun _ _ e => e))) hv3 hcp3 ⟨rfl, rfl, rfl, rfl, rfl, rfl, rfl, rfl, rfl, rfl⟩ ?_
    intro a3 w4 cap4 gv4 hI hv4 hgB4 hcap4 ho4
    obtain ⟨v, rfl, hv⟩ := act_fn hI
    rw [lit306] at hI ⊢
    obtain ⟨g0, g2, g3, g7, g8, g9, g16, -⟩ := hI
    change v 0 = _ at g0
    change v 2 = _ at g2
    change v 3 = _ at g3
    change v 7 = _ at g7
    change v 8 = _ at g8
    change v 9 = _ at g9
    change v 16 = _ at g16
    rw [g0, g2, g3, g7, g8, g9, g16]
    clear g0 g2 g3 g7 g8 g9 g16 hv
    have HB4 := hid (blk_only HB2.out (HO3.out.trans ho4 (fun _ _ e => e)) (fun e => e))
    have HO4 := hid (HO3.out.trans ho4 (fun _ _ e => e))
    have hv4l : gv4 < w4.heap.size := World.block_lt_of_cell? w4 _ (hv4 0 (by decide))
    have HV4 : Hid (∀ W, Only (fun k => k = hb) w4 W → ∀ i, i < 8 → W.cell? ⟨gv4, i, none⟩ = some (.int .u32 ((rndN WS SS 64).l.getD i 0 : Nat))) := hid fun W h i hi => by rw [cell_only h hv4l (by show ¬ gv4 = hb; omega)]; exact hv4 i hi
    have hrk := rndN_ok WS hok 64
    obtain ⟨V, hV⟩ : ∃ x, rndN WS SS 64 = x := ⟨_, rfl⟩
    rw [hV] at HV4 hrk HNX
    clear hv3 hgc hv4 hV ho4
    go_upto_block 14 with fail
    refine of14 (a := _) (M := M) (A := A) (hb := hb) (cap := cap4) (gv := gv4) (x2 := x2) (x3 := .slice (some ⟨bk, 0, none⟩) 64 64) (SS := SS) (V := V) hok hrk HV4.out HB4.out ⟨rfl, rfl, rfl, rfl, rfl, rfl, rfl, rfl, rfl⟩ ?_
    intro a4 w5 hI hb5 ho5
    obtain ⟨v, rfl, hv⟩ := act_fn hI
    rw [lit306] at hI ⊢
    obtain ⟨g0, g2, g3, g7, g8, -⟩ := hI
    change v 0 = _ at g0
    change v 2 = _ at g2
    change v 3 = _ at g3
    change v 7 = _ at g7
    change v 8 = _ at g8
    rw [g0, g2, g3, g7, g8]
    clear g0 g2 g3 g7 g8 hv
    have HB5 := hid hb5
    have HO5 : Hid (Only (fun k => k = hb) w w5) := hid ((HO.out.trans ((HO2.out.trans HO4.out (fun _ _ e => e)).mono (fun _ _ e => e.elim)) (fun _ _ e => e)).trans ho5 (fun _ _ e => e))
    clear hb5 ho5
    go_wp2_with fail
    have hAn := HA.out
    exact ⟨⟨n + 1, by omega, ⟨rfl, rfl, rfl, rfl, by show Value.int .i64 _ = _; go_num, rfl, rfl⟩, by rw [HNX.out]; exact HB5.out, HO5.out⟩, by simp [intOf]; omega⟩
  · obtain rfl : n = B := by omega
    have hni : ¬ (A : Int) < M.length := by omega
    clear hb0 ho hk hQ
    go_wp2_with fail
    exact HQ.out _ _ ⟨rfl, rfl, rfl, rfl⟩ HBW.out HO.out
end
end Go.Proofs.Ytnoopajedgllhaa
