/- command.write. -/
import Derived.Test.YtfmdngeooelcpaaGreatCmK
namespace Go.Proofs.YtfmdngeooelcpaaGreat
open Go.RowKit
theorem wb1_c {w w0 : World} {b : Nat} {F : Nat → Prop} {bs : List UInt8} (h : Wr w0 b F bs) (y : Nat) (hy : y < 256) (hl : bs.length ≤ 999999000) (hw : w = w0.alloc (.cells #[.int .u8 y] 5)) :
    Calls Tryz.prog 50 #[.pointer (some ⟨b, 0, none⟩), .slice (some ⟨w0.heap.size, 0, none⟩) 1 1] w fun e w' => e = .returned (.tuple #[]) ∧ WStep w0 w' b F (bs ++ [UInt8.ofNat y]) := by
  subst hw
  have hs1 : Src (w0.alloc (.cells #[.int .u8 y] 5)) (.slice (some ⟨w0.heap.size, 0, none⟩) 1 1) [UInt8.ofNat y] := by
    refine ⟨_, 1, rfl, fun _ => ⟨_, 0, rfl, fun i u hu => ?_⟩⟩
    rw [Nat.zero_add, cell_blk (blk_new w0 (.cells #[.int .u8 y] 5))]
    have e : (UInt8.ofNat y).toNat = y := by simp; omega
    simpa [bytesV, e] using hu
  exact (wbyte_c (h.same (only_new w0 _)) _ _ hs1 (by simp; omega)).mono fun e w' hh => ⟨hh.1, hh.2.pre (only_new w0 _) (fun k hk => h.lt hk)⟩
section
variable {w : World} {b : Nat} {F G : Nat → Prop} {bs : List UInt8}
set_option maxRecDepth 100000 in
set_option maxHeartbeats 6400000 in
theorem cwrite_c {e : EM} {cs : List Value} (hW : Wr w b F bs) (hE : CAt w G e cs) (hd : ∀ k, G k → ¬ F k) (hG : ∀ k, G k → k < w.heap.size) (hg : e.rg) (hgd : e.CGood) (hl : bs.length ≤ 900000000) :
    Calls Tryz.prog 25 #[.pointer (some ⟨b, 0, none⟩), .agg cs.toArray] w fun x w' => x = .returned (.tuple #[]) ∧ WStep w w' b F (bs ++ e.cwr) := by
  obtain ⟨vk, vn, vs, va, vm, vc, rfl, hV⟩ := hE.form
  obtain ⟨gid, gtm, gk, ga, gb, gn, gt, gv⟩ := hg
  have Hgv := hid gv; have HV := hid hV; have HD := hid hd; have HGl := hid hG; have HW := hid hW
  have hfb : ¬ F w.heap.size := fun h => by have := hW.lt h; omega
  have hFl : ∀ k, F k → k < w.heap.size := fun k hk => hW.lt hk
  have hk6 := c_k6 hgd.k
  have htm := hgd.tm
  have ha0 := hgd.a0
  have hb0 := hgd.b0
  have hnl := hgd.nL
  obtain ⟨q9, hwk9, hvl⟩ := chk_walk hgd.v
  obtain ⟨id, tm, k, a, b', name, text, v⟩ := e
  simp only at gtm ga gb gn HV Hgv hk6 htm ha0 hb0 hnl hvl hwk9 ⊢
  obtain ⟨tmn, rfl⟩ := Int.eq_ofNat_of_zero_le htm.1
  obtain ⟨an, rfl⟩ := Int.eq_ofNat_of_zero_le ha0
  obtain ⟨bn, rfl⟩ := Int.eq_ofNat_of_zero_le hb0
  have l0 := numB_len tmn
  have l1 := numB_len an
  have l2 := numB_len bn
  have l3 : (textB name).length ≤ 100 := by have := numB_len name.length; unfold textB; rw [List.length_append]; omega
  have HFL := hid hFl
  have HFD := fun wc => hid (fields_c (w := wc) k)
  obtain ⟨mA, hmA⟩ : ∃ m : Bool, fA k = m := ⟨_, rfl⟩
  obtain ⟨mB, hmB⟩ : ∃ m : Bool, fB k = m := ⟨_, rfl⟩
  obtain ⟨mN, hmN⟩ : ∃ m : Bool, fN k = m := ⟨_, rfl⟩
  obtain ⟨mV, hmV⟩ : ∃ m : Bool, fV k = m := ⟨_, rfl⟩
  obtain ⟨mK, hmK⟩ : ∃ m : Bool, fK k = m := ⟨_, rfl⟩
  simp only [hmA, hmB, hmN, hmV, hmK] at HFD
  have MA := hid hmA; have MB := hid hmB; have MN := hid hmN; have MV := hid hmV; have HK6 := hid hk6
  clear hE hV hd hG gv hW hgd gk gid gt hwk9 hFl hmA hmB hmN hmV hmK hk6
  have HB0 := hid (blk_new w (.cells #[.int .i64 k, .int .i64 tmn, .int .i64 an, .int .i64 bn, .string (strOf name), .int .i64 vk, .int .i64 vn, .string (strOf vs), .slice va vm vc] 38))
  have HO0 := hid (only_new w (.cells #[.int .i64 k, .int .i64 tmn, .int .i64 an, .int .i64 bn, .string (strOf name), .int .i64 vk, .int .i64 vn, .string (strOf vs), .slice va vm vc] 38))
  go_enter Tryz.func25, Tryz.ntmps25
  go_wp2_with fail
  refine (HFD _).out.mono ?_
  rintro x w1 ⟨rfl, ho⟩
  clear HFD
  have hb1 := blk_only HB0.out ho (fun e => e)
  have HO1 := hid (HO0.out.trans ho (fun _ _ e => e))
  have hs1 := HO1.out.size
  obtain ⟨wb, hwb⟩ : ∃ wb, w1.alloc (.cells #[.bool mA, .bool mB, .bool mN, .bool mV] 93) = wb := ⟨_, rfl⟩
  have HBC : Hid (wb.heap[w.heap.size]? = some (.cells #[.int .i64 k, .int .i64 tmn, .int .i64 an, .int .i64 bn, .string (strOf name), .int .i64 vk, .int .i64 vn, .string (strOf vs), .slice va vm vc] 38 (0, 0))) := hid (by rw [← hwb]; exact blk_alloc hb1)
  have HBF : Hid (wb.heap[w1.heap.size]? = some (.cells #[.bool mA, .bool mB, .bool mN, .bool mV] 93 (0, 0))) := hid (by rw [← hwb]; exact blk_new w1 _)
  have HOB : Hid (Only (fun _ => False) w wb) := hid (by rw [← hwb]; exact HO1.out.trans (only_new _ _) (fun _ _ e => e))
  have hfc : ¬ F w1.heap.size := fun e => by have := HFL.out _ e; omega
  have hsb := HOB.out.size
  have hlc := blk_lt HBC.out
  have hlf := blk_lt HBF.out
  clear ho hb1
  go_upto_region 2 with fail
  clear hwb
  rcases HK6.out with rfl | rfl | rfl | rfl | rfl | rfl

  · have HEQ : Hid (bs ++ (⟨id, tmn, 1, an, bn, name, text, v⟩ : EM).cwr = (((bs ++ [UInt8.ofNat 1]) ++ numB tmn) ++ numB an) ++ numB bn) := hid (by simp [EM.cwr, cFlds, cTab, EM.fb])
    obtain rfl : mA = true := MA.out.symm.trans (by decide)
    obtain rfl : mB = true := MB.out.symm.trans (by decide)
    obtain rfl : mN = false := MN.out.symm.trans (by decide)
    obtain rfl : mV = false := MV.out.symm.trans (by decide)
    have c0 : wb.cell? ⟨w.heap.size, 0, none⟩ = some (.int .i64 1) := cell_blk HBC.out 0
    have c1 : wb.cell? ⟨w.heap.size, 1, none⟩ = some (.int .i64 tmn) := cell_blk HBC.out 1
    have c2 : wb.cell? ⟨w.heap.size, 2, none⟩ = some (.int .i64 an) := cell_blk HBC.out 2
    have c3 : wb.cell? ⟨w.heap.size, 3, none⟩ = some (.int .i64 bn) := cell_blk HBC.out 3
    have c4 : wb.cell? ⟨w.heap.size, 4, none⟩ = some (.string (strOf name)) := cell_blk HBC.out 4
    have c5 : wb.cell? ⟨w.heap.size, 5, none⟩ = some (.int .i64 vk) := cell_blk HBC.out 5
    have c6 : wb.cell? ⟨w.heap.size, 6, none⟩ = some (.int .i64 vn) := cell_blk HBC.out 6
    have c7 : wb.cell? ⟨w.heap.size, 7, none⟩ = some (.string (strOf vs)) := cell_blk HBC.out 7
    have c8 : wb.cell? ⟨w.heap.size, 8, none⟩ = some (.slice va vm vc) := cell_blk HBC.out 8
    have HY := hid (wb1_c (HW.out.same HOB.out) 1 (by omega) (by omega) rfl)
    go_wp2_with fail
    refine HY.out.mono ?_
    rintro x w2 ⟨rfl, hst⟩
    clear c0 c1 c2 c3 c4 c5 c6 c7 c8
    obtain ⟨F2, hW2, ho2, hF2⟩ := hst
    have hbc := blk_only HBC.out ho2 hfb
    have hbf := blk_only HBF.out ho2 hfc
    have c0 : w2.cell? ⟨w.heap.size, 0, none⟩ = some (.int .i64 1) := cell_blk hbc 0
    have c1 : w2.cell? ⟨w.heap.size, 1, none⟩ = some (.int .i64 tmn) := cell_blk hbc 1
    have c2 : w2.cell? ⟨w.heap.size, 2, none⟩ = some (.int .i64 an) := cell_blk hbc 2
    have c3 : w2.cell? ⟨w.heap.size, 3, none⟩ = some (.int .i64 bn) := cell_blk hbc 3
    have c4 : w2.cell? ⟨w.heap.size, 4, none⟩ = some (.string (strOf name)) := cell_blk hbc 4
    have c5 : w2.cell? ⟨w.heap.size, 5, none⟩ = some (.int .i64 vk) := cell_blk hbc 5
    have c6 : w2.cell? ⟨w.heap.size, 6, none⟩ = some (.int .i64 vn) := cell_blk hbc 6
    have c7 : w2.cell? ⟨w.heap.size, 7, none⟩ = some (.string (strOf vs)) := cell_blk hbc 7
    have c8 : w2.cell? ⟨w.heap.size, 8, none⟩ = some (.slice va vm vc) := cell_blk hbc 8
    have g0 : w2.cell? ⟨w1.heap.size, 0, none⟩ = some (.bool true) := cell_blk hbf 0
    have g1 : w2.cell? ⟨w1.heap.size, 1, none⟩ = some (.bool true) := cell_blk hbf 1
    have g2 : w2.cell? ⟨w1.heap.size, 2, none⟩ = some (.bool false) := cell_blk hbf 2
    have g3 : w2.cell? ⟨w1.heap.size, 3, none⟩ = some (.bool false) := cell_blk hbf 3
    have hlc := blk_lt hbc
    have hlf := blk_lt hbf
    have HO := hid ho2; have HF := hid hF2
    have HCL := hid (wnum1_c hW2 tmn (by omega) (by simp only [List.length_append, List.length_cons, List.length_nil]; omega) rfl)
    clear hbc hbf ho2 hF2 hW2
    go_wp2_with fail
    refine HCL.out.mono ?_
    rintro x w3 ⟨rfl, hst5⟩
    have hst := hst5.comp HO.out HF.out
    clear hst5 HO HF HCL
    clear c0 c1 c2 c3 c4 c5 c6 c7 c8 g0 g1 g2 g3
    obtain ⟨F3, hW3, ho3, hF3⟩ := hst
    have hbc := blk_only HBC.out ho3 hfb
    have hbf := blk_only HBF.out ho3 hfc
    have c0 : w3.cell? ⟨w.heap.size, 0, none⟩ = some (.int .i64 1) := cell_blk hbc 0
    have c1 : w3.cell? ⟨w.heap.size, 1, none⟩ = some (.int .i64 tmn) := cell_blk hbc 1
    have c2 : w3.cell? ⟨w.heap.size, 2, none⟩ = some (.int .i64 an) := cell_blk hbc 2
    have c3 : w3.cell? ⟨w.heap.size, 3, none⟩ = some (.int .i64 bn) := cell_blk hbc 3
    have c4 : w3.cell? ⟨w.heap.size, 4, none⟩ = some (.string (strOf name)) := cell_blk hbc 4
    have c5 : w3.cell? ⟨w.heap.size, 5, none⟩ = some (.int .i64 vk) := cell_blk hbc 5
    have c6 : w3.cell? ⟨w.heap.size, 6, none⟩ = some (.int .i64 vn) := cell_blk hbc 6
    have c7 : w3.cell? ⟨w.heap.size, 7, none⟩ = some (.string (strOf vs)) := cell_blk hbc 7
    have c8 : w3.cell? ⟨w.heap.size, 8, none⟩ = some (.slice va vm vc) := cell_blk hbc 8
    have g0 : w3.cell? ⟨w1.heap.size, 0, none⟩ = some (.bool true) := cell_blk hbf 0
    have g1 : w3.cell? ⟨w1.heap.size, 1, none⟩ = some (.bool true) := cell_blk hbf 1
    have g2 : w3.cell? ⟨w1.heap.size, 2, none⟩ = some (.bool false) := cell_blk hbf 2
    have g3 : w3.cell? ⟨w1.heap.size, 3, none⟩ = some (.bool false) := cell_blk hbf 3
    have hlc := blk_lt hbc
    have hlf := blk_lt hbf
    have HO := hid ho3; have HF := hid hF3
    have HCL := hid (wnum1_c hW3 an (by omega) (by simp only [List.length_append, List.length_cons, List.length_nil]; omega) rfl)
    clear hbc hbf ho3 hF3 hW3
    go_wp2_with fail
    refine HCL.out.mono ?_
    rintro x w4 ⟨rfl, hst5⟩
    have hst := hst5.comp HO.out HF.out
    clear hst5 HO HF HCL
    clear c0 c1 c2 c3 c4 c5 c6 c7 c8 g0 g1 g2 g3
    obtain ⟨F4, hW4, ho4, hF4⟩ := hst
    have hbc := blk_only HBC.out ho4 hfb
    have hbf := blk_only HBF.out ho4 hfc
    have c0 : w4.cell? ⟨w.heap.size, 0, none⟩ = some (.int .i64 1) := cell_blk hbc 0
    have c1 : w4.cell? ⟨w.heap.size, 1, none⟩ = some (.int .i64 tmn) := cell_blk hbc 1
    have c2 : w4.cell? ⟨w.heap.size, 2, none⟩ = some (.int .i64 an) := cell_blk hbc 2
    have c3 : w4.cell? ⟨w.heap.size, 3, none⟩ = some (.int .i64 bn) := cell_blk hbc 3
    have c4 : w4.cell? ⟨w.heap.size, 4, none⟩ = some (.string (strOf name)) := cell_blk hbc 4
    have c5 : w4.cell? ⟨w.heap.size, 5, none⟩ = some (.int .i64 vk) := cell_blk hbc 5
    have c6 : w4.cell? ⟨w.heap.size, 6, none⟩ = some (.int .i64 vn) := cell_blk hbc 6
    have c7 : w4.cell? ⟨w.heap.size, 7, none⟩ = some (.string (strOf vs)) := cell_blk hbc 7
    have c8 : w4.cell? ⟨w.heap.size, 8, none⟩ = some (.slice va vm vc) := cell_blk hbc 8
    have g0 : w4.cell? ⟨w1.heap.size, 0, none⟩ = some (.bool true) := cell_blk hbf 0
    have g1 : w4.cell? ⟨w1.heap.size, 1, none⟩ = some (.bool true) := cell_blk hbf 1
    have g2 : w4.cell? ⟨w1.heap.size, 2, none⟩ = some (.bool false) := cell_blk hbf 2
    have g3 : w4.cell? ⟨w1.heap.size, 3, none⟩ = some (.bool false) := cell_blk hbf 3
    have hlc := blk_lt hbc
    have hlf := blk_lt hbf
    have HO := hid ho4; have HF := hid hF4
    have HCL := hid (wnum1_c hW4 bn (by omega) (by simp only [List.length_append, List.length_cons, List.length_nil]; omega) rfl)
    clear hbc hbf ho4 hF4 hW4
    go_wp2_with fail
    refine HCL.out.mono ?_
    rintro x w5 ⟨rfl, hst5⟩
    have hst := hst5.comp HO.out HF.out
    clear hst5 HO HF HCL
    clear c0 c1 c2 c3 c4 c5 c6 c7 c8 g0 g1 g2 g3
    have HST := hid hst
    obtain ⟨F5, hW5, ho5, hF5⟩ := hst
    have hbf := blk_only HBF.out ho5 hfc
    have g0 : w5.cell? ⟨w1.heap.size, 0, none⟩ = some (.bool true) := cell_blk hbf 0
    have g1 : w5.cell? ⟨w1.heap.size, 1, none⟩ = some (.bool true) := cell_blk hbf 1
    have g2 : w5.cell? ⟨w1.heap.size, 2, none⟩ = some (.bool false) := cell_blk hbf 2
    have g3 : w5.cell? ⟨w1.heap.size, 3, none⟩ = some (.bool false) := cell_blk hbf 3
    clear hbf ho5 hF5 hW5
    go_wp2_with fail
    go_end0
    rw [HEQ.out]
    exact ⟨rfl, HST.out.pre HOB.out HFL.out⟩
  · have HEQ : Hid (bs ++ (⟨id, tmn, 2, an, bn, name, text, v⟩ : EM).cwr = ((bs ++ [UInt8.ofNat 2]) ++ numB tmn) ++ numB an) := hid (by simp [EM.cwr, cFlds, cTab, EM.fb])
    obtain rfl : mA = true := MA.out.symm.trans (by decide)
    obtain rfl : mB = false := MB.out.symm.trans (by decide)
    obtain rfl : mN = false := MN.out.symm.trans (by decide)
    obtain rfl : mV = false := MV.out.symm.trans (by decide)
    have c0 : wb.cell? ⟨w.heap.size, 0, none⟩ = some (.int .i64 2) := cell_blk HBC.out 0
    have c1 : wb.cell? ⟨w.heap.size, 1, none⟩ = some (.int .i64 tmn) := cell_blk HBC.out 1
    have c2 : wb.cell? ⟨w.heap.size, 2, none⟩ = some (.int .i64 an) := cell_blk HBC.out 2
    have c3 : wb.cell? ⟨w.heap.size, 3, none⟩ = some (.int .i64 bn) := cell_blk HBC.out 3
    have c4 : wb.cell? ⟨w.heap.size, 4, none⟩ = some (.string (strOf name)) := cell_blk HBC.out 4
    have c5 : wb.cell? ⟨w.heap.size, 5, none⟩ = some (.int .i64 vk) := cell_blk HBC.out 5
    have c6 : wb.cell? ⟨w.heap.size, 6, none⟩ = some (.int .i64 vn) := cell_blk HBC.out 6
    have c7 : wb.cell? ⟨w.heap.size, 7, none⟩ = some (.string (strOf vs)) := cell_blk HBC.out 7
    have c8 : wb.cell? ⟨w.heap.size, 8, none⟩ = some (.slice va vm vc) := cell_blk HBC.out 8
    have HY := hid (wb1_c (HW.out.same HOB.out) 2 (by omega) (by omega) rfl)
    go_wp2_with fail
    refine HY.out.mono ?_
    rintro x w2 ⟨rfl, hst⟩
    clear c0 c1 c2 c3 c4 c5 c6 c7 c8
    obtain ⟨F2, hW2, ho2, hF2⟩ := hst
    have hbc := blk_only HBC.out ho2 hfb
    have hbf := blk_only HBF.out ho2 hfc
    have c0 : w2.cell? ⟨w.heap.size, 0, none⟩ = some (.int .i64 2) := cell_blk hbc 0
    have c1 : w2.cell? ⟨w.heap.size, 1, none⟩ = some (.int .i64 tmn) := cell_blk hbc 1
    have c2 : w2.cell? ⟨w.heap.size, 2, none⟩ = some (.int .i64 an) := cell_blk hbc 2
    have c3 : w2.cell? ⟨w.heap.size, 3, none⟩ = some (.int .i64 bn) := cell_blk hbc 3
    have c4 : w2.cell? ⟨w.heap.size, 4, none⟩ = some (.string (strOf name)) := cell_blk hbc 4
    have c5 : w2.cell? ⟨w.heap.size, 5, none⟩ = some (.int .i64 vk) := cell_blk hbc 5
    have c6 : w2.cell? ⟨w.heap.size, 6, none⟩ = some (.int .i64 vn) := cell_blk hbc 6
    have c7 : w2.cell? ⟨w.heap.size, 7, none⟩ = some (.string (strOf vs)) := cell_blk hbc 7
    have c8 : w2.cell? ⟨w.heap.size, 8, none⟩ = some (.slice va vm vc) := cell_blk hbc 8
    have g0 : w2.cell? ⟨w1.heap.size, 0, none⟩ = some (.bool true) := cell_blk hbf 0
    have g1 : w2.cell? ⟨w1.heap.size, 1, none⟩ = some (.bool false) := cell_blk hbf 1
    have g2 : w2.cell? ⟨w1.heap.size, 2, none⟩ = some (.bool false) := cell_blk hbf 2
    have g3 : w2.cell? ⟨w1.heap.size, 3, none⟩ = some (.bool false) := cell_blk hbf 3
    have hlc := blk_lt hbc
    have hlf := blk_lt hbf
    have HO := hid ho2; have HF := hid hF2
    have HCL := hid (wnum1_c hW2 tmn (by omega) (by simp only [List.length_append, List.length_cons, List.length_nil]; omega) rfl)
    clear hbc hbf ho2 hF2 hW2
    go_wp2_with fail
    refine HCL.out.mono ?_
    rintro x w3 ⟨rfl, hst5⟩
    have hst := hst5.comp HO.out HF.out
    clear hst5 HO HF HCL
    clear c0 c1 c2 c3 c4 c5 c6 c7 c8 g0 g1 g2 g3
    obtain ⟨F3, hW3, ho3, hF3⟩ := hst
    have hbc := blk_only HBC.out ho3 hfb
    have hbf := blk_only HBF.out ho3 hfc
    have c0 : w3.cell? ⟨w.heap.size, 0, none⟩ = some (.int .i64 2) := cell_blk hbc 0
    have c1 : w3.cell? ⟨w.heap.size, 1, none⟩ = some (.int .i64 tmn) := cell_blk hbc 1
    have c2 : w3.cell? ⟨w.heap.size, 2, none⟩ = some (.int .i64 an) := cell_blk hbc 2
    have c3 : w3.cell? ⟨w.heap.size, 3, none⟩ = some (.int .i64 bn) := cell_blk hbc 3
    have c4 : w3.cell? ⟨w.heap.size, 4, none⟩ = some (.string (strOf name)) := cell_blk hbc 4
    have c5 : w3.cell? ⟨w.heap.size, 5, none⟩ = some (.int .i64 vk) := cell_blk hbc 5
    have c6 : w3.cell? ⟨w.heap.size, 6, none⟩ = some (.int .i64 vn) := cell_blk hbc 6
    have c7 : w3.cell? ⟨w.heap.size, 7, none⟩ = some (.string (strOf vs)) := cell_blk hbc 7
    have c8 : w3.cell? ⟨w.heap.size, 8, none⟩ = some (.slice va vm vc) := cell_blk hbc 8
    have g0 : w3.cell? ⟨w1.heap.size, 0, none⟩ = some (.bool true) := cell_blk hbf 0
    have g1 : w3.cell? ⟨w1.heap.size, 1, none⟩ = some (.bool false) := cell_blk hbf 1
    have g2 : w3.cell? ⟨w1.heap.size, 2, none⟩ = some (.bool false) := cell_blk hbf 2
    have g3 : w3.cell? ⟨w1.heap.size, 3, none⟩ = some (.bool false) := cell_blk hbf 3
    have hlc := blk_lt hbc
    have hlf := blk_lt hbf
    have HO := hid ho3; have HF := hid hF3
    have HCL := hid (wnum1_c hW3 an (by omega) (by simp only [List.length_append, List.length_cons, List.length_nil]; omega) rfl)
    clear hbc hbf ho3 hF3 hW3
    go_wp2_with fail
    refine HCL.out.mono ?_
    rintro x w4 ⟨rfl, hst5⟩
    have hst := hst5.comp HO.out HF.out
    clear hst5 HO HF HCL
    clear c0 c1 c2 c3 c4 c5 c6 c7 c8 g0 g1 g2 g3
    have HST := hid hst
    obtain ⟨F4, hW4, ho4, hF4⟩ := hst
    have hbf := blk_only HBF.out ho4 hfc
    have g0 : w4.cell? ⟨w1.heap.size, 0, none⟩ = some (.bool true) := cell_blk hbf 0
    have g1 : w4.cell? ⟨w1.heap.size, 1, none⟩ = some (.bool false) := cell_blk hbf 1
    have g2 : w4.cell? ⟨w1.heap.size, 2, none⟩ = some (.bool false) := cell_blk hbf 2
    have g3 : w4.cell? ⟨w1.heap.size, 3, none⟩ = some (.bool false) := cell_blk hbf 3
    clear hbf ho4 hF4 hW4
    go_wp2_with fail
    go_end0
    rw [HEQ.out]
    exact ⟨rfl, HST.out.pre HOB.out HFL.out⟩
  · have HEQ : Hid (bs ++ (⟨id, tmn, 3, an, bn, name, text, v⟩ : EM).cwr = (((((bs ++ [UInt8.ofNat 3]) ++ numB tmn) ++ numB an) ++ numB bn) ++ textB name) ++ v.wr) := hid (by simp [EM.cwr, cFlds, cTab, EM.fb])
    obtain rfl : mA = true := MA.out.symm.trans (by decide)
    obtain rfl : mB = true := MB.out.symm.trans (by decide)
    obtain rfl : mN = true := MN.out.symm.trans (by decide)
    obtain rfl : mV = true := MV.out.symm.trans (by decide)
    have c0 : wb.cell? ⟨w.heap.size, 0, none⟩ = some (.int .i64 3) := cell_blk HBC.out 0
    have c1 : wb.cell? ⟨w.heap.size, 1, none⟩ = some (.int .i64 tmn) := cell_blk HBC.out 1
    have c2 : wb.cell? ⟨w.heap.size, 2, none⟩ = some (.int .i64 an) := cell_blk HBC.out 2
    have c3 : wb.cell? ⟨w.heap.size, 3, none⟩ = some (.int .i64 bn) := cell_blk HBC.out 3
    have c4 : wb.cell? ⟨w.heap.size, 4, none⟩ = some (.string (strOf name)) := cell_blk HBC.out 4
    have c5 : wb.cell? ⟨w.heap.size, 5, none⟩ = some (.int .i64 vk) := cell_blk HBC.out 5
    have c6 : wb.cell? ⟨w.heap.size, 6, none⟩ = some (.int .i64 vn) := cell_blk HBC.out 6
    have c7 : wb.cell? ⟨w.heap.size, 7, none⟩ = some (.string (strOf vs)) := cell_blk HBC.out 7
    have c8 : wb.cell? ⟨w.heap.size, 8, none⟩ = some (.slice va vm vc) := cell_blk HBC.out 8
    have HY := hid (wb1_c (HW.out.same HOB.out) 3 (by omega) (by omega) rfl)
    go_wp2_with fail
    refine HY.out.mono ?_
    rintro x w2 ⟨rfl, hst⟩
    clear c0 c1 c2 c3 c4 c5 c6 c7 c8
    obtain ⟨F2, hW2, ho2, hF2⟩ := hst
    have hbc := blk_only HBC.out ho2 hfb
    have hbf := blk_only HBF.out ho2 hfc
    have c0 : w2.cell? ⟨w.heap.size, 0, none⟩ = some (.int .i64 3) := cell_blk hbc 0
    have c1 : w2.cell? ⟨w.heap.size, 1, none⟩ = some (.int .i64 tmn) := cell_blk hbc 1
    have c2 : w2.cell? ⟨w.heap.size, 2, none⟩ = some (.int .i64 an) := cell_blk hbc 2
    have c3 : w2.cell? ⟨w.heap.size, 3, none⟩ = some (.int .i64 bn) := cell_blk hbc 3
    have c4 : w2.cell? ⟨w.heap.size, 4, none⟩ = some (.string (strOf name)) := cell_blk hbc 4
    have c5 : w2.cell? ⟨w.heap.size, 5, none⟩ = some (.int .i64 vk) := cell_blk hbc 5
    have c6 : w2.cell? ⟨w.heap.size, 6, none⟩ = some (.int .i64 vn) := cell_blk hbc 6
    have c7 : w2.cell? ⟨w.heap.size, 7, none⟩ = some (.string (strOf vs)) := cell_blk hbc 7
    have c8 : w2.cell? ⟨w.heap.size, 8, none⟩ = some (.slice va vm vc) := cell_blk hbc 8
    have g0 : w2.cell? ⟨w1.heap.size, 0, none⟩ = some (.bool true) := cell_blk hbf 0
    have g1 : w2.cell? ⟨w1.heap.size, 1, none⟩ = some (.bool true) := cell_blk hbf 1
    have g2 : w2.cell? ⟨w1.heap.size, 2, none⟩ = some (.bool true) := cell_blk hbf 2
    have g3 : w2.cell? ⟨w1.heap.size, 3, none⟩ = some (.bool true) := cell_blk hbf 3
    have hlc := blk_lt hbc
    have hlf := blk_lt hbf
    have HO := hid ho2; have HF := hid hF2
    have HCL := hid (wnum1_c hW2 tmn (by omega) (by simp only [List.length_append, List.length_cons, List.length_nil]; omega) rfl)
    clear hbc hbf ho2 hF2 hW2
    go_wp2_with fail
    refine HCL.out.mono ?_
    rintro x w3 ⟨rfl, hst5⟩
    have hst := hst5.comp HO.out HF.out
    clear hst5 HO HF HCL
    clear c0 c1 c2 c3 c4 c5 c6 c7 c8 g0 g1 g2 g3
    obtain ⟨F3, hW3, ho3, hF3⟩ := hst
    have hbc := blk_only HBC.out ho3 hfb
    have hbf := blk_only HBF.out ho3 hfc
    have c0 : w3.cell? ⟨w.heap.size, 0, none⟩ = some (.int .i64 3) := cell_blk hbc 0
    have c1 : w3.cell? ⟨w.heap.size, 1, none⟩ = some (.int .i64 tmn) := cell_blk hbc 1
    have c2 : w3.cell? ⟨w.heap.size, 2, none⟩ = some (.int .i64 an) := cell_blk hbc 2
    have c3 : w3.cell? ⟨w.heap.size, 3, none⟩ = some (.int .i64 bn) := cell_blk hbc 3
    have c4 : w3.cell? ⟨w.heap.size, 4, none⟩ = some (.string (strOf name)) := cell_blk hbc 4
    have c5 : w3.cell? ⟨w.heap.size, 5, none⟩ = some (.int .i64 vk) := cell_blk hbc 5
    have c6 : w3.cell? ⟨w.heap.size, 6, none⟩ = some (.int .i64 vn) := cell_blk hbc 6
    have c7 : w3.cell? ⟨w.heap.size, 7, none⟩ = some (.string (strOf vs)) := cell_blk hbc 7
    have c8 : w3.cell? ⟨w.heap.size, 8, none⟩ = some (.slice va vm vc) := cell_blk hbc 8
    have g0 : w3.cell? ⟨w1.heap.size, 0, none⟩ = some (.bool true) := cell_blk hbf 0
    have g1 : w3.cell? ⟨w1.heap.size, 1, none⟩ = some (.bool true) := cell_blk hbf 1
    have g2 : w3.cell? ⟨w1.heap.size, 2, none⟩ = some (.bool true) := cell_blk hbf 2
    have g3 : w3.cell? ⟨w1.heap.size, 3, none⟩ = some (.bool true) := cell_blk hbf 3
    have hlc := blk_lt hbc
    have hlf := blk_lt hbf
    have HO := hid ho3; have HF := hid hF3
    have HCL := hid (wnum1_c hW3 an (by omega) (by simp only [List.length_append, List.length_cons, List.length_nil]; omega) rfl)
    clear hbc hbf ho3 hF3 hW3
    go_wp2_with fail
    refine HCL.out.mono ?_
    rintro x w4 ⟨rfl, hst5⟩
    have hst := hst5.comp HO.out HF.out
    clear hst5 HO HF HCL
    clear c0 c1 c2 c3 c4 c5 c6 c7 c8 g0 g1 g2 g3
    obtain ⟨F4, hW4, ho4, hF4⟩ := hst
    have hbc := blk_only HBC.out ho4 hfb
    have hbf := blk_only HBF.out ho4 hfc
    have c0 : w4.cell? ⟨w.heap.size, 0, none⟩ = some (.int .i64 3) := cell_blk hbc 0
    have c1 : w4.cell? ⟨w.heap.size, 1, none⟩ = some (.int .i64 tmn) := cell_blk hbc 1
    have c2 : w4.cell? ⟨w.heap.size, 2, none⟩ = some (.int .i64 an) := cell_blk hbc 2
    have c3 : w4.cell? ⟨w.heap.size, 3, none⟩ = some (.int .i64 bn) := cell_blk hbc 3
    have c4 : w4.cell? ⟨w.heap.size, 4, none⟩ = some (.string (strOf name)) := cell_blk hbc 4
    have c5 : w4.cell? ⟨w.heap.size, 5, none⟩ = some (.int .i64 vk) := cell_blk hbc 5
    have c6 : w4.cell? ⟨w.heap.size, 6, none⟩ = some (.int .i64 vn) := cell_blk hbc 6
    have c7 : w4.cell? ⟨w.heap.size, 7, none⟩ = some (.string (strOf vs)) := cell_blk hbc 7
    have c8 : w4.cell? ⟨w.heap.size, 8, none⟩ = some (.slice va vm vc) := cell_blk hbc 8
    have g0 : w4.cell? ⟨w1.heap.size, 0, none⟩ = some (.bool true) := cell_blk hbf 0
    have g1 : w4.cell? ⟨w1.heap.size, 1, none⟩ = some (.bool true) := cell_blk hbf 1
    have g2 : w4.cell? ⟨w1.heap.size, 2, none⟩ = some (.bool true) := cell_blk hbf 2
    have g3 : w4.cell? ⟨w1.heap.size, 3, none⟩ = some (.bool true) := cell_blk hbf 3
    have hlc := blk_lt hbc
    have hlf := blk_lt hbf
    have HO := hid ho4; have HF := hid hF4
    have HCL := hid (wnum1_c hW4 bn (by omega) (by simp only [List.length_append, List.length_cons, List.length_nil]; omega) rfl)
    clear hbc hbf ho4 hF4 hW4
    go_wp2_with fail
    refine HCL.out.mono ?_
    rintro x w5 ⟨rfl, hst5⟩
    have hst := hst5.comp HO.out HF.out
    clear hst5 HO HF HCL
    clear c0 c1 c2 c3 c4 c5 c6 c7 c8 g0 g1 g2 g3
    obtain ⟨F5, hW5, ho5, hF5⟩ := hst
    have hbc := blk_only HBC.out ho5 hfb
    have hbf := blk_only HBF.out ho5 hfc
    have c0 : w5.cell? ⟨w.heap.size, 0, none⟩ = some (.int .i64 3) := cell_blk hbc 0
    have c1 : w5.cell? ⟨w.heap.size, 1, none⟩ = some (.int .i64 tmn) := cell_blk hbc 1
    have c2 : w5.cell? ⟨w.heap.size, 2, none⟩ = some (.int .i64 an) := cell_blk hbc 2
    have c3 : w5.cell? ⟨w.heap.size, 3, none⟩ = some (.int .i64 bn) := cell_blk hbc 3
    have c4 : w5.cell? ⟨w.heap.size, 4, none⟩ = some (.string (strOf name)) := cell_blk hbc 4
    have c5 : w5.cell? ⟨w.heap.size, 5, none⟩ = some (.int .i64 vk) := cell_blk hbc 5
    have c6 : w5.cell? ⟨w.heap.size, 6, none⟩ = some (.int .i64 vn) := cell_blk hbc 6
    have c7 : w5.cell? ⟨w.heap.size, 7, none⟩ = some (.string (strOf vs)) := cell_blk hbc 7
    have c8 : w5.cell? ⟨w.heap.size, 8, none⟩ = some (.slice va vm vc) := cell_blk hbc 8
    have g0 : w5.cell? ⟨w1.heap.size, 0, none⟩ = some (.bool true) := cell_blk hbf 0
    have g1 : w5.cell? ⟨w1.heap.size, 1, none⟩ = some (.bool true) := cell_blk hbf 1
    have g2 : w5.cell? ⟨w1.heap.size, 2, none⟩ = some (.bool true) := cell_blk hbf 2
    have g3 : w5.cell? ⟨w1.heap.size, 3, none⟩ = some (.bool true) := cell_blk hbf 3
    have hlc := blk_lt hbc
    have hlf := blk_lt hbf
    have HO := hid ho5; have HF := hid hF5
    have HCL := hid (wtext_c hW5 name (by simp only [List.length_append, List.length_cons, List.length_nil]; omega))
    clear hbc hbf ho5 hF5 hW5
    go_wp2_with fail
    refine HCL.out.mono ?_
    rintro x w6 ⟨rfl, hst5⟩
    have hst := hst5.comp HO.out HF.out
    clear hst5 HO HF HCL
    clear c0 c1 c2 c3 c4 c5 c6 c7 c8 g0 g1 g2 g3
    obtain ⟨F6, hW6, ho6, hF6⟩ := hst
    have hbc := blk_only HBC.out ho6 hfb
    have hbf := blk_only HBF.out ho6 hfc
    have c0 : w6.cell? ⟨w.heap.size, 0, none⟩ = some (.int .i64 3) := cell_blk hbc 0
    have c1 : w6.cell? ⟨w.heap.size, 1, none⟩ = some (.int .i64 tmn) := cell_blk hbc 1
    have c2 : w6.cell? ⟨w.heap.size, 2, none⟩ = some (.int .i64 an) := cell_blk hbc 2
    have c3 : w6.cell? ⟨w.heap.size, 3, none⟩ = some (.int .i64 bn) := cell_blk hbc 3
    have c4 : w6.cell? ⟨w.heap.size, 4, none⟩ = some (.string (strOf name)) := cell_blk hbc 4
    have c5 : w6.cell? ⟨w.heap.size, 5, none⟩ = some (.int .i64 vk) := cell_blk hbc 5
    have c6 : w6.cell? ⟨w.heap.size, 6, none⟩ = some (.int .i64 vn) := cell_blk hbc 6
    have c7 : w6.cell? ⟨w.heap.size, 7, none⟩ = some (.string (strOf vs)) := cell_blk hbc 7
    have c8 : w6.cell? ⟨w.heap.size, 8, none⟩ = some (.slice va vm vc) := cell_blk hbc 8
    have g0 : w6.cell? ⟨w1.heap.size, 0, none⟩ = some (.bool true) := cell_blk hbf 0
    have g1 : w6.cell? ⟨w1.heap.size, 1, none⟩ = some (.bool true) := cell_blk hbf 1
    have g2 : w6.cell? ⟨w1.heap.size, 2, none⟩ = some (.bool true) := cell_blk hbf 2
    have g3 : w6.cell? ⟨w1.heap.size, 3, none⟩ = some (.bool true) := cell_blk hbf 3
    have hlc := blk_lt hbc
    have hlf := blk_lt hbf
    have HO := hid ho6; have HF := hid hF6
    have HCL := hid (vwrite_c hW6 ((HV.out.same HOB.out).only HO.out HD.out) (fun i hi e => by rcases HF.out i e with e | e; exact HD.out i hi e; have := HGl.out i hi; omega) (fun i hi => by have := HGl.out i hi; have := HO.out.size; omega) Hgv.out (by simp only [List.length_append, List.length_cons, List.length_nil]; omega))
    clear hbc hbf ho6 hF6 hW6
    go_wp2_with fail
    refine HCL.out.mono ?_
    rintro x w7 ⟨rfl, hst5⟩
    have hst := hst5.comp HO.out HF.out
    clear hst5 HO HF HCL
    clear c0 c1 c2 c3 c4 c5 c6 c7 c8 g0 g1 g2 g3
    have HST := hid hst
    obtain ⟨F7, hW7, ho7, hF7⟩ := hst
    have hbf := blk_only HBF.out ho7 hfc
    have g0 : w7.cell? ⟨w1.heap.size, 0, none⟩ = some (.bool true) := cell_blk hbf 0
    have g1 : w7.cell? ⟨w1.heap.size, 1, none⟩ = some (.bool true) := cell_blk hbf 1
    have g2 : w7.cell? ⟨w1.heap.size, 2, none⟩ = some (.bool true) := cell_blk hbf 2
    have g3 : w7.cell? ⟨w1.heap.size, 3, none⟩ = some (.bool true) := cell_blk hbf 3
    clear hbf ho7 hF7 hW7
    go_wp2_with fail
    go_end0
    rw [HEQ.out]
    exact ⟨rfl, HST.out.pre HOB.out HFL.out⟩
  · have HEQ : Hid (bs ++ (⟨id, tmn, 4, an, bn, name, text, v⟩ : EM).cwr = ((bs ++ [UInt8.ofNat 4]) ++ numB tmn) ++ v.wr) := hid (by simp [EM.cwr, cFlds, cTab, EM.fb])
    obtain rfl : mA = false := MA.out.symm.trans (by decide)
    obtain rfl : mB = false := MB.out.symm.trans (by decide)
    obtain rfl : mN = false := MN.out.symm.trans (by decide)
    obtain rfl : mV = true := MV.out.symm.trans (by decide)
    have c0 : wb.cell? ⟨w.heap.size, 0, none⟩ = some (.int .i64 4) := cell_blk HBC.out 0
    have c1 : wb.cell? ⟨w.heap.size, 1, none⟩ = some (.int .i64 tmn) := cell_blk HBC.out 1
    have c2 : wb.cell? ⟨w.heap.size, 2, none⟩ = some (.int .i64 an) := cell_blk HBC.out 2
    have c3 : wb.cell? ⟨w.heap.size, 3, none⟩ = some (.int .i64 bn) := cell_blk HBC.out 3
    have c4 : wb.cell? ⟨w.heap.size, 4, none⟩ = some (.string (strOf name)) := cell_blk HBC.out 4
    have c5 : wb.cell? ⟨w.heap.size, 5, none⟩ = some (.int .i64 vk) := cell_blk HBC.out 5
    have c6 : wb.cell? ⟨w.heap.size, 6, none⟩ = some (.int .i64 vn) := cell_blk HBC.out 6
    have c7 : wb.cell? ⟨w.heap.size, 7, none⟩ = some (.string (strOf vs)) := cell_blk HBC.out 7
    have c8 : wb.cell? ⟨w.heap.size, 8, none⟩ = some (.slice va vm vc) := cell_blk HBC.out 8
    have HY := hid (wb1_c (HW.out.same HOB.out) 4 (by omega) (by omega) rfl)
    go_wp2_with fail
    refine HY.out.mono ?_
    rintro x w2 ⟨rfl, hst⟩
    clear c0 c1 c2 c3 c4 c5 c6 c7 c8
    obtain ⟨F2, hW2, ho2, hF2⟩ := hst
    have hbc := blk_only HBC.out ho2 hfb
    have hbf := blk_only HBF.out ho2 hfc
    have c0 : w2.cell? ⟨w.heap.size, 0, none⟩ = some (.int .i64 4) := cell_blk hbc 0
    have c1 : w2.cell? ⟨w.heap.size, 1, none⟩ = some (.int .i64 tmn) := cell_blk hbc 1
    have c2 : w2.cell? ⟨w.heap.size, 2, none⟩ = some (.int .i64 an) := cell_blk hbc 2
    have c3 : w2.cell? ⟨w.heap.size, 3, none⟩ = some (.int .i64 bn) := cell_blk hbc 3
    have c4 : w2.cell? ⟨w.heap.size, 4, none⟩ = some (.string (strOf name)) := cell_blk hbc 4
    have c5 : w2.cell? ⟨w.heap.size, 5, none⟩ = some (.int .i64 vk) := cell_blk hbc 5
    have c6 : w2.cell? ⟨w.heap.size, 6, none⟩ = some (.int .i64 vn) := cell_blk hbc 6
    have c7 : w2.cell? ⟨w.heap.size, 7, none⟩ = some (.string (strOf vs)) := cell_blk hbc 7
    have c8 : w2.cell? ⟨w.heap.size, 8, none⟩ = some (.slice va vm vc) := cell_blk hbc 8
    have g0 : w2.cell? ⟨w1.heap.size, 0, none⟩ = some (.bool false) := cell_blk hbf 0
    have g1 : w2.cell? ⟨w1.heap.size, 1, none⟩ = some (.bool false) := cell_blk hbf 1
    have g2 : w2.cell? ⟨w1.heap.size, 2, none⟩ = some (.bool false) := cell_blk hbf 2
    have g3 : w2.cell? ⟨w1.heap.size, 3, none⟩ = some (.bool true) := cell_blk hbf 3
    have hlc := blk_lt hbc
    have hlf := blk_lt hbf
    have HO := hid ho2; have HF := hid hF2
    have HCL := hid (wnum1_c hW2 tmn (by omega) (by simp only [List.length_append, List.length_cons, List.length_nil]; omega) rfl)
    clear hbc hbf ho2 hF2 hW2
    go_wp2_with fail
    refine HCL.out.mono ?_
    rintro x w3 ⟨rfl, hst5⟩
    have hst := hst5.comp HO.out HF.out
    clear hst5 HO HF HCL
    clear c0 c1 c2 c3 c4 c5 c6 c7 c8 g0 g1 g2 g3
    obtain ⟨F3, hW3, ho3, hF3⟩ := hst
    have hbc := blk_only HBC.out ho3 hfb
    have hbf := blk_only HBF.out ho3 hfc
    have c0 : w3.cell? ⟨w.heap.size, 0, none⟩ = some (.int .i64 4) := cell_blk hbc 0
    have c1 : w3.cell? ⟨w.heap.size, 1, none⟩ = some (.int .i64 tmn) := cell_blk hbc 1
    have c2 : w3.cell? ⟨w.heap.size, 2, none⟩ = some (.int .i64 an) := cell_blk hbc 2
    have c3 : w3.cell? ⟨w.heap.size, 3, none⟩ = some (.int .i64 bn) := cell_blk hbc 3
    have c4 : w3.cell? ⟨w.heap.size, 4, none⟩ = some (.string (strOf name)) := cell_blk hbc 4
    have c5 : w3.cell? ⟨w.heap.size, 5, none⟩ = some (.int .i64 vk) := cell_blk hbc 5
    have c6 : w3.cell? ⟨w.heap.size, 6, none⟩ = some (.int .i64 vn) := cell_blk hbc 6
    have c7 : w3.cell? ⟨w.heap.size, 7, none⟩ = some (.string (strOf vs)) := cell_blk hbc 7
    have c8 : w3.cell? ⟨w.heap.size, 8, none⟩ = some (.slice va vm vc) := cell_blk hbc 8
    have g0 : w3.cell? ⟨w1.heap.size, 0, none⟩ = some (.bool false) := cell_blk hbf 0
    have g1 : w3.cell? ⟨w1.heap.size, 1, none⟩ = some (.bool false) := cell_blk hbf 1
    have g2 : w3.cell? ⟨w1.heap.size, 2, none⟩ = some (.bool false) := cell_blk hbf 2
    have g3 : w3.cell? ⟨w1.heap.size, 3, none⟩ = some (.bool true) := cell_blk hbf 3
    have hlc := blk_lt hbc
    have hlf := blk_lt hbf
    have HO := hid ho3; have HF := hid hF3
    have HCL := hid (vwrite_c hW3 ((HV.out.same HOB.out).only HO.out HD.out) (fun i hi e => by rcases HF.out i e with e | e; exact HD.out i hi e; have := HGl.out i hi; omega) (fun i hi => by have := HGl.out i hi; have := HO.out.size; omega) Hgv.out (by simp only [List.length_append, List.length_cons, List.length_nil]; omega))
    clear hbc hbf ho3 hF3 hW3
    go_wp2_with fail
    refine HCL.out.mono ?_
    rintro x w4 ⟨rfl, hst5⟩
    have hst := hst5.comp HO.out HF.out
    clear hst5 HO HF HCL
    clear c0 c1 c2 c3 c4 c5 c6 c7 c8 g0 g1 g2 g3
    have HST := hid hst
    obtain ⟨F4, hW4, ho4, hF4⟩ := hst
    have hbf := blk_only HBF.out ho4 hfc
    have g0 : w4.cell? ⟨w1.heap.size, 0, none⟩ = some (.bool false) := cell_blk hbf 0
    have g1 : w4.cell? ⟨w1.heap.size, 1, none⟩ = some (.bool false) := cell_blk hbf 1
    have g2 : w4.cell? ⟨w1.heap.size, 2, none⟩ = some (.bool false) := cell_blk hbf 2
    have g3 : w4.cell? ⟨w1.heap.size, 3, none⟩ = some (.bool true) := cell_blk hbf 3
    clear hbf ho4 hF4 hW4
    go_wp2_with fail
    go_end0
    rw [HEQ.out]
    exact ⟨rfl, HST.out.pre HOB.out HFL.out⟩
  · have HEQ : Hid (bs ++ (⟨id, tmn, 5, an, bn, name, text, v⟩ : EM).cwr = ((bs ++ [UInt8.ofNat 5]) ++ numB tmn) ++ textB name) := hid (by simp [EM.cwr, cFlds, cTab, EM.fb])
    obtain rfl : mA = false := MA.out.symm.trans (by decide)
    obtain rfl : mB = false := MB.out.symm.trans (by decide)
    obtain rfl : mN = true := MN.out.symm.trans (by decide)
    obtain rfl : mV = false := MV.out.symm.trans (by decide)
    have c0 : wb.cell? ⟨w.heap.size, 0, none⟩ = some (.int .i64 5) := cell_blk HBC.out 0
    have c1 : wb.cell? ⟨w.heap.size, 1, none⟩ = some (.int .i64 tmn) := cell_blk HBC.out 1
    have c2 : wb.cell? ⟨w.heap.size, 2, none⟩ = some (.int .i64 an) := cell_blk HBC.out 2
    have c3 : wb.cell? ⟨w.heap.size, 3, none⟩ = some (.int .i64 bn) := cell_blk HBC.out 3
    have c4 : wb.cell? ⟨w.heap.size, 4, none⟩ = some (.string (strOf name)) := cell_blk HBC.out 4
    have c5 : wb.cell? ⟨w.heap.size, 5, none⟩ = some (.int .i64 vk) := cell_blk HBC.out 5
    have c6 : wb.cell? ⟨w.heap.size, 6, none⟩ = some (.int .i64 vn) := cell_blk HBC.out 6
    have c7 : wb.cell? ⟨w.heap.size, 7, none⟩ = some (.string (strOf vs)) := cell_blk HBC.out 7
    have c8 : wb.cell? ⟨w.heap.size, 8, none⟩ = some (.slice va vm vc) := cell_blk HBC.out 8
    have HY := hid (wb1_c (HW.out.same HOB.out) 5 (by omega) (by omega) rfl)
    go_wp2_with fail
    refine HY.out.mono ?_
    rintro x w2 ⟨rfl, hst⟩
    clear c0 c1 c2 c3 c4 c5 c6 c7 c8
    obtain ⟨F2, hW2, ho2, hF2⟩ := hst
    have hbc := blk_only HBC.out ho2 hfb
    have hbf := blk_only HBF.out ho2 hfc
    have c0 : w2.cell? ⟨w.heap.size, 0, none⟩ = some (.int .i64 5) := cell_blk hbc 0
    have c1 : w2.cell? ⟨w.heap.size, 1, none⟩ = some (.int .i64 tmn) := cell_blk hbc 1
    have c2 : w2.cell? ⟨w.heap.size, 2, none⟩ = some (.int .i64 an) := cell_blk hbc 2
    have c3 : w2.cell? ⟨w.heap.size, 3, none⟩ = some (.int .i64 bn) := cell_blk hbc 3
    have c4 : w2.cell? ⟨w.heap.size, 4, none⟩ = some (.string (strOf name)) := cell_blk hbc 4
    have c5 : w2.cell? ⟨w.heap.size, 5, none⟩ = some (.int .i64 vk) := cell_blk hbc 5
    have c6 : w2.cell? ⟨w.heap.size, 6, none⟩ = some (.int .i64 vn) := cell_blk hbc 6
    have c7 : w2.cell? ⟨w.heap.size, 7, none⟩ = some (.string (strOf vs)) := cell_blk hbc 7
    have c8 : w2.cell? ⟨w.heap.size, 8, none⟩ = some (.slice va vm vc) := cell_blk hbc 8
    have g0 : w2.cell? ⟨w1.heap.size, 0, none⟩ = some (.bool false) := cell_blk hbf 0
    have g1 : w2.cell? ⟨w1.heap.size, 1, none⟩ = some (.bool false) := cell_blk hbf 1
    have g2 : w2.cell? ⟨w1.heap.size, 2, none⟩ = some (.bool true) := cell_blk hbf 2
    have g3 : w2.cell? ⟨w1.heap.size, 3, none⟩ = some (.bool false) := cell_blk hbf 3
    have hlc := blk_lt hbc
    have hlf := blk_lt hbf
    have HO := hid ho2; have HF := hid hF2
    have HCL := hid (wnum1_c hW2 tmn (by omega) (by simp only [List.length_append, List.length_cons, List.length_nil]; omega) rfl)
    clear hbc hbf ho2 hF2 hW2
    go_wp2_with fail
    refine HCL.out.mono ?_
    rintro x w3 ⟨rfl, hst5⟩
    have hst := hst5.comp HO.out HF.out
    clear hst5 HO HF HCL
    clear c0 c1 c2 c3 c4 c5 c6 c7 c8 g0 g1 g2 g3
    obtain ⟨F3, hW3, ho3, hF3⟩ := hst
    have hbc := blk_only HBC.out ho3 hfb
    have hbf := blk_only HBF.out ho3 hfc
    have c0 : w3.cell? ⟨w.heap.size, 0, none⟩ = some (.int .i64 5) := cell_blk hbc 0
    have c1 : w3.cell? ⟨w.heap.size, 1, none⟩ = some (.int .i64 tmn) := cell_blk hbc 1
    have c2 : w3.cell? ⟨w.heap.size, 2, none⟩ = some (.int .i64 an) := cell_blk hbc 2
    have c3 : w3.cell? ⟨w.heap.size, 3, none⟩ = some (.int .i64 bn) := cell_blk hbc 3
    have c4 : w3.cell? ⟨w.heap.size, 4, none⟩ = some (.string (strOf name)) := cell_blk hbc 4
    have c5 : w3.cell? ⟨w.heap.size, 5, none⟩ = some (.int .i64 vk) := cell_blk hbc 5
    have c6 : w3.cell? ⟨w.heap.size, 6, none⟩ = some (.int .i64 vn) := cell_blk hbc 6
    have c7 : w3.cell? ⟨w.heap.size, 7, none⟩ = some (.string (strOf vs)) := cell_blk hbc 7
    have c8 : w3.cell? ⟨w.heap.size, 8, none⟩ = some (.slice va vm vc) := cell_blk hbc 8
    have g0 : w3.cell? ⟨w1.heap.size, 0, none⟩ = some (.bool false) := cell_blk hbf 0
    have g1 : w3.cell? ⟨w1.heap.size, 1, none⟩ = some (.bool false) := cell_blk hbf 1
    have g2 : w3.cell? ⟨w1.heap.size, 2, none⟩ = some (.bool true) := cell_blk hbf 2
    have g3 : w3.cell? ⟨w1.heap.size, 3, none⟩ = some (.bool false) := cell_blk hbf 3
    have hlc := blk_lt hbc
    have hlf := blk_lt hbf
    have HO := hid ho3; have HF := hid hF3
    have HCL := hid (wtext_c hW3 name (by simp only [List.length_append, List.length_cons, List.length_nil]; omega))
    clear hbc hbf ho3 hF3 hW3
    go_wp2_with fail
    refine HCL.out.mono ?_
    rintro x w4 ⟨rfl, hst5⟩
    have hst := hst5.comp HO.out HF.out
    clear hst5 HO HF HCL
    clear c0 c1 c2 c3 c4 c5 c6 c7 c8 g0 g1 g2 g3
    have HST := hid hst
    obtain ⟨F4, hW4, ho4, hF4⟩ := hst
    have hbf := blk_only HBF.out ho4 hfc
    have g0 : w4.cell? ⟨w1.heap.size, 0, none⟩ = some (.bool false) := cell_blk hbf 0
    have g1 : w4.cell? ⟨w1.heap.size, 1, none⟩ = some (.bool false) := cell_blk hbf 1
    have g2 : w4.cell? ⟨w1.heap.size, 2, none⟩ = some (.bool true) := cell_blk hbf 2
    have g3 : w4.cell? ⟨w1.heap.size, 3, none⟩ = some (.bool false) := cell_blk hbf 3
    clear hbf ho4 hF4 hW4
    go_wp2_with fail
    go_end0
    rw [HEQ.out]
    exact ⟨rfl, HST.out.pre HOB.out HFL.out⟩
  · have HEQ : Hid (bs ++ (⟨id, tmn, 6, an, bn, name, text, v⟩ : EM).cwr = ((bs ++ [UInt8.ofNat 6]) ++ numB tmn) ++ v.wr) := hid (by simp [EM.cwr, cFlds, cTab, EM.fb])
    obtain rfl : mA = false := MA.out.symm.trans (by decide)
    obtain rfl : mB = false := MB.out.symm.trans (by decide)
    obtain rfl : mN = false := MN.out.symm.trans (by decide)
    obtain rfl : mV = true := MV.out.symm.trans (by decide)
    have c0 : wb.cell? ⟨w.heap.size, 0, none⟩ = some (.int .i64 6) := cell_blk HBC.out 0
    have c1 : wb.cell? ⟨w.heap.size, 1, none⟩ = some (.int .i64 tmn) := cell_blk HBC.out 1
    have c2 : wb.cell? ⟨w.heap.size, 2, none⟩ = some (.int .i64 an) := cell_blk HBC.out 2
    have c3 : wb.cell? ⟨w.heap.size, 3, none⟩ = some (.int .i64 bn) := cell_blk HBC.out 3
    have c4 : wb.cell? ⟨w.heap.size, 4, none⟩ = some (.string (strOf name)) := cell_blk HBC.out 4
    have c5 : wb.cell? ⟨w.heap.size, 5, none⟩ = some (.int .i64 vk) := cell_blk HBC.out 5
    have c6 : wb.cell? ⟨w.heap.size, 6, none⟩ = some (.int .i64 vn) := cell_blk HBC.out 6
    have c7 : wb.cell? ⟨w.heap.size, 7, none⟩ = some (.string (strOf vs)) := cell_blk HBC.out 7
    have c8 : wb.cell? ⟨w.heap.size, 8, none⟩ = some (.slice va vm vc) := cell_blk HBC.out 8
    have HY := hid (wb1_c (HW.out.same HOB.out) 6 (by omega) (by omega) rfl)
    go_wp2_with fail
    refine HY.out.mono ?_
    rintro x w2 ⟨rfl, hst⟩
    clear c0 c1 c2 c3 c4 c5 c6 c7 c8
    obtain ⟨F2, hW2, ho2, hF2⟩ := hst
    have hbc := blk_only HBC.out ho2 hfb
    have hbf := blk_only HBF.out ho2 hfc
    have c0 : w2.cell? ⟨w.heap.size, 0, none⟩ = some (.int .i64 6) := cell_blk hbc 0
    have c1 : w2.cell? ⟨w.heap.size, 1, none⟩ = some (.int .i64 tmn) := cell_blk hbc 1
    have c2 : w2.cell? ⟨w.heap.size, 2, none⟩ = some (.int .i64 an) := cell_blk hbc 2
    have c3 : w2.cell? ⟨w.heap.size, 3, none⟩ = some (.int .i64 bn) := cell_blk hbc 3
    have c4 : w2.cell? ⟨w.heap.size, 4, none⟩ = some (.string (strOf name)) := cell_blk hbc 4
    have c5 : w2.cell? ⟨w.heap.size, 5, none⟩ = some (.int .i64 vk) := cell_blk hbc 5
    have c6 : w2.cell? ⟨w.heap.size, 6, none⟩ = some (.int .i64 vn) := cell_blk hbc 6
    have c7 : w2.cell? ⟨w.heap.size, 7, none⟩ = some (.string (strOf vs)) := cell_blk hbc 7
    have c8 : w2.cell? ⟨w.heap.size, 8, none⟩ = some (.slice va vm vc) := cell_blk hbc 8
    have g0 : w2.cell? ⟨w1.heap.size, 0, none⟩ = some (.bool false) := cell_blk hbf 0
    have g1 : w2.cell? ⟨w1.heap.size, 1, none⟩ = some (.bool false) := cell_blk hbf 1
    have g2 : w2.cell? ⟨w1.heap.size, 2, none⟩ = some (.bool false) := cell_blk hbf 2
    have g3 : w2.cell? ⟨w1.heap.size, 3, none⟩ = some (.bool true) := cell_blk hbf 3
    have hlc := blk_lt hbc
    have hlf := blk_lt hbf
    have HO := hid ho2; have HF := hid hF2
    have HCL := hid (wnum1_c hW2 tmn (by omega) (by simp only [List.length_append, List.length_cons, List.length_nil]; omega) rfl)
    clear hbc hbf ho2 hF2 hW2
    go_wp2_with fail
    refine HCL.out.mono ?_
    rintro x w3 ⟨rfl, hst5⟩
    have hst := hst5.comp HO.out HF.out
    clear hst5 HO HF HCL
    clear c0 c1 c2 c3 c4 c5 c6 c7 c8 g0 g1 g2 g3
    obtain ⟨F3, hW3, ho3, hF3⟩ := hst
    have hbc := blk_only HBC.out ho3 hfb
    have hbf := blk_only HBF.out ho3 hfc
    have c0 : w3.cell? ⟨w.heap.size, 0, none⟩ = some (.int .i64 6) := cell_blk hbc 0
    have c1 : w3.cell? ⟨w.heap.size, 1, none⟩ = some (.int .i64 tmn) := cell_blk hbc 1
    have c2 : w3.cell? ⟨w.heap.size, 2, none⟩ = some (.int .i64 an) := cell_blk hbc 2
    have c3 : w3.cell? ⟨w.heap.size, 3, none⟩ = some (.int .i64 bn) := cell_blk hbc 3
    have c4 : w3.cell? ⟨w.heap.size, 4, none⟩ = some (.string (strOf name)) := cell_blk hbc 4
    have c5 : w3.cell? ⟨w.heap.size, 5, none⟩ = some (.int .i64 vk) := cell_blk hbc 5
    have c6 : w3.cell? ⟨w.heap.size, 6, none⟩ = some (.int .i64 vn) := cell_blk hbc 6
    have c7 : w3.cell? ⟨w.heap.size, 7, none⟩ = some (.string (strOf vs)) := cell_blk hbc 7
    have c8 : w3.cell? ⟨w.heap.size, 8, none⟩ = some (.slice va vm vc) := cell_blk hbc 8
    have g0 : w3.cell? ⟨w1.heap.size, 0, none⟩ = some (.bool false) := cell_blk hbf 0
    have g1 : w3.cell? ⟨w1.heap.size, 1, none⟩ = some (.bool false) := cell_blk hbf 1
    have g2 : w3.cell? ⟨w1.heap.size, 2, none⟩ = some (.bool false) := cell_blk hbf 2
    have g3 : w3.cell? ⟨w1.heap.size, 3, none⟩ = some (.bool true) := cell_blk hbf 3
    have hlc := blk_lt hbc
    have hlf := blk_lt hbf
    have HO := hid ho3; have HF := hid hF3
    have HCL := hid (vwrite_c hW3 ((HV.out.same HOB.out).only HO.out HD.out) (fun i hi e => by rcases HF.out i e with e | e; exact HD.out i hi e; have := HGl.out i hi; omega) (fun i hi => by have := HGl.out i hi; have := HO.out.size; omega) Hgv.out (by simp only [List.length_append, List.length_cons, List.length_nil]; omega))
    clear hbc hbf ho3 hF3 hW3
    go_wp2_with fail
    refine HCL.out.mono ?_
    rintro x w4 ⟨rfl, hst5⟩
    have hst := hst5.comp HO.out HF.out
    clear hst5 HO HF HCL
    clear c0 c1 c2 c3 c4 c5 c6 c7 c8 g0 g1 g2 g3
    have HST := hid hst
    obtain ⟨F4, hW4, ho4, hF4⟩ := hst
    have hbf := blk_only HBF.out ho4 hfc
    have g0 : w4.cell? ⟨w1.heap.size, 0, none⟩ = some (.bool false) := cell_blk hbf 0
    have g1 : w4.cell? ⟨w1.heap.size, 1, none⟩ = some (.bool false) := cell_blk hbf 1
    have g2 : w4.cell? ⟨w1.heap.size, 2, none⟩ = some (.bool false) := cell_blk hbf 2
    have g3 : w4.cell? ⟨w1.heap.size, 3, none⟩ = some (.bool true) := cell_blk hbf 3
    clear hbf ho4 hF4 hW4
    go_wp2_with fail
    go_end0
    rw [HEQ.out]
    exact ⟨rfl, HST.out.pre HOB.out HFL.out⟩
end
end Go.Proofs.YtfmdngeooelcpaaGreat
