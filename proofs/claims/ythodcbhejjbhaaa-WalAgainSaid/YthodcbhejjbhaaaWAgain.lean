/- WalAgain's walk. -/
import Derived.Test.YthodcbhejjbhaaaL8F
import Derived.Test.YthodcbhejjbhaaaOpenK
import Derived.Test.YthodcbhejjbhaaaFrm
import Derived.Test.YthodcbhejjbhaaaPg
import Derived.Test.YthodcbhejjbhaaaRuns
namespace Go.Proofs.Ythodcbhejjbhaaa
open Go.RowKit
noncomputable def wagB (id : Nat) : Code := ((Try.f7.body).bind (blkOf id)).getD .skip
section
variable {w0 w : World} {Q : Exit → Act → World → Prop}
set_option maxRecDepth 100000 in
set_option maxHeartbeats 6400000 in
theorem wag0 {a : Act} {ops : List LOp} {bo : Option Addr} {bc l b s sg : Nat} {v1 : Value} (hops : LOpsAt w0 (.slice bo ops.length bc) ops) (hn : ops.length ≤ 40) (hd : ∀ o ∈ ops, o.data.length ≤ 100) (hW : (∃ r M Lr fv wv FF GG T0 fs, WS w0 w l b r s M Lr fv wv FF GG sg 0 T0 fs))
    (hL : Lv 117 a [(5, .pointer (some ⟨b, 0, none⟩)), (7, .pointer (some ⟨l, 0, none⟩)), (10, .pointer (some ⟨s, 0, none⟩)), (45, .slice bo ops.length bc), (46, .int .i64 ops.length), (47, .int .i64 0), (1, v1)])
    (hQ : ∀ a' w', Lv 117 a' [(5, .pointer (some ⟨b, 0, none⟩)), (7, .pointer (some ⟨l, 0, none⟩)), (10, .pointer (some ⟨s, 0, none⟩)), (1, v1)] → (∃ r M Lr fv wv FF GG T0 fs, WS w0 w' l b r s M Lr fv wv FF GG sg ops.length T0 fs) → Q .normal a' w') :
    (wagB 0).wp Try.prog Q a w := by
  refine Code.wp_mono NoPanic.imp ?_
  conv => arg 2; whnf
  refine wp_block (wp_loop (fun a' w' => ∃ j : Nat, j ≤ ops.length ∧ Lv 117 a' [(5, .pointer (some ⟨b, 0, none⟩)), (7, .pointer (some ⟨l, 0, none⟩)), (10, .pointer (some ⟨s, 0, none⟩)), (45, .slice bo ops.length bc), (46, .int .i64 ops.length), (47, .int .i64 (j : Nat)), (1, v1)] ∧ (∃ r M Lr fv wv FF GG T0 fs, WS w0 w' l b r s M Lr fv wv FF GG sg j T0 fs))
    (fun a' _ => ops.length - (intOf (a'.tmps.getD 47 undef)).toNat) ⟨0, Nat.zero_le _, hL, hW⟩ ?_)
  clear hL hW
  rintro a' w1 ⟨j, hj, hI, hws⟩
  obtain ⟨u, rfl, hu⟩ := act_fn hI
  rw [lit117] at hI ⊢
  obtain ⟨g5, g7, g10, g45, g46, g47, g1, -⟩ := hI
  change u 5 = _ at g5
  change u 7 = _ at g7
  change u 10 = _ at g10
  change u 45 = _ at g45
  change u 46 = _ at g46
  change u 47 = _ at g47
  change u 1 = _ at g1
  rw [g5, g7, g10, g45, g46, g47, g1]
  clear g5 g7 g10 g45 g46 g47 g1 hu
  have HQ := hid hQ; have HWS := hid hws
  clear hQ hws
  by_cases hjl : j < ops.length
  rotate_left
  · have hji : ¬ (j : Int) < ops.length := by omega
    obtain rfl : j = ops.length := by omega
    go_wp2_with fail
    exact HQ.out _ _ ⟨rfl, rfl, rfl, rfl, rfl, rfl⟩ HWS.out
  have hji : (j : Int) < ops.length := by omega
  obtain ⟨r, M, Lr, fv, wv, FF, GG, T0, fs, hw⟩ := HWS.out
  obtain ⟨o, hoj⟩ : ∃ t, ops[j]? = some t := ⟨_, List.getElem?_eq_getElem hjl⟩
  obtain ⟨bo', bc', heq, -, hel⟩ := hops
  simp only [Value.slice.injEq, true_and] at heq
  obtain ⟨rfl, rfl⟩ := heq
  obtain ⟨hat, g, of, rfl, hgl, hcl⟩ := hel j o hoj
  have hd1 := hd o (List.mem_of_getElem? hoj)
  obtain ⟨da, dc, hdv, -⟩ := hat.data
  have hsd := hat.data
  rw [hdv] at hsd
  have HSD := hid hsd
  have HR : Hid (w1.rangeAt g (of + j * 3) o.cells) := hid fun k u hk => (World.cell?_of_block (hw.lg.only.block g hgl (fun e => e))).trans (hcl k u hk)
  have HI3 : Hid ((Try.prog.info? 47).map (·.size) = some o.cells.length) := hid info_op8
  have HCE : Hid (o.cells.toArray = #[.int .i64 o.kind, .int .i64 o.often, .slice da o.data.length dc]) := hid (by unfold LOp.cells; rw [hdv])
  obtain ⟨kd, hkd⟩ : ∃ x, o.kind = x := ⟨_, rfl⟩
  obtain ⟨oft, hof⟩ : ∃ x, o.often = x := ⟨_, rfl⟩
  obtain ⟨dd, hdd⟩ : ∃ x, o.data = x := ⟨_, rfl⟩
  rw [hkd, hof, hdd] at HCE
  rw [hdd] at hd1 HSD
  have HW := hid hw
  clear hw hoj hel hat hcl hdv hsd hkd hof hdd HWS hd
  go_upto_region 15 with ((guard_target =~ wpList _ _ _ (⟨some 50, _, _, _, _, _⟩ :: _) _ _); refine wpList_load_mid rfl 47 (.tmp 49) rfl g (of + j * 3) rfl o.cells _ HR.out Try.underlying47 rfl HI3.out ?_; rw [HCE.out])
  obtain ⟨w2, hw2⟩ : ∃ x, w1.alloc (.cells #[.int .i64 kd, .int .i64 oft, .slice da dd.length dc] 47) = x := ⟨_, rfl⟩
  have hb12 : w2.heap[w1.heap.size]? = some (.cells #[.int .i64 kd, .int .i64 oft, .slice da dd.length dc] 47 (0, 0)) := by rw [← hw2]; exact blk_new _ _
  have ho12 : Only (fun _ => False) w1 w2 := by rw [← hw2]; exact only_new _ _
  rw [hw2]
  have HB12 := hid hb12
  have HW2 := hid (HW.out.same ho12)
  have c12 : w2.cell? ⟨w1.heap.size, 0, none⟩ = some (.int .i64 kd) := cell_blk HB12.out 0
  clear hw2 hb12 ho12 HW HR HI3 HCE
  by_cases hk4 : kd = 4
  · subst hk4
    go_wp2_with fail
    exact ⟨⟨j + 1, by omega, ⟨rfl, rfl, rfl, rfl, rfl, by show Value.int .i64 _ = _; go_num, rfl, rfl, rfl⟩, ⟨_, _, _, _, _, _, _, _, _, HW2.out.more⟩⟩, by simp [intOf]; omega⟩
  have hkb : (kd != 4) = true := by rw [bne_iff_ne]; exact hk4
  clear hk4
  obtain ⟨t, ht⟩ : ∃ x, rept (oftN oft) dd = x := ⟨_, rfl⟩
  have ht6 : t.length ≤ 100000 := by
    rw [← ht, rept_len]
    have h1 : oftN oft ≤ 60 := by unfold oftN; omega
    have := Nat.mul_le_mul h1 hd1
    omega
  have HPL : Hid (Calls Try.prog 16 #[.pointer (some ⟨l, 0, none⟩), .agg (rcells Lr fv wv), .agg #[.int .i64 kd, .int .i64 oft, .slice da dd.length dc]] w2 fun e w' => ∃ fv' wv' F' G' B, e = .returned (.tuple #[.agg (rcells (Lr.play kd t) fv' wv'), .bool B]) ∧ LogAt w' l b r (M.play kd t) F' ∧ RLAt w' (Lr.play kd t) fv' wv' G' ∧ (∀ k, G' k → ¬ F' k) ∧ (∀ k, F' k → FF k ∨ w2.heap.size ≤ k) ∧ (∀ k, G' k → GG k ∨ w2.heap.size ≤ k) ∧ Only FF w2 w') := hid (by
    obtain ⟨n1, n2, n3, -, -⟩ := HW2.out.n (by omega)
    have h0 := play_c HW2.out.lg.log HW2.out.rl HW2.out.fg kd oft dd (HSD.out.same HW2.out.lg.only) hd1 (fun g o e hne hf => by
      have := src_lt HSD.out g o e hne
      have := HW2.out.lg.new g hf
      omega) n1 n2 n3
    rw [ht] at h0
    refine h0.mono ?_
    rintro e w' ⟨fv', wv', F', G', e1, e2⟩
    exact ⟨fv', wv', F', G', _, e1, e2⟩)
  clear HSD ht
  go_wp2_with (first | ((guard_target =~ wpList _ _ _ (⟨some 56, _, _, _, _, _⟩ :: _) _ _); refine wpList_load_row (o := ⟨some 56, _, _, _, _, _⟩) rfl 45 (.tmp 10) rfl s rfl 45 (rcells Lr fv wv) (0, 0) _ HW2.out.bs Try.underlying45 rfl info_rl ?_) | ((guard_target =~ wpList _ _ _ (⟨some 57, _, _, _, _, _⟩ :: _) _ _); refine wpList_load_row (o := ⟨some 57, _, _, _, _, _⟩) rfl 47 (.tmp 12) rfl w1.heap.size rfl 47 #[.int .i64 kd, .int .i64 oft, .slice da dd.length dc] (0, 0) _ HB12.out Try.underlying47 rfl info_op8 ?_))
  refine HPL.out.mono ?_
  rintro x w3 ⟨fv3, wv3, F3, G3, B3, rfl, hl3, hr3, hs3, hf3, hg3, ho3⟩
  have HB3 := hid (blk_only HW2.out.bs ho3 HW2.out.fz)
  have HONE := hid hr3.one
  have HL3 := hid hl3; have HR3 := hid hr3; have HS3 := hid hs3; have HF3 := hid hf3; have HG3 := hid hg3; have HO3 := hid ho3
  clear hl3 hr3 hs3 hf3 hg3 ho3 HPL HB12 c12
  go_wp2_with ((guard_target =~ wpList _ _ _ (⟨none, .store 45 (.tmp 10) _, _, _, _, _⟩ :: _) _ _); refine wpList_store_all rfl 45 (.tmp 10) (.tmp 59) rfl s (rcells (Lr.play kd t) fv3 wv3) rfl rfl (rcells Lr fv wv) 45 HB3.out rfl info_rl HONE.out ?_; intro w4 hb4 ho4 hs4; have HB4 := hid hb4; have HO4 := hid ho4; clear hb4 ho4 hs4)
  obtain ⟨T4, fs4, hw4⟩ := HW2.out.play (by omega) ht6 HL3.out HR3.out HS3.out HF3.out HG3.out HO3.out HB4.out HO4.out
  exact ⟨⟨j + 1, by omega, ⟨rfl, rfl, rfl, rfl, rfl, by show Value.int .i64 _ = _; go_num, rfl, rfl, rfl⟩, ⟨_, _, _, _, _, _, _, _, _, hw4⟩⟩, by simp [intOf]; omega⟩
end
/-- The disk of a log at rest, and the document's log. -/
structure AgS (w0 w : World) (b s : Nat) (M : WM) (Lr : RLog) (fv wv : Value) (FD GG : Nat → Prop) (sg N : Nat) (T0 : List UInt8) (fs : List (Nat × List UInt8)) (n1 n2 : Int) : Prop where
  dk : DiskAt w b M.D FD
  fd : ∀ k, FD k → w0.heap.size ≤ k
  nw : M.D.nw = n1
  nf : M.D.nf = n2
  lp : LP M sg N T0 fs
  rl : RLAt w Lr fv wv GG
  bs : w.heap[s]? = some (.cells (rcells Lr fv wv) 45 (0, 0))
  fg : ∀ k, GG k → ¬ FD k
  fz : ¬ FD s
  fr : Lr.frames = fs
  fl : fs.length ≤ 1000000
  only : Only (fun _ => False) w0 w
theorem AgS.same {w0 w w' : World} {b s sg N : Nat} {M : WM} {Lr : RLog} {fv wv : Value} {FD GG : Nat → Prop} {T0 : List UInt8} {fs : List (Nat × List UInt8)} {n1 n2 : Int} (h : AgS w0 w b s M Lr fv wv FD GG sg N T0 fs n1 n2) (ho : Only (fun _ => False) w w') : AgS w0 w' b s M Lr fv wv FD GG sg N T0 fs n1 n2 :=
  { h with dk := h.dk.only ho (fun _ _ e => e), rl := h.rl.same ho, bs := blk_only h.bs ho (fun e => e), only := h.only.trans ho (fun _ _ e => e) }
theorem AgS.crashed {w0 w w' w'' : World} {b s sg N : Nat} {M : WM} {Lr : RLog} {fv wv : Value} {FD GG : Nat → Prop} {T0 : List UInt8} {fs : List (Nat × List UInt8)} {n1 n2 : Int} (h : AgS w0 w b s M Lr fv wv FD GG sg N T0 fs n1 n2) {keep : List Int} {tear at' : Int} (hd : DiskAt w'' b (M.D.crash keep tear at').up FD) (h1 : Only FD w w') (h2 : Only FD w' w'') : AgS w0 w'' b s { M with D := (M.D.crash keep tear at').up } Lr fv wv FD GG sg N T0 fs n1 n2 := by
  have ho := h1.trans h2 (fun _ _ e => e)
  exact ⟨hd, h.fd, h.nw, h.nf, h.lp.crashed keep tear at', h.rl.only ho h.fg, blk_only h.bs ho h.fz, h.fg, h.fz, h.fr, h.fl, h.only.trans ho (fun k hk e => by have := h.fd k e; omega)⟩
section
variable {w0 w : World} {Q : Exit → Act → World → Prop}
set_option maxRecDepth 100000 in
set_option maxHeartbeats 6400000 in
theorem wag2 {a : Act} {cr : List (Int × Int × Int)} {co : Option Addr} {cc b s sg : Nat} {n1 n2 : Int} {v4 : Value} (hcr : CrsAt w0 (.slice co cr.length cc) cr) (hn : cr.length ≤ 8) (hW : (∃ M Lr fv wv FF GG T0 fs, AgS w0 w b s M Lr fv wv FF GG sg 100 T0 fs n1 n2))
    (hL : Lv 117 a [(4, v4), (5, .pointer (some ⟨b, 0, none⟩)), (10, .pointer (some ⟨s, 0, none⟩)), (13, .int .i64 n1), (14, .int .i64 n2), (70, .slice co cr.length cc), (71, .int .i64 cr.length), (72, .int .i64 0)])
    (hQ : ∀ a' w', Lv 117 a' [(5, .pointer (some ⟨b, 0, none⟩)), (10, .pointer (some ⟨s, 0, none⟩)), (13, .int .i64 n1), (14, .int .i64 n2)] → (∃ M Lr fv wv FF GG T0 fs, AgS w0 w' b s M Lr fv wv FF GG sg 100 T0 fs n1 n2) → Q .normal a' w') :
    (wagB 2).wp Try.prog Q a w := by
  refine Code.wp_mono NoPanic.imp ?_
  conv => arg 2; whnf
  refine wp_block (wp_loop (fun a' w' => ∃ j : Nat, j ≤ cr.length ∧ Lv 117 a' [(4, v4), (5, .pointer (some ⟨b, 0, none⟩)), (10, .pointer (some ⟨s, 0, none⟩)), (13, .int .i64 n1), (14, .int .i64 n2), (70, .slice co cr.length cc), (71, .int .i64 cr.length), (72, .int .i64 (j : Nat))] ∧ (∃ M Lr fv wv FF GG T0 fs, AgS w0 w' b s M Lr fv wv FF GG sg 100 T0 fs n1 n2))
    (fun a' _ => cr.length - (intOf (a'.tmps.getD 72 undef)).toNat) ⟨0, Nat.zero_le _, hL, hW⟩ ?_)
  clear hL hW
  rintro a' w1 ⟨j, hj, hI, hws⟩
  obtain ⟨u, rfl, hu⟩ := act_fn hI
  rw [lit117] at hI ⊢
  obtain ⟨g4, g5, g10, g13, g14, g70, g71, g72, -⟩ := hI
  change u 4 = _ at g4
  change u 5 = _ at g5
  change u 10 = _ at g10
  change u 13 = _ at g13
  change u 14 = _ at g14
  change u 70 = _ at g70
  change u 71 = _ at g71
  change u 72 = _ at g72
  rw [g4, g5, g10, g13, g14, g70, g71, g72]
  clear g4 g5 g10 g13 g14 g70 g71 g72 hu
  have HQ := hid hQ; have HWS := hid hws
  clear hQ hws
  by_cases hjl : j < cr.length
  rotate_left
  · have hji : ¬ (j : Int) < cr.length := by omega
    go_wp2_with fail
    exact HQ.out _ _ ⟨rfl, rfl, rfl, rfl, rfl, rfl⟩ HWS.out
  have hji : (j : Int) < cr.length := by omega
  obtain ⟨M, Lr, fv, wv, FF, GG, T0, fs, hw⟩ := HWS.out
  obtain ⟨⟨x1, x2, x3⟩, hcj⟩ : ∃ t, cr[j]? = some t := ⟨_, List.getElem?_eq_getElem hjl⟩
  obtain ⟨co', cc', heq, -, hel⟩ := hcr
  simp only [Value.slice.injEq, true_and] at heq
  obtain ⟨rfl, rfl⟩ := heq
  obtain ⟨g, of, rfl, hgl, hcl⟩ := hel j _ hcj
  have HR : Hid (w1.rangeAt g (of + j * 3) (c3 (x1, x2, x3))) := hid fun k u hk => (World.cell?_of_block (hw.only.block g hgl (fun e => e))).trans (hcl k u hk)
  have HI3 : Hid ((Try.prog.info? 73).map (·.size) = some (c3 (x1, x2, x3)).length) := hid (by kernel_rfl)
  have HW := hid hw
  clear hw hcj hel hcl HWS
  go_upto_region 22 with ((guard_target =~ wpList _ _ _ (⟨some 75, _, _, _, _, _⟩ :: _) _ _); refine wpList_load_mid rfl 73 (.tmp 74) rfl g (of + j * 3) rfl (c3 (x1, x2, x3)) _ HR.out Try.underlying73 rfl HI3.out ?_; rw [show (c3 (x1, x2, x3)).toArray = #[.int .i64 x1, .int .i64 x2, .int .i64 x3] from rfl])
  obtain ⟨w2, hw2⟩ : ∃ x, w1.alloc (.cells #[.int .i64 x1, .int .i64 x2, .int .i64 x3] 73) = x := ⟨_, rfl⟩
  have hb12 : w2.heap[w1.heap.size]? = some (.cells #[.int .i64 x1, .int .i64 x2, .int .i64 x3] 73 (0, 0)) := by rw [← hw2]; exact blk_new _ _
  have ho12 : Only (fun _ => False) w1 w2 := by rw [← hw2]; exact only_new _ _
  rw [hw2]
  have HB12 := hid hb12
  have HW2 := hid (HW.out.same ho12)
  clear hw2 hb12 ho12 HW HR HI3
  have HOP := hid (lopen_c (w0 := w0) HW2.out.dk HW2.out.fd HW2.out.only HW2.out.lp (by decide))
  go_wp2_with fail
  refine HOP.out.mono ?_
  rintro x w3 ⟨v3, l3, r3, lo3, F3, rfl, -, -, hfo3, -, -, ho3⟩
  have HLK := hid (like_c (w := w3) (gs := Lr.frames) hfo3 ((HW2.out.rl.same ho3).f) HW2.out.fl)
  obtain ⟨ao3, cap3, xs3, rfl, -⟩ := hfo3
  have HFR := hid HW2.out.fr
  obtain ⟨fa, fc, hfv⟩ := HW2.out.rl.fvs
  subst hfv
  have HW3 := hid (HW2.out.same ho3)
  have HB3 := hid (blk_only HB12.out ho3 (fun e => e))
  have cs3 : w3.cell? ⟨s, 3, none⟩ = some (.slice fa Lr.frames.length fc) := cell_blk HW3.out.bs 3
  have cs0 : w3.cell? ⟨s, 0, none⟩ = some (.int .i64 (Lr.size : Nat)) := cell_blk HW3.out.bs 0
  clear ho3 HOP HW2 HB12
  go_wp2_with fail
  refine HLK.out.mono ?_
  rintro x w4 ⟨⟨B, rfl, hB⟩, ho4⟩
  obtain rfl : B = true := hB HFR.out.symm
  have HW4 := hid (HW3.out.same ho4)
  have HB4 := hid (blk_only HB3.out ho4 (fun e => e))
  have hlt4 := blk_lt HB4.out
  have d0 : w4.cell? ⟨w1.heap.size, 0, none⟩ = some (.int .i64 x1) := cell_blk HB4.out 0
  have d1 : w4.cell? ⟨w1.heap.size, 1, none⟩ = some (.int .i64 x2) := cell_blk HB4.out 1
  have d2 : w4.cell? ⟨w1.heap.size, 2, none⟩ = some (.int .i64 x3) := cell_blk HB4.out 2
  have HCR : Hid (Calls Try.prog 24 #[.pointer (some ⟨b, 0, none⟩), .slice (some ⟨w4.heap.size, 0, none⟩) 1 1, .int .i64 x2, .int .i64 x3] (w4.alloc (.cells #[.int .i64 x1] 3)) fun e w' => e = .returned (.tuple #[]) ∧ DiskAt w' b (M.D.crash [x1] x2 x3) FF ∧ Only FF (w4.alloc (.cells #[.int .i64 x1] 3)) w') := hid (by
    have hb := blk_new w4 (.cells #[.int .i64 x1] 3)
    refine crash_c (HW4.out.dk.only (only_new _ _) (fun _ _ e => e)) _ [x1] ⟨_, _, rfl, fun _ => ⟨w4.heap.size, 0, rfl, fun i u hu => ?_⟩⟩ (fun g o c e hf => ?_) (by show 1 ≤ 9223372036854775807; decide) x2 x3
    · rw [Nat.zero_add]
      refine (cell_blk hb i).trans ?_
      simpa [intsV] using hu
    · simp only [Value.slice.injEq, Option.some.injEq, Addr.mk.injEq] at e
      have := HW4.out.dk.lt hf
      omega)
  clear ho4 hB cs3 cs0 HB3 HW3 HLK
  go_wp2_with fail
  refine HCR.out.mono ?_
  rintro x w5 ⟨rfl, hd5, ho5⟩
  have HUP := hid (up_c hd5)
  have HO5 : Hid (Only FF w4 w5) := hid (((only_new _ _).mono (fun _ _ e => e.elim)).trans ho5 (fun _ _ e => e))
  clear hd5 ho5 HCR d0 d1 d2
  go_wp2_with fail
  refine HUP.out.mono ?_
  rintro x w6 ⟨rfl, hd6, ho6⟩
  have HW6 := hid (HW4.out.crashed hd6 HO5.out ho6)
  clear hd6 ho6 HUP HO5 HW4
  go_wp2_with fail
  exact ⟨⟨j + 1, by omega, ⟨rfl, rfl, rfl, rfl, rfl, rfl, rfl, by show Value.int .i64 _ = _; go_num, rfl, rfl⟩, ⟨_, _, _, _, _, _, _, _, HW6.out⟩⟩, by simp [intOf]; omega⟩
end
section
variable {w : World}
set_option maxRecDepth 100000 in
set_option maxHeartbeats 6400000 in
theorem walagain_c {v : Value} {ops : List LOp} (h : LOpsAt w v ops) {v1 : Value} {cr : List (Int × Int × Int)} (h1 : CrsAt w v1 cr) : Calls Try.prog 7 #[v, v1] w fun x w' => x = .returned (.bool true) ∧ Only (fun _ => False) w w' := by
  have H := hid h; have HC := hid h1
  obtain ⟨bo, bc, rfl, -, -⟩ := h
  obtain ⟨co, cc, rfl, -, -⟩ := h1
  go_enter Try.func7, Try.ntmps7
  go_wp2_with fail
  refine logs_c.mono ?_
  rintro x w1 ⟨rfl, ho1⟩
  have HO1 := hid ho1
  clear ho1
  have HFT := hid (fits8_c (w := w1) (lops_same H.out HO1.out))
  go_wp2_with fail
  refine HFT.out.mono ?_
  rintro x w2 ⟨⟨B, rfl, hB⟩, ho2⟩
  have HO2 := hid (HO1.out.trans ho2 (fun _ _ e => e))
  clear ho2 HO1 HFT
  cases B with
  | false =>
    go_wp2_with fail
    go_ret
    exact ⟨rfl, HO2.out⟩
  | true =>
    have HB := hid (hB rfl)
    clear hB
    by_cases h8 : (8 : Int) < cr.length
    · go_wp2_with fail
      go_ret
      exact ⟨rfl, HO2.out⟩
    have HNW : Hid (Calls Try.prog 10 #[.int .i64 50] w2 fun e w' => ∃ b F, e = .returned (.tuple #[.pointer (some ⟨b, 0, none⟩), .int .i64 0]) ∧ DiskAt w' b (DiskM.new 50) F ∧ Only (fun _ => False) w2 w' ∧ ∀ k, F k → w2.heap.size ≤ k) := hid (new_ok w2 50 (by decide) (by decide))
    go_wp2_with fail
    refine HNW.out.mono ?_
    rintro x w3 ⟨b, FD, rfl, hd, ho3, hf3⟩
    have HP0 := hid (LP.new (sg := 3) (n := 50) (by decide) (by decide) (by decide))
    have HOP := hid (lopen_c (w0 := w) hd (fun k hk => by have := hf3 k hk; have := HO2.out.size; omega) (HO2.out.trans ho3 (fun _ _ e => e)) HP0.out (by decide))
    clear hd hf3 ho3 HNW HO2
    go_wp2_with fail
    refine HOP.out.mono ?_
    rintro x w4 ⟨v4, l, r, lo4, F4, rfl, hl4, -, hfo4, -, -, -⟩
    obtain ⟨ao4, cap4, xs4, rfl, -⟩ := hfo4
    have HL4 := hid hl4
    clear hl4 HOP
    go_upto_block 0 with fail
    obtain ⟨w5, hw5⟩ : ∃ x, w4.alloc (.cells #[.int .i64 6144, .int .i64 0, .int .i64 0, .slice none 0 0, .slice none 0 0] 45) = x := ⟨_, rfl⟩
    have HWS := hid (WS.start HL4.out HP0.out rfl (by decide) (by decide) rfl hw5.symm)
    rw [hw5]
    clear hw5 HL4 HP0
    refine wag0 (w0 := w) (w := w5) (a := _) (ops := ops) (bo := bo) (bc := bc) (l := l) (b := b) (s := w4.heap.size) (sg := 3) (v1 := .slice co cr.length cc) H.out HB.out.1 HB.out.2 ⟨r, _, _, _, _, _, _, _, _, HWS.out⟩ ⟨rfl, rfl, rfl, rfl, rfl, rfl, rfl, rfl, rfl⟩ ?_
    intro a' w6 hI hws
    obtain ⟨u, rfl, hu⟩ := act_fn hI
    rw [lit117] at hI ⊢
    obtain ⟨g5, g7, g10, g1, -⟩ := hI
    change u 5 = _ at g5
    change u 7 = _ at g7
    change u 10 = _ at g10
    change u 1 = _ at g1
    rw [g5, g7, g10, g1]
    clear g5 g7 g10 g1 hu
    obtain ⟨r6, M, Lr, fv, wv, FF, GG, T0, fs, hw⟩ := hws
    have HN := hid HB.out.1
    have HW := hid hw
    obtain ⟨FD6, hdk, hfk⟩ := hw.lg.log.disk
    obtain ⟨n1, hn1⟩ : ∃ x, M.D.nw = x := ⟨_, rfl⟩
    obtain ⟨n2, hn2⟩ : ∃ x, M.D.nf = x := ⟨_, rfl⟩
    have HWR : Hid (∀ W, Only (fun _ => False) w6 W → Calls Try.prog 22 #[.pointer (some ⟨b, 0, none⟩)] W fun e w' => e = .returned (.int .i64 n1) ∧ Only (fun _ => False) W w') := hid fun W hW => (writes_c (hdk.only hW (fun _ _ e => e))).mono (fun e w' ⟨h1, h2⟩ => ⟨by rw [h1, hn1], by rw [← h2]; exact Only.refl _ _⟩)
    have HFL : Hid (∀ W, Only (fun _ => False) w6 W → Calls Try.prog 23 #[.pointer (some ⟨b, 0, none⟩)] W fun e w' => e = .returned (.int .i64 n2) ∧ Only (fun _ => False) W w') := hid fun W hW => (flushes_c (hdk.only hW (fun _ _ e => e))).mono (fun e w' ⟨h1, h2⟩ => ⟨by rw [h1, hn2], by rw [← h2]; exact Only.refl _ _⟩)
    have HAG : Hid (AgS w w6 b w4.heap.size M Lr fv wv FD6 GG 3 100 T0 fs n1 n2) := hid ⟨hdk, fun k hk => hw.lg.new k (hfk k hk), hn1, hn2, hw.lp.more (by have := HN.out; omega), hw.rl, hw.bs, fun k hk hf => hw.fg k hk (hfk k hf), fun e => hw.fz (hfk _ e), hw.sam.frames, RLAt.fl hw, hw.lg.only⟩
    have HDB : Hid (∃ g cap ms, w6.heap[b]? = some (.cells (diskCells M.D g cap ms) 72 (0, 0))) := hid (by obtain ⟨g, cap, ms, sg, sc, pe, clock, ρ, hr, -⟩ := hdk; exact ⟨g, cap, ms, hr.blk⟩)
    clear hw hdk hfk HWS HB hn1 hn2
    obtain ⟨gd, cpd, msd, hbd⟩ := HDB.out
    have HBD := hid hbd
    have k0 : w6.cell? ⟨b, 0, none⟩ = some (.int .i64 M.D.nw) := cell_blk hbd 0
    clear hbd HDB HW
    go_upto_region 18 with fail
    refine region_pt 8 [] (by kernel_rfl) (by kernel_rfl) (by kernel_rfl) [(62, fun _ v => v = .pointer (some ⟨b, 0, none⟩)), (63, fun _ v => v = .pointer (some ⟨b, 0, none⟩)), (64, fun _ v => v = .pointer (some ⟨b, 0, none⟩)), (65, fun _ v => v = .int .i64 n1), (66, fun _ v => v = .pointer (some ⟨b, 0, none⟩)), (67, fun _ v => v = .pointer (some ⟨b, 0, none⟩)), (68, fun _ v => v = .pointer (some ⟨b, 0, none⟩)), (69, fun _ v => v = .int .i64 n2)] (fun _ W => Only (fun _ => False) w6 W) (by show [62, 63, 64, 65, 66, 67, 68, 69].Nodup; decide) (by show ∀ d ∈ [62, 63, 64, 65, 66, 67, 68, 69], d < 117; decide) ((Only.refl _ _).drew) (.inl rfl) ?_ ?_ ?_
    · exact trivial
    · have hstab : PtStabs (Only (fun _ => False)) [(62, fun _ v => v = .pointer (some ⟨b, 0, none⟩)), (63, fun _ v => v = .pointer (some ⟨b, 0, none⟩)), (64, fun _ v => v = .pointer (some ⟨b, 0, none⟩)), (65, fun _ v => v = .int .i64 n1), (66, fun _ v => v = .pointer (some ⟨b, 0, none⟩)), (67, fun _ v => v = .pointer (some ⟨b, 0, none⟩)), (68, fun _ v => v = .pointer (some ⟨b, 0, none⟩)), (69, fun _ v => v = .int .i64 n2)] := ⟨fun _ _ _ _ h => h, fun _ _ _ _ h => h, fun _ _ _ _ h => h, fun _ _ _ _ h => h, fun _ _ _ _ h => h, fun _ _ _ _ h => h, fun _ _ _ _ h => h, fun _ _ _ _ h => h, trivial⟩
      refine PtAllS.cons rfl ⟨rfl, rfl⟩ ?_ (PtAllS.cons rfl ⟨rfl, rfl⟩ ?_ (PtAllS.cons rfl ⟨rfl, rfl⟩ ?_ (PtAllS.cons rfl ⟨rfl, rfl⟩ ?_ (PtAllS.cons rfl ⟨rfl, rfl⟩ ?_ (PtAllS.cons rfl ⟨rfl, rfl⟩ ?_ (PtAllS.cons rfl ⟨rfl, rfl⟩ ?_ (PtAllS.cons rfl ⟨rfl, rfl⟩ ?_ (PtAllS.nil rfl))))))))
      · intro L a W K hI hn hd hK
        have e5 : a.eval (.tmp 5) = .pointer (some ⟨b, 0, none⟩) := hI.ev 5 (by show ¬ (5 ∈ [62, 63, 64, 65, 66, 67, 68, 69]); decide) rfl
        exact pt_move _ (by first | exact .inl rfl | exact .inr rfl) _ e5 (hK _ _ hI.j PtKeep.refl rfl)
      · intro L a W K hI hn hd hK
        have e62 : a.eval (.tmp 62) = .pointer (some ⟨b, 0, none⟩) := hI.fact 0 62 _ rfl (dep_of hd 0 (by kernel_rfl))
        exact pt_val (v := .pointer (some ⟨b, 0, none⟩)) (by unfold execOp; simp only [e62]; kernel_rfl) (hK _ _ hI.j PtKeep.refl rfl)
      · intro L a W K hI hn hd hK
        have e63 : a.eval (.tmp 63) = .pointer (some ⟨b, 0, none⟩) := hI.fact 1 63 _ rfl (dep_of hd 1 (by kernel_rfl))
        exact pt_val (v := .pointer (some ⟨b, 0, none⟩)) (by unfold execOp; simp only [e63]; kernel_rfl) (hK _ _ hI.j PtKeep.refl rfl)
      · intro L a W K hI hn hd hK
        have e64 : a.eval (.tmp 64) = .pointer (some ⟨b, 0, none⟩) := hI.fact 2 64 _ rfl (dep_of hd 2 (by kernel_rfl))
        refine wp_callc (f := 22) (args := #[a.eval (.tmp 64)]) (by kernel_rfl) ?_
        rw [e64]
        refine (HWR.out _ hI.j).mono ?_
        rintro x W' ⟨rfl, ho⟩
        exact ⟨_, rfl, hK _ _ (hI.j.trans ho (fun _ _ e => e.elim)) (hstab.keep ho) rfl⟩
      · intro L a W K hI hn hd hK
        have e5 : a.eval (.tmp 5) = .pointer (some ⟨b, 0, none⟩) := hI.ev 5 (by show ¬ (5 ∈ [62, 63, 64, 65, 66, 67, 68, 69]); decide) rfl
        exact pt_move _ (by first | exact .inl rfl | exact .inr rfl) _ e5 (hK _ _ hI.j PtKeep.refl rfl)
      · intro L a W K hI hn hd hK
        have e66 : a.eval (.tmp 66) = .pointer (some ⟨b, 0, none⟩) := hI.fact 4 66 _ rfl (dep_of hd 4 (by kernel_rfl))
        exact pt_val (v := .pointer (some ⟨b, 0, none⟩)) (by unfold execOp; simp only [e66]; kernel_rfl) (hK _ _ hI.j PtKeep.refl rfl)
      · intro L a W K hI hn hd hK
        have e67 : a.eval (.tmp 67) = .pointer (some ⟨b, 0, none⟩) := hI.fact 5 67 _ rfl (dep_of hd 5 (by kernel_rfl))
        exact pt_val (v := .pointer (some ⟨b, 0, none⟩)) (by unfold execOp; simp only [e67]; kernel_rfl) (hK _ _ hI.j PtKeep.refl rfl)
      · intro L a W K hI hn hd hK
        have e68 : a.eval (.tmp 68) = .pointer (some ⟨b, 0, none⟩) := hI.fact 6 68 _ rfl (dep_of hd 6 (by kernel_rfl))
        refine wp_callc (f := 23) (args := #[a.eval (.tmp 68)]) (by kernel_rfl) ?_
        rw [e68]
        refine (HFL.out _ hI.j).mono ?_
        rintro x W' ⟨rfl, ho⟩
        exact ⟨_, rfl, hK _ _ (hI.j.trans ho (fun _ _ e => e.elim)) (hstab.keep ho) rfl⟩
    · intro L a w7 hal hj hfs
      dsimp only [PtAll] at hfs
      obtain ⟨f62, f63, f64, f65, f66, f67, f68, f69, -⟩ := hfs
      have hA := hal.turned
      simp only [List.map_cons, List.map_nil, Act.turned, f62, f63, f64, f65, f66, f67, f68, f69] at hA
      simp only [Act.put, List.setIfInBounds_toArray, List.set_cons_zero, List.set_cons_succ] at hA
      clear hal f62 f63 f64 f65 f66 f67 f68 f69
      subst hA
      change wpList _ _ _ [_, _] _ _
      have HJ := hid hj
      have HAG7 := hid (HAG.out.same hj)
      clear hj
      go_upto_block 2 with fail
      refine wag2 (w0 := w) (w := w7) (a := _) (cr := cr) (co := co) (cc := cc) (b := b) (s := w4.heap.size) (sg := 3) (n1 := n1) (n2 := n2) HC.out (by omega) ⟨_, _, _, _, _, _, _, _, HAG7.out⟩ ⟨rfl, rfl, rfl, rfl, rfl, rfl, rfl, rfl, rfl, rfl⟩ ?_
      intro a' w8 hI hag
      obtain ⟨u, rfl, hu⟩ := act_fn hI
      rw [lit117] at hI ⊢
      obtain ⟨g5, g10, g13, g14, -⟩ := hI
      change u 5 = _ at g5
      change u 10 = _ at g10
      change u 13 = _ at g13
      change u 14 = _ at g14
      rw [g5, g10, g13, g14]
      clear g5 g10 g13 g14 hu
      obtain ⟨M8, L8, fv8, wv8, FF8, GG8, T8, fs8, hag⟩ := hag
      have HAG8 := hid hag
      have HWR8 : Hid (Calls Try.prog 22 #[.pointer (some ⟨b, 0, none⟩)] w8 fun e w' => e = .returned (.int .i64 n1) ∧ w8 = w') := hid (by have := writes_c HAG8.out.dk; rw [HAG8.out.nw] at this; exact this)
      have HFL8 : Hid (Calls Try.prog 23 #[.pointer (some ⟨b, 0, none⟩)] w8 fun e w' => e = .returned (.int .i64 n2) ∧ w8 = w') := hid (by have := flushes_c HAG8.out.dk; rw [HAG8.out.nf] at this; exact this)
      obtain ⟨g8, cap8, ms8, sg8, sc8, pe8, clock8, ρ8, hr8, -⟩ := HAG8.out.dk
      have k8 : w8.cell? ⟨b, 0, none⟩ = some (.int .i64 M8.D.nw) := cell_blk hr8.blk 0
      clear hag hr8
      go_wp2_with fail
      refine HWR8.out.mono ?_
      rintro x w9 ⟨rfl, rfl⟩
      go_wp2_with fail
      refine HFL8.out.mono ?_
      rintro x w9 ⟨rfl, rfl⟩
      go_wp2_with fail
      go_ret
      exact ⟨rfl, HAG8.out.only⟩
end
end Go.Proofs.Ythodcbhejjbhaaa
