/- WalPlays: its loop. -/
import Derived.Test.YthodcbhejjbhaaaL8D
import Derived.Test.YthodcbhejjbhaaaPg
import Derived.Test.YthodcbhejjbhaaaFrm
import Derived.Test.YthodcbhejjbhaaaRuns
namespace Go.Proofs.Ythodcbhejjbhaaa
open Go.RowKit
noncomputable def wplB (id : Nat) : Code := ((Try.f5.body).bind (blkOf id)).getD .skip
theorem lit141 (v : Nat → Value) : ((List.range 141).map v).toArray = #[v 0, v 1, v 2, v 3, v 4, v 5, v 6, v 7, v 8, v 9, v 10, v 11, v 12, v 13, v 14, v 15, v 16, v 17, v 18, v 19, v 20, v 21, v 22, v 23, v 24, v 25, v 26, v 27, v 28, v 29, v 30, v 31, v 32, v 33, v 34, v 35, v 36, v 37, v 38, v 39, v 40, v 41, v 42, v 43, v 44, v 45, v 46, v 47, v 48, v 49, v 50, v 51, v 52, v 53, v 54, v 55, v 56, v 57, v 58, v 59, v 60, v 61, v 62, v 63, v 64, v 65, v 66, v 67, v 68, v 69, v 70, v 71, v 72, v 73, v 74, v 75, v 76, v 77, v 78, v 79, v 80, v 81, v 82, v 83, v 84, v 85, v 86, v 87, v 88, v 89, v 90, v 91, v 92, v 93, v 94, v 95, v 96, v 97, v 98, v 99, v 100, v 101, v 102, v 103, v 104, v 105, v 106, v 107, v 108, v 109, v 110, v 111, v 112, v 113, v 114, v 115, v 116, v 117, v 118, v 119, v 120, v 121, v 122, v 123, v 124, v 125, v 126, v 127, v 128, v 129, v 130, v 131, v 132, v 133, v 134, v 135, v 136, v 137, v 138, v 139, v 140] := by kernel_rfl
def WSt (w0 w : World) (l b s sg j : Nat) : Prop := ∃ r M Lr fv wv FF GG T0 fs, WS w0 w l b r s M Lr fv wv FF GG sg j T0 fs
theorem RLAt.fvs {w : World} {Lr : RLog} {fv wv : Value} {GG : Nat → Prop} (h : RLAt w Lr fv wv GG) : ∃ fa fc, fv = .slice fa Lr.frames.length fc := by obtain ⟨⟨fa, fc, e, -⟩, -⟩ := h; exact ⟨fa, fc, e⟩
theorem RLAt.wvs {w : World} {Lr : RLog} {fv wv : Value} {GG : Nat → Prop} (h : RLAt w Lr fv wv GG) : ∃ qa qc, wv = .slice qa Lr.waiting.length qc := by obtain ⟨-, ⟨qa, qc, e, -⟩, -⟩ := h; exact ⟨qa, qc, e⟩
section
variable {w0 w : World} {Q : Exit → Act → World → Prop}
set_option maxRecDepth 100000 in
set_option maxHeartbeats 6400000 in
theorem wpl0 {a : Act} {ops : List LOp} {bo : Option Addr} {bc l b s sg : Nat} (hops : LOpsAt w0 (.slice bo ops.length bc) ops) (hn : ops.length ≤ 40) (hd : ∀ o ∈ ops, o.data.length ≤ 100) (hW : WSt w0 w l b s sg 0)
    (hL : Lv 141 a [(5, .pointer (some ⟨b, 0, none⟩)), (7, .pointer (some ⟨l, 0, none⟩)), (10, .pointer (some ⟨s, 0, none⟩)), (55, .slice bo ops.length bc), (56, .int .i64 ops.length), (57, .int .i64 0)])
    (hQ : ∀ a' w' l', Lv 141 a' [(5, .pointer (some ⟨b, 0, none⟩)), (7, .pointer (some ⟨l', 0, none⟩)), (10, .pointer (some ⟨s, 0, none⟩))] → WSt w0 w' l' b s sg ops.length → Q .normal a' w') :
    (wplB 0).wp Try.prog Q a w := by
  refine Code.wp_mono NoPanic.imp ?_
  conv => arg 2; whnf
  refine wp_block (wp_loop (fun a' w' => ∃ (j lx : Nat), j ≤ ops.length ∧ Lv 141 a' [(5, .pointer (some ⟨b, 0, none⟩)), (7, .pointer (some ⟨lx, 0, none⟩)), (10, .pointer (some ⟨s, 0, none⟩)), (55, .slice bo ops.length bc), (56, .int .i64 ops.length), (57, .int .i64 (j : Nat))] ∧ WSt w0 w' lx b s sg j)
    (fun a' _ => ops.length - (intOf (a'.tmps.getD 57 undef)).toNat) ⟨0, l, Nat.zero_le _, hL, hW⟩ ?_)
  clear hL hW
  rintro a' w1 ⟨j, lx, hj, hI, hws⟩
  obtain ⟨u, rfl, hu⟩ := act_fn hI
  rw [lit141] at hI ⊢
  obtain ⟨g5, g7, g10, g55, g56, g57, -⟩ := hI
  change u 5 = _ at g5
  change u 7 = _ at g7
  change u 10 = _ at g10
  change u 55 = _ at g55
  change u 56 = _ at g56
  change u 57 = _ at g57
  rw [g5, g7, g10, g55, g56, g57]
  clear g5 g7 g10 g55 g56 g57 hu
  have HQ := hid hQ; have HWS := hid hws
  clear hQ hws
  by_cases hjl : j < ops.length
  rotate_left
  · have hji : ¬ (j : Int) < ops.length := by omega
    obtain rfl : j = ops.length := by omega
    go_wp2_with fail
    exact HQ.out _ _ _ ⟨rfl, rfl, rfl, rfl, rfl⟩ HWS.out
  have hji : (j : Int) < ops.length := by omega
  obtain ⟨r, M, Lr, fv, wv, FF, GG, T0, fs, hw⟩ := HWS.out
  obtain ⟨o, hoj⟩ : ∃ t, ops[j]? = some t := ⟨_, List.getElem?_eq_getElem hjl⟩
  obtain ⟨bo', bc', heq, -, hel⟩ := hops
  simp only [Value.slice.injEq, true_and] at heq
  obtain ⟨rfl, rfl⟩ := heq
  obtain ⟨hat, g, of, rfl, hgl, hcl⟩ := hel j o hoj
  have hd1 := hd o (List.mem_of_getElem? hoj)
  obtain ⟨da, dc, hdv, -⟩ := hat.data
  have hsd := hat.data
  rw [hdv] at hsd
  have HSD := hid hsd
  have HR : Hid (w1.rangeAt g (of + j * 3) o.cells) := hid fun k u hk => (World.cell?_of_block (hw.lg.only.block g hgl (fun e => e))).trans (hcl k u hk)
  have HI3 : Hid ((Try.prog.info? 47).map (·.size) = some o.cells.length) := hid info_op8
  have HCE : Hid (o.cells.toArray = #[.int .i64 o.kind, .int .i64 o.often, .slice da o.data.length dc]) := hid (by unfold LOp.cells; rw [hdv])
  obtain ⟨kd, hkd⟩ : ∃ x, o.kind = x := ⟨_, rfl⟩
  obtain ⟨oft, hof⟩ : ∃ x, o.often = x := ⟨_, rfl⟩
  obtain ⟨dd, hdd⟩ : ∃ x, o.data = x := ⟨_, rfl⟩
  rw [hkd, hof, hdd] at HCE
  rw [hdd] at hd1 HSD
  have HW := hid hw
  clear hw hoj hel hat hcl hdv hsd hkd hof hdd HWS hd
  go_upto_region 16 with ((guard_target =~ wpList _ _ _ (⟨some 60, _, _, _, _, _⟩ :: _) _ _); refine wpList_load_mid rfl 47 (.tmp 59) rfl g (of + j * 3) rfl o.cells _ HR.out Try.underlying47 rfl HI3.out ?_; rw [HCE.out])
  obtain ⟨w2, hw2⟩ : ∃ x, w1.alloc (.cells #[.int .i64 kd, .int .i64 oft, .slice da dd.length dc] 47) = x := ⟨_, rfl⟩
  have hb12 : w2.heap[w1.heap.size]? = some (.cells #[.int .i64 kd, .int .i64 oft, .slice da dd.length dc] 47 (0, 0)) := by rw [← hw2]; exact blk_new _ _
  have ho12 : Only (fun _ => False) w1 w2 := by rw [← hw2]; exact only_new _ _
  rw [hw2]
  have HB12 := hid hb12
  have HW2 := hid (HW.out.same ho12)
  have hns : w1.heap.size ≠ s := fun e => by have := blk_lt HW.out.bs; omega
  have hnF : ¬ FF w1.heap.size := fun e => by have := HW.out.lg.log.lt e; omega
  have HNS := hid hns; have HNF := hid hnF
  clear hw2 hb12 ho12 hns hnF HW HR HI3 HCE
  obtain ⟨t, ht⟩ : ∃ x, rept (oftN oft) dd = x := ⟨_, rfl⟩
  have ht6 : t.length ≤ 100000 := by
    rw [← ht, rept_len]
    have h1 : oftN oft ≤ 60 := by unfold oftN; omega
    have := Nat.mul_le_mul h1 hd1
    omega
  have HPL : Hid (Calls Try.prog 16 #[.pointer (some ⟨lx, 0, none⟩), .agg (rcells Lr fv wv), .agg #[.int .i64 kd, .int .i64 oft, .slice da dd.length dc]] w2 fun e w' => ∃ fv' wv' F' G', e = .returned (.tuple #[.agg (rcells (Lr.play kd t) fv' wv'), .bool true]) ∧ LogAt w' lx b r (M.play kd t) F' ∧ RLAt w' (Lr.play kd t) fv' wv' G' ∧ (∀ k, G' k → ¬ F' k) ∧ (∀ k, F' k → FF k ∨ w2.heap.size ≤ k) ∧ (∀ k, G' k → GG k ∨ w2.heap.size ≤ k) ∧ Only FF w2 w') := hid (by
    obtain ⟨n1, n2, n3, -, -⟩ := HW2.out.n (by omega)
    have h0 := play_c HW2.out.lg.log HW2.out.rl HW2.out.fg kd oft dd (HSD.out.same HW2.out.lg.only) hd1 (fun g o e hne hf => by
      have := src_lt HSD.out g o e hne
      have := HW2.out.lg.new g hf
      omega) n1 n2 n3
    rw [ht] at h0
    have h1 := (HW2.out.lp.play HW2.out.sam (by omega) kd ht6).1
    refine h0.mono ?_
    rintro e w' ⟨fv', wv', F', G', e1, e2⟩
    rw [h1] at e1
    exact ⟨fv', wv', F', G', e1, e2⟩)
  clear HSD ht
  go_wp2_with (first | ((guard_target =~ wpList _ _ _ (⟨some 63, _, _, _, _, _⟩ :: _) _ _); refine wpList_load_row (o := ⟨some 63, _, _, _, _, _⟩) rfl 45 (.tmp 10) rfl s rfl 45 (rcells Lr fv wv) (0, 0) _ HW2.out.bs Try.underlying45 rfl info_rl ?_) | ((guard_target =~ wpList _ _ _ (⟨some 64, _, _, _, _, _⟩ :: _) _ _); refine wpList_load_row (o := ⟨some 64, _, _, _, _, _⟩) rfl 47 (.tmp 12) rfl w1.heap.size rfl 47 #[.int .i64 kd, .int .i64 oft, .slice da dd.length dc] (0, 0) _ HB12.out Try.underlying47 rfl info_op8 ?_))
  refine HPL.out.mono ?_
  rintro x w3 ⟨fv3, wv3, F3, G3, rfl, hl3, hr3, hs3, hf3, hg3, ho3⟩
  have HB3 := hid (blk_only HW2.out.bs ho3 HW2.out.fz)
  have HB12' := hid (blk_only HB12.out ho3 HNF.out)
  have HONE := hid hr3.one
  have HL3 := hid hl3; have HR3 := hid hr3; have HS3 := hid hs3; have HF3 := hid hf3; have HG3 := hid hg3; have HO3 := hid ho3
  clear hl3 hr3 hs3 hf3 hg3 ho3 HPL HB12
  go_upto_region 17 with ((guard_target =~ wpList _ _ _ (⟨none, .store 45 (.tmp 10) _, _, _, _, _⟩ :: _) _ _); refine wpList_store_all rfl 45 (.tmp 10) (.tmp 66) rfl s (rcells (Lr.play kd t) fv3 wv3) rfl rfl (rcells Lr fv wv) 45 HB3.out rfl info_rl HONE.out ?_; intro w4 hb4 ho4 hs4; have HB4 := hid hb4; have HO4 := hid ho4; clear hb4 ho4 hs4)
  obtain ⟨T4, fs4, hw4⟩ := HW2.out.play (by omega) ht6 HL3.out HR3.out HS3.out HF3.out HG3.out HO3.out HB4.out HO4.out
  have HW4 := hid hw4
  obtain ⟨M4, hM4⟩ : ∃ x, M.play kd t = x := ⟨_, rfl⟩
  obtain ⟨L4, hL4⟩ : ∃ x, Lr.play kd t = x := ⟨_, rfl⟩
  rw [hM4, hL4] at HW4
  have c12 : w4.cell? ⟨w1.heap.size, 0, none⟩ = some (.int .i64 kd) := cell_blk (blk_only HB12'.out HO4.out (fun e => HNS.out e)) 0
  have cs0 : w4.cell? ⟨s, 0, none⟩ = some (.int .i64 (L4.size : Nat)) := cell_blk HW4.out.bs 0
  rw [hL4]
  clear hw4 hM4 hL4 HB3 HB12' HONE HL3 HR3 HS3 HF3 HG3 HO3 HB4 HO4 HW2
  by_cases hk4 : kd = 4
  · subst hk4
    obtain ⟨FD, hdk, hfk⟩ := HW4.out.lg.log.disk
    have HOP := hid (lopen_c (w0 := w0) hdk (fun k hk => HW4.out.lg.new k (hfk k hk)) HW4.out.lg.only HW4.out.lp (by omega))
    have HFK := hid hfk
    obtain ⟨fa, fc, hfv⟩ := HW4.out.rl.fvs
    obtain ⟨qa, qc, hwv⟩ := HW4.out.rl.wvs
    subst hfv hwv
    clear hdk hfk
    go_wp2_with fail
    refine HOP.out.mono ?_
    rintro x w5 ⟨v5, l5, r5, lo5, F5, rfl, hl5, hlo5, hfo5, hk15, hk25, ho5⟩
    have HLK := hid (like_c (w := w5) (gs := L4.frames) hfo5 ((HW4.out.rl.same ho5).f) (by
      have h1 := HW4.out.rl.nf; have h2 := HW4.out.rl.rm; have h3 := HW4.out.rl.sz; have h4 := HW4.out.sam.frames
      rw [← h4]; omega))
    obtain ⟨ao5, cap5, xs5, rfl, -⟩ := hfo5
    have HFR := hid HW4.out.sam.frames
    have HB5 := hid (blk_only HW4.out.bs ho5 (fun e => e))
    have cs3 : w5.cell? ⟨s, 3, none⟩ = some (.slice fa L4.frames.length fc) := cell_blk HB5.out 3
    have cs0' : w5.cell? ⟨s, 0, none⟩ = some (.int .i64 (L4.size : Nat)) := cell_blk HB5.out 0
    have HL5 := hid hl5; have HK5 := hid hk25; have HO5 := hid ho5
    clear hl5 hlo5 hk15 hk25 ho5 HOP c12 cs0
    go_wp2_with fail
    refine HLK.out.mono ?_
    rintro x w6 ⟨⟨B, rfl, hB⟩, ho6⟩
    obtain rfl : B = true := hB HFR.out.symm
    have HO6 := hid ho6
    have HB6 := hid (blk_only HB5.out ho6 (fun e => e))
    have cs4 : w6.cell? ⟨s, 4, none⟩ = some (.slice qa L4.waiting.length qc) := cell_blk HB6.out 4
    have cs0 : w6.cell? ⟨s, 0, none⟩ = some (.int .i64 (L4.size : Nat)) := cell_blk HB6.out 0
    have zs := frozen_blk HB6.out
    have hb7 : (w6.setCell ⟨s, 4, none⟩ (.slice none 0 0)).heap[s]? = some (.cells (rcells { L4 with waiting := [] } (.slice fa L4.frames.length fc) (.slice none 0 0)) 45 (0, 0)) := by
      have := blk_set HB6.out 4 (.slice none 0 0)
      simpa [rcells] using this
    have HW7 : Hid (WS w0 (w6.setCell ⟨s, 4, none⟩ (.slice none 0 0)) l5 b r5 s _ { L4 with waiting := [] } (.slice fa L4.frames.length fc) (.slice none 0 0) F5 G3 sg (j + 1) T4 fs4) := hid (HW4.out.reopen (HL5.out.same HO6.out) HK5.out HFK.out (HO5.out.trans HO6.out (fun _ _ e => e)) hb7 (only_set s 4 _))
    clear ho6 hB hb7 cs3 cs0' HB5 HB6 HL5 HK5 HO5 HO6 HLK HW4 HFK
    go_upto_region 24 with fail
    obtain ⟨w7, hw7⟩ : ∃ x, w6.setCell ⟨s, 4, none⟩ (.slice none 0 0) = x := ⟨_, rfl⟩
    rw [hw7] at HW7 ⊢
    obtain ⟨M7, hM7⟩ : ∃ x, (⟨M4.D, RingM.opened M4.D 2 (sg * 16) M4.tail, M4.head, M4.tail, [], false⟩ : WM) = x := ⟨_, rfl⟩
    rw [hM7] at HW7
    clear hw7 hM7 cs4 cs0 zs
    obtain ⟨Lx, hLx⟩ : ∃ x : RLog, { L4 with waiting := [] } = x := ⟨_, rfl⟩
    rw [hLx] at HW7
    obtain ⟨lf, hlf⟩ : ∃ x, rleft Lx.size Lx.first Lx.tail = x := ⟨_, rfl⟩
    have HEN := hid (ends_c HW7.out.lg.log)
    have HWT : Hid (∀ W, Only (fun _ => False) w7 W → Calls Try.prog 19 #[.pointer (some ⟨l5, 0, none⟩)] W fun e w' => e = .returned (.int .i64 (M7.wait.length : Nat)) ∧ Only (fun _ => False) W w') := hid fun W hW => (waiting_c (HW7.out.lg.log.same hW)).mono (fun e w' ⟨h1, h2⟩ => ⟨h1, by rw [← h2]; exact Only.refl _ _⟩)
    have HLF : Hid (∀ W, Only (fun _ => False) w7 W → Calls Try.prog 12 #[.pointer (some ⟨l5, 0, none⟩)] W fun e w' => e = .returned (.int .i64 (lf : Nat)) ∧ Only (fun _ => False) W w') := hid fun W hW => (logleft_c (HW7.out.lg.log.same hW)).mono (fun e w' ⟨h1, n, h2⟩ => ⟨by rw [h1, HW7.out.left, hlf], by rw [h2]; exact only_drewN _ _⟩)
    have HRL : Hid (∀ W, Only (fun _ => False) w7 W → Calls Try.prog 20 #[.agg (rcells Lx (.slice fa L4.frames.length fc) (.slice none 0 0))] W fun e w' => e = .returned (.int .i64 (lf : Nat)) ∧ Only (fun _ => False) W w') := hid fun W hW => by
      obtain ⟨-, -, n3, -, -⟩ := HW7.out.n (by omega)
      have := rLeft_c (HW7.out.rl.same hW) n3
      rw [hlf] at this; exact this
    obtain ⟨qa9, qc9, hq9⟩ := HW7.out.rl.wvs
    have HBZ : Hid (∀ W, Only (fun _ => False) w7 W → W.heap[s]? = some (.cells (rcells Lx (.slice fa L4.frames.length fc) (.slice none 0 0)) 45 (0, 0))) := hid fun W hW => blk_only HW7.out.bs hW (fun e => e)
    have HC1 : Hid (∀ W, Only (fun _ => False) w7 W → W.cell? ⟨s, 1, none⟩ = some (.int .i64 (Lx.first : Nat))) := hid fun W hW => cell_blk (HBZ.out W hW) 1
    have HC2 : Hid (∀ W, Only (fun _ => False) w7 W → W.cell? ⟨s, 2, none⟩ = some (.int .i64 (Lx.tail : Nat))) := hid fun W hW => cell_blk (HBZ.out W hW) 2
    have HC4 : Hid (∀ W, Only (fun _ => False) w7 W → W.cell? ⟨s, 4, none⟩ = some (.slice qa9 Lx.waiting.length qc9)) := hid fun W hW => by rw [← hq9]; exact cell_blk (HBZ.out W hW) 4
    have hcf : IntKind.u64.wrap ((Lx.first : Nat) : Int) = ((M7.head : Nat) : Int) := by
      obtain ⟨-, -, -, n4, n5⟩ := HW7.out.n (by omega)
      rw [HW7.out.sam.first, IntKind.wrap_u64]; omega
    have hct : IntKind.u64.wrap ((Lx.tail : Nat) : Int) = ((M7.tail : Nat) : Int) := by
      obtain ⟨-, -, -, n4, n5⟩ := HW7.out.n (by omega)
      rw [HW7.out.sam.tail, IntKind.wrap_u64]; omega
    have HWL : Hid ((((M7.wait.length : Nat) : Int) != ((Lx.waiting.length : Nat) : Int)) = false) := hid (by rw [HW7.out.sam.wait]; simp)
    have HCF := hid hcf; have HCT := hid hct
    clear hcf hct hq9 hlf hLx
    go_wp2_with fail
    refine HEN.out.mono ?_
    rintro x w8 ⟨rfl, n8, hn8⟩
    have ho8 : Only (fun _ => False) w7 w8 := by rw [hn8]; exact only_drewN _ _
    have HO8 := hid ho8
    clear ho8 hn8 HEN
    go_upto_region 25 with fail
    refine region_pg 27 [] (by kernel_rfl) (by kernel_rfl) (by kernel_rfl) [(99, fun _ v => v = .int .u64 (M7.head : Nat)), (100, fun _ v => v = .pointer (some ⟨s, 1, none⟩)), (101, fun _ v => v = .int .i64 (Lx.first : Nat)), (102, fun _ v => v = .int .u64 (M7.head : Nat)), (103, fun _ v => v = .bool false), (104, fun _ v => v = .bool false), (105, fun _ v => v = .int .u64 (M7.tail : Nat)), (106, fun _ v => v = .pointer (some ⟨s, 2, none⟩)), (107, fun _ v => v = .int .i64 (Lx.tail : Nat)), (108, fun _ v => v = .int .u64 (M7.tail : Nat)), (109, fun _ v => v = .bool false), (110, fun _ v => v = .bool false), (111, fun _ v => v = .bool false), (112, fun _ v => v = .pointer (some ⟨l5, 0, none⟩)), (113, fun _ v => v = .int .i64 (M7.wait.length : Nat)), (114, fun _ v => v = .pointer (some ⟨s, 4, none⟩)), (115, fun _ v => v = .slice qa9 Lx.waiting.length qc9), (116, fun _ v => v = .int .i64 (Lx.waiting.length : Nat)), (117, fun _ v => v = .bool false), (118, fun _ v => v = .bool false), (119, fun _ v => v = .bool false), (120, fun _ v => v = .pointer (some ⟨l5, 0, none⟩)), (121, fun _ v => v = .int .i64 (lf : Nat)), (122, fun _ v => v = .agg (rcells Lx (.slice fa L4.frames.length fc) (.slice none 0 0))), (123, fun _ v => v = .int .i64 (lf : Nat)), (124, fun _ v => v = .bool false), (125, fun _ v => v = .bool false)] (fun _ W => Only (fun _ => False) w8 W) (by show [99, 100, 101, 102, 103, 104, 105, 106, 107, 108, 109, 110, 111, 112, 113, 114, 115, 116, 117, 118, 119, 120, 121, 122, 123, 124, 125].Nodup; decide) (by show ∀ d ∈ [99, 100, 101, 102, 103, 104, 105, 106, 107, 108, 109, 110, 111, 112, 113, 114, 115, 116, 117, 118, 119, 120, 121, 122, 123, 124, 125], d < 141; decide) ((Only.refl _ _).drew) (.inl rfl) ?_ ?_ ?_
    · exact trivial
    · have hstab : PtStabs (Only (fun _ => False)) [(99, fun _ v => v = .int .u64 (M7.head : Nat)), (100, fun _ v => v = .pointer (some ⟨s, 1, none⟩)), (101, fun _ v => v = .int .i64 (Lx.first : Nat)), (102, fun _ v => v = .int .u64 (M7.head : Nat)), (103, fun _ v => v = .bool false), (104, fun _ v => v = .bool false), (105, fun _ v => v = .int .u64 (M7.tail : Nat)), (106, fun _ v => v = .pointer (some ⟨s, 2, none⟩)), (107, fun _ v => v = .int .i64 (Lx.tail : Nat)), (108, fun _ v => v = .int .u64 (M7.tail : Nat)), (109, fun _ v => v = .bool false), (110, fun _ v => v = .bool false), (111, fun _ v => v = .bool false), (112, fun _ v => v = .pointer (some ⟨l5, 0, none⟩)), (113, fun _ v => v = .int .i64 (M7.wait.length : Nat)), (114, fun _ v => v = .pointer (some ⟨s, 4, none⟩)), (115, fun _ v => v = .slice qa9 Lx.waiting.length qc9), (116, fun _ v => v = .int .i64 (Lx.waiting.length : Nat)), (117, fun _ v => v = .bool false), (118, fun _ v => v = .bool false), (119, fun _ v => v = .bool false), (120, fun _ v => v = .pointer (some ⟨l5, 0, none⟩)), (121, fun _ v => v = .int .i64 (lf : Nat)), (122, fun _ v => v = .agg (rcells Lx (.slice fa L4.frames.length fc) (.slice none 0 0))), (123, fun _ v => v = .int .i64 (lf : Nat)), (124, fun _ v => v = .bool false), (125, fun _ v => v = .bool false)] := ⟨fun _ _ _ _ h => h, fun _ _ _ _ h => h, fun _ _ _ _ h => h, fun _ _ _ _ h => h, fun _ _ _ _ h => h, fun _ _ _ _ h => h, fun _ _ _ _ h => h, fun _ _ _ _ h => h, fun _ _ _ _ h => h, fun _ _ _ _ h => h, fun _ _ _ _ h => h, fun _ _ _ _ h => h, fun _ _ _ _ h => h, fun _ _ _ _ h => h, fun _ _ _ _ h => h, fun _ _ _ _ h => h, fun _ _ _ _ h => h, fun _ _ _ _ h => h, fun _ _ _ _ h => h, fun _ _ _ _ h => h, fun _ _ _ _ h => h, fun _ _ _ _ h => h, fun _ _ _ _ h => h, fun _ _ _ _ h => h, fun _ _ _ _ h => h, fun _ _ _ _ h => h, fun _ _ _ _ h => h, trivial⟩
      refine PgAllS.cons rfl rfl (.inl ⟨rfl, rfl⟩) ?_ (PgAllS.cons rfl rfl (.inl ⟨rfl, rfl⟩) ?_ (PgAllS.cons rfl rfl (.inl ⟨rfl, rfl⟩) ?_ (PgAllS.cons rfl rfl (.inl ⟨rfl, rfl⟩) ?_ (PgAllS.cons rfl rfl (.inl ⟨rfl, rfl⟩) ?_ (PgAllS.cons rfl rfl (.inl ⟨rfl, rfl⟩) ?_ (PgAllS.cons rfl rfl (.inr ⟨_, _, _, _, _, rfl, rfl, rfl, rfl, by kernel_rfl⟩) ?_ (PgAllS.cons rfl rfl (.inr ⟨_, _, _, _, _, rfl, rfl, rfl, rfl, by kernel_rfl⟩) ?_ (PgAllS.cons rfl rfl (.inr ⟨_, _, _, _, _, rfl, rfl, rfl, rfl, by kernel_rfl⟩) ?_ (PgAllS.cons rfl rfl (.inr ⟨_, _, _, _, _, rfl, rfl, rfl, rfl, by kernel_rfl⟩) ?_ (PgAllS.cons rfl rfl (.inr ⟨_, _, _, _, _, rfl, rfl, rfl, rfl, by kernel_rfl⟩) ?_ (PgAllS.cons rfl rfl (.inl ⟨rfl, rfl⟩) ?_ (PgAllS.cons rfl rfl (.inl ⟨rfl, rfl⟩) ?_ (PgAllS.cons rfl rfl (.inr ⟨_, _, _, _, _, rfl, rfl, rfl, rfl, by kernel_rfl⟩) ?_ (PgAllS.cons rfl rfl (.inr ⟨_, _, _, _, _, rfl, rfl, rfl, rfl, by kernel_rfl⟩) ?_ (PgAllS.cons rfl rfl (.inr ⟨_, _, _, _, _, rfl, rfl, rfl, rfl, by kernel_rfl⟩) ?_ (PgAllS.cons rfl rfl (.inr ⟨_, _, _, _, _, rfl, rfl, rfl, rfl, by kernel_rfl⟩) ?_ (PgAllS.cons rfl rfl (.inr ⟨_, _, _, _, _, rfl, rfl, rfl, rfl, by kernel_rfl⟩) ?_ (PgAllS.cons rfl rfl (.inr ⟨_, _, _, _, _, rfl, rfl, rfl, rfl, by kernel_rfl⟩) ?_ (PgAllS.cons rfl rfl (.inl ⟨rfl, rfl⟩) ?_ (PgAllS.cons rfl rfl (.inl ⟨rfl, rfl⟩) ?_ (PgAllS.cons rfl rfl (.inr ⟨_, _, _, _, _, rfl, rfl, rfl, rfl, by kernel_rfl⟩) ?_ (PgAllS.cons rfl rfl (.inr ⟨_, _, _, _, _, rfl, rfl, rfl, rfl, by kernel_rfl⟩) ?_ (PgAllS.cons rfl rfl (.inr ⟨_, _, _, _, _, rfl, rfl, rfl, rfl, by kernel_rfl⟩) ?_ (PgAllS.cons rfl rfl (.inr ⟨_, _, _, _, _, rfl, rfl, rfl, rfl, by kernel_rfl⟩) ?_ (PgAllS.cons rfl rfl (.inr ⟨_, _, _, _, _, rfl, rfl, rfl, rfl, by kernel_rfl⟩) ?_ (PgAllS.cons rfl rfl (.inl ⟨rfl, rfl⟩) ?_ (PgAllS.nil rfl)))))))))))))))))))))))))))
      · intro L a W K hI hn hd hK
        have e17 : a.eval (.tmp 17) = .int .u64 (M7.head : Nat) := hI.ev 17 (by show ¬ (17 ∈ [99, 100, 101, 102, 103, 104, 105, 106, 107, 108, 109, 110, 111, 112, 113, 114, 115, 116, 117, 118, 119, 120, 121, 122, 123, 124, 125]); decide) rfl
        exact pt_move _ (by first | exact .inl rfl | exact .inr rfl) _ e17 (hK _ _ hI.j PtKeep.refl rfl)
      · intro L a W K hI hn hd hK
        have e10 : a.eval (.tmp 10) = .pointer (some ⟨s, 0, none⟩) := hI.ev 10 (by show ¬ (10 ∈ [99, 100, 101, 102, 103, 104, 105, 106, 107, 108, 109, 110, 111, 112, 113, 114, 115, 116, 117, 118, 119, 120, 121, 122, 123, 124, 125]); decide) rfl
        exact pt_val (v := .pointer (some ⟨s, 1, none⟩)) (by unfold execOp; simp only [e10]; kernel_rfl) (hK _ _ hI.j PtKeep.refl rfl)
      · intro L a W K hI hn hd hK
        have e100 : a.eval (.tmp 100) = .pointer (some ⟨s, 1, none⟩) := hI.fact 1 100 _ rfl (dep_of hd 1 (by kernel_rfl))
        exact pt_load _ (.tmp 100) rfl ⟨s, 1, none⟩ (.int .i64 (Lx.first : Nat)) _ e100 (HC1.out _ (HO8.out.trans hI.j (fun _ _ e => e))) Try.underlying3 rfl (hK _ _ hI.j PtKeep.refl rfl)
      · intro L a W K hI hn hd hK
        have e101 : a.eval (.tmp 101) = .int .i64 (Lx.first : Nat) := hI.fact 2 101 _ rfl (dep_of hd 2 (by kernel_rfl))
        exact pt_val (v := .int .u64 (M7.head : Nat)) (Eq.trans (b := .ok (.value (.int .u64 (IntKind.u64.wrap ((Lx.first : Nat) : Int)))) W) (by unfold execOp; simp only [e101]; kernel_rfl) (by rw [HCF.out])) (hK _ _ hI.j PtKeep.refl rfl)
      · intro L a W K hI hn hd hK
        have e99 : a.eval (.tmp 99) = .int .u64 (M7.head : Nat) := hI.fact 0 99 _ rfl (dep_of hd 0 (by kernel_rfl))
        have e102 : a.eval (.tmp 102) = .int .u64 (M7.head : Nat) := hI.fact 3 102 _ rfl (dep_of hd 3 (by kernel_rfl))
        exact pt_val (v := .bool false) (Eq.trans (b := .ok (.value (.bool (((M7.head : Nat) : Int) != ((M7.head : Nat) : Int)))) W) (by unfold execOp; simp only [e99, e102]; kernel_rfl) (by rw [bne_self_eq_false])) (hK _ _ hI.j PtKeep.refl rfl)
      · intro L a W K hI hn hd hK
        have e103 : a.eval (.tmp 103) = .bool false := hI.fact 4 103 _ rfl (dep_of hd 4 (by kernel_rfl))
        exact pt_move _ (by first | exact .inl rfl | exact .inr rfl) _ e103 (hK _ _ hI.j PtKeep.refl rfl)
      · intro L a W K hI hn hd hK
        have e18 : a.eval (.tmp 18) = .int .u64 (M7.tail : Nat) := hI.ev 18 (by show ¬ (18 ∈ [99, 100, 101, 102, 103, 104, 105, 106, 107, 108, 109, 110, 111, 112, 113, 114, 115, 116, 117, 118, 119, 120, 121, 122, 123, 124, 125]); decide) rfl
        exact pt_move _ (by first | exact .inl rfl | exact .inr rfl) _ e18 (hK _ _ hI.j PtKeep.refl rfl)
      · intro L a W K hI hn hd hK
        have e10 : a.eval (.tmp 10) = .pointer (some ⟨s, 0, none⟩) := hI.ev 10 (by show ¬ (10 ∈ [99, 100, 101, 102, 103, 104, 105, 106, 107, 108, 109, 110, 111, 112, 113, 114, 115, 116, 117, 118, 119, 120, 121, 122, 123, 124, 125]); decide) rfl
        exact pt_val (v := .pointer (some ⟨s, 2, none⟩)) (by unfold execOp; simp only [e10]; kernel_rfl) (hK _ _ hI.j PtKeep.refl rfl)
      · intro L a W K hI hn hd hK
        have e106 : a.eval (.tmp 106) = .pointer (some ⟨s, 2, none⟩) := hI.fact 7 106 _ rfl (dep_of hd 7 (by kernel_rfl))
        exact pt_load _ (.tmp 106) rfl ⟨s, 2, none⟩ (.int .i64 (Lx.tail : Nat)) _ e106 (HC2.out _ (HO8.out.trans hI.j (fun _ _ e => e))) Try.underlying3 rfl (hK _ _ hI.j PtKeep.refl rfl)
      · intro L a W K hI hn hd hK
        have e107 : a.eval (.tmp 107) = .int .i64 (Lx.tail : Nat) := hI.fact 8 107 _ rfl (dep_of hd 8 (by kernel_rfl))
        exact pt_val (v := .int .u64 (M7.tail : Nat)) (Eq.trans (b := .ok (.value (.int .u64 (IntKind.u64.wrap ((Lx.tail : Nat) : Int)))) W) (by unfold execOp; simp only [e107]; kernel_rfl) (by rw [HCT.out])) (hK _ _ hI.j PtKeep.refl rfl)
      · intro L a W K hI hn hd hK
        have e105 : a.eval (.tmp 105) = .int .u64 (M7.tail : Nat) := hI.fact 6 105 _ rfl (dep_of hd 6 (by kernel_rfl))
        have e108 : a.eval (.tmp 108) = .int .u64 (M7.tail : Nat) := hI.fact 9 108 _ rfl (dep_of hd 9 (by kernel_rfl))
        exact pt_val (v := .bool false) (Eq.trans (b := .ok (.value (.bool (((M7.tail : Nat) : Int) != ((M7.tail : Nat) : Int)))) W) (by unfold execOp; simp only [e105, e108]; kernel_rfl) (by rw [bne_self_eq_false])) (hK _ _ hI.j PtKeep.refl rfl)
      · intro L a W K hI hn hd hK
        have e104 : a.eval (.tmp 104) = .bool false := hI.fact 5 104 _ rfl (dep_of hd 5 (by kernel_rfl))
        have e109 : a.eval (.tmp 109) = .bool false := hI.fact 10 109 _ rfl (dep_of hd 10 (by kernel_rfl))
        exact pt_val (v := .bool false) (by unfold execOp; simp only [e104, e109]; kernel_rfl) (hK _ _ hI.j PtKeep.refl rfl)
      · intro L a W K hI hn hd hK
        have e110 : a.eval (.tmp 110) = .bool false := hI.fact 11 110 _ rfl (dep_of hd 11 (by kernel_rfl))
        exact pt_move _ (by first | exact .inl rfl | exact .inr rfl) _ e110 (hK _ _ hI.j PtKeep.refl rfl)
      · intro L a W K hI hn hd hK
        have e7 : a.eval (.tmp 7) = .pointer (some ⟨l5, 0, none⟩) := hI.ev 7 (by show ¬ (7 ∈ [99, 100, 101, 102, 103, 104, 105, 106, 107, 108, 109, 110, 111, 112, 113, 114, 115, 116, 117, 118, 119, 120, 121, 122, 123, 124, 125]); decide) rfl
        exact pt_move _ (by first | exact .inl rfl | exact .inr rfl) _ e7 (hK _ _ hI.j PtKeep.refl rfl)
      · intro L a W K hI hn hd hK
        have e112 : a.eval (.tmp 112) = .pointer (some ⟨l5, 0, none⟩) := hI.fact 13 112 _ rfl (dep_of hd 13 (by kernel_rfl))
        refine wp_callc (f := 19) (args := #[a.eval (.tmp 112)]) (by kernel_rfl) ?_
        rw [e112]
        refine ((fun W hW => HWT.out W (HO8.out.trans hW (fun _ _ e => e))) _ hI.j).mono ?_
        rintro x W' ⟨rfl, ho⟩
        exact ⟨_, rfl, hK _ _ (hI.j.trans ho (fun _ _ e => e.elim)) (hstab.keep ho) rfl⟩
      · intro L a W K hI hn hd hK
        have e10 : a.eval (.tmp 10) = .pointer (some ⟨s, 0, none⟩) := hI.ev 10 (by show ¬ (10 ∈ [99, 100, 101, 102, 103, 104, 105, 106, 107, 108, 109, 110, 111, 112, 113, 114, 115, 116, 117, 118, 119, 120, 121, 122, 123, 124, 125]); decide) rfl
        exact pt_val (v := .pointer (some ⟨s, 4, none⟩)) (by unfold execOp; simp only [e10]; kernel_rfl) (hK _ _ hI.j PtKeep.refl rfl)
      · intro L a W K hI hn hd hK
        have e114 : a.eval (.tmp 114) = .pointer (some ⟨s, 4, none⟩) := hI.fact 15 114 _ rfl (dep_of hd 15 (by kernel_rfl))
        exact pt_load _ (.tmp 114) rfl ⟨s, 4, none⟩ (.slice qa9 Lx.waiting.length qc9) _ e114 (HC4.out _ (HO8.out.trans hI.j (fun _ _ e => e))) Try.underlying43 rfl (hK _ _ hI.j PtKeep.refl rfl)
      · intro L a W K hI hn hd hK
        have e115 : a.eval (.tmp 115) = .slice qa9 Lx.waiting.length qc9 := hI.fact 16 115 _ rfl (dep_of hd 16 (by kernel_rfl))
        exact pt_val (v := .int .i64 (Lx.waiting.length : Nat)) (by unfold execOp; simp only [resolve, invoke, builtin, Sem.run_bind, Sem.run_pure, Result.andThen_ok, List.map_toArray, List.map_cons, List.map_nil, e115]; kernel_rfl) (hK _ _ hI.j PtKeep.refl rfl)
      · intro L a W K hI hn hd hK
        have e113 : a.eval (.tmp 113) = .int .i64 (M7.wait.length : Nat) := hI.fact 14 113 _ rfl (dep_of hd 14 (by kernel_rfl))
        have e116 : a.eval (.tmp 116) = .int .i64 (Lx.waiting.length : Nat) := hI.fact 17 116 _ rfl (dep_of hd 17 (by kernel_rfl))
        exact pt_val (v := .bool false) (Eq.trans (b := .ok (.value (.bool (((M7.wait.length : Nat) : Int) != ((Lx.waiting.length : Nat) : Int)))) W) (by unfold execOp; simp only [e113, e116]; kernel_rfl) (by rw [HWL.out])) (hK _ _ hI.j PtKeep.refl rfl)
      · intro L a W K hI hn hd hK
        have e111 : a.eval (.tmp 111) = .bool false := hI.fact 12 111 _ rfl (dep_of hd 12 (by kernel_rfl))
        have e117 : a.eval (.tmp 117) = .bool false := hI.fact 18 117 _ rfl (dep_of hd 18 (by kernel_rfl))
        exact pt_val (v := .bool false) (by unfold execOp; simp only [e111, e117]; kernel_rfl) (hK _ _ hI.j PtKeep.refl rfl)
      · intro L a W K hI hn hd hK
        have e118 : a.eval (.tmp 118) = .bool false := hI.fact 19 118 _ rfl (dep_of hd 19 (by kernel_rfl))
        exact pt_move _ (by first | exact .inl rfl | exact .inr rfl) _ e118 (hK _ _ hI.j PtKeep.refl rfl)
      · intro L a W K hI hn hd hK
        have e7 : a.eval (.tmp 7) = .pointer (some ⟨l5, 0, none⟩) := hI.ev 7 (by show ¬ (7 ∈ [99, 100, 101, 102, 103, 104, 105, 106, 107, 108, 109, 110, 111, 112, 113, 114, 115, 116, 117, 118, 119, 120, 121, 122, 123, 124, 125]); decide) rfl
        exact pt_move _ (by first | exact .inl rfl | exact .inr rfl) _ e7 (hK _ _ hI.j PtKeep.refl rfl)
      · intro L a W K hI hn hd hK
        have e120 : a.eval (.tmp 120) = .pointer (some ⟨l5, 0, none⟩) := hI.fact 21 120 _ rfl (dep_of hd 21 (by kernel_rfl))
        refine wp_callc (f := 12) (args := #[a.eval (.tmp 120)]) (by kernel_rfl) ?_
        rw [e120]
        refine ((fun W hW => HLF.out W (HO8.out.trans hW (fun _ _ e => e))) _ hI.j).mono ?_
        rintro x W' ⟨rfl, ho⟩
        exact ⟨_, rfl, hK _ _ (hI.j.trans ho (fun _ _ e => e.elim)) (hstab.keep ho) rfl⟩
      · intro L a W K hI hn hd hK
        have e10 : a.eval (.tmp 10) = .pointer (some ⟨s, 0, none⟩) := hI.ev 10 (by show ¬ (10 ∈ [99, 100, 101, 102, 103, 104, 105, 106, 107, 108, 109, 110, 111, 112, 113, 114, 115, 116, 117, 118, 119, 120, 121, 122, 123, 124, 125]); decide) rfl
        exact wp_load_row _ (.tmp 10) rfl (s) e10 45 ((rcells Lx (.slice fa L4.frames.length fc) (.slice none 0 0))) (0, 0) _ (HBZ.out _ (HO8.out.trans hI.j (fun _ _ e => e))) Try.underlying45 rfl (info_rl) (hK _ _ hI.j PtKeep.refl rfl)
      · intro L a W K hI hn hd hK
        have e122 : a.eval (.tmp 122) = .agg (rcells Lx (.slice fa L4.frames.length fc) (.slice none 0 0)) := hI.fact 23 122 _ rfl (dep_of hd 23 (by kernel_rfl))
        refine wp_callc (f := 20) (args := #[a.eval (.tmp 122)]) (by kernel_rfl) ?_
        rw [e122]
        refine ((fun W hW => HRL.out W (HO8.out.trans hW (fun _ _ e => e))) _ hI.j).mono ?_
        rintro x W' ⟨rfl, ho⟩
        exact ⟨_, rfl, hK _ _ (hI.j.trans ho (fun _ _ e => e.elim)) (hstab.keep ho) rfl⟩
      · intro L a W K hI hn hd hK
        have e121 : a.eval (.tmp 121) = .int .i64 (lf : Nat) := hI.fact 22 121 _ rfl (dep_of hd 22 (by kernel_rfl))
        have e123 : a.eval (.tmp 123) = .int .i64 (lf : Nat) := hI.fact 24 123 _ rfl (dep_of hd 24 (by kernel_rfl))
        exact pt_val (v := .bool false) (Eq.trans (b := .ok (.value (.bool (((lf : Nat) : Int) != ((lf : Nat) : Int)))) W) (by unfold execOp; simp only [e121, e123]; kernel_rfl) (by rw [bne_self_eq_false])) (hK _ _ hI.j PtKeep.refl rfl)
      · intro L a W K hI hn hd hK
        have e119 : a.eval (.tmp 119) = .bool false := hI.fact 20 119 _ rfl (dep_of hd 20 (by kernel_rfl))
        have e124 : a.eval (.tmp 124) = .bool false := hI.fact 25 124 _ rfl (dep_of hd 25 (by kernel_rfl))
        exact pt_val (v := .bool false) (by unfold execOp; simp only [e119, e124]; kernel_rfl) (hK _ _ hI.j PtKeep.refl rfl)
    · intro L a w9 hal hj hfs
      dsimp only [PtAll] at hfs
      obtain ⟨f99, f100, f101, f102, f103, f104, f105, f106, f107, f108, f109, f110, f111, f112, f113, f114, f115, f116, f117, f118, f119, f120, f121, f122, f123, f124, f125, -⟩ := hfs
      have hA := hal.turned
      simp only [List.map_cons, List.map_nil, Act.turned, f99, f100, f101, f102, f103, f104, f105, f106, f107, f108, f109, f110, f111, f112, f113, f114, f115, f116, f117, f118, f119, f120, f121, f122, f123, f124, f125] at hA
      simp only [Act.put, List.setIfInBounds_toArray, List.set_cons_zero, List.set_cons_succ] at hA
      clear hal f99 f100 f101 f102 f103 f104 f105 f106 f107 f108 f109 f110 f111 f112 f113 f114 f115 f116 f117 f118 f119 f120 f121 f122 f123 f124 f125
      subst hA
      change wpList _ _ _ [] _ _
      have HJ := hid (HW7.out.same (HO8.out.trans hj (fun _ _ e => e)))
      go_wp2_with fail
      exact ⟨⟨j + 1, l5, by omega, ⟨rfl, rfl, rfl, rfl, rfl, by show Value.int .i64 _ = _; go_num, rfl, rfl⟩, ⟨_, _, _, _, _, _, _, _, _, HJ.out⟩⟩, by simp [intOf]; omega⟩
  · have hkb : (kd == 4) = false := beq_eq_false_iff_ne.2 hk4
    clear hk4
    go_upto_region 24 with fail
    clear c12 cs0
    obtain ⟨Lx, hLx⟩ : ∃ x : RLog, L4 = x := ⟨_, rfl⟩
    rw [hLx] at HW4
    obtain ⟨lf, hlf⟩ : ∃ x, rleft Lx.size Lx.first Lx.tail = x := ⟨_, rfl⟩
    have HEN := hid (ends_c HW4.out.lg.log)
    have HWT : Hid (∀ W, Only (fun _ => False) w4 W → Calls Try.prog 19 #[.pointer (some ⟨lx, 0, none⟩)] W fun e w' => e = .returned (.int .i64 (M4.wait.length : Nat)) ∧ Only (fun _ => False) W w') := hid fun W hW => (waiting_c (HW4.out.lg.log.same hW)).mono (fun e w' ⟨h1, h2⟩ => ⟨h1, by rw [← h2]; exact Only.refl _ _⟩)
    have HLF : Hid (∀ W, Only (fun _ => False) w4 W → Calls Try.prog 12 #[.pointer (some ⟨lx, 0, none⟩)] W fun e w' => e = .returned (.int .i64 (lf : Nat)) ∧ Only (fun _ => False) W w') := hid fun W hW => (logleft_c (HW4.out.lg.log.same hW)).mono (fun e w' ⟨h1, n, h2⟩ => ⟨by rw [h1, HW4.out.left, hlf], by rw [h2]; exact only_drewN _ _⟩)
    have HRL : Hid (∀ W, Only (fun _ => False) w4 W → Calls Try.prog 20 #[.agg (rcells Lx fv3 wv3)] W fun e w' => e = .returned (.int .i64 (lf : Nat)) ∧ Only (fun _ => False) W w') := hid fun W hW => by
      obtain ⟨-, -, n3, -, -⟩ := HW4.out.n (by omega)
      have := rLeft_c (HW4.out.rl.same hW) n3
      rw [hlf] at this; exact this
    obtain ⟨qa9, qc9, hq9⟩ := HW4.out.rl.wvs
    have HBZ : Hid (∀ W, Only (fun _ => False) w4 W → W.heap[s]? = some (.cells (rcells Lx fv3 wv3) 45 (0, 0))) := hid fun W hW => blk_only HW4.out.bs hW (fun e => e)
    have HC1 : Hid (∀ W, Only (fun _ => False) w4 W → W.cell? ⟨s, 1, none⟩ = some (.int .i64 (Lx.first : Nat))) := hid fun W hW => cell_blk (HBZ.out W hW) 1
    have HC2 : Hid (∀ W, Only (fun _ => False) w4 W → W.cell? ⟨s, 2, none⟩ = some (.int .i64 (Lx.tail : Nat))) := hid fun W hW => cell_blk (HBZ.out W hW) 2
    have HC4 : Hid (∀ W, Only (fun _ => False) w4 W → W.cell? ⟨s, 4, none⟩ = some (.slice qa9 Lx.waiting.length qc9)) := hid fun W hW => by rw [← hq9]; exact cell_blk (HBZ.out W hW) 4
    have hcf : IntKind.u64.wrap ((Lx.first : Nat) : Int) = ((M4.head : Nat) : Int) := by
      obtain ⟨-, -, -, n4, n5⟩ := HW4.out.n (by omega)
      rw [HW4.out.sam.first, IntKind.wrap_u64]; omega
    have hct : IntKind.u64.wrap ((Lx.tail : Nat) : Int) = ((M4.tail : Nat) : Int) := by
      obtain ⟨-, -, -, n4, n5⟩ := HW4.out.n (by omega)
      rw [HW4.out.sam.tail, IntKind.wrap_u64]; omega
    have HWL : Hid ((((M4.wait.length : Nat) : Int) != ((Lx.waiting.length : Nat) : Int)) = false) := hid (by rw [HW4.out.sam.wait]; simp)
    have HCF := hid hcf; have HCT := hid hct
    clear hcf hct hq9 hlf hLx
    go_wp2_with fail
    refine HEN.out.mono ?_
    rintro x w8 ⟨rfl, n8, hn8⟩
    have ho8 : Only (fun _ => False) w4 w8 := by rw [hn8]; exact only_drewN _ _
    have HO8 := hid ho8
    clear ho8 hn8 HEN
    go_upto_region 25 with fail
    refine region_pg 27 [] (by kernel_rfl) (by kernel_rfl) (by kernel_rfl) [(99, fun _ v => v = .int .u64 (M4.head : Nat)), (100, fun _ v => v = .pointer (some ⟨s, 1, none⟩)), (101, fun _ v => v = .int .i64 (Lx.first : Nat)), (102, fun _ v => v = .int .u64 (M4.head : Nat)), (103, fun _ v => v = .bool false), (104, fun _ v => v = .bool false), (105, fun _ v => v = .int .u64 (M4.tail : Nat)), (106, fun _ v => v = .pointer (some ⟨s, 2, none⟩)), (107, fun _ v => v = .int .i64 (Lx.tail : Nat)), (108, fun _ v => v = .int .u64 (M4.tail : Nat)), (109, fun _ v => v = .bool false), (110, fun _ v => v = .bool false), (111, fun _ v => v = .bool false), (112, fun _ v => v = .pointer (some ⟨lx, 0, none⟩)), (113, fun _ v => v = .int .i64 (M4.wait.length : Nat)), (114, fun _ v => v = .pointer (some ⟨s, 4, none⟩)), (115, fun _ v => v = .slice qa9 Lx.waiting.length qc9), (116, fun _ v => v = .int .i64 (Lx.waiting.length : Nat)), (117, fun _ v => v = .bool false), (118, fun _ v => v = .bool false), (119, fun _ v => v = .bool false), (120, fun _ v => v = .pointer (some ⟨lx, 0, none⟩)), (121, fun _ v => v = .int .i64 (lf : Nat)), (122, fun _ v => v = .agg (rcells Lx fv3 wv3)), (123, fun _ v => v = .int .i64 (lf : Nat)), (124, fun _ v => v = .bool false), (125, fun _ v => v = .bool false)] (fun _ W => Only (fun _ => False) w8 W) (by show [99, 100, 101, 102, 103, 104, 105, 106, 107, 108, 109, 110, 111, 112, 113, 114, 115, 116, 117, 118, 119, 120, 121, 122, 123, 124, 125].Nodup; decide) (by show ∀ d ∈ [99, 100, 101, 102, 103, 104, 105, 106, 107, 108, 109, 110, 111, 112, 113, 114, 115, 116, 117, 118, 119, 120, 121, 122, 123, 124, 125], d < 141; decide) ((Only.refl _ _).drew) (.inl rfl) ?_ ?_ ?_
    · exact trivial
    · have hstab : PtStabs (Only (fun _ => False)) [(99, fun _ v => v = .int .u64 (M4.head : Nat)), (100, fun _ v => v = .pointer (some ⟨s, 1, none⟩)), (101, fun _ v => v = .int .i64 (Lx.first : Nat)), (102, fun _ v => v = .int .u64 (M4.head : Nat)), (103, fun _ v => v = .bool false), (104, fun _ v => v = .bool false), (105, fun _ v => v = .int .u64 (M4.tail : Nat)), (106, fun _ v => v = .pointer (some ⟨s, 2, none⟩)), (107, fun _ v => v = .int .i64 (Lx.tail : Nat)), (108, fun _ v => v = .int .u64 (M4.tail : Nat)), (109, fun _ v => v = .bool false), (110, fun _ v => v = .bool false), (111, fun _ v => v = .bool false), (112, fun _ v => v = .pointer (some ⟨lx, 0, none⟩)), (113, fun _ v => v = .int .i64 (M4.wait.length : Nat)), (114, fun _ v => v = .pointer (some ⟨s, 4, none⟩)), (115, fun _ v => v = .slice qa9 Lx.waiting.length qc9), (116, fun _ v => v = .int .i64 (Lx.waiting.length : Nat)), (117, fun _ v => v = .bool false), (118, fun _ v => v = .bool false), (119, fun _ v => v = .bool false), (120, fun _ v => v = .pointer (some ⟨lx, 0, none⟩)), (121, fun _ v => v = .int .i64 (lf : Nat)), (122, fun _ v => v = .agg (rcells Lx fv3 wv3)), (123, fun _ v => v = .int .i64 (lf : Nat)), (124, fun _ v => v = .bool false), (125, fun _ v => v = .bool false)] := ⟨fun _ _ _ _ h => h, fun _ _ _ _ h => h, fun _ _ _ _ h => h, fun _ _ _ _ h => h, fun _ _ _ _ h => h, fun _ _ _ _ h => h, fun _ _ _ _ h => h, fun _ _ _ _ h => h, fun _ _ _ _ h => h, fun _ _ _ _ h => h, fun _ _ _ _ h => h, fun _ _ _ _ h => h, fun _ _ _ _ h => h, fun _ _ _ _ h => h, fun _ _ _ _ h => h, fun _ _ _ _ h => h, fun _ _ _ _ h => h, fun _ _ _ _ h => h, fun _ _ _ _ h => h, fun _ _ _ _ h => h, fun _ _ _ _ h => h, fun _ _ _ _ h => h, fun _ _ _ _ h => h, fun _ _ _ _ h => h, fun _ _ _ _ h => h, fun _ _ _ _ h => h, fun _ _ _ _ h => h, trivial⟩
      refine PgAllS.cons rfl rfl (.inl ⟨rfl, rfl⟩) ?_ (PgAllS.cons rfl rfl (.inl ⟨rfl, rfl⟩) ?_ (PgAllS.cons rfl rfl (.inl ⟨rfl, rfl⟩) ?_ (PgAllS.cons rfl rfl (.inl ⟨rfl, rfl⟩) ?_ (PgAllS.cons rfl rfl (.inl ⟨rfl, rfl⟩) ?_ (PgAllS.cons rfl rfl (.inl ⟨rfl, rfl⟩) ?_ (PgAllS.cons rfl rfl (.inr ⟨_, _, _, _, _, rfl, rfl, rfl, rfl, by kernel_rfl⟩) ?_ (PgAllS.cons rfl rfl (.inr ⟨_, _, _, _, _, rfl, rfl, rfl, rfl, by kernel_rfl⟩) ?_ (PgAllS.cons rfl rfl (.inr ⟨_, _, _, _, _, rfl, rfl, rfl, rfl, by kernel_rfl⟩) ?_ (PgAllS.cons rfl rfl (.inr ⟨_, _, _, _, _, rfl, rfl, rfl, rfl, by kernel_rfl⟩) ?_ (PgAllS.cons rfl rfl (.inr ⟨_, _, _, _, _, rfl, rfl, rfl, rfl, by kernel_rfl⟩) ?_ (PgAllS.cons rfl rfl (.inl ⟨rfl, rfl⟩) ?_ (PgAllS.cons rfl rfl (.inl ⟨rfl, rfl⟩) ?_ (PgAllS.cons rfl rfl (.inr ⟨_, _, _, _, _, rfl, rfl, rfl, rfl, by kernel_rfl⟩) ?_ (PgAllS.cons rfl rfl (.inr ⟨_, _, _, _, _, rfl, rfl, rfl, rfl, by kernel_rfl⟩) ?_ (PgAllS.cons rfl rfl (.inr ⟨_, _, _, _, _, rfl, rfl, rfl, rfl, by kernel_rfl⟩) ?_ (PgAllS.cons rfl rfl (.inr ⟨_, _, _, _, _, rfl, rfl, rfl, rfl, by kernel_rfl⟩) ?_ (PgAllS.cons rfl rfl (.inr ⟨_, _, _, _, _, rfl, rfl, rfl, rfl, by kernel_rfl⟩) ?_ (PgAllS.cons rfl rfl (.inr ⟨_, _, _, _, _, rfl, rfl, rfl, rfl, by kernel_rfl⟩) ?_ (PgAllS.cons rfl rfl (.inl ⟨rfl, rfl⟩) ?_ (PgAllS.cons rfl rfl (.inl ⟨rfl, rfl⟩) ?_ (PgAllS.cons rfl rfl (.inr ⟨_, _, _, _, _, rfl, rfl, rfl, rfl, by kernel_rfl⟩) ?_ (PgAllS.cons rfl rfl (.inr ⟨_, _, _, _, _, rfl, rfl, rfl, rfl, by kernel_rfl⟩) ?_ (PgAllS.cons rfl rfl (.inr ⟨_, _, _, _, _, rfl, rfl, rfl, rfl, by kernel_rfl⟩) ?_ (PgAllS.cons rfl rfl (.inr ⟨_, _, _, _, _, rfl, rfl, rfl, rfl, by kernel_rfl⟩) ?_ (PgAllS.cons rfl rfl (.inr ⟨_, _, _, _, _, rfl, rfl, rfl, rfl, by kernel_rfl⟩) ?_ (PgAllS.cons rfl rfl (.inl ⟨rfl, rfl⟩) ?_ (PgAllS.nil rfl)))))))))))))))))))))))))))
      · intro L a W K hI hn hd hK
        have e17 : a.eval (.tmp 17) = .int .u64 (M4.head : Nat) := hI.ev 17 (by show ¬ (17 ∈ [99, 100, 101, 102, 103, 104, 105, 106, 107, 108, 109, 110, 111, 112, 113, 114, 115, 116, 117, 118, 119, 120, 121, 122, 123, 124, 125]); decide) rfl
        exact pt_move _ (by first | exact .inl rfl | exact .inr rfl) _ e17 (hK _ _ hI.j PtKeep.refl rfl)
      · intro L a W K hI hn hd hK
        have e10 : a.eval (.tmp 10) = .pointer (some ⟨s, 0, none⟩) := hI.ev 10 (by show ¬ (10 ∈ [99, 100, 101, 102, 103, 104, 105, 106, 107, 108, 109, 110, 111, 112, 113, 114, 115, 116, 117, 118, 119, 120, 121, 122, 123, 124, 125]); decide) rfl
        exact pt_val (v := .pointer (some ⟨s, 1, none⟩)) (by unfold execOp; simp only [e10]; kernel_rfl) (hK _ _ hI.j PtKeep.refl rfl)
      · intro L a W K hI hn hd hK
        have e100 : a.eval (.tmp 100) = .pointer (some ⟨s, 1, none⟩) := hI.fact 1 100 _ rfl (dep_of hd 1 (by kernel_rfl))
        exact pt_load _ (.tmp 100) rfl ⟨s, 1, none⟩ (.int .i64 (Lx.first : Nat)) _ e100 (HC1.out _ (HO8.out.trans hI.j (fun _ _ e => e))) Try.underlying3 rfl (hK _ _ hI.j PtKeep.refl rfl)
      · intro L a W K hI hn hd hK
        have e101 : a.eval (.tmp 101) = .int .i64 (Lx.first : Nat) := hI.fact 2 101 _ rfl (dep_of hd 2 (by kernel_rfl))
        exact pt_val (v := .int .u64 (M4.head : Nat)) (Eq.trans (b := .ok (.value (.int .u64 (IntKind.u64.wrap ((Lx.first : Nat) : Int)))) W) (by unfold execOp; simp only [e101]; kernel_rfl) (by rw [HCF.out])) (hK _ _ hI.j PtKeep.refl rfl)
      · intro L a W K hI hn hd hK
        have e99 : a.eval (.tmp 99) = .int .u64 (M4.head : Nat) := hI.fact 0 99 _ rfl (dep_of hd 0 (by kernel_rfl))
        have e102 : a.eval (.tmp 102) = .int .u64 (M4.head : Nat) := hI.fact 3 102 _ rfl (dep_of hd 3 (by kernel_rfl))
        exact pt_val (v := .bool false) (Eq.trans (b := .ok (.value (.bool (((M4.head : Nat) : Int) != ((M4.head : Nat) : Int)))) W) (by unfold execOp; simp only [e99, e102]; kernel_rfl) (by rw [bne_self_eq_false])) (hK _ _ hI.j PtKeep.refl rfl)
      · intro L a W K hI hn hd hK
        have e103 : a.eval (.tmp 103) = .bool false := hI.fact 4 103 _ rfl (dep_of hd 4 (by kernel_rfl))
        exact pt_move _ (by first | exact .inl rfl | exact .inr rfl) _ e103 (hK _ _ hI.j PtKeep.refl rfl)
      · intro L a W K hI hn hd hK
        have e18 : a.eval (.tmp 18) = .int .u64 (M4.tail : Nat) := hI.ev 18 (by show ¬ (18 ∈ [99, 100, 101, 102, 103, 104, 105, 106, 107, 108, 109, 110, 111, 112, 113, 114, 115, 116, 117, 118, 119, 120, 121, 122, 123, 124, 125]); decide) rfl
        exact pt_move _ (by first | exact .inl rfl | exact .inr rfl) _ e18 (hK _ _ hI.j PtKeep.refl rfl)
      · intro L a W K hI hn hd hK
        have e10 : a.eval (.tmp 10) = .pointer (some ⟨s, 0, none⟩) := hI.ev 10 (by show ¬ (10 ∈ [99, 100, 101, 102, 103, 104, 105, 106, 107, 108, 109, 110, 111, 112, 113, 114, 115, 116, 117, 118, 119, 120, 121, 122, 123, 124, 125]); decide) rfl
        exact pt_val (v := .pointer (some ⟨s, 2, none⟩)) (by unfold execOp; simp only [e10]; kernel_rfl) (hK _ _ hI.j PtKeep.refl rfl)
      · intro L a W K hI hn hd hK
        have e106 : a.eval (.tmp 106) = .pointer (some ⟨s, 2, none⟩) := hI.fact 7 106 _ rfl (dep_of hd 7 (by kernel_rfl))
        exact pt_load _ (.tmp 106) rfl ⟨s, 2, none⟩ (.int .i64 (Lx.tail : Nat)) _ e106 (HC2.out _ (HO8.out.trans hI.j (fun _ _ e => e))) Try.underlying3 rfl (hK _ _ hI.j PtKeep.refl rfl)
      · intro L a W K hI hn hd hK
        have e107 : a.eval (.tmp 107) = .int .i64 (Lx.tail : Nat) := hI.fact 8 107 _ rfl (dep_of hd 8 (by kernel_rfl))
        exact pt_val (v := .int .u64 (M4.tail : Nat)) (Eq.trans (b := .ok (.value (.int .u64 (IntKind.u64.wrap ((Lx.tail : Nat) : Int)))) W) (by unfold execOp; simp only [e107]; kernel_rfl) (by rw [HCT.out])) (hK _ _ hI.j PtKeep.refl rfl)
      · intro L a W K hI hn hd hK
        have e105 : a.eval (.tmp 105) = .int .u64 (M4.tail : Nat) := hI.fact 6 105 _ rfl (dep_of hd 6 (by kernel_rfl))
        have e108 : a.eval (.tmp 108) = .int .u64 (M4.tail : Nat) := hI.fact 9 108 _ rfl (dep_of hd 9 (by kernel_rfl))
        exact pt_val (v := .bool false) (Eq.trans (b := .ok (.value (.bool (((M4.tail : Nat) : Int) != ((M4.tail : Nat) : Int)))) W) (by unfold execOp; simp only [e105, e108]; kernel_rfl) (by rw [bne_self_eq_false])) (hK _ _ hI.j PtKeep.refl rfl)
      · intro L a W K hI hn hd hK
        have e104 : a.eval (.tmp 104) = .bool false := hI.fact 5 104 _ rfl (dep_of hd 5 (by kernel_rfl))
        have e109 : a.eval (.tmp 109) = .bool false := hI.fact 10 109 _ rfl (dep_of hd 10 (by kernel_rfl))
        exact pt_val (v := .bool false) (by unfold execOp; simp only [e104, e109]; kernel_rfl) (hK _ _ hI.j PtKeep.refl rfl)
      · intro L a W K hI hn hd hK
        have e110 : a.eval (.tmp 110) = .bool false := hI.fact 11 110 _ rfl (dep_of hd 11 (by kernel_rfl))
        exact pt_move _ (by first | exact .inl rfl | exact .inr rfl) _ e110 (hK _ _ hI.j PtKeep.refl rfl)
      · intro L a W K hI hn hd hK
        have e7 : a.eval (.tmp 7) = .pointer (some ⟨lx, 0, none⟩) := hI.ev 7 (by show ¬ (7 ∈ [99, 100, 101, 102, 103, 104, 105, 106, 107, 108, 109, 110, 111, 112, 113, 114, 115, 116, 117, 118, 119, 120, 121, 122, 123, 124, 125]); decide) rfl
        exact pt_move _ (by first | exact .inl rfl | exact .inr rfl) _ e7 (hK _ _ hI.j PtKeep.refl rfl)
      · intro L a W K hI hn hd hK
        have e112 : a.eval (.tmp 112) = .pointer (some ⟨lx, 0, none⟩) := hI.fact 13 112 _ rfl (dep_of hd 13 (by kernel_rfl))
        refine wp_callc (f := 19) (args := #[a.eval (.tmp 112)]) (by kernel_rfl) ?_
        rw [e112]
        refine ((fun W hW => HWT.out W (HO8.out.trans hW (fun _ _ e => e))) _ hI.j).mono ?_
        rintro x W' ⟨rfl, ho⟩
        exact ⟨_, rfl, hK _ _ (hI.j.trans ho (fun _ _ e => e.elim)) (hstab.keep ho) rfl⟩
      · intro L a W K hI hn hd hK
        have e10 : a.eval (.tmp 10) = .pointer (some ⟨s, 0, none⟩) := hI.ev 10 (by show ¬ (10 ∈ [99, 100, 101, 102, 103, 104, 105, 106, 107, 108, 109, 110, 111, 112, 113, 114, 115, 116, 117, 118, 119, 120, 121, 122, 123, 124, 125]); decide) rfl
        exact pt_val (v := .pointer (some ⟨s, 4, none⟩)) (by unfold execOp; simp only [e10]; kernel_rfl) (hK _ _ hI.j PtKeep.refl rfl)
      · intro L a W K hI hn hd hK
        have e114 : a.eval (.tmp 114) = .pointer (some ⟨s, 4, none⟩) := hI.fact 15 114 _ rfl (dep_of hd 15 (by kernel_rfl))
        exact pt_load _ (.tmp 114) rfl ⟨s, 4, none⟩ (.slice qa9 Lx.waiting.length qc9) _ e114 (HC4.out _ (HO8.out.trans hI.j (fun _ _ e => e))) Try.underlying43 rfl (hK _ _ hI.j PtKeep.refl rfl)
      · intro L a W K hI hn hd hK
        have e115 : a.eval (.tmp 115) = .slice qa9 Lx.waiting.length qc9 := hI.fact 16 115 _ rfl (dep_of hd 16 (by kernel_rfl))
        exact pt_val (v := .int .i64 (Lx.waiting.length : Nat)) (by unfold execOp; simp only [resolve, invoke, builtin, Sem.run_bind, Sem.run_pure, Result.andThen_ok, List.map_toArray, List.map_cons, List.map_nil, e115]; kernel_rfl) (hK _ _ hI.j PtKeep.refl rfl)
      · intro L a W K hI hn hd hK
        have e113 : a.eval (.tmp 113) = .int .i64 (M4.wait.length : Nat) := hI.fact 14 113 _ rfl (dep_of hd 14 (by kernel_rfl))
        have e116 : a.eval (.tmp 116) = .int .i64 (Lx.waiting.length : Nat) := hI.fact 17 116 _ rfl (dep_of hd 17 (by kernel_rfl))
        exact pt_val (v := .bool false) (Eq.trans (b := .ok (.value (.bool (((M4.wait.length : Nat) : Int) != ((Lx.waiting.length : Nat) : Int)))) W) (by unfold execOp; simp only [e113, e116]; kernel_rfl) (by rw [HWL.out])) (hK _ _ hI.j PtKeep.refl rfl)
      · intro L a W K hI hn hd hK
        have e111 : a.eval (.tmp 111) = .bool false := hI.fact 12 111 _ rfl (dep_of hd 12 (by kernel_rfl))
        have e117 : a.eval (.tmp 117) = .bool false := hI.fact 18 117 _ rfl (dep_of hd 18 (by kernel_rfl))
        exact pt_val (v := .bool false) (by unfold execOp; simp only [e111, e117]; kernel_rfl) (hK _ _ hI.j PtKeep.refl rfl)
      · intro L a W K hI hn hd hK
        have e118 : a.eval (.tmp 118) = .bool false := hI.fact 19 118 _ rfl (dep_of hd 19 (by kernel_rfl))
        exact pt_move _ (by first | exact .inl rfl | exact .inr rfl) _ e118 (hK _ _ hI.j PtKeep.refl rfl)
      · intro L a W K hI hn hd hK
        have e7 : a.eval (.tmp 7) = .pointer (some ⟨lx, 0, none⟩) := hI.ev 7 (by show ¬ (7 ∈ [99, 100, 101, 102, 103, 104, 105, 106, 107, 108, 109, 110, 111, 112, 113, 114, 115, 116, 117, 118, 119, 120, 121, 122, 123, 124, 125]); decide) rfl
        exact pt_move _ (by first | exact .inl rfl | exact .inr rfl) _ e7 (hK _ _ hI.j PtKeep.refl rfl)
      · intro L a W K hI hn hd hK
        have e120 : a.eval (.tmp 120) = .pointer (some ⟨lx, 0, none⟩) := hI.fact 21 120 _ rfl (dep_of hd 21 (by kernel_rfl))
        refine wp_callc (f := 12) (args := #[a.eval (.tmp 120)]) (by kernel_rfl) ?_
        rw [e120]
        refine ((fun W hW => HLF.out W (HO8.out.trans hW (fun _ _ e => e))) _ hI.j).mono ?_
        rintro x W' ⟨rfl, ho⟩
        exact ⟨_, rfl, hK _ _ (hI.j.trans ho (fun _ _ e => e.elim)) (hstab.keep ho) rfl⟩
      · intro L a W K hI hn hd hK
        have e10 : a.eval (.tmp 10) = .pointer (some ⟨s, 0, none⟩) := hI.ev 10 (by show ¬ (10 ∈ [99, 100, 101, 102, 103, 104, 105, 106, 107, 108, 109, 110, 111, 112, 113, 114, 115, 116, 117, 118, 119, 120, 121, 122, 123, 124, 125]); decide) rfl
        exact wp_load_row _ (.tmp 10) rfl (s) e10 45 ((rcells Lx fv3 wv3)) (0, 0) _ (HBZ.out _ (HO8.out.trans hI.j (fun _ _ e => e))) Try.underlying45 rfl (info_rl) (hK _ _ hI.j PtKeep.refl rfl)
      · intro L a W K hI hn hd hK
        have e122 : a.eval (.tmp 122) = .agg (rcells Lx fv3 wv3) := hI.fact 23 122 _ rfl (dep_of hd 23 (by kernel_rfl))
        refine wp_callc (f := 20) (args := #[a.eval (.tmp 122)]) (by kernel_rfl) ?_
        rw [e122]
        refine ((fun W hW => HRL.out W (HO8.out.trans hW (fun _ _ e => e))) _ hI.j).mono ?_
        rintro x W' ⟨rfl, ho⟩
        exact ⟨_, rfl, hK _ _ (hI.j.trans ho (fun _ _ e => e.elim)) (hstab.keep ho) rfl⟩
      · intro L a W K hI hn hd hK
        have e121 : a.eval (.tmp 121) = .int .i64 (lf : Nat) := hI.fact 22 121 _ rfl (dep_of hd 22 (by kernel_rfl))
        have e123 : a.eval (.tmp 123) = .int .i64 (lf : Nat) := hI.fact 24 123 _ rfl (dep_of hd 24 (by kernel_rfl))
        exact pt_val (v := .bool false) (Eq.trans (b := .ok (.value (.bool (((lf : Nat) : Int) != ((lf : Nat) : Int)))) W) (by unfold execOp; simp only [e121, e123]; kernel_rfl) (by rw [bne_self_eq_false])) (hK _ _ hI.j PtKeep.refl rfl)
      · intro L a W K hI hn hd hK
        have e119 : a.eval (.tmp 119) = .bool false := hI.fact 20 119 _ rfl (dep_of hd 20 (by kernel_rfl))
        have e124 : a.eval (.tmp 124) = .bool false := hI.fact 25 124 _ rfl (dep_of hd 25 (by kernel_rfl))
        exact pt_val (v := .bool false) (by unfold execOp; simp only [e119, e124]; kernel_rfl) (hK _ _ hI.j PtKeep.refl rfl)
    · intro L a w9 hal hj hfs
      dsimp only [PtAll] at hfs
      obtain ⟨f99, f100, f101, f102, f103, f104, f105, f106, f107, f108, f109, f110, f111, f112, f113, f114, f115, f116, f117, f118, f119, f120, f121, f122, f123, f124, f125, -⟩ := hfs
      have hA := hal.turned
      simp only [List.map_cons, List.map_nil, Act.turned, f99, f100, f101, f102, f103, f104, f105, f106, f107, f108, f109, f110, f111, f112, f113, f114, f115, f116, f117, f118, f119, f120, f121, f122, f123, f124, f125] at hA
      simp only [Act.put, List.setIfInBounds_toArray, List.set_cons_zero, List.set_cons_succ] at hA
      clear hal f99 f100 f101 f102 f103 f104 f105 f106 f107 f108 f109 f110 f111 f112 f113 f114 f115 f116 f117 f118 f119 f120 f121 f122 f123 f124 f125
      subst hA
      change wpList _ _ _ [] _ _
      have HJ := hid (HW4.out.same (HO8.out.trans hj (fun _ _ e => e)))
      go_wp2_with fail
      exact ⟨⟨j + 1, lx, by omega, ⟨rfl, rfl, rfl, rfl, rfl, by show Value.int .i64 _ = _; go_num, rfl, rfl⟩, ⟨_, _, _, _, _, _, _, _, _, HJ.out⟩⟩, by simp [intOf]; omega⟩
end
end Go.Proofs.Ythodcbhejjbhaaa
