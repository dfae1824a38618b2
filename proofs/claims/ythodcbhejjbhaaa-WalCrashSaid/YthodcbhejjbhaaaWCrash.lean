/- WalCrash's walk. -/
import Derived.Test.YthodcbhejjbhaaaKw
import Derived.Test.YthodcbhejjbhaaaPend
import Derived.Test.YthodcbhejjbhaaaFrm
import Derived.Test.YthodcbhejjbhaaaRuns
import Derived.Deep.Cut
import Derived.Deep.CutRange
namespace Go.Proofs.Ythodcbhejjbhaaa
open Go.RowKit
def wcrW (w0 w : World) (l b s sg j : Nat) : Prop := ∃ r M Lr fv wv FF GG T0 fs, WS w0 w l b r s M Lr fv wv FF GG sg j T0 fs
noncomputable def wcrB (id : Nat) : Code := ((Try.f8.body).bind (blkOf id)).getD .skip
theorem lit175 (v : Nat → Value) : ((List.range 175).map v).toArray = #[v 0, v 1, v 2, v 3, v 4, v 5, v 6, v 7, v 8, v 9, v 10, v 11, v 12, v 13, v 14, v 15, v 16, v 17, v 18, v 19, v 20, v 21, v 22, v 23, v 24, v 25, v 26, v 27, v 28, v 29, v 30, v 31, v 32, v 33, v 34, v 35, v 36, v 37, v 38, v 39, v 40, v 41, v 42, v 43, v 44, v 45, v 46, v 47, v 48, v 49, v 50, v 51, v 52, v 53, v 54, v 55, v 56, v 57, v 58, v 59, v 60, v 61, v 62, v 63, v 64, v 65, v 66, v 67, v 68, v 69, v 70, v 71, v 72, v 73, v 74, v 75, v 76, v 77, v 78, v 79, v 80, v 81, v 82, v 83, v 84, v 85, v 86, v 87, v 88, v 89, v 90, v 91, v 92, v 93, v 94, v 95, v 96, v 97, v 98, v 99, v 100, v 101, v 102, v 103, v 104, v 105, v 106, v 107, v 108, v 109, v 110, v 111, v 112, v 113, v 114, v 115, v 116, v 117, v 118, v 119, v 120, v 121, v 122, v 123, v 124, v 125, v 126, v 127, v 128, v 129, v 130, v 131, v 132, v 133, v 134, v 135, v 136, v 137, v 138, v 139, v 140, v 141, v 142, v 143, v 144, v 145, v 146, v 147, v 148, v 149, v 150, v 151, v 152, v 153, v 154, v 155, v 156, v 157, v 158, v 159, v 160, v 161, v 162, v 163, v 164, v 165, v 166, v 167, v 168, v 169, v 170, v 171, v 172, v 173, v 174] := by kernel_rfl
section
variable {w0 w : World} {Q : Exit → Act → World → Prop}
set_option maxRecDepth 100000 in
set_option maxHeartbeats 6400000 in
theorem wcr0 {a : Act} {ops : List LOp} {bo : Option Addr} {bc l b s sg : Nat} {v4 : Value} {v5 : Value} (hops : LOpsAt w0 (.slice bo ops.length bc) ops) (hn : ops.length ≤ 40) (hd : ∀ o ∈ ops, o.data.length ≤ 100) (hW : wcrW w0 w l b s sg (0))
    (hL : Lv 175 a [(7, .pointer (some ⟨b, 0, none⟩)), (9, .pointer (some ⟨l, 0, none⟩)), (12, .pointer (some ⟨s, 0, none⟩)), (53, .slice bo ops.length bc), (54, .int .i64 ops.length), (55, .int .i64 0), (4, v4), (5, v5)])
    (hQ : ∀ a' w', Lv 175 a' [(7, .pointer (some ⟨b, 0, none⟩)), (9, .pointer (some ⟨l, 0, none⟩)), (12, .pointer (some ⟨s, 0, none⟩)), (4, v4), (5, v5)] → wcrW w0 w' l b s sg (ops.length) → Q .normal a' w') :
    (wcrB 0).wp Try.prog Q a w := by
  refine Code.wp_mono NoPanic.imp ?_
  conv => arg 2; whnf
  refine wp_block (wp_loop (fun a' w' => ∃ j : Nat, j ≤ ops.length ∧ Lv 175 a' [(7, .pointer (some ⟨b, 0, none⟩)), (9, .pointer (some ⟨l, 0, none⟩)), (12, .pointer (some ⟨s, 0, none⟩)), (53, .slice bo ops.length bc), (54, .int .i64 ops.length), (55, .int .i64 (j : Nat)), (4, v4), (5, v5)] ∧ wcrW w0 w' l b s sg (j))
    (fun a' _ => ops.length - (intOf (a'.tmps.getD 55 undef)).toNat) ⟨0, Nat.zero_le _, hL, hW⟩ ?_)
  clear hL hW
  rintro a' w1 ⟨j, hj, hI, hws⟩
  obtain ⟨u, rfl, hu⟩ := act_fn hI
  rw [lit175] at hI ⊢
  obtain ⟨g7, g9, g12, g53, g54, g55, g4, g5, -⟩ := hI
  change u 7 = _ at g7
  change u 9 = _ at g9
  change u 12 = _ at g12
  change u 53 = _ at g53
  change u 54 = _ at g54
  change u 55 = _ at g55
  change u 4 = _ at g4
  change u 5 = _ at g5
  rw [g7, g9, g12, g53, g54, g55, g4, g5]
  clear g7 g9 g12 g53 g54 g55 g4 g5 hu
  have HQ := hid hQ; have HWS := hid hws
  clear hQ hws
  by_cases hjl : j < ops.length
  rotate_left
  · have hji : ¬ (j : Int) < ops.length := by omega
    obtain rfl : j = ops.length := by omega
    go_wp2_with fail
    exact HQ.out _ _ ⟨rfl, rfl, rfl, rfl, rfl, rfl, rfl⟩ HWS.out
  have hji : (j : Int) < ops.length := by omega
  obtain ⟨r, M, Lr, fv, wv, FF, GG, T0, fs, hw⟩ := HWS.out
  obtain ⟨o, hoj⟩ : ∃ t, ops[j]? = some t := ⟨_, List.getElem?_eq_getElem hjl⟩
  obtain ⟨bo', bc', heq, -, hel⟩ := hops
  simp only [Value.slice.injEq, true_and] at heq
  obtain ⟨rfl, rfl⟩ := heq
  obtain ⟨hat, g, of, rfl, hgl, hcl⟩ := hel j o hoj
  have hd1 := hd o (List.mem_of_getElem? hoj)
  obtain ⟨da, dc, hdv, -⟩ := hat.data
  have hsd := hat.data
  rw [hdv] at hsd
  have HSD := hid hsd
  have HR : Hid (w1.rangeAt g (of + j * 3) o.cells) := hid fun k u hk => (World.cell?_of_block (hw.lg.only.block g hgl (fun e => e))).trans (hcl k u hk)
  have HI3 : Hid ((Try.prog.info? 47).map (·.size) = some o.cells.length) := hid info_op8
  have HCE : Hid (o.cells.toArray = #[.int .i64 o.kind, .int .i64 o.often, .slice da o.data.length dc]) := hid (by unfold LOp.cells; rw [hdv])
  obtain ⟨kd, hkd⟩ : ∃ x, o.kind = x := ⟨_, rfl⟩
  obtain ⟨oft, hof⟩ : ∃ x, o.often = x := ⟨_, rfl⟩
  obtain ⟨dd, hdd⟩ : ∃ x, o.data = x := ⟨_, rfl⟩
  rw [hkd, hof, hdd] at HCE
  rw [hdd] at hd1 HSD
  have HW := hid hw
  clear hw hoj hel hat hcl hdv hsd hkd hof hdd HWS hd
  go_upto_region 15 with ((guard_target =~ wpList _ _ _ (⟨some 58, _, _, _, _, _⟩ :: _) _ _); refine wpList_load_mid rfl 47 (.tmp 57) rfl g (of + j * 3) rfl o.cells _ HR.out Try.underlying47 rfl HI3.out ?_; rw [HCE.out])
  obtain ⟨w2, hw2⟩ : ∃ x, w1.alloc (.cells #[.int .i64 kd, .int .i64 oft, .slice da dd.length dc] 47) = x := ⟨_, rfl⟩
  have hb12 : w2.heap[w1.heap.size]? = some (.cells #[.int .i64 kd, .int .i64 oft, .slice da dd.length dc] 47 (0, 0)) := by rw [← hw2]; exact blk_new _ _
  have ho12 : Only (fun _ => False) w1 w2 := by rw [← hw2]; exact only_new _ _
  rw [hw2]
  have HB12 := hid hb12
  have HW2 := hid (HW.out.same ho12)
  have c12 : w2.cell? ⟨w1.heap.size, 0, none⟩ = some (.int .i64 kd) := cell_blk HB12.out 0
  clear hw2 hb12 ho12 HW HR HI3 HCE
  by_cases hk4 : kd = 4
  · subst hk4
    go_wp2_with fail
    exact ⟨⟨j + 1, by omega, ⟨rfl, rfl, rfl, rfl, rfl, by show Value.int .i64 _ = _; go_num, rfl, rfl, rfl, rfl⟩, ⟨_, _, _, _, _, _, _, _, _, HW2.out.more⟩⟩, by simp [intOf]; omega⟩
  have hkb : (kd != 4) = true := by rw [bne_iff_ne]; exact hk4
  clear hk4
  obtain ⟨t, ht⟩ : ∃ x, rept (oftN oft) dd = x := ⟨_, rfl⟩
  have ht6 : t.length ≤ 100000 := by
    rw [← ht, rept_len]
    have h1 : oftN oft ≤ 60 := by unfold oftN; omega
    have := Nat.mul_le_mul h1 hd1
    omega
  have HPL : Hid (Calls Try.prog 16 #[.pointer (some ⟨l, 0, none⟩), .agg (rcells Lr fv wv), .agg #[.int .i64 kd, .int .i64 oft, .slice da dd.length dc]] w2 fun e w' => ∃ fv' wv' F' G' B, e = .returned (.tuple #[.agg (rcells (Lr.play kd t) fv' wv'), .bool B]) ∧ LogAt w' l b r (M.play kd t) F' ∧ RLAt w' (Lr.play kd t) fv' wv' G' ∧ (∀ k, G' k → ¬ F' k) ∧ (∀ k, F' k → FF k ∨ w2.heap.size ≤ k) ∧ (∀ k, G' k → GG k ∨ w2.heap.size ≤ k) ∧ Only FF w2 w') := hid (by
    obtain ⟨n1, n2, n3, -, -⟩ := HW2.out.n (by omega)
    have h0 := play_c HW2.out.lg.log HW2.out.rl HW2.out.fg kd oft dd (HSD.out.same HW2.out.lg.only) hd1 (fun g o e hne hf => by
      have := src_lt HSD.out g o e hne
      have := HW2.out.lg.new g hf
      omega) n1 n2 n3
    rw [ht] at h0
    refine h0.mono ?_
    rintro e w' ⟨fv', wv', F', G', e1, e2⟩
    exact ⟨fv', wv', F', G', _, e1, e2⟩)
  clear HSD ht
  go_wp2_with (first | ((guard_target =~ wpList _ _ _ (⟨some 64, _, _, _, _, _⟩ :: _) _ _); refine wpList_load_row (o := ⟨some 64, _, _, _, _, _⟩) rfl 45 (.tmp 12) rfl s rfl 45 (rcells Lr fv wv) (0, 0) _ HW2.out.bs Try.underlying45 rfl info_rl ?_) | ((guard_target =~ wpList _ _ _ (⟨some 65, _, _, _, _, _⟩ :: _) _ _); refine wpList_load_row (o := ⟨some 65, _, _, _, _, _⟩) rfl 47 (.tmp 14) rfl w1.heap.size rfl 47 #[.int .i64 kd, .int .i64 oft, .slice da dd.length dc] (0, 0) _ HB12.out Try.underlying47 rfl info_op8 ?_))
  refine HPL.out.mono ?_
  rintro x w3 ⟨fv3, wv3, F3, G3, B3, rfl, hl3, hr3, hs3, hf3, hg3, ho3⟩
  have HB3 := hid (blk_only HW2.out.bs ho3 HW2.out.fz)
  have HONE := hid hr3.one
  have HL3 := hid hl3; have HR3 := hid hr3; have HS3 := hid hs3; have HF3 := hid hf3; have HG3 := hid hg3; have HO3 := hid ho3
  clear hl3 hr3 hs3 hf3 hg3 ho3 HPL HB12 c12
  go_wp2_with ((guard_target =~ wpList _ _ _ (⟨none, .store 45 (.tmp 12) _, _, _, _, _⟩ :: _) _ _); refine wpList_store_all rfl 45 (.tmp 12) (.tmp 67) rfl s (rcells (Lr.play kd t) fv3 wv3) rfl rfl (rcells Lr fv wv) 45 HB3.out rfl info_rl HONE.out ?_; intro w4 hb4 ho4 hs4; have HB4 := hid hb4; have HO4 := hid ho4; clear hb4 ho4 hs4)
  obtain ⟨T4, fs4, hw4⟩ := HW2.out.play (by omega) ht6 HL3.out HR3.out HS3.out HF3.out HG3.out HO3.out HB4.out HO4.out
  exact ⟨⟨j + 1, by omega, ⟨rfl, rfl, rfl, rfl, rfl, by show Value.int .i64 _ = _; go_num, rfl, rfl, rfl, rfl⟩, ⟨_, _, _, _, _, _, _, _, _, hw4⟩⟩, by simp [intOf]; omega⟩
end
theorem DiskAt.lens {w : World} {b : Nat} {D : DiskM} {F : Nat → Prop} (h : DiskAt w b D F) : ∀ k, k < D.n → (D.sure k).length = 128 := by
  obtain ⟨gs, cap, ms, sg, sc, pe, clock, ρ, hr, -⟩ := h
  exact fun k hk => (hr.sec k hk).2
/-- The operations that one operation is. -/
theorem one_op {w : World} {g : Nat} {o : LOp} (hb : w.heap[g]? = some (.cells o.cells.toArray 47 (0, 0))) (hd : Src w o.dv o.data) (hl : o.data.length ≤ 9223372036854775807) : LOpsAt w (.slice (some ⟨g, 0, none⟩) 1 1) [o] := by
  refine ⟨_, _, rfl, by show 1 ≤ 9223372036854775807; decide, fun i x hi => ?_⟩
  match i, hi with
  | 0, hi =>
    obtain rfl := Option.some.inj hi
    refine ⟨⟨hd, hl⟩, g, 0, rfl, blk_lt hb, fun j u hj => ?_⟩
    rw [show 0 + 0 * 3 + j = j from by omega]
    refine (cell_blk hb j).trans ?_
    simpa using hj
  | i + 1, hi => simp at hi
theorem LP.fl' {M : WM} {sg N : Nat} {T0 : List UInt8} {fs : List (Nat × List UInt8)} (h : LP M sg N T0 fs) (hs : sg ≤ 100) : fs.length ≤ 1000000 := by
  have h1 := h.room
  have h2 := h.hd
  have hk : ∀ (gs : List (Nat × List UInt8)) (a : Nat), 9 * gs.length ≤ (layT a gs).length := fun gs => by
    induction gs with
    | nil => intro a; exact Nat.zero_le _
    | cons x gs ih =>
      intro a
      obtain ⟨k, s⟩ := x
      show 9 * (gs.length + 1) ≤ ((padN a s.length ++ frameN (placeN a s.length) k s) ++ layT (placeN a s.length + 9 + s.length) gs).length
      rw [List.length_append, first_len]
      have := ih (placeN a s.length + 9 + s.length); have := place_le a s.length; omega
  have := hk fs T0.length
  rw [List.length_append] at h1
  omega
def moreL : List UInt8 := [109, 111, 114, 101]
section
variable {w : World}
set_option maxRecDepth 100000 in
set_option maxHeartbeats 12800000 in
theorem walcrash_c {v : Value} {ops : List LOp} (h : LOpsAt w v ops) (kl ol : Int) (s : List UInt8) {dl : Option Addr} {dlc : Nat} (hs : Src w (.slice dl s.length dlc) s) (hsl : s.length ≤ 9223372036854775807) (c0 c1 c2 c3 : Int) : Calls Try.prog 8 #[v, .agg #[.int .i64 kl, .int .i64 ol, .slice dl s.length dlc], .agg #[.int .i64 c0, .int .i64 c1, .int .i64 c2, .int .i64 c3]] w fun e w' => e = .returned (.bool true) ∧ Only (fun _ => False) w w' := by
  have H := hid h; have HS := hid hs
  obtain ⟨bo, bc, rfl, -, -⟩ := h
  clear hs
  obtain ⟨W0, hW0⟩ : ∃ y, (w.alloc (.cells #[.int .i64 kl, .int .i64 ol, .slice dl s.length dlc] 47)).alloc (.cells #[.int .i64 c0, .int .i64 c1, .int .i64 c2, .int .i64 c3] 77) = y := ⟨_, rfl⟩
  have hO0 : Only (fun _ => False) w W0 := by rw [← hW0]; exact (only_new _ _).trans (only_new _ _) (fun _ _ e => e)
  have hz0 : (w.heap.size + 1) < W0.heap.size := by rw [← hW0]; simp
  have HB4 : Hid (∀ W, Only (fun _ => False) W0 W → W.heap[w.heap.size]? = some (.cells #[.int .i64 kl, .int .i64 ol, .slice dl s.length dlc] 47 (0, 0))) := hid fun W hW => blk_only (by rw [← hW0]; exact blk_alloc (blk_new _ _)) hW (fun e => e)
  have HB5 : Hid (∀ W, Only (fun _ => False) W0 W → W.heap[(w.heap.size + 1)]? = some (.cells #[.int .i64 c0, .int .i64 c1, .int .i64 c2, .int .i64 c3] 77 (0, 0))) := hid fun W hW => blk_only (by rw [← hW0]; exact blk2w _ _ _) hW (fun e => e)
  have HO0 := hid hO0; have HW0 := hid hW0
  clear hO0 hW0
  go_enter Try.func8, Try.ntmps8
  go_upto_region 1 with fail
  rw [HW0.out]
  go_wp2_with fail
  refine logs_c.mono ?_
  rintro e w1 ⟨rfl, ho1⟩
  have HO1 := hid ho1
  clear ho1
  have HFT := hid (fits8_c (w := w1) (lops_same H.out (HO0.out.trans HO1.out (fun _ _ e => e))))
  go_wp2_with fail
  refine HFT.out.mono ?_
  rintro e w2 ⟨⟨B, rfl, hB⟩, ho2⟩
  have HO2 := hid (HO1.out.trans ho2 (fun _ _ e => e))
  clear ho2 HO1 HFT
  cases B with
  | false =>
    go_wp2_with fail
    go_ret
    exact ⟨rfl, HO0.out.trans HO2.out (fun _ _ e => e)⟩
  | true =>
    have HB := hid (hB rfl)
    clear hB
    have HF2 : Hid (Calls Try.prog 15 #[.slice (some ⟨w2.heap.size, 0, none⟩) 1 1] (w2.alloc (.cells #[.int .i64 kl, .int .i64 ol, .slice dl s.length dlc] 47)) fun e w' => (∃ B, e = .returned (.bool B) ∧ (B = true → s.length ≤ 100)) ∧ Only (fun _ => False) (w2.alloc (.cells #[.int .i64 kl, .int .i64 ol, .slice dl s.length dlc] 47)) w') := hid (by
      have hb := blk_new w2 (.cells #[.int .i64 kl, .int .i64 ol, .slice dl s.length dlc] 47)
      have h1 := fits8_c (one_op (o := ⟨kl, ol, .slice dl s.length dlc, s⟩) hb (HS.out.same ((HO0.out.trans HO2.out (fun _ _ e => e)).trans (only_new w2 (.cells #[.int .i64 kl, .int .i64 ol, .slice dl s.length dlc] 47)) (fun _ _ e => e))) hsl)
      refine h1.mono ?_
      rintro e w' ⟨⟨B, e1, e2⟩, e3⟩
      exact ⟨⟨B, e1, fun hB => (e2 hB).2 _ (List.mem_singleton.2 rfl)⟩, e3⟩)
    go_wp2_with ((guard_target =~ wpList _ _ _ (⟨some 33, _, _, _, _, _⟩ :: _) _ _); refine wpList_want (by rfl) (fun K hK => wp_load_row 47 (.tmp 4) rfl w.heap.size rfl 47 #[.int .i64 kl, .int .i64 ol, .slice dl s.length dlc] (0, 0) _ (HB4.out _ HO2.out) Try.underlying47 rfl info_op8 (hK _ _ ?_)))
    refine HF2.out.mono ?_
    rintro e w3 ⟨⟨B, rfl, hB⟩, ho3⟩
    have HO3 : Hid (Only (fun _ => False) W0 w3) := hid ((HO2.out.trans (only_new _ _) (fun _ _ e => e)).trans ho3 (fun _ _ e => e))
    clear ho3 HO2 HF2
    cases B with
    | false =>
      go_wp2_with fail
      go_ret
      exact ⟨rfl, HO0.out.trans HO3.out (fun _ _ e => e)⟩
    | true =>
      have hs1 := hB rfl
      clear hB
      have HNW : Hid (Calls Try.prog 10 #[.int .i64 34] w3 fun e w' => ∃ b F, e = .returned (.tuple #[.pointer (some ⟨b, 0, none⟩), .int .i64 0]) ∧ DiskAt w' b (DiskM.new 34) F ∧ Only (fun _ => False) w3 w' ∧ ∀ k, F k → w3.heap.size ≤ k) := hid (new_ok w3 34 (by decide) (by decide))
      go_wp2_with fail
      refine HNW.out.mono ?_
      rintro e w4 ⟨b, FD, rfl, hd, ho4, hf4⟩
      have HP0 := hid (LP.new (sg := 2) (n := 34) (by decide) (by decide) (by decide))
      have HOP := hid (lopen_c (w0 := W0) hd (fun k hk => by have := hf4 k hk; have := HO3.out.size; omega) (HO3.out.trans ho4 (fun _ _ e => e)) HP0.out (by decide))
      clear hd hf4 ho4 HNW HO3
      go_wp2_with fail
      refine HOP.out.mono ?_
      rintro e w5 ⟨v5, l, r, lo5, F5, rfl, hl5, -, hfo5, -, -, -⟩
      obtain ⟨ao5, cap5, xs5, rfl, -⟩ := hfo5
      have HL5 := hid hl5
      clear hl5 HOP
      go_upto_block 0 with fail
      obtain ⟨w6, hw6⟩ : ∃ y, w5.alloc (.cells #[.int .i64 4096, .int .i64 0, .int .i64 0, .slice none 0 0, .slice none 0 0] 45) = y := ⟨_, rfl⟩
      have HWS := hid (WS.start HL5.out HP0.out rfl (by decide) (by decide) rfl hw6.symm)
      rw [hw6]
      clear hw6 HL5 HP0
      refine wcr0 (w0 := W0) (w := w6) (a := _) (ops := ops) (bo := bo) (bc := bc) (l := l) (b := b) (s := w5.heap.size) (sg := 2) (v4 := .pointer (some ⟨w.heap.size, 0, none⟩)) (v5 := .pointer (some ⟨(w.heap.size + 1), 0, none⟩)) (lops_same H.out HO0.out) HB.out.1 HB.out.2 ⟨r, _, _, _, _, _, _, _, _, HWS.out⟩ ⟨rfl, rfl, rfl, rfl, rfl, rfl, rfl, rfl, rfl, rfl⟩ ?_
      intro a' w7 hI hws
      obtain ⟨u, rfl, hu⟩ := act_fn hI
      rw [lit175] at hI ⊢
      obtain ⟨g7, g9, g12, g4, g5, -⟩ := hI
      change u 7 = _ at g7
      change u 9 = _ at g9
      change u 12 = _ at g12
      change u 4 = _ at g4
      change u 5 = _ at g5
      rw [g7, g9, g12, g4, g5]
      clear g7 g9 g12 g4 g5 hu
      obtain ⟨r7, M, Lr, fv, wv, FF, GG, T0, fs, hw⟩ := hws
      have HW := hid hw
      have HN := hid HB.out.1
      obtain ⟨q, hq⟩ : ∃ q, w5.heap.size = q := ⟨_, rfl⟩
      rw [hq] at HW ⊢
      have HONE := hid hw.rl.one
      clear hw HWS HB hq
      -- a copy of the document's log
      have HB15 : Hid ((w7.alloc (.cells #[.int .i64 0, .int .i64 0, .int .i64 0, .slice none 0 0, .slice none 0 0] 45)).heap[w7.heap.size]? = some (.cells #[.int .i64 0, .int .i64 0, .int .i64 0, .slice none 0 0, .slice none 0 0] 45 (0, 0))) := hid (blk_new _ _)
      have HO78 := hid (only_new w7 (.cells #[.int .i64 0, .int .i64 0, .int .i64 0, .slice none 0 0, .slice none 0 0] 45))
      go_upto_region 19 with (first | ((guard_target =~ wpList _ _ _ (⟨some 70, _, _, _, _, _⟩ :: _) _ _); refine wpList_load_row (o := ⟨some 70, _, _, _, _, _⟩) rfl 45 (.tmp 12) rfl q rfl 45 (rcells Lr fv wv) (0, 0) _ HW.out.bs Try.underlying45 rfl info_rl ?_) | ((guard_target =~ wpList _ _ _ (⟨none, .store 45 (.tmp 15) _, _, _, _, _⟩ :: _) _ _); refine wpList_store_all rfl 45 (.tmp 15) (.tmp 70) rfl w7.heap.size (rcells Lr fv wv) rfl rfl #[.int .i64 0, .int .i64 0, .int .i64 0, .slice none 0 0, .slice none 0 0] 45 HB15.out rfl info_rl HONE.out ?_; intro w8 hb8 ho8 hs8; have HB8 := hid hb8; have HO8 := hid ho8; clear hb8 ho8 hs8))
      have hz7 := HO78.out.size
      have hs8' : Only (fun _ => False) w7 w8 := HO78.out.trans HO8.out (fun k hk e => by have e' : k = w7.heap.size := e; omega)
      have HW8 := hid (HW.out.same hs8')
      have HBC := hid (HB5.out w8 HW8.out.lg.only)
      obtain ⟨bk, hbk⟩ : ∃ y, w7.heap.size = y := ⟨_, rfl⟩
      rw [hbk] at HB8
      have HB8' := hid HB8.out
      have hne : bk ≠ q := fun e => by have := blk_lt HW.out.bs; omega
      have hnF : ¬ FF bk := fun e => by have := HW.out.lg.log.lt e; omega
      have hnG : ¬ GG bk := fun e => by have := HW.out.rl.lt bk e; omega
      have HNE := hid hne; have HNF := hid hnF; have HNG := hid hnG
      rw [hbk]
      clear hs8' HB15 HO78 HO8 HW hbk HB8 hz7 hne hnF hnG
      obtain ⟨wv0, FR, FD8, FW, hr8, hf8⟩ := HW8.out.lg.log
      have HR8 := hid hr8; have HF8 := hid hf8
      have HDS := hid hr8.disk
      have x0 : w8.cell? ⟨(w.heap.size + 1), 0, none⟩ = some (.int .i64 c0) := cell_blk HBC.out 0
      have z5 := blk_lt HBC.out
      clear hr8 hf8
      obtain ⟨f, hf⟩ : ∃ f : Int, max 0 (min c0 200) = f := ⟨_, rfl⟩
      have hf2 : f ≤ 9223372036854775807 := by omega
      have HFU := hid (fuse_c HDS.out f hf2)
      go_wp2_with fail
      refine HFU.out.mono ?_
      rintro e w9 ⟨rfl, hd9, ho9⟩
      have HD9 := hid hd9
      have hFD : ∀ k, FD8 k → FF k := fun k hk => (HF8.out k).2 (.inr (.inr (.inl hk)))
      have HO89 : Hid (Only FF w8 w9) := hid (ho9.mono (fun k _ e => hFD k e))
      have HLG9 : Hid (LogAt w9 l b r7 { M with D := M.D.setFuse f } FF) := hid ⟨wv0, FR, FD8, FW, HR8.out.turn hd9 ho9 (fun k hk => .inl hk), HF8.out⟩
      have HOA : Hid (Only (fun _ => False) W0 w9) := hid (HW8.out.lg.only.trans HO89.out (fun k hk e => by have := HW8.out.lg.new k e; omega))
      obtain ⟨t, ht⟩ : ∃ y, rept (oftN ol) s = y := ⟨_, rfl⟩
      have ht6 : t.length ≤ 100000 := by
        rw [← ht, rept_len]
        have h1 : oftN ol ≤ 60 := by unfold oftN; omega
        have := Nat.mul_le_mul h1 hs1
        omega
      have HPL : Hid (Calls Try.prog 16 #[.pointer (some ⟨l, 0, none⟩), .agg (rcells Lr fv wv), .agg #[.int .i64 kl, .int .i64 ol, .slice dl s.length dlc]] w9 (PPost w9 l b r7 { M with D := M.D.setFuse f } Lr FF GG kl t)) := hid (by
        obtain ⟨n1, n2, n3, -, -⟩ := HW8.out.n (by have := HN.out; omega)
        have h0 := play_c HLG9.out (HW8.out.rl.only HO89.out HW8.out.fg) HW8.out.fg kl ol s (HS.out.same (HO0.out.trans HOA.out (fun _ _ e => e))) hs1 (fun g o e hne hf => by
          have := src_lt HS.out g o e hne
          have := HW8.out.lg.new g hf
          have := HO0.out.size
          omega) n1 n2 n3
        rw [ht] at h0
        exact h0)
      have HBQ : Hid (w9.heap[q]? = some (.cells (rcells Lr fv wv) 45 (0, 0))) := hid (blk_only HW8.out.bs HO89.out HW8.out.fz)
      clear hd9 ho9 hFD HFU x0 z5 HDS ht
      go_wp2_with (first | ((guard_target =~ wpList _ _ _ (⟨some 79, _, _, _, _, _⟩ :: _) _ _); refine wpList_load_row (o := ⟨some 79, _, _, _, _, _⟩) rfl 45 (.tmp 12) rfl q rfl 45 (rcells Lr fv wv) (0, 0) _ HBQ.out Try.underlying45 rfl info_rl ?_) | ((guard_target =~ wpList _ _ _ (⟨some 80, _, _, _, _, _⟩ :: _) _ _); refine wpList_load_row (o := ⟨some 80, _, _, _, _, _⟩) rfl 47 (.tmp 4) rfl w.heap.size rfl 47 #[.int .i64 kl, .int .i64 ol, .slice dl s.length dlc] (0, 0) _ (HB4.out _ HOA.out) Try.underlying47 rfl info_op8 ?_))
      refine HPL.out.mono ?_
      rintro e w10 ⟨fv2, wv2, F2, G2, rfl, hl2, hr2, hs2, hf2', hg2, ho2⟩
      have HL2 := hid hl2; have HR2 := hid hr2; have HS2 := hid hs2; have HF2' := hid hf2'; have HG2 := hid hg2; have HO2 := hid ho2
      have HONE2 := hid hr2.one
      have HB16 : Hid ((w10.alloc (.cells #[.int .i64 0, .int .i64 0, .int .i64 0, .slice none 0 0, .slice none 0 0] 45)).heap[w10.heap.size]? = some (.cells #[.int .i64 0, .int .i64 0, .int .i64 0, .slice none 0 0, .slice none 0 0] 45 (0, 0))) := hid (blk_new _ _)
      have HOA2 := hid (only_new w10 (.cells #[.int .i64 0, .int .i64 0, .int .i64 0, .slice none 0 0, .slice none 0 0] 45))
      have HFLT : Hid (∀ k, F2 k → k < w10.heap.size) := hid fun k hk => hl2.lt hk
      clear hl2 hr2 hs2 hf2' hg2 ho2 HPL HBQ
      go_upto_region 21 with ((guard_target =~ wpList _ _ _ (⟨none, .store 45 (.tmp 16) _, _, _, _, _⟩ :: _) _ _); refine wpList_store_all rfl 45 (.tmp 16) (.tmp 82) rfl w10.heap.size (rcells (Lr.play kl t) fv2 wv2) rfl rfl #[.int .i64 0, .int .i64 0, .int .i64 0, .slice none 0 0, .slice none 0 0] 45 HB16.out rfl info_rl HONE2.out ?_; intro w11 hb11 ho11 hs11; have HB11 := hid hb11; have HO11 := hid ho11; clear hb11 ho11 hs11)
      try dsimp only [Act.put]
      obtain ⟨bj, hbj⟩ : ∃ y, w10.heap.size = y := ⟨_, rfl⟩
      have HOB : Hid (Only (fun k => k = bj) w10 w11) := hid (by
        rw [← hbj]
        exact (HOA2.out.mono (fun _ _ e => e.elim)).trans HO11.out (fun k _ e => e))
      have HBJ : Hid (w11.heap[bj]? = some (.cells (rcells (Lr.play kl t) fv2 wv2) 45 (0, 0))) := hid (by rw [← hbj]; exact HB11.out)
      have HNJ : Hid (∀ k, k < w10.heap.size → k ≠ bj) := hid fun k hk e => by omega
      rw [hbj]
      clear hbj HB16 HOA2 HB11 HO11
      obtain ⟨M2, hM2⟩ : ∃ y, ({ M with D := M.D.setFuse f } : WM).play kl t = y := ⟨_, rfl⟩
      rw [hM2] at HL2
      have HCP : Hid (∀ (keep : List Int) (tear at' : Int), ∃ hd tl T1 fs', LP ⟨(M2.D.crash keep tear at').up, RingM.opened (M2.D.crash keep tear at').up 2 (2 * 16) tl, hd, tl, [], false⟩ 2 (ops.length + 1) T1 fs' ∧ (fs' = fs ∨ fs' = (Lr.play kl t).frames)) := hid fun keep tear at' => by
        have h0 := HW8.out.lp.crash_play HW8.out.sam (by have := HN.out; omega) (by
          obtain ⟨FDx, hdx, -⟩ := HW8.out.lg.log.disk
          exact hdx.lens) f kl ht6 keep tear at'
        rw [hM2] at h0; exact h0
      obtain ⟨L2, hL2⟩ : ∃ y, Lr.play kl t = y := ⟨_, rfl⟩
      rw [hL2] at HR2 HBJ HCP
      have HL11 : Hid (LogAt w11 l b r7 M2 F2) := hid (HL2.out.only HOB.out (fun k hk e => HNJ.out k (HL2.out.lt hk) e))
      obtain ⟨FD2, hd2, hfd2⟩ := HL11.out.disk
      have HD2 := hid hd2; have HFD2 := hid hfd2
      have HPE := hid (pending_c hd2)
      clear hM2 hL2 hd2 hfd2 HL2
      go_wp2_with fail
      refine HPE.out.mono ?_
      rintro e w12 ⟨po, pcap, ks, rfl, hio, ho12, -, hk4⟩
      obtain ⟨j, hj⟩ : ∃ j : Nat, max 0 (min c1 (ks.length : Int)) = (j : Int) := ⟨(max 0 (min c1 (ks.length : Int))).toNat, by omega⟩
      have hjl : j ≤ ks.length := by omega
      have HIO := hid hio; have HO12 := hid ho12
      have HBC12 : Hid (w12.heap[(w.heap.size + 1)]? = some (.cells #[.int .i64 c0, .int .i64 c1, .int .i64 c2, .int .i64 c3] 77 (0, 0))) := hid (by
        have h5 := blk_lt HBC.out
        have h9 := HO89.out.size
        have nF : ∀ k, k < W0.heap.size → ¬ FF k := fun k hk e => by have := HW8.out.lg.new k e; omega
        exact blk_only (blk_only (blk_only (blk_only HBC.out HO89.out (nF _ hz0)) HO2.out (nF _ hz0)) HOB.out (HNJ.out _ (by have := HO2.out.size; omega))) ho12 (fun e => e))
      have x1 : w12.cell? ⟨(w.heap.size + 1), 1, none⟩ = some (.int .i64 c1) := cell_blk HBC12.out 1
      have x2 : w12.cell? ⟨(w.heap.size + 1), 2, none⟩ = some (.int .i64 c2) := cell_blk HBC12.out 2
      have x3 : w12.cell? ⟨(w.heap.size + 1), 3, none⟩ = some (.int .i64 c3) := cell_blk HBC12.out 3
      have z12 := blk_lt HBC12.out
      have HSK : Hid (SrcV w12 (.slice po j pcap) (intsV (ks.take j)) ∧ ∀ g o c, Value.slice po j pcap = .slice (some ⟨g, o, none⟩) (ks.take j).length c → w11.heap.size ≤ g) := hid (by
        have hlj : (ks.take j).length = j := by rw [List.length_take]; omega
        have hlv : (intsV (ks.take j)).length = j := by rw [length_intsV, hlj]
        rcases hio with ⟨rfl, rfl, rfl⟩ | ⟨g, rfl, hg, hrow⟩
        · refine ⟨⟨none, 0, by rw [hlv], fun hne => absurd ?_ hne⟩, fun g o c e => by simp at e⟩
          simp [intsV]
        · refine ⟨⟨some ⟨g, 0, none⟩, pcap, by rw [hlv], fun _ => ⟨g, 0, rfl, fun i u hu => ?_⟩⟩, fun g' o c e => ?_⟩
          · rw [Nat.zero_add]
            have hij : i < j := by
              rcases Nat.lt_or_ge i j with h | h
              · exact h
              · rw [List.getElem?_eq_none (by rw [hlv]; exact h)] at hu; cases hu
            rw [hrow.cell i (by rw [length_intsV]; omega)]
            unfold intsV at hu ⊢
            rw [List.getElem?_map, List.getElem?_take_of_lt hij] at hu
            rw [List.getElem?_map]; exact hu
          · simp only [Value.slice.injEq, Option.some.injEq, Addr.mk.injEq] at e
            omega)
      clear hio ho12 HPE
      go_upto_region 22 with fail
      go_cut [19] from 86 to 93 (fun p wx => wx = w12 ∧ p = .slice po j pcap)
      case first =>
        rcases HIO.out with ⟨rfl, rfl, rfl⟩ | ⟨g, rfl, hg, hrow⟩
        · have hj0 : j = 0 := by simpa using hjl
          subst hj0
          go_wp2_with fail
          go_meet
          case rel => first | exact ⟨rfl, rfl⟩ | exact ⟨rfl, by rw [show (max 0 (min c1 0)).toNat = 0 from by omega]⟩
        · have hpc : ks.length ≤ pcap := by obtain ⟨pad, hp1, hp2⟩ := hrow; have := hp2; simp at this; omega
          have hji : (j : Int) ≤ (pcap : Int) := by omega
          clear hrow
          go_wp2_with fail
          go_meet
          case rel => exact ⟨rfl, rfl⟩
      case rest =>
      obtain ⟨rfl, rfl⟩ := hcut
      have HCR := hid (crash_c (HD2.out.only HO12.out (fun _ _ e => e)) (.slice po j pcap) (ks.take j) HSK.out.1 (fun g o c e hf => by have := HSK.out.2 g o c e; have := HD2.out.lt hf; omega) (by rw [List.length_take]; omega) c2 c3)
      go_wp2_with fail
      refine HCR.out.mono ?_
      rintro e w13 ⟨rfl, hd13, ho13⟩
      have HO13 := hid ho13
      have HUP := hid (up_c hd13)
      clear hd13 ho13 HCR x1 x2 x3 hj HIO HSK
      go_wp2_with fail
      refine HUP.out.mono ?_
      rintro e w14 ⟨rfl, hd14, ho14⟩
      have HFN : Hid (∀ k, F2 k → W0.heap.size ≤ k) := hid fun k hk => (HF2'.out k hk).elim (HW8.out.lg.new k) (fun e => by have := HOA.out.size; omega)
      have HO1114 : Hid (Only FD2 w11 w14) := hid (((HO12.out.mono (fun _ _ e => e.elim)).trans HO13.out (fun _ _ e => e)).trans ho14 (fun _ _ e => e))
      have HOC : Hid (Only (fun _ => False) W0 w14) := hid (by
        have hz10 := HOA.out.size
        have hz11 := HO2.out.size
        refine ((HOA.out.trans HO2.out (fun k hk e => by have := HW8.out.lg.new k e; omega)).trans HOB.out (fun k hk e => absurd e (HNJ.out k (by omega)))).trans HO1114.out (fun k hk e => ?_)
        have := HFN.out k (HFD2.out k e); omega)
      obtain ⟨hdp, tlp, T1, fs1, hp1, hor⟩ := HCP.out (ks.take j) c2 c3
      obtain ⟨M3, hM3⟩ : ∃ y, (⟨(M2.D.crash (ks.take j) c2 c3).up, RingM.opened (M2.D.crash (ks.take j) c2 c3).up 2 (2 * 16) tlp, hdp, tlp, [], false⟩ : WM) = y := ⟨_, rfl⟩
      rw [hM3] at hp1
      have HP3 := hid hp1; have HOR := hid hor
      have h3D : M3.D = (M2.D.crash (ks.take j) c2 c3).up := by rw [← hM3]
      have h3e : (⟨M3.D, RingM.opened M3.D 2 (2 * 16) M3.tail, M3.head, M3.tail, [], false⟩ : WM) = M3 := by rw [← hM3]
      have h3w : M3.wait = [] := by rw [← hM3]
      rw [← h3D] at hd14
      have HOP2 := hid (lopen_c (w0 := W0) hd14 (fun k hk => HFN.out k (HFD2.out k hk)) HOC.out hp1 (by have := HN.out; omega))
      have H3E := hid h3e; have H3W := hid h3w
      have nF2 : ∀ k, k < w9.heap.size → ¬ FF k → ¬ FD2 k := fun k hk h1 h2 => (HF2'.out k (HFD2.out k h2)).elim h1 (fun e => by omega)
      have h98 := HO89.out.size
      have h109 := HO2.out.size
      have HRA : Hid (RLAt w14 Lr fv wv GG) := hid ((((HW8.out.rl.only HO89.out HW8.out.fg).only HO2.out HW8.out.fg).only HOB.out (fun k hk e => HNJ.out k (by have := HW8.out.rl.lt k hk; omega) e)).only HO1114.out (fun k hk e => nF2 k (by have := HW8.out.rl.lt k hk; omega) (HW8.out.fg k hk) e))
      have HRB : Hid (RLAt w14 L2 fv2 wv2 G2) := hid ((HR2.out.only HOB.out (fun k hk e => HNJ.out k (HR2.out.lt k hk) e)).only HO1114.out (fun k hk e => HS2.out k hk (HFD2.out k e)))
      have HBK : Hid (w14.heap[bk]? = some (.cells (rcells Lr fv wv) 45 (0, 0))) := hid (by
        have hl := blk_lt HB8'.out
        exact blk_only (blk_only (blk_only (blk_only HB8'.out HO89.out HNF.out) HO2.out HNF.out) HOB.out (HNJ.out _ (by omega))) HO1114.out (nF2 _ (by omega) HNF.out))
      have HBJ14 : Hid (w14.heap[bj]? = some (.cells (rcells L2 fv2 wv2) 45 (0, 0))) := hid (by
        refine blk_only HBJ.out HO1114.out (fun e => ?_)
        exact HNJ.out bj (HFLT.out bj (HFD2.out bj e)) rfl)
      have HFR := hid HW8.out.sam.frames
      clear hd14 ho14 HUP hM3 hp1 hor h3D h3e h3w nF2 HB8' HBJ HR2 HS2 HCP HD2
      go_wp2_with fail
      refine HOP2.out.mono ?_
      rintro e w15 ⟨v15, l2, r2, lo15, F15, rfl, hl15, -, hfo15, -, -, ho15⟩
      have HLK1 := hid (like_c (w := w15) (gs := Lr.frames) hfo15 ((HRA.out.same ho15).f) (HP3.out.fl' (by decide)))
      have HLK2 := hid (fun (w16 : World) (ho : Only (fun _ => False) w15 w16) => like_c (w := w16) (gs := L2.frames) (hfo15.kept ho) (((HRB.out.same ho15).same ho).f) (HP3.out.fl' (by decide)))
      obtain ⟨ao15, cap15, xs15, rfl, -⟩ := hfo15
      obtain ⟨fa, fc, hfv⟩ := HRA.out.fvs
      obtain ⟨fa2, fc2, hfv2⟩ := HRB.out.fvs
      subst hfv hfv2
      have hl15' : LgAt W0 w15 l2 b r2 M3 F15 := by have := hl15; rw [H3E.out] at this; exact this
      have HL15 := hid hl15'
      have HOZ : Hid (Only (fun _ => False) W0 w15) := hid (HOC.out.trans ho15 (fun _ _ e => e))
      have HBK15 := hid (blk_only HBK.out ho15 (fun e => e)); have HBJ15 := hid (blk_only HBJ14.out ho15 (fun e => e))
      have y3 : w15.cell? ⟨bk, 3, none⟩ = some (.slice fa Lr.frames.length fc) := cell_blk HBK15.out 3
      have y0 : w15.cell? ⟨bk, 0, none⟩ = some (.int .i64 (Lr.size : Nat)) := cell_blk HBK15.out 0
      have HN2 : Hid (ops.length ≤ 40) := hid HN.out
      clear hl15 hl15' ho15 HOP2 HRA HRB HBK HBJ14 HOC HOA HO89 HO2 HOB HO12 HO13 HO1114 H3E HBC12 HL11 HFD2 HFN HF2' HG2 HFLT HNJ HR8 HF8 HLG9 HD9 HBC hf hf2 h98 h109 hk4 hjl
      go_wp2_with fail
      refine HLK1.out.mono ?_
      rintro e w16 ⟨⟨B1, rfl, hB1⟩, ho16⟩
      have HL16 := hid (HL15.out.same ho16)
      have HO16 := hid (HOZ.out.trans ho16 (fun _ _ e => e))
      have HLK2' := hid (HLK2.out w16 ho16)
      have y3' : w16.cell? ⟨bj, 3, none⟩ = some (.slice fa2 L2.frames.length fc2) := cell_blk (blk_only HBJ15.out ho16 (fun e => e)) 3
      have y0' : w16.cell? ⟨bj, 0, none⟩ = some (.int .i64 (L2.size : Nat)) := cell_blk (blk_only HBJ15.out ho16 (fun e => e)) 0
      have HB1 := hid hB1
      clear hB1 ho16 HLK1 HLK2 HL15 HOZ HBK15 HBJ15 y3 y0
      cases B1 with
      | true =>
        clear y3' y0' HLK2'
        have HCK : Hid (Calls Try.prog 28 #[.pointer (some ⟨l2, 0, none⟩), .slice none 0 0] w16 fun e w' => e = .returned (.int .i64 (M3.checkpoint []).2) ∧ LStep w16 w' l2 b r2 (M3.checkpoint []).1 F15) := hid (by
          have h1 := HP3.out.dn; have h2 := HP3.out.rs.tail; have h3 := HP3.out.tl; have h4 := HP3.out.len; have h5 := HN2.out
          have h9 : (ops.length + 1) * 1000000000 ≤ 41 * 1000000000 := Nat.mul_le_mul_right _ (by omega)
          exact checkpoint_c (pa := none) (pc := 0) (s := []) HL16.out.log (by rw [HP3.out.first, HP3.out.count]; exact h1) (by omega) ⟨_, _, rfl, fun h => absurd rfl h⟩ (Nat.le_refl 0) (by decide) (fun h => absurd rfl h))
        have hck := HP3.out.checkpoint (by have := HN2.out; omega) (s := []) (by decide)
        rw [if_neg (by rw [H3W.out]; simp)] at hck
        by_cases hcost : 2 * 2048 - (M3.tail - M3.head / 128 * 128) < costN M3.tail ([] : List UInt8).length
        · rw [if_pos hcost] at hck
          rw [hck] at HCK
          clear hck hcost
          go_wp2_with fail
          refine HCK.out.mono ?_
          rintro e w18 ⟨rfl, hs18⟩
          obtain ⟨F18, hl18⟩ := HL16.out.step hs18
          have HO18 := hid hl18.only
          clear hs18 hl18 HCK
          go_wp2_with fail
          go_ret
          exact ⟨rfl, HO0.out.trans HO18.out (fun _ _ e => e)⟩
        rw [if_neg hcost] at hck
        obtain ⟨M4, e4, hp4, hw4, -, -⟩ := hck
        rw [e4] at HCK
        rw [cutL_small (by decide)] at hp4
        have HP4 := hid hp4; have HW4 := hid hw4
        clear hp4 hw4 e4 hcost
        go_wp2_with fail
        refine HCK.out.mono ?_
        rintro e w18 ⟨rfl, hs18⟩
        obtain ⟨F18, hl18⟩ := HL16.out.step hs18
        have HL18 := hid hl18
        have hcl := lit_conv w18 #[.int .u8 109, .int .u8 111, .int .u8 114, .int .u8 101] 4
        have hlo := lit_only w18 #[.int .u8 109, .int .u8 111, .int .u8 114, .int .u8 101]
        have hls : Src _ (.slice (some ⟨w18.heap.size, 0, none⟩) 4 4) moreL := lit_src w18 moreL #[.int .u8 109, .int .u8 111, .int .u8 114, .int .u8 101] rfl
        obtain ⟨w19, hlw⟩ : ∃ x, (w18.alloc (.cells #[.int .u8 109, .int .u8 111, .int .u8 114, .int .u8 101] 5)).freeze ⟨w18.heap.size, (#[.int .u8 109, .int .u8 111, .int .u8 114, .int .u8 101] : Array Value).size, none⟩ 1 = x := ⟨_, rfl⟩
        rw [hlw] at hcl hlo hls
        have HLO := hid hlo; have HLS := hid hls
        have HL19 := hid (HL18.out.same hlo)
        clear hlo hls hlw hs18 hl18 HCK HL18
        obtain ⟨hp5, -, -, hh5, ht5, q5, wt5⟩ := HP4.out.submit moreL
        rw [HW4.out, if_neg (by decide), if_neg (by decide)] at q5 wt5
        have HSB : Hid (Calls Try.prog 13 #[.pointer (some ⟨l2, 0, none⟩), .slice (some ⟨w18.heap.size, 0, none⟩) 4 4] w19 fun e w' => e = .returned (.int .i64 0) ∧ LStep w19 w' l2 b r2 (M4.submit moreL).1 F18) := hid (by
          have h1 := submit_c HL19.out.log _ moreL HLS.out (by decide)
          rw [q5] at h1; exact h1)
        obtain ⟨M5, hM5⟩ : ∃ x, (M4.submit moreL).1 = x := ⟨_, rfl⟩
        rw [hM5] at hp5 hh5 ht5 wt5 HSB
        have HP5 := hid hp5; have HW5 : Hid (M5.wait = [moreL]) := hid wt5
        clear hp5 hh5 ht5 q5 wt5 hM5
        go_wp2_with fail
        refine HSB.out.mono ?_
        rintro e w20 ⟨rfl, hs20⟩
        obtain ⟨F20, hl20⟩ := HL19.out.step hs20
        have HL20 := hid hl20
        clear hs20 hl20 HSB HL19 hcl
        obtain ⟨nn, M6, hn6, hnl6, e6, hp6, -⟩ := HP5.out.commit (by have := HN2.out; omega)
        rw [HW5.out] at hnl6 e6 hp6
        have hnl6 : nn ≤ 1 := hnl6
        have HCM : Hid (Calls Try.prog 14 #[.pointer (some ⟨l2, 0, none⟩)] w20 fun e w' => e = .returned (.tuple #[.int .i64 (nn : Nat), .int .i64 (if nn = [moreL].length then 0 else 3)]) ∧ LStep w20 w' l2 b r2 M6 F20) := hid (by
          have h1 := HP5.out.dn; have h2 := HP5.out.rs.tail; have h3 := HP5.out.tl; have h4 := HP5.out.len; have h5 := HN2.out
          have h9 : (ops.length + 1 + 1) * 1000000000 ≤ 42 * 1000000000 := Nat.mul_le_mul_right _ (by omega)
          have h6 := commit_c HL20.out.log (by rw [HP5.out.first, HP5.out.count]; exact h1) (by omega)
          rw [e6] at h6; exact h6)
        have HP6 := hid hp6
        clear hn6 e6 hp6
        have hn01 : nn = 0 ∨ nn = 1 := by omega
        rcases hn01 with rfl | rfl
        · rw [if_neg (by decide)] at HCM
          go_wp2_with fail
          refine HCM.out.mono ?_
          rintro e w21 ⟨rfl, hs21⟩
          obtain ⟨F21, hl21⟩ := HL20.out.step hs21
          obtain ⟨FD21, hd21, hf21⟩ := hl21.log.disk
          have HO21 := hid (lopen_c (w0 := W0) hd21 (fun k hk => hl21.new k (hf21 k hk)) hl21.only HP6.out (by have := HN2.out; omega))
          have HOX := hid hl21.only
          clear hs21 hl21 hd21 hf21 HCM
          go_wp2_with fail
          refine HO21.out.mono ?_
          rintro e w22 ⟨v22, l22, r22, lo22, F22, rfl, -, -, hfo22, -, -, ho22⟩
          have HOY := hid (HOX.out.trans ho22 (fun _ _ e => e))
          obtain ⟨ao22, cap22, xs22, rfl, -⟩ := hfo22
          clear ho22 HO21 HOX
          go_wp2_with fail
          go_ret
          exact ⟨rfl, HO0.out.trans HOY.out (fun _ _ e => e)⟩
        · rw [if_pos (by decide)] at HCM
          have HP6' : Hid (LP M6 2 (ops.length + 1 + 1 + 1) _ [(3, []), (1, moreL)]) := hid HP6.out
          go_wp2_with fail
          refine HCM.out.mono ?_
          rintro e w21 ⟨rfl, hs21⟩
          obtain ⟨F21, hl21⟩ := HL20.out.step hs21
          obtain ⟨FD21, hd21, hf21⟩ := hl21.log.disk
          have HO21 := hid (lopen_c (w0 := W0) hd21 (fun k hk => hl21.new k (hf21 k hk)) hl21.only HP6'.out (by have := HN2.out; omega))
          have HOX := hid hl21.only
          clear hs21 hl21 hd21 hf21 HCM
          go_wp2_with fail
          refine HO21.out.mono ?_
          rintro e w22 ⟨v22, l22, r22, lo22, F22, rfl, -, -, hfo22, -, -, ho22⟩
          have HOY := hid (HOX.out.trans ho22 (fun _ _ e => e))
          obtain ⟨q22, cap22, rfl, -, hat22⟩ := hfo22.at (by decide)
          obtain ⟨pa22, pc22, -, z1, hb22⟩ := hat22 1 1 moreL rfl
          have z22 : w22.cell? ⟨q22, 3, none⟩ = some (.slice pa22 4 pc22) := z1
          have hcv : (convert 33 9 (.slice pa22 4 pc22)).run Try.prog w22 = .ok (.string ⟨#[109, 111, 114, 101]⟩) w22 := conv_str hb22.src
          clear hat22 z1 hb22
          clear ho22 HO21 HOX
          go_wp2_with fail
          go_ret
          exact ⟨rfl, HO0.out.trans HOY.out (fun _ _ e => e)⟩
      | false =>
        have hB2 : fs1 = L2.frames := HOR.out.resolve_left (fun e => absurd (HB1.out (by rw [e, HFR.out])) (by decide))
        have HE2 := hid hB2
        clear hB2
        go_wp2_with fail
        refine HLK2'.out.mono ?_
        rintro e w17 ⟨⟨B2, rfl, hB2⟩, ho17⟩
        obtain rfl : B2 = true := hB2 HE2.out
        have HL17 := hid (HL16.out.same ho17)
        have HO17 := hid (HO16.out.trans ho17 (fun _ _ e => e))
        clear hB2 ho17 HLK2' y3' y0'
        have HCK : Hid (Calls Try.prog 28 #[.pointer (some ⟨l2, 0, none⟩), .slice none 0 0] w17 fun e w' => e = .returned (.int .i64 (M3.checkpoint []).2) ∧ LStep w17 w' l2 b r2 (M3.checkpoint []).1 F15) := hid (by
          have h1 := HP3.out.dn; have h2 := HP3.out.rs.tail; have h3 := HP3.out.tl; have h4 := HP3.out.len; have h5 := HN2.out
          have h9 : (ops.length + 1) * 1000000000 ≤ 41 * 1000000000 := Nat.mul_le_mul_right _ (by omega)
          exact checkpoint_c (pa := none) (pc := 0) (s := []) HL17.out.log (by rw [HP3.out.first, HP3.out.count]; exact h1) (by omega) ⟨_, _, rfl, fun h => absurd rfl h⟩ (Nat.le_refl 0) (by decide) (fun h => absurd rfl h))
        have hck := HP3.out.checkpoint (by have := HN2.out; omega) (s := []) (by decide)
        rw [if_neg (by rw [H3W.out]; simp)] at hck
        by_cases hcost : 2 * 2048 - (M3.tail - M3.head / 128 * 128) < costN M3.tail ([] : List UInt8).length
        · rw [if_pos hcost] at hck
          rw [hck] at HCK
          clear hck hcost
          go_wp2_with fail
          refine HCK.out.mono ?_
          rintro e w18 ⟨rfl, hs18⟩
          obtain ⟨F18, hl18⟩ := HL17.out.step hs18
          have HO18 := hid hl18.only
          clear hs18 hl18 HCK
          go_wp2_with fail
          go_ret
          exact ⟨rfl, HO0.out.trans HO18.out (fun _ _ e => e)⟩
        rw [if_neg hcost] at hck
        obtain ⟨M4, e4, hp4, hw4, -, -⟩ := hck
        rw [e4] at HCK
        rw [cutL_small (by decide)] at hp4
        have HP4 := hid hp4; have HW4 := hid hw4
        clear hp4 hw4 e4 hcost
        go_wp2_with fail
        refine HCK.out.mono ?_
        rintro e w18 ⟨rfl, hs18⟩
        obtain ⟨F18, hl18⟩ := HL17.out.step hs18
        have HL18 := hid hl18
        have hcl := lit_conv w18 #[.int .u8 109, .int .u8 111, .int .u8 114, .int .u8 101] 4
        have hlo := lit_only w18 #[.int .u8 109, .int .u8 111, .int .u8 114, .int .u8 101]
        have hls : Src _ (.slice (some ⟨w18.heap.size, 0, none⟩) 4 4) moreL := lit_src w18 moreL #[.int .u8 109, .int .u8 111, .int .u8 114, .int .u8 101] rfl
        obtain ⟨w19, hlw⟩ : ∃ x, (w18.alloc (.cells #[.int .u8 109, .int .u8 111, .int .u8 114, .int .u8 101] 5)).freeze ⟨w18.heap.size, (#[.int .u8 109, .int .u8 111, .int .u8 114, .int .u8 101] : Array Value).size, none⟩ 1 = x := ⟨_, rfl⟩
        rw [hlw] at hcl hlo hls
        have HLO := hid hlo; have HLS := hid hls
        have HL19 := hid (HL18.out.same hlo)
        clear hlo hls hlw hs18 hl18 HCK HL18
        obtain ⟨hp5, -, -, hh5, ht5, q5, wt5⟩ := HP4.out.submit moreL
        rw [HW4.out, if_neg (by decide), if_neg (by decide)] at q5 wt5
        have HSB : Hid (Calls Try.prog 13 #[.pointer (some ⟨l2, 0, none⟩), .slice (some ⟨w18.heap.size, 0, none⟩) 4 4] w19 fun e w' => e = .returned (.int .i64 0) ∧ LStep w19 w' l2 b r2 (M4.submit moreL).1 F18) := hid (by
          have h1 := submit_c HL19.out.log _ moreL HLS.out (by decide)
          rw [q5] at h1; exact h1)
        obtain ⟨M5, hM5⟩ : ∃ x, (M4.submit moreL).1 = x := ⟨_, rfl⟩
        rw [hM5] at hp5 hh5 ht5 wt5 HSB
        have HP5 := hid hp5; have HW5 : Hid (M5.wait = [moreL]) := hid wt5
        clear hp5 hh5 ht5 q5 wt5 hM5
        go_wp2_with fail
        refine HSB.out.mono ?_
        rintro e w20 ⟨rfl, hs20⟩
        obtain ⟨F20, hl20⟩ := HL19.out.step hs20
        have HL20 := hid hl20
        clear hs20 hl20 HSB HL19 hcl
        obtain ⟨nn, M6, hn6, hnl6, e6, hp6, -⟩ := HP5.out.commit (by have := HN2.out; omega)
        rw [HW5.out] at hnl6 e6 hp6
        have hnl6 : nn ≤ 1 := hnl6
        have HCM : Hid (Calls Try.prog 14 #[.pointer (some ⟨l2, 0, none⟩)] w20 fun e w' => e = .returned (.tuple #[.int .i64 (nn : Nat), .int .i64 (if nn = [moreL].length then 0 else 3)]) ∧ LStep w20 w' l2 b r2 M6 F20) := hid (by
          have h1 := HP5.out.dn; have h2 := HP5.out.rs.tail; have h3 := HP5.out.tl; have h4 := HP5.out.len; have h5 := HN2.out
          have h9 : (ops.length + 1 + 1) * 1000000000 ≤ 42 * 1000000000 := Nat.mul_le_mul_right _ (by omega)
          have h6 := commit_c HL20.out.log (by rw [HP5.out.first, HP5.out.count]; exact h1) (by omega)
          rw [e6] at h6; exact h6)
        have HP6 := hid hp6
        clear hn6 e6 hp6
        have hn01 : nn = 0 ∨ nn = 1 := by omega
        rcases hn01 with rfl | rfl
        · rw [if_neg (by decide)] at HCM
          go_wp2_with fail
          refine HCM.out.mono ?_
          rintro e w21 ⟨rfl, hs21⟩
          obtain ⟨F21, hl21⟩ := HL20.out.step hs21
          obtain ⟨FD21, hd21, hf21⟩ := hl21.log.disk
          have HO21 := hid (lopen_c (w0 := W0) hd21 (fun k hk => hl21.new k (hf21 k hk)) hl21.only HP6.out (by have := HN2.out; omega))
          have HOX := hid hl21.only
          clear hs21 hl21 hd21 hf21 HCM
          go_wp2_with fail
          refine HO21.out.mono ?_
          rintro e w22 ⟨v22, l22, r22, lo22, F22, rfl, -, -, hfo22, -, -, ho22⟩
          have HOY := hid (HOX.out.trans ho22 (fun _ _ e => e))
          obtain ⟨ao22, cap22, xs22, rfl, -⟩ := hfo22
          clear ho22 HO21 HOX
          go_wp2_with fail
          go_ret
          exact ⟨rfl, HO0.out.trans HOY.out (fun _ _ e => e)⟩
        · rw [if_pos (by decide)] at HCM
          have HP6' : Hid (LP M6 2 (ops.length + 1 + 1 + 1) _ [(3, []), (1, moreL)]) := hid HP6.out
          go_wp2_with fail
          refine HCM.out.mono ?_
          rintro e w21 ⟨rfl, hs21⟩
          obtain ⟨F21, hl21⟩ := HL20.out.step hs21
          obtain ⟨FD21, hd21, hf21⟩ := hl21.log.disk
          have HO21 := hid (lopen_c (w0 := W0) hd21 (fun k hk => hl21.new k (hf21 k hk)) hl21.only HP6'.out (by have := HN2.out; omega))
          have HOX := hid hl21.only
          clear hs21 hl21 hd21 hf21 HCM
          go_wp2_with fail
          refine HO21.out.mono ?_
          rintro e w22 ⟨v22, l22, r22, lo22, F22, rfl, -, -, hfo22, -, -, ho22⟩
          have HOY := hid (HOX.out.trans ho22 (fun _ _ e => e))
          obtain ⟨q22, cap22, rfl, -, hat22⟩ := hfo22.at (by decide)
          obtain ⟨pa22, pc22, -, z1, hb22⟩ := hat22 1 1 moreL rfl
          have z22 : w22.cell? ⟨q22, 3, none⟩ = some (.slice pa22 4 pc22) := z1
          have hcv : (convert 33 9 (.slice pa22 4 pc22)).run Try.prog w22 = .ok (.string ⟨#[109, 111, 114, 101]⟩) w22 := conv_str hb22.src
          clear hat22 z1 hb22
          clear ho22 HO21 HOX
          go_wp2_with fail
          go_ret
          exact ⟨rfl, HO0.out.trans HOY.out (fun _ _ e => e)⟩
end
theorem walcrash_c' {w : World} {v : Value} {ops : List LOp} (h : LOpsAt w v ops) (o : LOp) (ho : LOpAt w o) (c0 c1 c2 c3 : Int) : Calls Try.prog 8 #[v, .agg o.cells.toArray, .agg #[.int .i64 c0, .int .i64 c1, .int .i64 c2, .int .i64 c3]] w fun e w' => e = .returned (.bool true) ∧ Only (fun _ => False) w w' := by
  obtain ⟨hd, hl⟩ := ho
  obtain ⟨kd, oft, dv, s⟩ := o
  obtain ⟨a, c, e, h2⟩ := hd
  dsimp only at e
  subst e
  exact walcrash_c h kd oft s ⟨a, c, rfl, h2⟩ hl c0 c1 c2 c3
open Go.ChangeShapes Go.WideShapes Go.ChangeAt
section
variable {H : Type} {enc : TypeId × Value → H} {W : World} {base : Nat} {spare : Nat → Bool} {held : Bool} {fuel : Nat} {x : DataW H × List MemPlace} {v : Value} {cs : List Value}
set_option maxRecDepth 100000 in
theorem okWide_int4 {r : Reach} {b0 : Nat} (h : Value.okWide Try.prog W r b0 77 v) : ∃ cs, v = .agg cs ∧ cs.size = Try.prog.cellsOf 77 := by
  simp only [Value.okWide, Try.underlying77] at h
  obtain ⟨cs, h1, h2, _⟩ := h
  exact ⟨cs, h1, h2⟩
set_option maxRecDepth 100000 in
theorem read_int4 (h : DataW.trod enc Try.prog W base spare held fuel 77 cs = some x) : ∃ a b c d : Int, cs = [.int .i64 a, .int .i64 b, .int .i64 c, .int .i64 d] := by
  obtain ⟨xs, m, -, -, hcl, hxl, hf⟩ := DataW.trod_array Try.underlying77 h
  have hc2 : cs.length = 4 := by rw [hcl]; kernel_rfl
  have h8 : Try.prog.cellsOf 3 = 1 := by kernel_rfl
  have hel : ∀ i, i < 4 → ∃ n : Int, cs[i]? = some (.int .i64 n) ∧ -9223372036854775808 ≤ n ∧ n ≤ 9223372036854775807 := by
    intro i hi
    have h1 := hf i hi
    rw [h8, Nat.mul_one] at h1
    obtain ⟨y, hy⟩ : ∃ y, xs[i]? = some y := ⟨_, List.getElem?_eq_getElem (by omega)⟩
    rw [hy] at h1
    obtain ⟨n, hn, -, hw⟩ := DataW.trod_int Try.underlying3 h1
    refine ⟨n, ?_, bounds_i64 hw⟩
    have h2 : ((cs.drop i).take 1)[0]? = some (.int .i64 n) := by rw [hn]; rfl
    rw [List.getElem?_take_of_lt (by omega), List.getElem?_drop, Nat.add_zero] at h2
    exact h2
  obtain ⟨n, h1, h2⟩ := hel 0 (by decide)
  obtain ⟨m, h3, h4⟩ := hel 1 (by decide)
  obtain ⟨p, h5, h6⟩ := hel 2 (by decide)
  obtain ⟨q, h7, h8'⟩ := hel 3 (by decide)
  refine ⟨n, m, p, q, ?_⟩
  apply List.ext_getElem?
  intro i
  match i with
  | 0 => exact h1
  | 1 => exact h3
  | 2 => exact h5
  | 3 => exact h7
  | i + 4 => rw [List.getElem?_eq_none (by omega)]; simp
end
end Go.Proofs.Ythodcbhejjbhaaa
