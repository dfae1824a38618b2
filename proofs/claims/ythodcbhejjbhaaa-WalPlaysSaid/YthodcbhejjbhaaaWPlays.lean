/- WalPlays' walk. -/
import Derived.Test.YthodcbhejjbhaaaL8E
namespace Go.Proofs.Ythodcbhejjbhaaa
open Go.RowKit
theorem WS.start {w0 w : World} {l b r g n : Nat} {F : Nat → Prop} {M : WM} (hl : LgAt w0 w l b r M F) (hp : LP M g 0 [] []) (hw : M.wait = []) (hg : g ≤ 400) {x : Int} (hx : x = ((g * 2048 : Nat) : Int)) {w' : World} (hn : n = w.heap.size) (hw' : w' = w.alloc (.cells #[.int .i64 x, .int .i64 0, .int .i64 0, .slice none 0 0, .slice none 0 0] 45)) :
    WS w0 w' l b r n M ⟨g * 2048, 0, 0, [], []⟩ (.slice none 0 0) (.slice none 0 0) F (fun _ => False) g 0 [] [] := by
  subst hn hw' hx
  have h0 : M.head = 0 := hp.hd
  have h1 : M.tail = 0 := hp.tl
  exact ⟨hl.same (only_new _ _), ⟨SlV.nil _ _ _, SlV.nil _ _ _, by show g * 2048 ≤ 1000000; omega, Nat.le_refl _, by show 0 - 0 / 128 * 128 ≤ g * 2048; omega, Nat.le_refl _, Nat.zero_le _, (fun _ hs => nomatch hs), fun k hk => hk.elim⟩, blk_new _ _, fun k hk => hk.elim, fun e => e, fun e => by have := hl.log.lt e; omega, hl.only.size, hp, ⟨rfl, h0.symm, h1.symm, rfl, hw.symm⟩⟩
theorem lops_same {w w' : World} {v : Value} {ops : List LOp} (h : LOpsAt w v ops) (ho : Only (fun _ => False) w w') : LOpsAt w' v ops := by
  obtain ⟨a, c, e, hl, hh⟩ := h
  refine ⟨a, c, e, hl, fun i o hi => ?_⟩
  obtain ⟨h1, g, of, h2, h3, h4⟩ := hh i o hi
  exact ⟨⟨h1.data.same ho, h1.dlen⟩, g, of, h2, Nat.lt_of_lt_of_le h3 ho.size, fun j u hj => (World.cell?_of_block (ho.block g h3 (fun e => e))).trans (h4 j u hj)⟩
section
variable {w : World}
set_option maxRecDepth 100000 in
set_option maxHeartbeats 6400000 in
theorem walplays_c (n : Int) {v : Value} {ops : List LOp} (h : LOpsAt w v ops) : Calls Try.prog 5 #[.int .i64 n, v] w fun x w' => x = .returned (.bool true) ∧ Only (fun _ => False) w w' := by
  have H := hid h
  obtain ⟨bo, bc, rfl, -, -⟩ := h
  go_enter Try.func5, Try.ntmps5
  go_wp2_with fail
  refine logs_c.mono ?_
  rintro x w1 ⟨rfl, ho1⟩
  have HO1 := hid ho1
  clear ho1
  by_cases h2 : n < 2
  · go_wp2_with fail
    go_ret
    exact ⟨rfl, HO1.out⟩
  by_cases h4 : 4 < n
  · go_wp2_with fail
    go_ret
    exact ⟨rfl, HO1.out⟩
  obtain ⟨g, rfl⟩ : ∃ m : Nat, n = m := ⟨n.toNat, by omega⟩
  have HFT := hid (fits8_c (w := w1) (lops_same H.out HO1.out))
  go_wp2_with fail
  refine HFT.out.mono ?_
  rintro x w2 ⟨⟨B, rfl, hB⟩, ho2⟩
  have HO2 := hid (HO1.out.trans ho2 (fun _ _ e => e))
  clear ho2 HO1 HFT
  cases B with
  | false =>
    go_wp2_with fail
    go_ret
    exact ⟨rfl, HO2.out⟩
  | true =>
    have HB := hid (hB rfl)
    have HNW : Hid (Calls Try.prog 10 #[.int .i64 (2 + 16 * (g : Int))] w2 fun e w' => ∃ b F, e = .returned (.tuple #[.pointer (some ⟨b, 0, none⟩), .int .i64 0]) ∧ DiskAt w' b (DiskM.new (2 + 16 * g)) F ∧ Only (fun _ => False) w2 w' ∧ ∀ k, F k → w2.heap.size ≤ k) := hid (by
      have h := new_ok w2 (2 + 16 * g) (by omega) (by omega)
      rw [show (((2 + 16 * g : Nat)) : Int) = 2 + 16 * (g : Int) from by omega] at h
      exact h)
    clear hB
    go_wp2_with fail
    refine HNW.out.mono ?_
    rintro x w3 ⟨b, FD, rfl, hd, ho3, hf3⟩
    have HP0 := hid (LP.new (sg := g) (n := 2 + 16 * g) (by omega) (by omega) (by rw [Int.tdiv_eq_ediv_of_nonneg (by omega)]; omega))
    have HOP := hid (lopen_c (w0 := w) hd (fun k hk => by have := hf3 k hk; have := HO2.out.size; omega) (HO2.out.trans ho3 (fun _ _ e => e)) HP0.out (by decide))
    clear hd hf3 ho3 HNW HO2
    go_wp2_with fail
    refine HOP.out.mono ?_
    rintro x w4 ⟨v4, l, r, lo4, F4, rfl, hl4, -, hfo4, -, -, -⟩
    obtain ⟨ao4, cap4, xs4, rfl, -⟩ := hfo4
    have HL4 := hid hl4
    clear hl4 HOP
    go_upto_block 0 with fail
    obtain ⟨w5, hw5⟩ : ∃ x, w4.alloc (.cells #[.int .i64 (2048 * (g : Int)), .int .i64 0, .int .i64 0, .slice none 0 0, .slice none 0 0] 45) = x := ⟨_, rfl⟩
    have HWS := hid (WS.start HL4.out HP0.out rfl (by omega) (by omega) rfl hw5.symm)
    rw [hw5]
    clear hw5 HL4 HP0
    refine wpl0 (w0 := w) (w := w5) (a := _) (ops := ops) (bo := bo) (bc := bc) (l := l) (b := b) (s := w4.heap.size) (sg := g) H.out HB.out.1 HB.out.2 ⟨r, _, _, _, _, _, _, _, _, HWS.out⟩ ⟨rfl, rfl, rfl, rfl, rfl, rfl, rfl, rfl⟩ ?_
    intro a' w6 l6 hI hws
    obtain ⟨u, rfl, hu⟩ := act_fn hI
    rw [lit141] at hI ⊢
    obtain ⟨g5, g7, g10, -⟩ := hI
    change u 5 = _ at g5
    change u 7 = _ at g7
    change u 10 = _ at g10
    rw [g5, g7, g10]
    clear g5 g7 g10 hu
    obtain ⟨r6, M, Lr, fv, wv, FF, GG, T0, fs, hw⟩ := hws
    have HN := hid HB.out.1
    have HW := hid hw
    obtain ⟨FD6, hdk, hfk⟩ := hw.lg.log.disk
    have HOP := hid (lopen_c (w0 := w) hdk (fun k hk => hw.lg.new k (hfk k hk)) hw.lg.only hw.lp (by have := HN.out; omega))
    obtain ⟨fa, fc, hfv⟩ := hw.rl.fvs
    subst hfv
    clear hw hdk hfk HWS HB
    go_wp2_with fail
    refine HOP.out.mono ?_
    rintro x w7 ⟨v7, l7, r7, lo7, F7, rfl, -, -, hfo7, -, -, ho7⟩
    have HLK := hid (like_c (w := w7) (gs := Lr.frames) hfo7 ((HW.out.rl.same ho7).f) (by
      have h1 := HW.out.rl.nf; have h2 := HW.out.rl.rm; have h3 := HW.out.rl.sz; have h4 := HW.out.sam.frames
      rw [← h4]; omega))
    obtain ⟨ao7, cap7, xs7, rfl, -⟩ := hfo7
    have HFR := hid HW.out.sam.frames
    have HB7 := hid (blk_only HW.out.bs ho7 (fun e => e))
    have cs3 : w7.cell? ⟨w4.heap.size, 3, none⟩ = some (.slice fa Lr.frames.length fc) := cell_blk HB7.out 3
    have cs0 : w7.cell? ⟨w4.heap.size, 0, none⟩ = some (.int .i64 (Lr.size : Nat)) := cell_blk HB7.out 0
    have HO7 := hid (HW.out.lg.only.trans ho7 (fun _ _ e => e))
    clear ho7 HOP HW
    go_wp2_with fail
    refine HLK.out.mono ?_
    rintro x w8 ⟨⟨B, rfl, hB⟩, ho8⟩
    obtain rfl : B = true := hB HFR.out.symm
    have HO8 := hid (HO7.out.trans ho8 (fun _ _ e => e))
    clear ho8 hB
    go_wp2_with fail
    go_ret
    exact ⟨rfl, HO8.out⟩
end
end Go.Proofs.Ythodcbhejjbhaaa
