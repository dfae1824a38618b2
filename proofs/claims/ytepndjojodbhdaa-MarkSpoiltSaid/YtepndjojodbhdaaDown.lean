/- MarkDown: the walk. -/
import Derived.Test.YtepndjojodbhdaaMarks
import Derived.Test.YtepndjojodbhdaaOpenN
namespace Go.Proofs.Ytepndjojodbhdaa
open Go.RowKit

section
variable {D : DiskM} {first : Nat} {m0 m1 : MarkM}
/-- The power goes in the middle of a put. -/
theorem putGo_fails (m : MarkM) (hd : D.down = false) (hf : first + 1 < D.n) (hfu : D.fuse = 0 ∨ D.fuse = 1) :
    ∃ D', putGo D first m = (D', MarkM.zero, 50) ∧ D'.down = true ∧ D'.n = D.n ∧ D'.sure = D.sure := by
  have hpl : ¬ (((first : Int) + ((m.s % 2 : Nat) : Int)) < 0 ∨ (D.n : Int) ≤ (first : Int) + ((m.s % 2 : Nat) : Int)) := by omega
  rcases hfu with h0 | h1
  · have hb : D.burns = false := by unfold DiskM.burns; rw [h0]; rfl
    have ew : D.write ((first : Int) + ((m.s % 2 : Nat) : Int)) (enc m) = (D.burn, 50) := by
      unfold DiskM.write
      rw [hd, hb, if_neg (by simp), if_neg hpl, if_neg (by simp), if_neg (by simp), if_neg (by simp)]
    refine ⟨D.burn, ?_, ?_, burn_n D, burn_sure D⟩
    · unfold putGo; rw [ew]; rfl
    · unfold DiskM.burn; rw [if_neg (by omega), if_pos h0]
  · have hb : D.burns = true := by unfold DiskM.burns; rw [h1]; rfl
    obtain ⟨W, hW⟩ : ∃ W : DiskM, W = { D.burn.put ((first : Int) + ((m.s % 2 : Nat) : Int)).toNat (enc m) with nw := wrap64 (D.nw + 1) } := ⟨_, rfl⟩
    have ew : D.write ((first : Int) + ((m.s % 2 : Nat) : Int)) (enc m) = (W, 0) := by
      unfold DiskM.write
      rw [hd, hb, if_neg (by simp), if_neg hpl, if_neg (by simp), if_neg (by simp), if_pos rfl, ← hW]
    have wd : W.down = false := by rw [hW]; show D.burn.down = false; unfold DiskM.burn; split; exact hd; rw [if_neg (by omega)]; exact hd
    have wf : W.fuse = 0 := by
      have : W.fuse = D.burn.fuse := by rw [hW]; rfl
      rw [this]; unfold DiskM.burn
      rw [if_neg (by omega), if_neg (by omega)]
      show D.fuse - 1 = 0; omega
    have wb : W.burns = false := by unfold DiskM.burns; rw [wf]; rfl
    have ws : W.sure = D.sure := by rw [hW]; exact burn_sure D
    have ef : W.flush = (W.burn, 50) := by
      unfold DiskM.flush; rw [wd, wb]; rfl
    have wn : W.n = D.n := by rw [hW]; exact burn_n D
    refine ⟨W.burn, ?_, ?_, (burn_n W).trans wn, (burn_sure W).trans ws⟩
    · unfold putGo
      rw [ew]
      simp only [ef]
      rfl
    · unfold DiskM.burn; rw [if_neg (by omega), if_pos wf]
theorem Slots.fails (h : Slots (fun k => D.cur (first + k)) m0 m1) (hd : D.down = false) (hf : first + 1 < D.n) (hfu : D.fuse = 0 ∨ D.fuse = 1) (xs : List Nat) (h6 : xs.length ≤ 6) (hs : (lastOf m0 m1).s ≤ 1000000) :
    ∃ D', putR D first xs = (D', MarkM.zero, 50) ∧ D'.down = true ∧ D'.n = D.n ∧ D'.sure = D.sure := by
  obtain ⟨D', e, g1, g2, g3⟩ := putGo_fails (first := first) (putMark D first xs) hd hf hfu
  refine ⟨D', ?_, g1, g2, g3⟩
  unfold putR
  rw [h.lookR hd hf]
  simp only
  rw [if_neg (by simp), if_neg (by omega), if_neg (by unfold topMax; omega), e]
theorem down_look (hd : D.down = true) (h2 : 1 < D.n) : lookR D 0 = (MarkM.zero, 0, 50) := by
  unfold lookR
  rw [if_pos (.inr (.inr hd))]
  unfold lookErr
  rw [if_neg (by omega)]
theorem down_get (hd : D.down = true) (h2 : 1 < D.n) : getR D 0 = (MarkM.zero, 50) := by
  unfold getR
  rw [down_look hd h2]; rfl
theorem down_put (hd : D.down = true) (h2 : 1 < D.n) (xs : List Nat) : putR D 0 xs = (D, MarkM.zero, 50) := by
  unfold putR
  rw [down_look hd h2]; rfl
theorem crash_sure : (D.crash [] (-1) 0).sure = D.sure := by
  funext k
  show D.crashed [] (-1) 0 k = D.sure k
  unfold DiskM.crashed
  cases D.pend k with
  | none => rfl
  | some l => simp
end

/-- Behind the crash and with power again: what was sure. -/
def backM (D : DiskM) : DiskM := (D.crash [] (-1) 0).up
theorem back_cur (D : DiskM) (k : Nat) : (backM D).cur k = D.sure k := by
  show ((if (D.crash [] (-1) 0).down then (fun _ => none) else (D.crash [] (-1) 0).pend) k).getD ((D.crash [] (-1) 0).sure k) = _
  rw [crash_sure]; rfl

set_option maxRecDepth 100000 in
set_option maxHeartbeats 6400000 in
theorem markDown_c (w : World) (v : Value) (xs : List Nat) (hv : SrcV w v (nat64 xs)) (hl : xs.length ≤ 9223372036854775807) (hx : ∀ x ∈ xs, x < 18446744073709551616) (fuse : Int) (hfuse : fuse ≤ 9223372036854775807) :
    Calls Try.prog 10 #[v, .int .i64 fuse] w fun e w' => e = .returned (.bool true) ∧ Only (fun _ => False) w w' := by
  have HV := hid hv
  obtain ⟨va, vc, rfl, hva⟩ := hv
  rw [length_nat64] at HV ⊢
  have Hx := hid hx
  clear hva hx
  by_cases hbad : 6 < (xs.length : Int) ∨ fuse < 0 ∨ 3 < fuse
  · by_cases h1 : 6 < (xs.length : Int)
    · clear hbad
      go_enter Try.func10, Try.ntmps10
      go_wp2_with (go_at_call 42; refine (marks_c _).mono ?_; rintro e w1 ⟨rfl, ho1⟩)
      go_ret
      exact ⟨rfl, ho1⟩
    · by_cases h2 : fuse < 0
      · clear hbad
        go_enter Try.func10, Try.ntmps10
        go_wp2_with (go_at_call 42; refine (marks_c _).mono ?_; rintro e w1 ⟨rfl, ho1⟩)
        go_ret
        exact ⟨rfl, ho1⟩
      · have h3 : 3 < fuse := by omega
        clear hbad
        go_enter Try.func10, Try.ntmps10
        go_wp2_with (go_at_call 42; refine (marks_c _).mono ?_; rintro e w1 ⟨rfl, ho1⟩)
        go_ret
        exact ⟨rfl, ho1⟩
  have h1 : ¬ 6 < (xs.length : Int) := by omega
  have h2 : ¬ fuse < 0 := by omega
  have h3 : ¬ 3 < fuse := by omega
  clear hbad
  obtain ⟨a, ha⟩ : ∃ a, mkMark 1 xs = a := ⟨_, rfl⟩
  obtain ⟨m2, hm2⟩ : ∃ m, mkMark 2 [1, 2, 3] = m := ⟨_, rfl⟩
  have has : a.s = 1 := by rw [← ha]; rfl
  have Hm := hid (And.intro ha (And.intro hm2 has))
  have hao : a.ok := by rw [← ha]; exact mk_ok 1 xs (by decide) Hx.out
  have Hao := hid hao
  clear ha hm2 has hao
  go_enter Try.func10, Try.ntmps10
  go_wp2_with (go_at_call 42; refine (marks_c _).mono ?_; rintro e w1 ⟨rfl, ho1⟩; have Ho1 := hid ho1; clear ho1)
  refine (new_ok w1 2 (by decide) (by decide)).mono ?_
  rintro e w2 ⟨b, F, rfl, hD, ho2, hF⟩
  have HS := hid (st_new hD); have Ho2 := hid (Ho1.out.trans ho2 (fun _ _ e => e)); have HF : Hid (∀ k, F k → w.heap.size ≤ k) := hid (fun k hk => Nat.le_trans Ho1.out.size (hF k hk))
  clear hD ho2 hF
  go_wp2_with fail
  refine (put_st HS.out (.inl (by decide)) _ xs (by
    obtain ⟨va', vc', e, hva⟩ := HV.out
    refine ⟨va', vc', e, fun hne => ?_⟩
    obtain ⟨g, o, rfl, hc⟩ := hva hne
    exact ⟨g, o, rfl, fun i u hu => (World.cell?_of_block (Ho2.out.block g (World.block_lt_of_cell? _ _ (hc i u hu)) (fun e => e))).trans (hc i u hu)⟩) (by omega) Hx.out a Hm.out.1 (by decide)).mono ?_
  rintro e w3 ⟨rfl, D1, F1, n0, n1, hS1, hl1, ho3, hF1, hn1, hfu1, hp1, hs1⟩
  have HF1 : Hid (∀ k, F1 k → w.heap.size ≤ k) := hid (fun k hk => by
    rcases hF1 k hk with e | e
    · exact HF.out k e
    · have := Ho2.out.size; omega)
  have Ho3 := hid (Ho2.out.trans ho3 (fun k hk e => by have := HF.out k e; omega))
  have HS3 := hid hS1
  have HQ1 := hid (And.intro hl1 (And.intro hn1 (And.intro hp1 hs1)))
  clear hS1 hl1 ho3 hF1 hn1 hfu1 hp1 hs1 HS
  go_wp2_with (refine wpList_store_all rfl 67 (.tmp 7) (.tmp 40) rfl w3.heap.size a.V rfl rfl MarkM.zero.V 67 (blk_new w3 _) rfl info_mark (V_one _) ?_; intro w4 hb4 ho4 hs4; have Ho34 := hid (((Only.refl (fun _ => False) w3).alloc _).trans ho4 (fun k hk e => by have e' : k = w3.heap.size := e; omega)); have Hb4 := hid hb4; have HS4 := hid (HS3.out.only Ho34.out (fun _ _ e => e)); have Ho4 := hid (Ho3.out.trans Ho34.out (fun _ _ e => e)); have HN4 := hid (show ¬ F1 w3.heap.size from fun e => Nat.lt_irrefl _ (HS3.out.disk.lt e)); clear hb4 ho4 hs4)
  refine (fuse_c HS4.out.disk fuse hfuse).mono ?_
  rintro e w5 ⟨rfl, hd5, ho5⟩
  have hcur5 : ∀ k, (D1.setFuse fuse).cur k = D1.cur k := fun k => rfl
  have hfu5 : (D1.setFuse fuse).fuse = fuse := by show max fuse (-1) = fuse; omega
  have HS5 : Hid (MarkSt w5 b 0 (D1.setFuse fuse) n0 n1 F1) := hid ⟨hd5, HS4.out.sl, HS4.out.up, HS4.out.n⟩
  have Hb5 := hid (blk_only Hb4.out ho5 HN4.out)
  have Ho5 := hid (Ho4.out.trans ho5 (fun k hk e => by have := HF1.out k e; omega))
  have Hfu5 := hid hfu5
  clear hd5 ho5 hcur5 hfu5
  have HS5a := hid (HS5.out.only ((Only.refl (fun _ => False) w5).alloc (.cells #[.int .u64 1, .int .u64 2, .int .u64 3] 43)) (fun _ _ e => e))
  go_wp2_with fail
  by_cases hf2 : 2 ≤ fuse
  · refine (put_st HS5a.out (.inr (by rw [Hfu5.out]; exact hf2)) _ [1, 2, 3] (srcV_blk (blk_new w5 _)) (by decide) (by decide) m2 (by rw [HQ1.out.1, Hm.out.2.2]; exact Hm.out.2.1) (by rw [HQ1.out.1, Hm.out.2.2]; decide)).mono ?_
    rintro e w6 ⟨rfl, D2, F2, r0, r1, hS2, hl2, ho6, hF2, -, -, hp2, -⟩
    have hD6 := hS2.disk
    have hcs : ∀ k, D2.cur k = D2.sure k := fun k => by unfold DiskM.cur; rw [hp2 k]; rfl
    have hB : 1 < D2.n ∧ Slots (fun k => D2.sure (0 + k)) r0 r1 ∧ lastOf r0 r1 = m2 := ⟨hS2.n, ⟨(hcs _).symm.trans hS2.sl.c0, (hcs _).symm.trans hS2.sl.c1, hS2.sl.ok0, hS2.sl.ok1, hS2.sl.p0, hS2.sl.p1, hS2.sl.z0⟩, hl2⟩
    clear hS2 hl2 hp2 hcs
    have HF2 : Hid (∀ k, F2 k → w.heap.size ≤ k) := hid (fun k hk => by
      rcases hF2 k hk with e | e
      · exact HF1.out k e
      · have := (Ho5.out.alloc (.cells #[.int .u64 1, .int .u64 2, .int .u64 3] 43)).size; omega)
    have Hb6 := hid (blk_only (blk_alloc Hb5.out) ho6 (fun e => HN4.out (by exact e)))
    have HN6 := hid (show ¬ F2 w3.heap.size from fun e => by
      rcases hF2 _ e with e | e
      · exact HN4.out e
      · have := blk_lt (blk_alloc (o' := .cells #[.int .u64 1, .int .u64 2, .int .u64 3] 43) Hb5.out); omega)
    have Ho6 := hid ((Ho5.out.alloc (.cells #[.int .u64 1, .int .u64 2, .int .u64 3] 43)).trans ho6 (fun k hk e => by have := HF1.out k e; omega))
    have HD6 := hid hD6; have HB := hid hB
    clear hF2 ho6 hD6 hB HS5 HS5a HS4 HS3 HQ1
    go_wp2_with (refine wpList_store_all rfl 67 (.tmp 9) (.tmp 49) rfl w6.heap.size m2.V rfl rfl MarkM.zero.V 67 (blk_new w6 _) rfl info_mark (V_one _) ?_; intro w7 hb7 ho7 hs7; have Ho67 := hid (((Only.refl (fun _ => False) w6).alloc _).trans ho7 (fun k hk e => by have e' : k = w6.heap.size := e; omega)); have Hb7 := hid hb7; have Hb7' := hid (blk_only Hb6.out Ho67.out (fun e => e)); have HD7 := hid (HD6.out.only Ho67.out (fun _ _ e => e)); have HN7 := hid (show ¬ F2 w6.heap.size from fun e => Nat.lt_irrefl _ (HD6.out.lt e)); have Ho7 := hid (Ho6.out.trans Ho67.out (fun _ _ e => e)); clear hb7 ho7 hs7)
    refine (crash_c HD7.out (.slice none 0 0) [] ⟨none, 0, rfl, fun e => absurd rfl e⟩ (fun g o c e => by simp at e) (by decide) (-1) 0).mono ?_
    rintro e w8 ⟨rfl, hd8, ho8⟩
    have HD8 := hid hd8; have Hb8 := hid (blk_only Hb7.out ho8 HN7.out); have Hb8' := hid (blk_only Hb7'.out ho8 HN6.out); have Ho8 := hid (Ho7.out.trans ho8 (fun k hk e => by have := HF2.out k e; omega))
    clear hd8 ho8
    have hn8 : 1 < (D2.crash [] (-1) 0).n := HB.out.1
    have HG8 := hid (get_c HD8.out 0 (by decide))
    rw [down_get rfl hn8] at HG8
    have Hn8 := hid hn8
    clear hn8
    go_wp2_with fail
    refine HG8.out.mono ?_
    rintro e w9 ⟨rfl, ho9⟩
    have HD9 := hid (HD8.out.only ho9 (fun _ _ e => e)); have Hb9 := hid (blk_only Hb8.out ho9 (fun e => e)); have Hb9' := hid (blk_only Hb8'.out ho9 (fun e => e)); have Ho9 := hid (Ho8.out.trans ho9 (fun _ _ e => e))
    clear ho9
    go_wp2_with (refine wpList_store_all rfl 67 (.tmp 11) (.tmp 61) rfl w9.heap.size MarkM.zero.V rfl rfl MarkM.zero.V 67 (blk_new w9 _) rfl info_mark (V_one _) ?_; intro w10 hb10 ho10 hs10; have Ho910 := hid (((Only.refl (fun _ => False) w9).alloc _).trans ho10 (fun k hk e => by have e' : k = w9.heap.size := e; omega)); have Hb10 := hid (blk_only Hb9.out Ho910.out (fun e => e)); have Hb10' := hid (blk_only Hb9'.out Ho910.out (fun e => e)); have HD10 := hid (HD9.out.only Ho910.out (fun _ _ e => e)); have Ho10 := hid (Ho9.out.trans Ho910.out (fun _ _ e => e)); clear hb10 ho10 hs10)
    have HP10 := hid (put_c HD10.out 0 (by decide) (.slice none 0 0) [] ⟨none, 0, rfl, fun e => absurd rfl e⟩ (by decide) (by simp))
    rw [down_put rfl Hn8.out []] at HP10
    refine HP10.out.mono ?_
    rintro e w11 ⟨rfl, F3, hd11, ho11, hF3⟩
    have HD11 := hid hd11; have Hb11 := hid (blk_only Hb10.out ho11 HN7.out); have Hb11' := hid (blk_only Hb10'.out ho11 HN6.out)
    have HF3 : Hid (∀ k, F3 k → w.heap.size ≤ k) := hid (fun k hk => by
      rcases hF3 k hk with e | e
      · exact HF2.out k e
      · have := Ho10.out.size; omega)
    have HN11 := hid (show ¬ F3 w6.heap.size ∧ ¬ F3 w3.heap.size from ⟨fun e => by
      rcases hF3 _ e with e | e
      · exact HN7.out e
      · have := blk_lt Hb10.out; omega, fun e => by
      rcases hF3 _ e with e | e
      · exact HN6.out e
      · have := blk_lt Hb10'.out; omega⟩)
    have Ho11 := hid (Ho10.out.trans ho11 (fun k hk e => by have := HF2.out k e; omega))
    clear hd11 ho11 hF3 HP10
    go_wp2_with (refine wpList_store_all rfl 67 (.tmp 13) (.tmp 66) rfl w11.heap.size MarkM.zero.V rfl rfl MarkM.zero.V 67 (blk_new w11 _) rfl info_mark (V_one _) ?_; intro w12 hb12 ho12 hs12; have Ho112 := hid (((Only.refl (fun _ => False) w11).alloc _).trans ho12 (fun k hk e => by have e' : k = w11.heap.size := e; omega)); have Hb12 := hid (blk_only Hb11.out Ho112.out (fun e => e)); have Hb12' := hid (blk_only Hb11'.out Ho112.out (fun e => e)); have HD12 := hid (HD11.out.only Ho112.out (fun _ _ e => e)); have Ho12 := hid (Ho11.out.trans Ho112.out (fun _ _ e => e)); clear hb12 ho12 hs12)
    refine (up_c HD12.out).mono ?_
    rintro e w13 ⟨rfl, hd13, ho13⟩
    have HS13 : Hid (MarkSt w13 b 0 (backM D2) r0 r1 F3) := hid ⟨hd13, ⟨(back_cur D2 _).trans HB.out.2.1.c0, (back_cur D2 _).trans HB.out.2.1.c1, HB.out.2.1.ok0, HB.out.2.1.ok1, HB.out.2.1.p0, HB.out.2.1.p1, HB.out.2.1.z0⟩, rfl, Hn8.out⟩
    have Hb13 := hid (blk_only Hb12.out ho13 HN11.out.1); have Hb13' := hid (blk_only Hb12'.out ho13 HN11.out.2)
    have Ho13 := hid (Ho12.out.trans ho13 (fun k hk e => by have := HF3.out k e; omega))
    clear hd13 ho13
    have HG13 := hid (get_st HS13.out m2 0 (by rw [HB.out.2.2, if_neg (by rw [← Hm.out.2.1]; decide)]))
    go_wp2_with fail
    refine HG13.out.mono ?_
    rintro e w14 ⟨rfl, ho14⟩
    have Hb14 := hid (blk_only Hb13.out ho14 (fun e => e)); have Hb14' := hid (blk_only Hb13'.out ho14 (fun e => e)); have Ho14 := hid (Ho13.out.trans ho14 (fun _ _ e => e))
    clear ho14
    have heq : ∀ w, (binOp .eql 67 (.agg #[.int .u64 m2.s, .int .u64 m2.w0, .int .u64 m2.w1, .int .u64 m2.w2, .int .u64 m2.w3, .int .u64 m2.w4, .int .u64 m2.w5]) (.agg #[.int .u64 m2.s, .int .u64 m2.w0, .int .u64 m2.w1, .int .u64 m2.w2, .int .u64 m2.w3, .int .u64 m2.w4, .int .u64 m2.w5])).run Try.prog w = .ok (.bool true) w := fun w => by
      have := eql_mark w m2 m2
      simp only [decide_true] at this
      exact this
    go_wp2_with (refine wpList_store_all rfl 67 (.tmp 15) (.tmp 73) rfl w14.heap.size m2.V rfl rfl MarkM.zero.V 67 (blk_new w14 _) rfl info_mark (V_one _) ?_; intro w15 hb15 ho15 hs15; have Ho1415 := hid (((Only.refl (fun _ => False) w14).alloc _).trans ho15 (fun k hk e => by have e' : k = w14.heap.size := e; omega)); have x0 : w15.cell? ⟨w14.heap.size, 0, none⟩ = some (.int .u64 m2.s) := cell_blk hb15 0; have x1 : w15.cell? ⟨w14.heap.size, 1, none⟩ = some (.int .u64 m2.w0) := cell_blk hb15 1; have x2 : w15.cell? ⟨w14.heap.size, 2, none⟩ = some (.int .u64 m2.w1) := cell_blk hb15 2; have x3 : w15.cell? ⟨w14.heap.size, 3, none⟩ = some (.int .u64 m2.w2) := cell_blk hb15 3; have x4 : w15.cell? ⟨w14.heap.size, 4, none⟩ = some (.int .u64 m2.w3) := cell_blk hb15 4; have x5 : w15.cell? ⟨w14.heap.size, 5, none⟩ = some (.int .u64 m2.w4) := cell_blk hb15 5; have x6 : w15.cell? ⟨w14.heap.size, 6, none⟩ = some (.int .u64 m2.w5) := cell_blk hb15 6; have Hbz := hid (blk_only Hb14.out Ho1415.out (fun e => e)); have y0 : w15.cell? ⟨w6.heap.size, 0, none⟩ = some (.int .u64 m2.s) := cell_blk Hbz.out 0; have y1 : w15.cell? ⟨w6.heap.size, 1, none⟩ = some (.int .u64 m2.w0) := cell_blk Hbz.out 1; have y2 : w15.cell? ⟨w6.heap.size, 2, none⟩ = some (.int .u64 m2.w1) := cell_blk Hbz.out 2; have y3 : w15.cell? ⟨w6.heap.size, 3, none⟩ = some (.int .u64 m2.w2) := cell_blk Hbz.out 3; have y4 : w15.cell? ⟨w6.heap.size, 4, none⟩ = some (.int .u64 m2.w3) := cell_blk Hbz.out 4; have y5 : w15.cell? ⟨w6.heap.size, 5, none⟩ = some (.int .u64 m2.w4) := cell_blk Hbz.out 5; have y6 : w15.cell? ⟨w6.heap.size, 6, none⟩ = some (.int .u64 m2.w5) := cell_blk Hbz.out 6; have Ho15 := hid (Ho14.out.trans Ho1415.out (fun _ _ e => e)); clear hb15 ho15 hs15)
    go_ret
    exact ⟨rfl, Ho15.out⟩
  · obtain ⟨D2, hr2, hdn2, hn2, hsu2⟩ := HS5a.out.sl.fails (D := D1.setFuse fuse) HS5a.out.up HS5a.out.n (by rw [Hfu5.out]; omega) [1, 2, 3] (by decide) (by rw [HQ1.out.1, Hm.out.2.2]; decide)
    have HP6 := hid (put_c HS5a.out.disk 0 (by decide) _ [1, 2, 3] (srcV_blk (blk_new w5 _)) (by decide) (by decide))
    rw [show ((0 : Nat) : Int) = 0 from rfl] at hr2
    rw [hr2] at HP6
    obtain ⟨r0, hr0⟩ : ∃ r0, n0 = r0 := ⟨_, rfl⟩
    obtain ⟨r1, hr1⟩ : ∃ r1, n1 = r1 := ⟨_, rfl⟩
    have hcs : ∀ k, D1.cur k = D1.sure k := fun k => by unfold DiskM.cur; rw [HQ1.out.2.2.1 k]; rfl
    have hs2 : ∀ k, D2.sure k = D1.cur k := fun k => by rw [hsu2, hcs]; rfl
    have hsl := HS5.out.sl
    have hB : 1 < D2.n ∧ Slots (fun k => D2.sure (0 + k)) r0 r1 ∧ lastOf r0 r1 = a := by
      subst hr0 hr1
      exact ⟨by rw [hn2]; exact HS5.out.n, ⟨(hs2 _).trans hsl.c0, (hs2 _).trans hsl.c1, hsl.ok0, hsl.ok1, hsl.p0, hsl.p1, hsl.z0⟩, HQ1.out.1⟩
    clear hr2 hdn2 hn2 hsu2 hr0 hr1 hcs hs2 hsl
    refine HP6.out.mono ?_
    rintro e w6 ⟨rfl, F2, hD6, ho6, hF2⟩
    clear HP6
    have HF2 : Hid (∀ k, F2 k → w.heap.size ≤ k) := hid (fun k hk => by
      rcases hF2 k hk with e | e
      · exact HF1.out k e
      · have := (Ho5.out.alloc (.cells #[.int .u64 1, .int .u64 2, .int .u64 3] 43)).size; omega)
    have Hb6 := hid (blk_only (blk_alloc Hb5.out) ho6 (fun e => HN4.out (by exact e)))
    have HN6 := hid (show ¬ F2 w3.heap.size from fun e => by
      rcases hF2 _ e with e | e
      · exact HN4.out e
      · have := blk_lt (blk_alloc (o' := .cells #[.int .u64 1, .int .u64 2, .int .u64 3] 43) Hb5.out); omega)
    have Ho6 := hid ((Ho5.out.alloc (.cells #[.int .u64 1, .int .u64 2, .int .u64 3] 43)).trans ho6 (fun k hk e => by have := HF1.out k e; omega))
    have HD6 := hid hD6; have HB := hid hB
    clear hF2 ho6 hD6 hB HS5 HS5a HS4 HS3 HQ1
    go_wp2_with (refine wpList_store_all rfl 67 (.tmp 9) (.tmp 49) rfl w6.heap.size MarkM.zero.V rfl rfl MarkM.zero.V 67 (blk_new w6 _) rfl info_mark (V_one _) ?_; intro w7 hb7 ho7 hs7; have Ho67 := hid (((Only.refl (fun _ => False) w6).alloc _).trans ho7 (fun k hk e => by have e' : k = w6.heap.size := e; omega)); have Hb7 := hid hb7; have Hb7' := hid (blk_only Hb6.out Ho67.out (fun e => e)); have HD7 := hid (HD6.out.only Ho67.out (fun _ _ e => e)); have HN7 := hid (show ¬ F2 w6.heap.size from fun e => Nat.lt_irrefl _ (HD6.out.lt e)); have Ho7 := hid (Ho6.out.trans Ho67.out (fun _ _ e => e)); clear hb7 ho7 hs7)
    refine (crash_c HD7.out (.slice none 0 0) [] ⟨none, 0, rfl, fun e => absurd rfl e⟩ (fun g o c e => by simp at e) (by decide) (-1) 0).mono ?_
    rintro e w8 ⟨rfl, hd8, ho8⟩
    have HD8 := hid hd8; have Hb8 := hid (blk_only Hb7.out ho8 HN7.out); have Hb8' := hid (blk_only Hb7'.out ho8 HN6.out); have Ho8 := hid (Ho7.out.trans ho8 (fun k hk e => by have := HF2.out k e; omega))
    clear hd8 ho8
    have hn8 : 1 < (D2.crash [] (-1) 0).n := HB.out.1
    have HG8 := hid (get_c HD8.out 0 (by decide))
    rw [down_get rfl hn8] at HG8
    have Hn8 := hid hn8
    clear hn8
    go_wp2_with fail
    refine HG8.out.mono ?_
    rintro e w9 ⟨rfl, ho9⟩
    have HD9 := hid (HD8.out.only ho9 (fun _ _ e => e)); have Hb9 := hid (blk_only Hb8.out ho9 (fun e => e)); have Hb9' := hid (blk_only Hb8'.out ho9 (fun e => e)); have Ho9 := hid (Ho8.out.trans ho9 (fun _ _ e => e))
    clear ho9
    go_wp2_with (refine wpList_store_all rfl 67 (.tmp 11) (.tmp 61) rfl w9.heap.size MarkM.zero.V rfl rfl MarkM.zero.V 67 (blk_new w9 _) rfl info_mark (V_one _) ?_; intro w10 hb10 ho10 hs10; have Ho910 := hid (((Only.refl (fun _ => False) w9).alloc _).trans ho10 (fun k hk e => by have e' : k = w9.heap.size := e; omega)); have Hb10 := hid (blk_only Hb9.out Ho910.out (fun e => e)); have Hb10' := hid (blk_only Hb9'.out Ho910.out (fun e => e)); have HD10 := hid (HD9.out.only Ho910.out (fun _ _ e => e)); have Ho10 := hid (Ho9.out.trans Ho910.out (fun _ _ e => e)); clear hb10 ho10 hs10)
    have HP10 := hid (put_c HD10.out 0 (by decide) (.slice none 0 0) [] ⟨none, 0, rfl, fun e => absurd rfl e⟩ (by decide) (by simp))
    rw [down_put rfl Hn8.out []] at HP10
    refine HP10.out.mono ?_
    rintro e w11 ⟨rfl, F3, hd11, ho11, hF3⟩
    have HD11 := hid hd11; have Hb11 := hid (blk_only Hb10.out ho11 HN7.out); have Hb11' := hid (blk_only Hb10'.out ho11 HN6.out)
    have HF3 : Hid (∀ k, F3 k → w.heap.size ≤ k) := hid (fun k hk => by
      rcases hF3 k hk with e | e
      · exact HF2.out k e
      · have := Ho10.out.size; omega)
    have HN11 := hid (show ¬ F3 w6.heap.size ∧ ¬ F3 w3.heap.size from ⟨fun e => by
      rcases hF3 _ e with e | e
      · exact HN7.out e
      · have := blk_lt Hb10.out; omega, fun e => by
      rcases hF3 _ e with e | e
      · exact HN6.out e
      · have := blk_lt Hb10'.out; omega⟩)
    have Ho11 := hid (Ho10.out.trans ho11 (fun k hk e => by have := HF2.out k e; omega))
    clear hd11 ho11 hF3 HP10
    go_wp2_with (refine wpList_store_all rfl 67 (.tmp 13) (.tmp 66) rfl w11.heap.size MarkM.zero.V rfl rfl MarkM.zero.V 67 (blk_new w11 _) rfl info_mark (V_one _) ?_; intro w12 hb12 ho12 hs12; have Ho112 := hid (((Only.refl (fun _ => False) w11).alloc _).trans ho12 (fun k hk e => by have e' : k = w11.heap.size := e; omega)); have Hb12 := hid (blk_only Hb11.out Ho112.out (fun e => e)); have Hb12' := hid (blk_only Hb11'.out Ho112.out (fun e => e)); have HD12 := hid (HD11.out.only Ho112.out (fun _ _ e => e)); have Ho12 := hid (Ho11.out.trans Ho112.out (fun _ _ e => e)); clear hb12 ho12 hs12)
    refine (up_c HD12.out).mono ?_
    rintro e w13 ⟨rfl, hd13, ho13⟩
    have HS13 : Hid (MarkSt w13 b 0 (backM D2) r0 r1 F3) := hid ⟨hd13, ⟨(back_cur D2 _).trans HB.out.2.1.c0, (back_cur D2 _).trans HB.out.2.1.c1, HB.out.2.1.ok0, HB.out.2.1.ok1, HB.out.2.1.p0, HB.out.2.1.p1, HB.out.2.1.z0⟩, rfl, Hn8.out⟩
    have Hb13 := hid (blk_only Hb12.out ho13 HN11.out.1); have Hb13' := hid (blk_only Hb12'.out ho13 HN11.out.2)
    have Ho13 := hid (Ho12.out.trans ho13 (fun k hk e => by have := HF3.out k e; omega))
    clear hd13 ho13
    have HG13 := hid (get_st HS13.out a 0 (by rw [HB.out.2.2, if_neg (by rw [Hm.out.2.2]; decide)]))
    go_wp2_with fail
    refine HG13.out.mono ?_
    rintro e w14 ⟨rfl, ho14⟩
    have Hb14 := hid (blk_only Hb13.out ho14 (fun e => e)); have Hb14' := hid (blk_only Hb13'.out ho14 (fun e => e)); have Ho14 := hid (Ho13.out.trans ho14 (fun _ _ e => e))
    clear ho14
    have heq : ∀ w, (binOp .eql 67 (.agg #[.int .u64 a.s, .int .u64 a.w0, .int .u64 a.w1, .int .u64 a.w2, .int .u64 a.w3, .int .u64 a.w4, .int .u64 a.w5]) (.agg #[.int .u64 a.s, .int .u64 a.w0, .int .u64 a.w1, .int .u64 a.w2, .int .u64 a.w3, .int .u64 a.w4, .int .u64 a.w5])).run Try.prog w = .ok (.bool true) w := fun w => by
      have := eql_mark w a a
      simp only [decide_true] at this
      exact this
    go_wp2_with (refine wpList_store_all rfl 67 (.tmp 15) (.tmp 73) rfl w14.heap.size a.V rfl rfl MarkM.zero.V 67 (blk_new w14 _) rfl info_mark (V_one _) ?_; intro w15 hb15 ho15 hs15; have Ho1415 := hid (((Only.refl (fun _ => False) w14).alloc _).trans ho15 (fun k hk e => by have e' : k = w14.heap.size := e; omega)); have x0 : w15.cell? ⟨w14.heap.size, 0, none⟩ = some (.int .u64 a.s) := cell_blk hb15 0; have x1 : w15.cell? ⟨w14.heap.size, 1, none⟩ = some (.int .u64 a.w0) := cell_blk hb15 1; have x2 : w15.cell? ⟨w14.heap.size, 2, none⟩ = some (.int .u64 a.w1) := cell_blk hb15 2; have x3 : w15.cell? ⟨w14.heap.size, 3, none⟩ = some (.int .u64 a.w2) := cell_blk hb15 3; have x4 : w15.cell? ⟨w14.heap.size, 4, none⟩ = some (.int .u64 a.w3) := cell_blk hb15 4; have x5 : w15.cell? ⟨w14.heap.size, 5, none⟩ = some (.int .u64 a.w4) := cell_blk hb15 5; have x6 : w15.cell? ⟨w14.heap.size, 6, none⟩ = some (.int .u64 a.w5) := cell_blk hb15 6; have Hbz := hid (blk_only Hb14'.out Ho1415.out (fun e => e)); have y0 : w15.cell? ⟨w3.heap.size, 0, none⟩ = some (.int .u64 a.s) := cell_blk Hbz.out 0; have y1 : w15.cell? ⟨w3.heap.size, 1, none⟩ = some (.int .u64 a.w0) := cell_blk Hbz.out 1; have y2 : w15.cell? ⟨w3.heap.size, 2, none⟩ = some (.int .u64 a.w1) := cell_blk Hbz.out 2; have y3 : w15.cell? ⟨w3.heap.size, 3, none⟩ = some (.int .u64 a.w2) := cell_blk Hbz.out 3; have y4 : w15.cell? ⟨w3.heap.size, 4, none⟩ = some (.int .u64 a.w3) := cell_blk Hbz.out 4; have y5 : w15.cell? ⟨w3.heap.size, 5, none⟩ = some (.int .u64 a.w4) := cell_blk Hbz.out 5; have y6 : w15.cell? ⟨w3.heap.size, 6, none⟩ = some (.int .u64 a.w5) := cell_blk Hbz.out 6; have Ho15 := hid (Ho14.out.trans Ho1415.out (fun _ _ e => e)); clear hb15 ho15 hs15)
    go_ret
    exact ⟨rfl, Ho15.out⟩
end Go.Proofs.Ytepndjojodbhdaa
