/- MarkTorn: the walk. -/
import Derived.Test.YtepndjojodbhdaaTornL
import Derived.Test.YtepndjojodbhdaaOpenT
import Derived.Deep.Cut
import Derived.Deep.CutRange
import Derived.StillTailTactics
namespace Go.Proofs.Ytepndjojodbhdaa
open Go.RowKit

/-- In a round: the disk, the last mark's block, the try's block. -/
structure TR (w wr : World) (b g5 g7 : Nat) (D : DiskM) (F : Nat → Prop) (L : MarkM) (tc : Array Value) : Prop where
  disk : DiskAt wr b D F
  b5 : wr.heap[g5]? = some (.cells L.V 67 (0, 0))
  b7 : wr.heap[g7]? = some (.cells tc 138 (0, 0))
  n5 : ¬ F g5
  n7 : ¬ F g7
  f0 : ∀ k, F k → w.heap.size ≤ k
  g5w : w.heap.size ≤ g5
  only : Only (fun _ => False) w wr
theorem TR.step {w wr w' : World} {b g5 g7 : Nat} {D : DiskM} {F : Nat → Prop} {L : MarkM} {tc : Array Value} (h : TR w wr b g5 g7 D F L tc) (ho : Only (fun _ => False) wr w') : TR w w' b g5 g7 D F L tc :=
  ⟨h.disk.only ho (fun _ _ e => e), blk_only h.b5 ho (fun e => e), blk_only h.b7 ho (fun e => e), h.n5, h.n7, h.f0, h.g5w, h.only.trans ho (fun _ _ e => e)⟩
theorem TR.put {w wr w' : World} {b g5 g7 : Nat} {D D' : DiskM} {F F' : Nat → Prop} {L : MarkM} {tc : Array Value} (h : TR w wr b g5 g7 D F L tc) (hd : DiskAt w' b D' F') (ho : Only F wr w') (hn : ∀ k, F' k → F k ∨ wr.heap.size ≤ k) : TR w w' b g5 g7 D' F' L tc := by
  have l5 := blk_lt h.b5
  have l7 := blk_lt h.b7
  refine ⟨hd, blk_only h.b5 ho h.n5, blk_only h.b7 ho h.n7, fun e => ?_, fun e => ?_, fun k hk => ?_, h.g5w, h.only.trans ho (fun k hk e => by have := h.f0 k e; omega)⟩
  · rcases hn _ e with e | e
    · exact h.n5 e
    · omega
  · rcases hn _ e with e | e
    · exact h.n7 e
    · omega
  · rcases hn k hk with e | e
    · exact h.f0 k e
    · have := h.only.size; omega
/-- What stands between the rounds. -/
structure TornSt (w wr : World) (b g5 : Nat) (D : DiskM) (F : Nat → Prop) (L : MarkM) (B : Nat) : Prop where
  disk : DiskAt wr b D F
  ts : TS D L B
  b5 : wr.heap[g5]? = some (.cells L.V 67 (0, 0))
  n5 : ¬ F g5
  f0 : ∀ k, F k → w.heap.size ≤ k
  g5w : w.heap.size ≤ g5
  only : Only (fun _ => False) w wr
/-- What is kept at the crash. -/
def KeepV (w : World) (F : Nat → Prop) (ks : List Int) (t : Value) : Prop := ∃ keep : List Int, (keep = ks ∨ keep = []) ∧ SrcV w t (intsV keep) ∧ ∀ g o c, t = .slice (some ⟨g, o, none⟩) keep.length c → ¬ F g
theorem KeepV.nil (w : World) (F : Nat → Prop) (ks : List Int) : KeepV w F ks (.slice none 0 0) := ⟨[], .inr rfl, ⟨none, 0, rfl, fun e => absurd rfl e⟩, fun g o c e => by simp at e⟩
theorem KeepV.row {w : World} {F : Nat → Prop} {ks : List Int} {bo : Option Addr} {cp lo : Nat} (h : IOut w bo cp ks lo) (hF : ∀ k, F k → k < lo) : KeepV w F ks (.slice bo ks.length cp) := by
  refine ⟨ks, .inl rfl, ?_, ?_⟩
  · rcases h with ⟨rfl, rfl, rfl⟩ | ⟨g, rfl, hg, hr⟩
    · exact ⟨none, 0, rfl, fun e => absurd rfl e⟩
    · refine ⟨some ⟨g, 0, none⟩, cp, by simp [intsV], fun _ => ⟨g, 0, rfl, fun i u hu => ?_⟩⟩
      have := hr.news i u hu
      rw [addr_add] at this
      exact this
  · intro g o c e hFg
    have := hF g hFg
    rcases h with ⟨rfl, rfl, rfl⟩ | ⟨g', rfl, hg, hr⟩
    · simp at e
    · simp only [Value.slice.injEq, Option.some.injEq, Addr.mk.injEq] at e
      omega

theorem addsT {w : World} {a : Option Addr} {n c : Nat} {xs : List Nat} (h : SrcV w (.slice a n c) (nat64 xs)) (_ : xs.length = n) : 0 < (nat64 xs).length → ∃ ad, a = some ad ∧ ∀ j u, (nat64 xs)[j]? = some u → w.cell? (ad.add j) = some u := fun h0 => by
  obtain ⟨a', c', e, hs⟩ := h
  simp only [Value.slice.injEq] at e
  obtain ⟨rfl, -, -⟩ := e
  obtain ⟨g, o, rfl, hc⟩ := hs (by intro e; rw [e] at h0; simp at h0)
  exact ⟨_, rfl, fun j u hu => by rw [addr_add]; exact hc j u hu⟩
theorem oneT (xs : List Nat) : ∀ u ∈ nat64 xs, u.oneCell' = true := by
  intro u hu
  obtain ⟨x, _, rfl⟩ := List.mem_map.1 hu
  rfl

set_option maxRecDepth 100000 in
set_option maxHeartbeats 12800000 in
theorem markTorn_c (w : World) (v : Value) (ls : List TryM) (hv : TriesAt w v ls) :
    Calls Try.prog 21 #[v] w fun e w' => e = .returned (.bool true) ∧ Only (fun _ => False) w w' := by
  obtain ⟨a, c, rfl, hll, hl⟩ := hv
  have HL := hid hl
  clear hl
  by_cases h16 : 16 < (ls.length : Int)
  · go_enter Try.func21, Try.ntmps21
    go_wp2_with (go_at_call 42; refine (marks_c _).mono ?_; rintro e w1 ⟨rfl, ho1⟩)
    go_ret
    exact ⟨rfl, ho1⟩
  go_enter Try.func21, Try.ntmps21
  go_wp2_with (go_at_call 42; refine (marks_c _).mono ?_; rintro e w1 ⟨rfl, ho1⟩; have Ho1 := hid ho1; clear ho1)
  refine (new_ok w1 2 (by decide) (by decide)).mono ?_
  rintro e w2 ⟨b, F, rfl, hD, ho2, hF⟩
  have HI : Hid (TornSt w (w2.alloc (.cells MarkM.zero.V 67)) b w2.heap.size (DiskM.new 2) F MarkM.zero 0) :=
    hid ⟨hD.only ((Only.refl (fun _ => False) w2).alloc _) (fun _ _ e => e), ts_new, blk_new w2 _, fun e => Nat.lt_irrefl _ (hD.lt e), fun k hk => Nat.le_trans Ho1.out.size (hF k hk), Nat.le_trans Ho1.out.size ho2.size, (Ho1.out.trans ho2 (fun _ _ e => e)).alloc _⟩
  clear hD ho2 hF
  go_wp2_with fail
  go_loopw [29, 7, 8, 9, 10, 11, 12, 13, 14] (fun i _ _ _ _ _ _ _ _ wr => ∃ (k : Nat) (D : DiskM) (F : Nat → Prop) (L : MarkM), i = .int .i64 k ∧ k ≤ ls.length ∧ TornSt w wr b w2.heap.size D F L (2 * k)) (fun i _ _ _ _ _ _ _ _ _ => ls.length - (intOf i).toNat)
  case atStart => exact ⟨0, _, _, _, rfl, Nat.zero_le _, HI.out⟩
  case round =>
    clear HI
    obtain ⟨k, D, F, L, rfl, hk, hst⟩ := hrel
    obtain ⟨w3, rfl⟩ : ∃ w3 : World, w3 = wr := ⟨_, rfl⟩
    have HS := hid hst
    clear hst
    by_cases hkl : k < ls.length
    · obtain ⟨hat, g, of, rfl, hgl, hcl⟩ := HL.out k ls[k] (List.getElem?_eq_getElem hkl)
      obtain ⟨⟨ws, wv, fu, at', kp⟩, hoo⟩ : ∃ o, o = ls[k] := ⟨_, rfl⟩
      rw [← hoo] at hat hcl
      have hcw : ∀ j u, (TryM.mk ws wv fu at' kp).cells[j]? = some u → w3.cell? ⟨g, of + k * 4 + j, none⟩ = some u := by
        intro j u hj
        rw [← hcl j u hj]
        exact World.cell?_of_block (HS.out.only.block g hgl (fun e => e))
      obtain ⟨pa, pc, hwv, hsp⟩ := hat.nums
      rw [length_nat64] at hwv
      simp only at hwv
      subst hwv
      have Hx := hid hat.small
      have hwl := hat.len
      simp only at hwl
      have Hfb := hid hat.fuse0
      have Hsv0 : Hid (SrcV w (.slice pa ws.length pc) (nat64 ws)) := hid hat.nums
      have c0 := hcw 0 _ rfl
      rw [Nat.add_zero] at c0
      have c1 := hcw 1 _ rfl
      have c2 := hcw 2 _ rfl
      have c3 := hcw 3 _ rfl
      clear hcl hcw hat hoo hgl hsp
      by_cases h6 : 6 < (ws.length : Int)
      · go_wp2_with fail
        go_ret
        exact ⟨rfl, HS.out.only.alloc _⟩
      have HR3 : Hid (TR w (w3.alloc (.cells #[.slice pa ws.length pc, .int .i64 fu, .int .i64 at', .bool kp] 138)) b w2.heap.size w3.heap.size D F L #[.slice pa ws.length pc, .int .i64 fu, .int .i64 at', .bool kp]) :=
        hid ⟨HS.out.disk.only ((Only.refl (fun _ => False) w3).alloc _) (fun _ _ e => e), blk_alloc HS.out.b5, blk_new w3 _, HS.out.n5, fun e => Nat.lt_irrefl _ (HS.out.disk.lt e), HS.out.f0, HS.out.g5w, HS.out.only.alloc _⟩
      have HRd := hid (HS.out.ts.round (by omega) fu ws (by omega) Hx.out)
      go_wp2_with fail
      refine (fuse_c HR3.out.disk fu Hfb.out.2).mono ?_
      rintro e w4 ⟨rfl, hd4, ho4⟩
      clear c0 c1 c2 c3
      have HR4 := hid (HR3.out.put hd4 ho4 (fun k hk => .inl hk))
      have x0 : w4.cell? ⟨w3.heap.size, 0, none⟩ = some (.slice pa ws.length pc) := cell_blk HR4.out.b7 0
      obtain ⟨D2, M, cc, hpr, hcc, hround⟩ := HRd.out
      have HP := hid (put_c HR4.out.disk 0 (by decide) _ ws (srcV_only Hsv0.out HR4.out.only (fun _ _ e => e)) hwl Hx.out)
      rw [hpr] at HP
      have Hrd := hid hround
      clear hround hpr hd4 ho4 HRd
      go_wp2_with fail
      refine HP.out.mono ?_
      rintro e w5 ⟨rfl, F', hd5, ho5, hn5⟩
      have HR5 := hid (HR4.out.put hd5 ho5 hn5)
      have Hn8 := hid (show ¬ F' w5.heap.size from fun e => Nat.lt_irrefl _ (hd5.lt e))
      have Hf5 := hid (show ∀ k, F' k → k < w5.heap.size from fun k hk => hd5.lt hk)
      clear hd5 ho5 hn5 x0 HP
      go_wp2_with (refine wpList_store_all rfl 67 (.tmp 8) (.tmp 46) rfl w5.heap.size M.V rfl rfl MarkM.zero.V 67 (blk_new w5 _) rfl info_mark (V_one _) ?_; intro w6 hbw6 how6 hsw6; have How6 := hid (((Only.refl (fun _ => False) w5).alloc _).trans how6 (fun k hk e => by have e' : k = w5.heap.size := e; omega)); have HR6 := hid (HR5.out.step How6.out); have Hb8 := hid hbw6; have Hsz := hid hsw6; clear hbw6 how6 hsw6)
      refine (pending_c HR6.out.disk).mono ?_
      rintro e w7 ⟨bo, cp, ks, rfl, hio, ho7, hpo, hkl7⟩
      have HR7 := hid (HR6.out.step ho7)
      have Hb87 := hid (blk_only Hb8.out ho7 (fun e => e))
      have Hio := hid hio; have Hpo := hid hpo; have Hkl7 := hid hkl7
      have hl57 : w5.heap.size ≤ w6.heap.size := by have := blk_lt Hb8.out; omega
      have HKv : Hid (KeepV w7 F' ks (.slice bo ks.length cp)) := hid (KeepV.row Hio.out (fun k hk => Nat.lt_of_lt_of_le (Hf5.out k hk) hl57))
      clear ho7 hio hpo hkl7 Hb8 HR6 HR5 HR4 HR3 hl57 Hsz
      go_upto_if 52 with fail
      go_cut [29, 11] from 29 to 114 (fun i t wx => i = .int .i64 k ∧ w7 = wx ∧ ∃ tear : Int, t = .int .i64 tear)
      case first =>
        by_cases hk0 : 0 < (ks.length : Int)
        · obtain ⟨z, zs, rfl⟩ : ∃ z zs, ks = z :: zs := by cases ks with | nil => simp at hk0 | cons z zs => exact ⟨z, zs, rfl⟩
          rcases Hio.out with ⟨-, -, e⟩ | ⟨gk, rfl, -, hrk⟩
          · cases e
          have y0 : w7.cell? ⟨gk, 0, none⟩ = some (.int .i64 z) := by have := hrk.news 0 _ rfl; simpa [addr_add] using this
          go_wp2_with fail
          go_meet
          case rel => exact ⟨rfl, rfl, _, rfl⟩
        · go_wp2_with fail
          go_meet
          case rel => exact ⟨rfl, rfl, _, rfl⟩
      case rest =>
        obtain ⟨rfl, rfl, tear, rfl⟩ := hcut
        have x3 : w7.cell? ⟨w3.heap.size, 3, none⟩ = some (.bool kp) := cell_blk HR7.out.b7 3
        go_upto_if 58 with fail
        go_cut [29, 10] from 29 to 114 (fun i t wx => i = .int .i64 k ∧ w7 = wx ∧ KeepV w7 F' ks t)
        case first =>
          cases kp with
          | true =>
            go_wp2_with fail
            go_meet
            case rel => exact ⟨rfl, rfl, HKv.out⟩
          | false =>
            go_wp2_with fail
            go_meet
            case rel => exact ⟨rfl, rfl, KeepV.nil _ _ _⟩
        case rest =>
          obtain ⟨rfl, rfl, hkv⟩ := hcut
          obtain ⟨keep, hke, hks, hkf⟩ := hkv
          have x2 : w7.cell? ⟨w3.heap.size, 2, none⟩ = some (.int .i64 at') := cell_blk HR7.out.b7 2
          have HKe := hid hke; have HKs := hid hks; have HKf := hid hkf
          have hkl : keep.length ≤ 9223372036854775807 := by rcases hke with rfl | rfl; (have := Hkl7.out; omega); simp
          have HKl := hid hkl
          clear hke hks hkf hkl x3 HKv Hio
          go_wp2_with fail
          refine (crash_c HR7.out.disk _ keep HKs.out HKf.out HKl.out tear at').mono ?_
          rintro e w8 ⟨rfl, hd8, ho8⟩
          have HR8 := hid (HR7.out.put hd8 ho8 (fun k hk => .inl hk))
          have Hb88 := hid (blk_only Hb87.out ho8 Hn8.out)
          clear hd8 ho8 x2 HR7 Hb87
          go_wp2_with fail
          refine (up_c HR8.out.disk).mono ?_
          rintro e w9 ⟨rfl, hd9, ho9⟩
          have HR9 := hid (HR8.out.put hd9 ho9 (fun k hk => .inl hk))
          have Hb89 := hid (blk_only Hb88.out ho9 Hn8.out)
          clear hd9 ho9 HR8 Hb88
          obtain ⟨L', hts, hll, hc0⟩ := Hrd.out ks Hpo.out keep tear at' HKe.out
          have HG9 := hid (get_c HR9.out.disk 0 (by decide))
          rw [hts.get] at HG9
          have Hts := hid hts; have Hll := hid hll; have Hc0 := hid hc0; have Hcc := hid hcc
          clear hts hll hc0 hcc Hrd
          have hB2 : 2 * k + 2 = 2 * (k + 1) := by omega
          by_cases hL : L'.s = 0
          · rw [if_pos hL] at HG9
            obtain rfl : cc = 50 := by rcases Hcc.out with h | h; (have := (Hc0.out h).2; omega); exact h
            obtain rfl : L = MarkM.zero := HS.out.ts.zero (by rcases Hll.out with h | h; (rw [← h]; exact hL); (have := h.1; omega))
            obtain rfl : L' = MarkM.zero := Hts.out.zero hL
            go_wp2_with fail
            refine HG9.out.mono ?_
            rintro e w10 ⟨rfl, ho10⟩
            have HR10 := hid (HR9.out.step ho10)
            clear ho10
            go_wp2_with (refine wpList_store_all rfl 67 (.tmp 12) (.tmp 70) rfl w10.heap.size MarkM.zero.V rfl rfl MarkM.zero.V 67 (blk_new w10 _) rfl info_mark (V_one _) ?_; intro w11 hbw11 how11 hsw11; have How11 := hid (((Only.refl (fun _ => False) w10).alloc _).trans how11 (fun k hk e => by have e' : k = w10.heap.size := e; omega)); have HR11 := hid (HR10.out.step How11.out); have z5 : w11.cell? ⟨w2.heap.size, 0, none⟩ = some (.int .u64 0) := cell_blk HR11.out.b5 0; clear hbw11 how11 hsw11)
            go_roundw
            case rel => exact ⟨k + 1, _, F', MarkM.zero, by go_num, by omega, HR11.out.disk, by rw [← hB2]; exact Hts.out, HR11.out.b5, HR11.out.n5, HR11.out.f0, HR11.out.g5w, HR11.out.only⟩
            case measure => simp [intOf]; omega
          rw [if_neg hL] at HG9
          have hLp : 0 < L'.s := by omega
          clear hL
          go_wp2_with fail
          refine HG9.out.mono ?_
          rintro e w10 ⟨rfl, ho10⟩
          have HR10 := hid (HR9.out.step ho10)
          have Hb810 := hid (blk_only Hb89.out ho10 (fun e => e))
          clear ho10 HR9 Hb89 HG9
          rcases Hcc.out with rfl | rfl
          · obtain ⟨hLM, -⟩ := Hc0.out rfl
            subst hLM
            rcases Hll.out with hll | ⟨hlt, hll2⟩
            · subst hll
              have hq1 : ∀ w, (binOp .neq 67 (.agg #[.int .u64 L'.s, .int .u64 L'.w0, .int .u64 L'.w1, .int .u64 L'.w2, .int .u64 L'.w3, .int .u64 L'.w4, .int .u64 L'.w5]) (.agg #[.int .u64 L'.s, .int .u64 L'.w0, .int .u64 L'.w1, .int .u64 L'.w2, .int .u64 L'.w3, .int .u64 L'.w4, .int .u64 L'.w5])).run Try.prog w = .ok (.bool false) w := fun w => by have := neq_mark w L' L'; rw [show (!decide (L' = L')) = false by simp] at this; exact this
              go_wp2_with (first | (refine wpList_store_all rfl 67 (.tmp 12) (.tmp 70) rfl w10.heap.size L'.V rfl rfl MarkM.zero.V 67 (blk_new w10 _) rfl info_mark (V_one _) ?_; intro w11 hbw11 how11 hsw11; have How11 := hid (((Only.refl (fun _ => False) w10).alloc _).trans how11 (fun k hk e => by have e' : k = w10.heap.size := e; omega)); have HR11 := hid (HR10.out.step How11.out); have Hb12 := hid hbw11; have hb8 := blk_only Hb810.out How11.out (fun e => e); have n0 : w11.cell? ⟨w10.heap.size, 0, none⟩ = some (.int .u64 L'.s) := cell_blk hbw11 0; have n1 : w11.cell? ⟨w10.heap.size, 1, none⟩ = some (.int .u64 L'.w0) := cell_blk hbw11 1; have n2 : w11.cell? ⟨w10.heap.size, 2, none⟩ = some (.int .u64 L'.w1) := cell_blk hbw11 2; have n3 : w11.cell? ⟨w10.heap.size, 3, none⟩ = some (.int .u64 L'.w2) := cell_blk hbw11 3; have n4 : w11.cell? ⟨w10.heap.size, 4, none⟩ = some (.int .u64 L'.w3) := cell_blk hbw11 4; have n5 : w11.cell? ⟨w10.heap.size, 5, none⟩ = some (.int .u64 L'.w4) := cell_blk hbw11 5; have n6 : w11.cell? ⟨w10.heap.size, 6, none⟩ = some (.int .u64 L'.w5) := cell_blk hbw11 6; have l0 : w11.cell? ⟨w2.heap.size, 0, none⟩ = some (.int .u64 L'.s) := cell_blk HR11.out.b5 0; have l1 : w11.cell? ⟨w2.heap.size, 1, none⟩ = some (.int .u64 L'.w0) := cell_blk HR11.out.b5 1; have l2 : w11.cell? ⟨w2.heap.size, 2, none⟩ = some (.int .u64 L'.w1) := cell_blk HR11.out.b5 2; have l3 : w11.cell? ⟨w2.heap.size, 3, none⟩ = some (.int .u64 L'.w2) := cell_blk HR11.out.b5 3; have l4 : w11.cell? ⟨w2.heap.size, 4, none⟩ = some (.int .u64 L'.w3) := cell_blk HR11.out.b5 4; have l5 : w11.cell? ⟨w2.heap.size, 5, none⟩ = some (.int .u64 L'.w4) := cell_blk HR11.out.b5 5; have l6 : w11.cell? ⟨w2.heap.size, 6, none⟩ = some (.int .u64 L'.w5) := cell_blk HR11.out.b5 6; have m0 : w11.cell? ⟨w5.heap.size, 0, none⟩ = some (.int .u64 L'.s) := cell_blk hb8 0; have m1 : w11.cell? ⟨w5.heap.size, 1, none⟩ = some (.int .u64 L'.w0) := cell_blk hb8 1; have m2 : w11.cell? ⟨w5.heap.size, 2, none⟩ = some (.int .u64 L'.w1) := cell_blk hb8 2; have m3 : w11.cell? ⟨w5.heap.size, 3, none⟩ = some (.int .u64 L'.w2) := cell_blk hb8 3; have m4 : w11.cell? ⟨w5.heap.size, 4, none⟩ = some (.int .u64 L'.w3) := cell_blk hb8 4; have m5 : w11.cell? ⟨w5.heap.size, 5, none⟩ = some (.int .u64 L'.w4) := cell_blk hb8 5; have m6 : w11.cell? ⟨w5.heap.size, 6, none⟩ = some (.int .u64 L'.w5) := cell_blk hb8 6; clear hb8; clear hbw11 how11 hsw11) | (refine wpList_store_all rfl 67 (.tmp 5) (.tmp 113) rfl w2.heap.size L'.V rfl rfl L'.V 67 HR11.out.b5 rfl info_mark (V_one _) ?_; intro w12 hbw12 how12 hsw12; have Hb5x := hid hbw12; have Hox := hid how12; clear hbw12 how12 hsw12))
              go_roundw
              case rel => exact ⟨k + 1, _, F', L', by go_num, by omega, HR11.out.disk.only Hox.out (fun j hj e => by have e' : j = w2.heap.size := e; exact HR11.out.n5 (e' ▸ hj)), by rw [← hB2]; exact Hts.out, Hb5x.out, HR11.out.n5, HR11.out.f0, HR11.out.g5w, HR11.out.only.trans Hox.out (fun j hj e => by have e' : j = w2.heap.size := e; have := HR11.out.g5w; omega)⟩
              case measure => simp [intOf]; omega
            · have hlti : (L.s : Int) < L'.s := by omega
              have hnq : decide (L' = L) = false := by rw [decide_eq_false_iff_not]; intro e; rw [e] at hlt; omega
              have hq1 : ∀ w, (binOp .neq 67 (.agg #[.int .u64 L'.s, .int .u64 L'.w0, .int .u64 L'.w1, .int .u64 L'.w2, .int .u64 L'.w3, .int .u64 L'.w4, .int .u64 L'.w5]) (.agg #[.int .u64 L'.s, .int .u64 L'.w0, .int .u64 L'.w1, .int .u64 L'.w2, .int .u64 L'.w3, .int .u64 L'.w4, .int .u64 L'.w5])).run Try.prog w = .ok (.bool false) w := fun w => by have := neq_mark w L' L'; rw [show (!decide (L' = L')) = false by simp] at this; exact this
              have hq2 : ∀ w, (binOp .neq 67 (.agg #[.int .u64 L'.s, .int .u64 L'.w0, .int .u64 L'.w1, .int .u64 L'.w2, .int .u64 L'.w3, .int .u64 L'.w4, .int .u64 L'.w5]) (.agg #[.int .u64 L.s, .int .u64 L.w0, .int .u64 L.w1, .int .u64 L.w2, .int .u64 L.w3, .int .u64 L.w4, .int .u64 L.w5])).run Try.prog w = .ok (.bool true) w := fun w => by have := neq_mark w L' L; rw [hnq, Bool.not_false] at this; exact this
              have Hll2 := hid hll2
              clear hll2 hnq
              go_wp2_with (first | (refine wpList_store_all rfl 67 (.tmp 12) (.tmp 70) rfl w10.heap.size L'.V rfl rfl MarkM.zero.V 67 (blk_new w10 _) rfl info_mark (V_one _) ?_; intro w11 hbw11 how11 hsw11; have How11 := hid (((Only.refl (fun _ => False) w10).alloc _).trans how11 (fun k hk e => by have e' : k = w10.heap.size := e; omega)); have HR11 := hid (HR10.out.step How11.out); have Hb12 := hid hbw11; have hb8 := blk_only Hb810.out How11.out (fun e => e); have n0 : w11.cell? ⟨w10.heap.size, 0, none⟩ = some (.int .u64 L'.s) := cell_blk hbw11 0; have n1 : w11.cell? ⟨w10.heap.size, 1, none⟩ = some (.int .u64 L'.w0) := cell_blk hbw11 1; have n2 : w11.cell? ⟨w10.heap.size, 2, none⟩ = some (.int .u64 L'.w1) := cell_blk hbw11 2; have n3 : w11.cell? ⟨w10.heap.size, 3, none⟩ = some (.int .u64 L'.w2) := cell_blk hbw11 3; have n4 : w11.cell? ⟨w10.heap.size, 4, none⟩ = some (.int .u64 L'.w3) := cell_blk hbw11 4; have n5 : w11.cell? ⟨w10.heap.size, 5, none⟩ = some (.int .u64 L'.w4) := cell_blk hbw11 5; have n6 : w11.cell? ⟨w10.heap.size, 6, none⟩ = some (.int .u64 L'.w5) := cell_blk hbw11 6; have l0 : w11.cell? ⟨w2.heap.size, 0, none⟩ = some (.int .u64 L.s) := cell_blk HR11.out.b5 0; have l1 : w11.cell? ⟨w2.heap.size, 1, none⟩ = some (.int .u64 L.w0) := cell_blk HR11.out.b5 1; have l2 : w11.cell? ⟨w2.heap.size, 2, none⟩ = some (.int .u64 L.w1) := cell_blk HR11.out.b5 2; have l3 : w11.cell? ⟨w2.heap.size, 3, none⟩ = some (.int .u64 L.w2) := cell_blk HR11.out.b5 3; have l4 : w11.cell? ⟨w2.heap.size, 4, none⟩ = some (.int .u64 L.w3) := cell_blk HR11.out.b5 4; have l5 : w11.cell? ⟨w2.heap.size, 5, none⟩ = some (.int .u64 L.w4) := cell_blk HR11.out.b5 5; have l6 : w11.cell? ⟨w2.heap.size, 6, none⟩ = some (.int .u64 L.w5) := cell_blk HR11.out.b5 6; have m0 : w11.cell? ⟨w5.heap.size, 0, none⟩ = some (.int .u64 L'.s) := cell_blk hb8 0; have m1 : w11.cell? ⟨w5.heap.size, 1, none⟩ = some (.int .u64 L'.w0) := cell_blk hb8 1; have m2 : w11.cell? ⟨w5.heap.size, 2, none⟩ = some (.int .u64 L'.w1) := cell_blk hb8 2; have m3 : w11.cell? ⟨w5.heap.size, 3, none⟩ = some (.int .u64 L'.w2) := cell_blk hb8 3; have m4 : w11.cell? ⟨w5.heap.size, 4, none⟩ = some (.int .u64 L'.w3) := cell_blk hb8 4; have m5 : w11.cell? ⟨w5.heap.size, 5, none⟩ = some (.int .u64 L'.w4) := cell_blk hb8 5; have m6 : w11.cell? ⟨w5.heap.size, 6, none⟩ = some (.int .u64 L'.w5) := cell_blk hb8 6; clear hb8; clear hbw11 how11 hsw11) | (refine wpList_store_all rfl 67 (.tmp 14) (.tmp 97) rfl w11.heap.size #[.int .u64 L'.s, .int .u64 0, .int .u64 0, .int .u64 0, .int .u64 0, .int .u64 0, .int .u64 0] rfl rfl MarkM.zero.V 67 (blk_new w11 _) rfl info_mark (by simp [Value.oneCell']) ?_; intro w12 hb12 ho12 hs12; have Ho12 := hid (((Only.refl (fun _ => False) w11).alloc _).trans ho12 (fun k hk e => by have e' : k = w11.heap.size := e; omega)); have HR12 := hid (HR11.out.step Ho12.out); have Hb14 := hid hb12; have Hb12' := hid (blk_only Hb12.out Ho12.out (fun e => e)); have x0 : w12.cell? ⟨w3.heap.size, 0, none⟩ = some (.slice pa ws.length pc) := cell_blk HR12.out.b7 0; clear hb12 ho12 hs12))
              clear n0 l0 n1 l1 n2 l2 n3 l3 n4 l4 n5 l5 n6 l6 m0 m1 m2 m3 m4 m5 m6
              go_still_tail 4, (by kernel_rfl)
              change wpList _ _ _ _ _ w12.drew
              have HRd := hid (HR12.out.step (Only.refl (fun _ => False) w12).drew)
              refine wpList_cpy_in rfl (.tmp 99) (.tmp 101) 60 60 rfl 43 Try.underlying60 (by kernel_rfl) w11.heap.size 1 6 6 rfl #[.int .u64 L'.s, .int .u64 0, .int .u64 0, .int .u64 0, .int .u64 0, .int .u64 0, .int .u64 0] 67 (blk_only Hb14.out (Only.refl (fun _ => False) w12).drew (fun e => e)) pa ws.length pc rfl (nat64 ws) (by rw [length_nat64]; omega) (addsT (srcV_only Hsv0.out HRd.out.only (fun _ _ e => e)) rfl) (by rw [length_nat64]; show 1 + ws.length ≤ 7; omega) (oneT ws) ?_
              intro w13 hb13 ho13 hs13
              have hb14 := blkMark rfl (by omega) hb13
              rw [← Hll2.out] at hb14
              have hl11 := blk_lt Hb12.out
              have hl5 := blk_lt HR11.out.b5
              have hb12 := blk_only (blk_only Hb12'.out (Only.refl (fun _ => False) w12).drew (fun e => e)) ho13 (show ¬ w10.heap.size = w11.heap.size by omega)
              have Hb13 := hid (blk_only HRd.out.b5 ho13 (show ¬ w2.heap.size = w11.heap.size by omega))
              have n0 : w13.cell? ⟨w10.heap.size, 0, none⟩ = some (.int .u64 L'.s) := cell_blk hb12 0; have n1 : w13.cell? ⟨w10.heap.size, 1, none⟩ = some (.int .u64 L'.w0) := cell_blk hb12 1; have n2 : w13.cell? ⟨w10.heap.size, 2, none⟩ = some (.int .u64 L'.w1) := cell_blk hb12 2; have n3 : w13.cell? ⟨w10.heap.size, 3, none⟩ = some (.int .u64 L'.w2) := cell_blk hb12 3; have n4 : w13.cell? ⟨w10.heap.size, 4, none⟩ = some (.int .u64 L'.w3) := cell_blk hb12 4; have n5 : w13.cell? ⟨w10.heap.size, 5, none⟩ = some (.int .u64 L'.w4) := cell_blk hb12 5; have n6 : w13.cell? ⟨w10.heap.size, 6, none⟩ = some (.int .u64 L'.w5) := cell_blk hb12 6
              have l0 : w13.cell? ⟨w2.heap.size, 0, none⟩ = some (.int .u64 L.s) := cell_blk Hb13.out 0; have l1 : w13.cell? ⟨w2.heap.size, 1, none⟩ = some (.int .u64 L.w0) := cell_blk Hb13.out 1; have l2 : w13.cell? ⟨w2.heap.size, 2, none⟩ = some (.int .u64 L.w1) := cell_blk Hb13.out 2; have l3 : w13.cell? ⟨w2.heap.size, 3, none⟩ = some (.int .u64 L.w2) := cell_blk Hb13.out 3; have l4 : w13.cell? ⟨w2.heap.size, 4, none⟩ = some (.int .u64 L.w3) := cell_blk Hb13.out 4; have l5 : w13.cell? ⟨w2.heap.size, 5, none⟩ = some (.int .u64 L.w4) := cell_blk Hb13.out 5; have l6 : w13.cell? ⟨w2.heap.size, 6, none⟩ = some (.int .u64 L.w5) := cell_blk Hb13.out 6
              have o0 : w13.cell? ⟨w11.heap.size, 0, none⟩ = some (.int .u64 L'.s) := cell_blk hb14 0; have o1 : w13.cell? ⟨w11.heap.size, 1, none⟩ = some (.int .u64 L'.w0) := cell_blk hb14 1; have o2 : w13.cell? ⟨w11.heap.size, 2, none⟩ = some (.int .u64 L'.w1) := cell_blk hb14 2; have o3 : w13.cell? ⟨w11.heap.size, 3, none⟩ = some (.int .u64 L'.w2) := cell_blk hb14 3; have o4 : w13.cell? ⟨w11.heap.size, 4, none⟩ = some (.int .u64 L'.w3) := cell_blk hb14 4; have o5 : w13.cell? ⟨w11.heap.size, 5, none⟩ = some (.int .u64 L'.w4) := cell_blk hb14 5; have o6 : w13.cell? ⟨w11.heap.size, 6, none⟩ = some (.int .u64 L'.w5) := cell_blk hb14 6
              have HF13 : Hid (∀ j, F' j → ¬ j = w11.heap.size) := hid (fun j hj e => by have := HR11.out.disk.lt hj; omega)
              have HR13 : Hid (TR w w13 b w2.heap.size w3.heap.size _ F' L _) := hid ⟨HRd.out.disk.only ho13 HF13.out, Hb13.out, blk_only HRd.out.b7 ho13 (show ¬ w3.heap.size = w11.heap.size by have := blk_lt HR11.out.b7; omega), HRd.out.n5, HRd.out.n7, HRd.out.f0, HRd.out.g5w, HRd.out.only.trans ho13 (fun j hj e => by have e' : j = w11.heap.size := e; have := HR11.out.only.size; omega)⟩
              clear hb13 ho13 hs13 hb12 hb14 x0
              go_wp2_with (refine wpList_store_all rfl 67 (.tmp 5) (.tmp 113) rfl w2.heap.size L'.V rfl rfl L.V 67 HR13.out.b5 rfl info_mark (V_one _) ?_; intro w14 hbw14 how14 hsw14; have Hb5x := hid hbw14; have Hox := hid how14; clear hbw14 how14 hsw14)
              go_roundw
              case rel => exact ⟨k + 1, _, F', L', by go_num, by omega, HR13.out.disk.only Hox.out (fun j hj e => by have e' : j = w2.heap.size := e; exact HR13.out.n5 (e' ▸ hj)), by rw [← hB2]; exact Hts.out, Hb5x.out, HR13.out.n5, HR13.out.f0, HR13.out.g5w, HR13.out.only.trans Hox.out (fun j hj e => by have e' : j = w2.heap.size := e; have := HR13.out.g5w; omega)⟩
              case measure => simp [intOf]; omega
          · skip
            rcases Hll.out with hll | ⟨hlt, hll2⟩
            · subst hll
              have hq1 : ∀ w, (binOp .neq 67 (.agg #[.int .u64 L'.s, .int .u64 L'.w0, .int .u64 L'.w1, .int .u64 L'.w2, .int .u64 L'.w3, .int .u64 L'.w4, .int .u64 L'.w5]) (.agg #[.int .u64 L'.s, .int .u64 L'.w0, .int .u64 L'.w1, .int .u64 L'.w2, .int .u64 L'.w3, .int .u64 L'.w4, .int .u64 L'.w5])).run Try.prog w = .ok (.bool false) w := fun w => by have := neq_mark w L' L'; rw [show (!decide (L' = L')) = false by simp] at this; exact this
              go_wp2_with (first | (refine wpList_store_all rfl 67 (.tmp 12) (.tmp 70) rfl w10.heap.size L'.V rfl rfl MarkM.zero.V 67 (blk_new w10 _) rfl info_mark (V_one _) ?_; intro w11 hbw11 how11 hsw11; have How11 := hid (((Only.refl (fun _ => False) w10).alloc _).trans how11 (fun k hk e => by have e' : k = w10.heap.size := e; omega)); have HR11 := hid (HR10.out.step How11.out); have Hb12 := hid hbw11; have hb8 := blk_only Hb810.out How11.out (fun e => e); have n0 : w11.cell? ⟨w10.heap.size, 0, none⟩ = some (.int .u64 L'.s) := cell_blk hbw11 0; have n1 : w11.cell? ⟨w10.heap.size, 1, none⟩ = some (.int .u64 L'.w0) := cell_blk hbw11 1; have n2 : w11.cell? ⟨w10.heap.size, 2, none⟩ = some (.int .u64 L'.w1) := cell_blk hbw11 2; have n3 : w11.cell? ⟨w10.heap.size, 3, none⟩ = some (.int .u64 L'.w2) := cell_blk hbw11 3; have n4 : w11.cell? ⟨w10.heap.size, 4, none⟩ = some (.int .u64 L'.w3) := cell_blk hbw11 4; have n5 : w11.cell? ⟨w10.heap.size, 5, none⟩ = some (.int .u64 L'.w4) := cell_blk hbw11 5; have n6 : w11.cell? ⟨w10.heap.size, 6, none⟩ = some (.int .u64 L'.w5) := cell_blk hbw11 6; have l0 : w11.cell? ⟨w2.heap.size, 0, none⟩ = some (.int .u64 L'.s) := cell_blk HR11.out.b5 0; have l1 : w11.cell? ⟨w2.heap.size, 1, none⟩ = some (.int .u64 L'.w0) := cell_blk HR11.out.b5 1; have l2 : w11.cell? ⟨w2.heap.size, 2, none⟩ = some (.int .u64 L'.w1) := cell_blk HR11.out.b5 2; have l3 : w11.cell? ⟨w2.heap.size, 3, none⟩ = some (.int .u64 L'.w2) := cell_blk HR11.out.b5 3; have l4 : w11.cell? ⟨w2.heap.size, 4, none⟩ = some (.int .u64 L'.w3) := cell_blk HR11.out.b5 4; have l5 : w11.cell? ⟨w2.heap.size, 5, none⟩ = some (.int .u64 L'.w4) := cell_blk HR11.out.b5 5; have l6 : w11.cell? ⟨w2.heap.size, 6, none⟩ = some (.int .u64 L'.w5) := cell_blk HR11.out.b5 6; clear hb8; clear hbw11 how11 hsw11) | (refine wpList_store_all rfl 67 (.tmp 5) (.tmp 113) rfl w2.heap.size L'.V rfl rfl L'.V 67 HR11.out.b5 rfl info_mark (V_one _) ?_; intro w12 hbw12 how12 hsw12; have Hb5x := hid hbw12; have Hox := hid how12; clear hbw12 how12 hsw12))
              go_roundw
              case rel => exact ⟨k + 1, _, F', L', by go_num, by omega, HR11.out.disk.only Hox.out (fun j hj e => by have e' : j = w2.heap.size := e; exact HR11.out.n5 (e' ▸ hj)), by rw [← hB2]; exact Hts.out, Hb5x.out, HR11.out.n5, HR11.out.f0, HR11.out.g5w, HR11.out.only.trans Hox.out (fun j hj e => by have e' : j = w2.heap.size := e; have := HR11.out.g5w; omega)⟩
              case measure => simp [intOf]; omega
            · have hlti : (L.s : Int) < L'.s := by omega
              have hnq : decide (L' = L) = false := by rw [decide_eq_false_iff_not]; intro e; rw [e] at hlt; omega
              have hq1 : ∀ w, (binOp .neq 67 (.agg #[.int .u64 L'.s, .int .u64 L'.w0, .int .u64 L'.w1, .int .u64 L'.w2, .int .u64 L'.w3, .int .u64 L'.w4, .int .u64 L'.w5]) (.agg #[.int .u64 L'.s, .int .u64 L'.w0, .int .u64 L'.w1, .int .u64 L'.w2, .int .u64 L'.w3, .int .u64 L'.w4, .int .u64 L'.w5])).run Try.prog w = .ok (.bool false) w := fun w => by have := neq_mark w L' L'; rw [show (!decide (L' = L')) = false by simp] at this; exact this
              have hq2 : ∀ w, (binOp .neq 67 (.agg #[.int .u64 L'.s, .int .u64 L'.w0, .int .u64 L'.w1, .int .u64 L'.w2, .int .u64 L'.w3, .int .u64 L'.w4, .int .u64 L'.w5]) (.agg #[.int .u64 L.s, .int .u64 L.w0, .int .u64 L.w1, .int .u64 L.w2, .int .u64 L.w3, .int .u64 L.w4, .int .u64 L.w5])).run Try.prog w = .ok (.bool true) w := fun w => by have := neq_mark w L' L; rw [hnq, Bool.not_false] at this; exact this
              have Hll2 := hid hll2
              clear hll2 hnq
              go_wp2_with (first | (refine wpList_store_all rfl 67 (.tmp 12) (.tmp 70) rfl w10.heap.size L'.V rfl rfl MarkM.zero.V 67 (blk_new w10 _) rfl info_mark (V_one _) ?_; intro w11 hbw11 how11 hsw11; have How11 := hid (((Only.refl (fun _ => False) w10).alloc _).trans how11 (fun k hk e => by have e' : k = w10.heap.size := e; omega)); have HR11 := hid (HR10.out.step How11.out); have Hb12 := hid hbw11; have hb8 := blk_only Hb810.out How11.out (fun e => e); have n0 : w11.cell? ⟨w10.heap.size, 0, none⟩ = some (.int .u64 L'.s) := cell_blk hbw11 0; have n1 : w11.cell? ⟨w10.heap.size, 1, none⟩ = some (.int .u64 L'.w0) := cell_blk hbw11 1; have n2 : w11.cell? ⟨w10.heap.size, 2, none⟩ = some (.int .u64 L'.w1) := cell_blk hbw11 2; have n3 : w11.cell? ⟨w10.heap.size, 3, none⟩ = some (.int .u64 L'.w2) := cell_blk hbw11 3; have n4 : w11.cell? ⟨w10.heap.size, 4, none⟩ = some (.int .u64 L'.w3) := cell_blk hbw11 4; have n5 : w11.cell? ⟨w10.heap.size, 5, none⟩ = some (.int .u64 L'.w4) := cell_blk hbw11 5; have n6 : w11.cell? ⟨w10.heap.size, 6, none⟩ = some (.int .u64 L'.w5) := cell_blk hbw11 6; have l0 : w11.cell? ⟨w2.heap.size, 0, none⟩ = some (.int .u64 L.s) := cell_blk HR11.out.b5 0; have l1 : w11.cell? ⟨w2.heap.size, 1, none⟩ = some (.int .u64 L.w0) := cell_blk HR11.out.b5 1; have l2 : w11.cell? ⟨w2.heap.size, 2, none⟩ = some (.int .u64 L.w1) := cell_blk HR11.out.b5 2; have l3 : w11.cell? ⟨w2.heap.size, 3, none⟩ = some (.int .u64 L.w2) := cell_blk HR11.out.b5 3; have l4 : w11.cell? ⟨w2.heap.size, 4, none⟩ = some (.int .u64 L.w3) := cell_blk HR11.out.b5 4; have l5 : w11.cell? ⟨w2.heap.size, 5, none⟩ = some (.int .u64 L.w4) := cell_blk HR11.out.b5 5; have l6 : w11.cell? ⟨w2.heap.size, 6, none⟩ = some (.int .u64 L.w5) := cell_blk HR11.out.b5 6; clear hb8; clear hbw11 how11 hsw11) | (refine wpList_store_all rfl 67 (.tmp 14) (.tmp 97) rfl w11.heap.size #[.int .u64 L'.s, .int .u64 0, .int .u64 0, .int .u64 0, .int .u64 0, .int .u64 0, .int .u64 0] rfl rfl MarkM.zero.V 67 (blk_new w11 _) rfl info_mark (by simp [Value.oneCell']) ?_; intro w12 hb12 ho12 hs12; have Ho12 := hid (((Only.refl (fun _ => False) w11).alloc _).trans ho12 (fun k hk e => by have e' : k = w11.heap.size := e; omega)); have HR12 := hid (HR11.out.step Ho12.out); have Hb14 := hid hb12; have Hb12' := hid (blk_only Hb12.out Ho12.out (fun e => e)); have x0 : w12.cell? ⟨w3.heap.size, 0, none⟩ = some (.slice pa ws.length pc) := cell_blk HR12.out.b7 0; clear hb12 ho12 hs12))
              clear n0 l0 n1 l1 n2 l2 n3 l3 n4 l4 n5 l5 n6 l6
              go_still_tail 4, (by kernel_rfl)
              change wpList _ _ _ _ _ w12.drew
              have HRd := hid (HR12.out.step (Only.refl (fun _ => False) w12).drew)
              refine wpList_cpy_in rfl (.tmp 99) (.tmp 101) 60 60 rfl 43 Try.underlying60 (by kernel_rfl) w11.heap.size 1 6 6 rfl #[.int .u64 L'.s, .int .u64 0, .int .u64 0, .int .u64 0, .int .u64 0, .int .u64 0, .int .u64 0] 67 (blk_only Hb14.out (Only.refl (fun _ => False) w12).drew (fun e => e)) pa ws.length pc rfl (nat64 ws) (by rw [length_nat64]; omega) (addsT (srcV_only Hsv0.out HRd.out.only (fun _ _ e => e)) rfl) (by rw [length_nat64]; show 1 + ws.length ≤ 7; omega) (oneT ws) ?_
              intro w13 hb13 ho13 hs13
              have hb14 := blkMark rfl (by omega) hb13
              rw [← Hll2.out] at hb14
              have hl11 := blk_lt Hb12.out
              have hl5 := blk_lt HR11.out.b5
              have hb12 := blk_only (blk_only Hb12'.out (Only.refl (fun _ => False) w12).drew (fun e => e)) ho13 (show ¬ w10.heap.size = w11.heap.size by omega)
              have Hb13 := hid (blk_only HRd.out.b5 ho13 (show ¬ w2.heap.size = w11.heap.size by omega))
              have n0 : w13.cell? ⟨w10.heap.size, 0, none⟩ = some (.int .u64 L'.s) := cell_blk hb12 0; have n1 : w13.cell? ⟨w10.heap.size, 1, none⟩ = some (.int .u64 L'.w0) := cell_blk hb12 1; have n2 : w13.cell? ⟨w10.heap.size, 2, none⟩ = some (.int .u64 L'.w1) := cell_blk hb12 2; have n3 : w13.cell? ⟨w10.heap.size, 3, none⟩ = some (.int .u64 L'.w2) := cell_blk hb12 3; have n4 : w13.cell? ⟨w10.heap.size, 4, none⟩ = some (.int .u64 L'.w3) := cell_blk hb12 4; have n5 : w13.cell? ⟨w10.heap.size, 5, none⟩ = some (.int .u64 L'.w4) := cell_blk hb12 5; have n6 : w13.cell? ⟨w10.heap.size, 6, none⟩ = some (.int .u64 L'.w5) := cell_blk hb12 6
              have l0 : w13.cell? ⟨w2.heap.size, 0, none⟩ = some (.int .u64 L.s) := cell_blk Hb13.out 0; have l1 : w13.cell? ⟨w2.heap.size, 1, none⟩ = some (.int .u64 L.w0) := cell_blk Hb13.out 1; have l2 : w13.cell? ⟨w2.heap.size, 2, none⟩ = some (.int .u64 L.w1) := cell_blk Hb13.out 2; have l3 : w13.cell? ⟨w2.heap.size, 3, none⟩ = some (.int .u64 L.w2) := cell_blk Hb13.out 3; have l4 : w13.cell? ⟨w2.heap.size, 4, none⟩ = some (.int .u64 L.w3) := cell_blk Hb13.out 4; have l5 : w13.cell? ⟨w2.heap.size, 5, none⟩ = some (.int .u64 L.w4) := cell_blk Hb13.out 5; have l6 : w13.cell? ⟨w2.heap.size, 6, none⟩ = some (.int .u64 L.w5) := cell_blk Hb13.out 6
              have o0 : w13.cell? ⟨w11.heap.size, 0, none⟩ = some (.int .u64 L'.s) := cell_blk hb14 0; have o1 : w13.cell? ⟨w11.heap.size, 1, none⟩ = some (.int .u64 L'.w0) := cell_blk hb14 1; have o2 : w13.cell? ⟨w11.heap.size, 2, none⟩ = some (.int .u64 L'.w1) := cell_blk hb14 2; have o3 : w13.cell? ⟨w11.heap.size, 3, none⟩ = some (.int .u64 L'.w2) := cell_blk hb14 3; have o4 : w13.cell? ⟨w11.heap.size, 4, none⟩ = some (.int .u64 L'.w3) := cell_blk hb14 4; have o5 : w13.cell? ⟨w11.heap.size, 5, none⟩ = some (.int .u64 L'.w4) := cell_blk hb14 5; have o6 : w13.cell? ⟨w11.heap.size, 6, none⟩ = some (.int .u64 L'.w5) := cell_blk hb14 6
              have HF13 : Hid (∀ j, F' j → ¬ j = w11.heap.size) := hid (fun j hj e => by have := HR11.out.disk.lt hj; omega)
              have HR13 : Hid (TR w w13 b w2.heap.size w3.heap.size _ F' L _) := hid ⟨HRd.out.disk.only ho13 HF13.out, Hb13.out, blk_only HRd.out.b7 ho13 (show ¬ w3.heap.size = w11.heap.size by have := blk_lt HR11.out.b7; omega), HRd.out.n5, HRd.out.n7, HRd.out.f0, HRd.out.g5w, HRd.out.only.trans ho13 (fun j hj e => by have e' : j = w11.heap.size := e; have := HR11.out.only.size; omega)⟩
              clear hb13 ho13 hs13 hb12 hb14 x0
              go_wp2_with (refine wpList_store_all rfl 67 (.tmp 5) (.tmp 113) rfl w2.heap.size L'.V rfl rfl L.V 67 HR13.out.b5 rfl info_mark (V_one _) ?_; intro w14 hbw14 how14 hsw14; have Hb5x := hid hbw14; have Hox := hid how14; clear hbw14 how14 hsw14)
              go_roundw
              case rel => exact ⟨k + 1, _, F', L', by go_num, by omega, HR13.out.disk.only Hox.out (fun j hj e => by have e' : j = w2.heap.size := e; exact HR13.out.n5 (e' ▸ hj)), by rw [← hB2]; exact Hts.out, Hb5x.out, HR13.out.n5, HR13.out.f0, HR13.out.g5w, HR13.out.only.trans Hox.out (fun j hj e => by have e' : j = w2.heap.size := e; have := HR13.out.g5w; omega)⟩
              case measure => simp [intOf]; omega
    · obtain rfl : k = ls.length := by omega
      go_wp2_with fail
      go_ret
      exact ⟨rfl, HS.out.only⟩
end Go.Proofs.Ytepndjojodbhdaa
