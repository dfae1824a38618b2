/- MarkPuts: the walk. -/
import Derived.Test.YtepndjojodbhdaaRefE
import Derived.Test.YtepndjojodbhdaaOpenM
import Derived.Test.YtepndjojodbhdaaPend
import Derived.Deep.RegionHeld3
import Derived.Deep.Cut
import Derived.IntWalk
import Derived.Deep.DrawnRows
namespace Go.Proofs.Ytepndjojodbhdaa
open Go.RowKit
attribute [local go_sem ↓] Go.wp_at_zero Go.wp_at_succ

/-- The last mark, as the document has it: in block g8. -/
structure LastAt (wr : World) (g8 : Nat) (F : Nat → Prop) (seq : Nat) (ws : List Nat) (la : Option Addr) (lc : Nat) : Prop where
  blk : wr.heap[g8]? = some (.cells #[.int .u64 seq, .slice la ws.length lc] 62 (0, 0))
  ref : RefV wr (.agg #[.int .u64 seq, .slice la ws.length lc]) seq ws (g8 + 1)
  n8 : ¬ F g8
  na : ∀ g o, la = some ⟨g, o, none⟩ → ¬ F g ∧ g < wr.heap.size
  len : ws.length ≤ 6
/-- What stands between the rounds. -/
structure PutsSt (w wr : World) (b g8 : Nat) (first : Int) (D : DiskM) (F : Nat → Prop) (m0 m1 : MarkM) (seq : Nat) (ws : List Nat) (la : Option Addr) (lc : Nat) : Prop where
  disk : DiskAt wr b D F
  up : D.down = false
  fu : D.fuse < 0
  n : D.n = 5
  pd : ∀ k, D.pend k = none
  sl : 0 ≤ first → first ≤ 3 → Slots (fun k => D.cur (first.toNat + k)) m0 m1 ∧ (seq = 0 → (lastOf m0 m1).s = 0) ∧ (seq ≠ 0 → lastOf m0 m1 = mkMark seq ws)
  lst : LastAt wr g8 F seq ws la lc
  f0 : ∀ k, F k → w.heap.size ≤ k
  g0 : w.heap.size ≤ g8
  only : Only (fun _ => False) w wr
theorem LastAt.only {wr w' : World} {g8 : Nat} {F : Nat → Prop} {seq : Nat} {ws : List Nat} {la : Option Addr} {lc : Nat} (h : LastAt wr g8 F seq ws la lc) (ho : Only (fun _ => False) wr w') : LastAt w' g8 F seq ws la lc := ⟨blk_only h.blk ho (fun e => e), h.ref.only ho (fun _ _ e => e), h.n8, fun g o e => ⟨(h.na g o e).1, Nat.lt_of_lt_of_le (h.na g o e).2 ho.size⟩, h.len⟩
theorem PutsSt.step {w wr w' : World} {b g8 : Nat} {first : Int} {D : DiskM} {F : Nat → Prop} {m0 m1 : MarkM} {seq : Nat} {ws : List Nat} {la : Option Addr} {lc : Nat} (h : PutsSt w wr b g8 first D F m0 m1 seq ws la lc) (ho : Only (fun _ => False) wr w') : PutsSt w w' b g8 first D F m0 m1 seq ws la lc :=
  ⟨h.disk.only ho (fun _ _ e => e), h.up, h.fu, h.n, h.pd, h.sl, h.lst.only ho, h.f0, h.g0, h.only.trans ho (fun _ _ e => e)⟩
theorem LastAt.put {wr w' : World} {g8 : Nat} {F F' : Nat → Prop} {seq : Nat} {ws : List Nat} {la : Option Addr} {lc : Nat} (h : LastAt wr g8 F seq ws la lc) (ho : Only F wr w') (hn : ∀ k, F' k → F k ∨ wr.heap.size ≤ k) : LastAt w' g8 F' seq ws la lc := by
  have hl8 := blk_lt h.blk
  obtain ⟨a, c, e, ⟨a', c', e', hs⟩, hlo⟩ := h.ref.ex
  simp only [Value.agg.injEq, Array.mk.injEq, List.cons.injEq, Value.slice.injEq, and_true, true_and] at e
  obtain ⟨rfl, rfl⟩ := e
  simp only [Value.slice.injEq] at e'
  obtain ⟨rfl, -, rfl⟩ := e'
  refine ⟨blk_only h.blk ho h.n8, ⟨la, lc, rfl, ⟨la, lc, by rw [length_nat64], fun hne => ?_⟩, hlo⟩, fun e => ?_, fun g o e => ⟨fun hF => ?_, Nat.lt_of_lt_of_le (h.na g o e).2 ho.size⟩, h.len⟩
  · obtain ⟨g, o, rfl, hc⟩ := hs hne
    exact ⟨g, o, rfl, fun i u hu => (World.cell?_of_block (ho.block g (World.block_lt_of_cell? _ _ (hc i u hu)) (h.na g o rfl).1)).trans (hc i u hu)⟩
  · rcases hn _ e with e | e
    · exact h.n8 e
    · omega
  · rcases hn _ hF with e1 | e1
    · exact (h.na g o e).1 e1
    · have := (h.na g o e).2
      omega
theorem adds64 {w : World} {a : Option Addr} {n c : Nat} {xs : List Nat} (h : SrcV w (.slice a n c) (nat64 xs)) (hn : xs.length = n) : 0 < n → ∃ ad, a = some ad ∧ ∀ j u, (nat64 xs)[j]? = some u → w.cell? (ad.add j) = some u := fun h0 => by
  obtain ⟨a', c', e, hs⟩ := h
  simp only [Value.slice.injEq] at e
  obtain ⟨rfl, -, -⟩ := e
  obtain ⟨g, o, rfl, hc⟩ := hs (by intro e; have := congrArg List.length e; rw [length_nat64] at this; simp at this; rw [this] at hn; simp at hn; omega)
  exact ⟨_, rfl, fun j u hu => by rw [addr_add]; exact hc j u hu⟩
theorem one64 (xs : List Nat) : ∀ u ∈ nat64 xs, u.oneCell' = true := by
  intro u hu
  obtain ⟨x, _, rfl⟩ := List.mem_map.1 hu
  rfl
theorem cellF {w7 w8 : World} {b i : Nat} {v : Value} (ho : Only (fun _ => False) w7 w8) (hlt : b < w7.heap.size) (h : w7.cell? ⟨b, i, none⟩ = some v) : w8.cell? ⟨b, i, none⟩ = some v :=
  (World.cell?_of_block (a := ⟨b, i, none⟩) (ho.block b hlt (fun e => e))).trans h
theorem puts_bad {D : DiskM} {first : Int} (hn : D.n = 5) (hf : first < 0 ∨ 3 < first) (xs : List Nat) : putR D first xs = (D, MarkM.zero, 1) := by
  have hl : lookR D first = (MarkM.zero, 0, 1) := by
    unfold lookR
    rw [if_pos (by rcases hf with h | h; exact .inl h; exact .inr (.inl (by omega)))]
    unfold lookErr
    rw [if_pos (by rcases hf with h | h; exact .inl h; exact .inr (by omega))]
  unfold putR
  rw [hl]; rfl
theorem puts_long {D : DiskM} {first : Nat} {m0 m1 : MarkM} (h : Slots (fun k => D.cur (first + k)) m0 m1) (hd : D.down = false) (hf : first + 1 < D.n) (xs : List Nat) (h6 : 6 < xs.length) : putR D first xs = (D, MarkM.zero, 2) := by
  unfold putR
  rw [h.lookR hd hf, if_neg (by simp), if_pos h6]
theorem pend_nil {D : DiskM} {ks : List Int} (h : PendOf D ks) (hp : ∀ k, D.pend k = none) : ks = [] := by
  cases ks with
  | nil => rfl
  | cons k ks =>
    obtain ⟨j, -, hj⟩ := (h.2 k).1 List.mem_cons_self
    exact absurd (hp j) hj

set_option maxRecDepth 100000 in
set_option maxHeartbeats 12800000 in
theorem markPuts_c (w : World) (v : Value) (ls : List (List Nat)) (hv : NatsV w v ls) (first : Int) (hfi : first ≤ 9223372036854775807) :
    Calls Try.prog 19 #[v, .int .i64 first] w fun e w' => e = .returned (.bool true) ∧ Only (fun _ => False) w w' := by
  obtain ⟨a, c, rfl, hll, hl⟩ := hv
  have HL := hid hl
  clear hl
  by_cases h20 : 20 < (ls.length : Int)
  · go_enter Try.func19, Try.ntmps19
    go_wp2_with (go_at_call 42; refine (marks_c _).mono ?_; rintro e w1 ⟨rfl, ho1⟩)
    go_ret
    exact ⟨rfl, ho1⟩
  go_enter Try.func19, Try.ntmps19
  go_wp2_with (go_at_call 42; refine (marks_c _).mono ?_; rintro e w1 ⟨rfl, ho1⟩; have Ho1 := hid ho1; clear ho1)
  refine (new_ok w1 5 (by decide) (by decide)).mono ?_
  rintro e w2 ⟨b, F, rfl, hD, ho2, hF⟩
  have HI : Hid (PutsSt w (w2.alloc (.cells #[.int .u64 0, .slice none 0 0] 62)) b w2.heap.size first (DiskM.new 5) F MarkM.zero MarkM.zero 0 [] none 0) := by
    refine hid ⟨hD.only ((Only.refl (fun _ => False) w2).alloc _) (fun _ _ e => e), rfl, by decide, rfl, fun _ => rfl, fun _ _ => ⟨slots_new, fun _ => rfl, fun e => absurd rfl e⟩, ⟨blk_new w2 _, ⟨none, 0, rfl, ⟨none, 0, rfl, fun e => absurd rfl e⟩, fun g o e => (by cases e)⟩, fun e => Nat.lt_irrefl _ (hD.lt e), fun g o e => (by cases e), (by decide)⟩, fun k hk => Nat.le_trans Ho1.out.size (hF k hk), Nat.le_trans Ho1.out.size ho2.size, (Ho1.out.trans ho2 (fun _ _ e => e)).alloc _⟩
  clear hD ho2 hF
  go_wp2_with fail
  go_loopw [29, 7, 10, 11, 12, 13, 14] (fun i sq _ _ _ _ _ wr => ∃ (k : Nat) (D : DiskM) (F : Nat → Prop) (m0 m1 : MarkM) (seq : Nat) (ws : List Nat) (la : Option Addr) (lc : Nat), i = .int .i64 k ∧ k ≤ ls.length ∧ sq = .int .u64 seq ∧ seq ≤ k ∧ PutsSt w wr b w2.heap.size first D F m0 m1 seq ws la lc) (fun i _ _ _ _ _ _ _ => ls.length - (intOf i).toNat)
  case atStart => exact ⟨0, _, _, _, _, 0, _, _, _, rfl, Nat.zero_le _, rfl, Nat.le_refl _, HI.out⟩
  case round =>
    clear HI
    obtain ⟨k, D, F, m0, m1, seq, ws, la, lc, rfl, hk, rfl, hsk, hst⟩ := hrel
    obtain ⟨w3, rfl⟩ : ∃ w3 : World, w3 = wr := ⟨_, rfl⟩
    have HS := hid hst
    clear hst
    by_cases hkl : k < ls.length
    · obtain ⟨hxl, hx64, g, o, pa, pc, rfl, hc, hsv⟩ := HL.out k ls[k] (List.getElem?_eq_getElem hkl)
      obtain ⟨xs, hxs⟩ : ∃ xs, ls[k] = xs := ⟨_, rfl⟩
      rw [hxs] at hxl hx64 hc hsv
      have hcw : w3.cell? ⟨g, o + k, none⟩ = some (.slice pa xs.length pc) := (World.cell?_of_block (HS.out.only.block g (World.block_lt_of_cell? _ _ hc) (fun e => e))).trans hc
      have Hsv0 := hid hsv
      have HSv := hid (srcV_only hsv HS.out.only (fun _ _ e => e))
      have Hx := hid hx64
      clear hc hsv hx64 hxs
      by_cases hx20 : 20 < (xs.length : Int)
      · go_wp2_with fail
        go_ret
        exact ⟨rfl, HS.out.only⟩
      have HP := hid (put_c HS.out.disk first hfi _ xs HSv.out hxl Hx.out)
      by_cases hf : first < 0 ∨ 3 < first
      · rw [puts_bad HS.out.n hf xs] at HP
        clear HSv
        by_cases hf0 : first < 0
        · clear hf
          go_wp2_with (first | (go_at_call 47; refine HP.out.mono ?_; rintro e w4 ⟨rfl, F', hd4, ho4, hn4⟩; have HS4 : Hid (PutsSt w w4 b w2.heap.size first D F' m0 m1 seq ws la lc) := hid ⟨hd4, HS.out.up, HS.out.fu, HS.out.n, HS.out.pd, HS.out.sl, HS.out.lst.put ho4 hn4, fun k hk => by rcases hn4 k hk with e | e; exact HS.out.f0 k e; have := HS.out.only.size; omega, HS.out.g0, HS.out.only.trans ho4 (fun k hk e => by have := HS.out.f0 k e; omega)⟩; clear hd4 ho4 hn4) | (refine wpList_store_all rfl 67 (.tmp 11) (.tmp 41) rfl w4.heap.size MarkM.zero.V rfl rfl MarkM.zero.V 67 (blk_new w4 _) rfl info_mark (V_one _) ?_; intro w5 hb5 ho5 hs5; have HS5 := hid (HS4.out.step (((Only.refl (fun _ => False) w4).alloc _).trans ho5 (fun k hk e => by have e' : k = w4.heap.size := e; omega))); clear hb5 ho5 hs5))
          go_roundw
          case rel => exact ⟨k + 1, D, F', m0, m1, seq, ws, la, lc, by go_num, by omega, rfl, by omega, HS5.out⟩
          case measure => simp [intOf]; omega
        · have hf3 : 3 < first := by omega
          clear hf
          go_wp2_with (first | (go_at_call 47; refine HP.out.mono ?_; rintro e w4 ⟨rfl, F', hd4, ho4, hn4⟩; have HS4 : Hid (PutsSt w w4 b w2.heap.size first D F' m0 m1 seq ws la lc) := hid ⟨hd4, HS.out.up, HS.out.fu, HS.out.n, HS.out.pd, HS.out.sl, HS.out.lst.put ho4 hn4, fun k hk => by rcases hn4 k hk with e | e; exact HS.out.f0 k e; have := HS.out.only.size; omega, HS.out.g0, HS.out.only.trans ho4 (fun k hk e => by have := HS.out.f0 k e; omega)⟩; clear hd4 ho4 hn4) | (refine wpList_store_all rfl 67 (.tmp 11) (.tmp 41) rfl w4.heap.size MarkM.zero.V rfl rfl MarkM.zero.V 67 (blk_new w4 _) rfl info_mark (V_one _) ?_; intro w5 hb5 ho5 hs5; have HS5 := hid (HS4.out.step (((Only.refl (fun _ => False) w4).alloc _).trans ho5 (fun k hk e => by have e' : k = w4.heap.size := e; omega))); clear hb5 ho5 hs5))
          go_roundw
          case rel => exact ⟨k + 1, D, F', m0, m1, seq, ws, la, lc, by go_num, by omega, rfl, by omega, HS5.out⟩
          case measure => simp [intOf]; omega
      · obtain ⟨f, rfl⟩ : ∃ f : Nat, first = f := ⟨first.toNat, by omega⟩
        have hf0 : ¬ (f : Int) < 0 := by omega
        have hf3 : ¬ 3 < (f : Int) := by omega
        have hsl := HS.out.sl (by omega) (by omega)
        rw [Int.toNat_natCast] at hsl
        have Hsl := hid hsl
        clear hf hsl
        by_cases h6 : 6 < (xs.length : Int)
        · rw [puts_long Hsl.out.1 HS.out.up (by rw [HS.out.n]; omega) xs (by omega)] at HP
          clear HSv
          go_wp2_with (first | (go_at_call 47; refine HP.out.mono ?_; rintro e w4 ⟨rfl, F', hd4, ho4, hn4⟩; have HS4 : Hid (PutsSt w w4 b w2.heap.size (f : Int) D F' m0 m1 seq ws la lc) := hid ⟨hd4, HS.out.up, HS.out.fu, HS.out.n, HS.out.pd, HS.out.sl, HS.out.lst.put ho4 hn4, fun k hk => by rcases hn4 k hk with e | e; exact HS.out.f0 k e; have := HS.out.only.size; omega, HS.out.g0, HS.out.only.trans ho4 (fun k hk e => by have := HS.out.f0 k e; omega)⟩; clear hd4 ho4 hn4) | (refine wpList_store_all rfl 67 (.tmp 11) (.tmp 41) rfl w4.heap.size MarkM.zero.V rfl rfl MarkM.zero.V 67 (blk_new w4 _) rfl info_mark (V_one _) ?_; intro w5 hb5 ho5 hs5; have HS5 := hid (HS4.out.step (((Only.refl (fun _ => False) w4).alloc _).trans ho5 (fun k hk e => by have e' : k = w4.heap.size := e; omega))); clear hb5 ho5 hs5))
          by_cases hs0 : seq = 0
          · subst hs0
            have HG := hid (get_st (⟨HS5.out.disk, Hsl.out.1, HS5.out.up, by rw [HS5.out.n]; omega⟩ : MarkSt w5 b f D m0 m1 F') MarkM.zero 4 (by rw [if_pos (Hsl.out.2.1 rfl)]))
            refine HG.out.mono ?_
            rintro e w6 ⟨rfl, ho6⟩
            have HS6 := hid (HS5.out.step ho6)
            clear ho6
            go_wp2_with (refine wpList_store_all rfl 67 (.tmp 13) (.tmp 89) rfl w6.heap.size MarkM.zero.V rfl rfl MarkM.zero.V 67 (blk_new w6 _) rfl info_mark (V_one _) ?_; intro w7 hb7 ho7 hs7; have HS7 := hid (HS6.out.step (((Only.refl (fun _ => False) w6).alloc _).trans ho7 (fun k hk e => by have e' : k = w6.heap.size := e; omega))); clear hb7 ho7 hs7)
            go_roundw
            case rel => exact ⟨k + 1, D, F', m0, m1, 0, ws, la, lc, by go_num, by omega, rfl, by omega, HS7.out⟩
            case measure => simp [intOf]; omega
          · obtain ⟨M, hM⟩ : ∃ M, mkMark seq ws = M := ⟨_, rfl⟩
            have hMl := Hsl.out.2.2 hs0
            have hMs : (mkMark seq ws).s = seq := rfl
            have HG := hid (get_st (⟨HS5.out.disk, Hsl.out.1, HS5.out.up, by rw [HS5.out.n]; omega⟩ : MarkSt w5 b f D m0 m1 F') M 0 (by rw [hMl, hMs, if_neg hs0, hM]))
            have HLk : ∀ w1, RefV w1 (.agg #[.int .u64 seq, .slice la ws.length lc]) seq ws (w2.heap.size + 1) → Hid (Calls Try.prog 46 #[.agg #[.int .u64 M.s, .int .u64 M.w0, .int .u64 M.w1, .int .u64 M.w2, .int .u64 M.w3, .int .u64 M.w4, .int .u64 M.w5], .agg #[.int .u64 seq, .slice la ws.length lc]] w1 fun e w' => e = .returned (.bool true) ∧ Only (fun _ => False) w1 w') := fun w1 hr => hid (by
              have := like_yes w1 _ seq ws _ hr (by have := HS5.out.lst.len; omega)
              rw [hM] at this
              exact this)
            have HLk := hid HLk
            clear hM hMl hMs
            refine HG.out.mono ?_
            rintro e w6 ⟨rfl, ho6⟩
            have HS6 := hid (HS5.out.step ho6)
            have hsq : 0 < (seq : Int) := by omega
            clear ho6 hs0
            go_wp2_with (first | (refine wpList_store_all rfl 67 (.tmp 13) (.tmp 89) rfl w6.heap.size M.V rfl rfl MarkM.zero.V 67 (blk_new w6 _) rfl info_mark (V_one _) ?_; intro w7 hb7 ho7 hs7; have HS7 := hid (HS6.out.step (((Only.refl (fun _ => False) w6).alloc _).trans ho7 (fun k hk e => by have e' : k = w6.heap.size := e; omega))); have x0 : w7.cell? ⟨w6.heap.size, 0, none⟩ = some (.int .u64 M.s) := cell_blk hb7 0; have x1 : w7.cell? ⟨w6.heap.size, 1, none⟩ = some (.int .u64 M.w0) := cell_blk hb7 1; have x2 : w7.cell? ⟨w6.heap.size, 2, none⟩ = some (.int .u64 M.w1) := cell_blk hb7 2; have x3 : w7.cell? ⟨w6.heap.size, 3, none⟩ = some (.int .u64 M.w2) := cell_blk hb7 3; have x4 : w7.cell? ⟨w6.heap.size, 4, none⟩ = some (.int .u64 M.w3) := cell_blk hb7 4; have x5 : w7.cell? ⟨w6.heap.size, 5, none⟩ = some (.int .u64 M.w4) := cell_blk hb7 5; have x6 : w7.cell? ⟨w6.heap.size, 6, none⟩ = some (.int .u64 M.w5) := cell_blk hb7 6; have y0 : w7.cell? ⟨w2.heap.size, 0, none⟩ = some (.int .u64 seq) := cell_blk HS7.out.lst.blk 0; have y1 : w7.cell? ⟨w2.heap.size, 1, none⟩ = some (.slice la ws.length lc) := cell_blk HS7.out.lst.blk 1; clear hb7 ho7 hs7) | (go_at_call 46; refine (HLk.out _ HS7.out.lst.ref).out.mono ?_; rintro e w8 ⟨rfl, ho8⟩; have HS8 := hid (HS7.out.step ho8); clear ho8))
            go_roundw
            case rel => exact ⟨k + 1, D, F', m0, m1, seq, ws, la, lc, by go_num, by omega, rfl, by omega, HS8.out⟩
            case measure => simp [intOf]; omega
        · have hlast : (lastOf m0 m1).s = seq := by
            by_cases e : seq = 0
            · rw [Hsl.out.2.1 e, e]
            · rw [Hsl.out.2.2 e]; rfl
          obtain ⟨M, hM⟩ : ∃ M, mkMark (seq + 1) xs = M := ⟨_, rfl⟩
          have hMs : M.s = seq + 1 := by rw [← hM]; rfl
          have HPt := hid (put_st (⟨HS.out.disk, Hsl.out.1, HS.out.up, by rw [HS.out.n]; omega⟩ : MarkSt w3 b f D m0 m1 F) (.inl HS.out.fu) _ xs HSv.out (by omega) Hx.out M (by rw [hlast, hM]) (by rw [hlast]; omega))
          have HM := hid (And.intro hM hMs)
          obtain ⟨iU, hiU, hU0, hU1, hU2⟩ := info_parts infoU64
          clear HP hlast hM hMs
          go_wp2_with (first | (go_at_call 47; refine HPt.out.mono ?_; rintro e w4 ⟨rfl, D', F', q0, q1, hms, hl', ho4, hn4, hnn, hfu, hpd, hsu⟩; have HD4 := hid hms; have HLs4 := hid (HS.out.lst.put ho4 hn4); have HQ4 := hid (And.intro hl' (And.intro hnn (And.intro hfu (And.intro hpd hsu)))); have HF4 : Hid (∀ k, F' k → w.heap.size ≤ k) := hid (fun k hk => by rcases hn4 k hk with e | e; exact HS.out.f0 k e; have := HS.out.only.size; omega); have Ho4 := hid (HS.out.only.trans ho4 (fun k hk e => by have := HS.out.f0 k e; omega)); clear hms hl' ho4 hn4 hnn hfu hpd hsu) | (refine wpList_store_all rfl 67 (.tmp 11) (.tmp 41) rfl w4.heap.size M.V rfl rfl MarkM.zero.V 67 (blk_new w4 _) rfl info_mark (V_one _) ?_; intro w5 hb5 ho5 hs5; have Ho45 := hid (((Only.refl (fun _ => False) w4).alloc _).trans ho5 (fun k hk e => by have e' : k = w4.heap.size := e; omega)); have Hb5 := hid hb5; have HD5 := hid (HD4.out.only Ho45.out (fun _ _ e => e)); have HLs5 := hid (HLs4.out.only Ho45.out); have Ho5 := hid (Ho4.out.trans Ho45.out (fun _ _ e => e)); clear hb5 ho5 hs5) | (refine wpList_appS rfl (.tmp 46) (.tmp 47) 60 rfl 43 iU (.int .u64 0) 1 8 Try.underlying60 hiU hU0 hU1 hU2 rfl w5.heap.size 0 0 [] rfl (Nat.le_refl _) (Row.new' w5 [] _ _ rfl) rfl pa xs.length pc rfl (nat64 xs) (by rw [length_nat64, Nat.mul_one]) (adds64 (srcV_only Hsv0.out (Ho5.out.alloc _) (fun _ _ e => e)) rfl) (one64 xs) (by omega) (by omega) ?_; intro g' cap' w6 hcap6 hrow6 hg6 ho6; have Hrow6 := hid hrow6; have Hg6 := hid hg6; have Ho56 := hid (((Only.refl (fun _ => False) w5).alloc _).trans ho6 (fun k hk e => by have e' : k = w5.heap.size := e; omega)); have Ho6 := hid (Ho5.out.trans Ho56.out (fun _ _ e => e)); have Hb6 := hid (blk_only Hb5.out Ho56.out (fun e => e)); have HD6 := hid (HD5.out.only Ho56.out (fun _ _ e => e)); have HLs6 := hid (HLs5.out.only Ho56.out); clear hrow6 hg6 ho6 hcap6) | (refine wpList_store_all rfl 62 (.tmp 8) (.tmp 49) rfl w2.heap.size #[.int .u64 ((seq : Int) + 1), .slice (some ⟨g', 0, none⟩) xs.length cap'] rfl rfl #[.int .u64 seq, .slice la ws.length lc] 62 HLs6.out.blk rfl info_ref (by simp [Value.oneCell']) ?_; intro w7 hb7 ho7 hs7; have Hb7 := hid hb7; have Ho67 := hid ho7; clear hb7 ho7 hs7))
          have hge : w5.heap.size ≤ g' := by rcases Hg6.out with e | e; omega; (simp at e; omega)
          have hlt8 := blk_lt HLs5.out.blk
          have hlst : LastAt w7 w2.heap.size F' (seq + 1) xs (some ⟨g', 0, none⟩) cap' := by
            have hrow7 := Hrow6.out.only Ho67.out (by show ¬ g' = w2.heap.size; omega)
            rw [List.nil_append] at hrow7
            have hblk7 := Hb7.out
            rw [show ((seq : Int) + 1) = ((seq + 1 : Nat) : Int) from by omega] at hblk7
            refine ⟨hblk7, ⟨_, _, rfl, ⟨_, _, by rw [length_nat64], fun _ => ⟨g', 0, rfl, fun i u hu => ?_⟩⟩, fun g2 o2 e => ?_⟩, HLs5.out.n8, fun g2 o2 e => ⟨fun hF => ?_, ?_⟩, by omega⟩
            · have := hrow7.news i u hu
              rw [addr_add] at this
              exact this
            · simp only [Option.some.injEq, Addr.mk.injEq] at e; omega
            · simp only [Option.some.injEq, Addr.mk.injEq] at e
              have := HD5.out.disk.lt hF; omega
            · simp only [Option.some.injEq, Addr.mk.injEq] at e
              have := hrow7.lt; omega
          have HS7 : Hid (PutsSt w w7 b w2.heap.size (f : Int) D' F' q0 q1 (seq + 1) xs (some ⟨g', 0, none⟩) cap') := hid ⟨HD6.out.disk.only Ho67.out (fun k hk e => HLs5.out.n8 (by have e' : k = w2.heap.size := e; rw [← e']; exact hk)), HD6.out.up, by rw [HQ4.out.2.2.1, if_pos HS.out.fu]; exact HS.out.fu, by rw [HQ4.out.2.1]; exact HS.out.n, HQ4.out.2.2.2.1, fun _ _ => ⟨by rw [Int.toNat_natCast]; exact HD6.out.sl, fun e => by omega, fun _ => by rw [HQ4.out.1]; exact HM.out.1.symm⟩, hlst, HF4.out, HS.out.g0, Ho6.out.trans Ho67.out (fun k hk e => by have e' : k = w2.heap.size := e; have := HS.out.g0; omega)⟩
          have hb117 := blk_only Hb6.out Ho67.out (show ¬ w4.heap.size = w2.heap.size from fun e => by have := blk_lt HLs4.out.blk; omega)
          have d0 : w7.cell? ⟨w4.heap.size, 0, none⟩ = some (.int .u64 M.s) := cell_blk hb117 0
          have d1 : w7.cell? ⟨w4.heap.size, 1, none⟩ = some (.int .u64 M.w0) := cell_blk hb117 1
          have d2 : w7.cell? ⟨w4.heap.size, 2, none⟩ = some (.int .u64 M.w1) := cell_blk hb117 2
          have d3 : w7.cell? ⟨w4.heap.size, 3, none⟩ = some (.int .u64 M.w2) := cell_blk hb117 3
          have d4 : w7.cell? ⟨w4.heap.size, 4, none⟩ = some (.int .u64 M.w3) := cell_blk hb117 4
          have d5 : w7.cell? ⟨w4.heap.size, 5, none⟩ = some (.int .u64 M.w4) := cell_blk hb117 5
          have d6 : w7.cell? ⟨w4.heap.size, 6, none⟩ = some (.int .u64 M.w5) := cell_blk hb117 6
          have y0 : w7.cell? ⟨w2.heap.size, 0, none⟩ = some (.int .u64 ((seq : Int) + 1)) := cell_blk Hb7.out 0
          have y1 : w7.cell? ⟨w2.heap.size, 1, none⟩ = some (.slice (some ⟨g', 0, none⟩) xs.length cap') := cell_blk Hb7.out 1
          have Hlt7 := hid (And.intro (blk_lt Hb7.out) (blk_lt hb117))
          have he1 : ((seq + 1 : Nat) : Int) = (seq : Int) + 1 := by omega
          have HLk : ∀ w1, Only (fun _ => False) w7 w1 → Hid (Calls Try.prog 46 #[.agg #[.int .u64 M.s, .int .u64 M.w0, .int .u64 M.w1, .int .u64 M.w2, .int .u64 M.w3, .int .u64 M.w4, .int .u64 M.w5], .agg #[.int .u64 ((seq : Int) + 1), .slice (some ⟨g', 0, none⟩) xs.length cap']] w1 fun e w' => e = .returned (.bool true) ∧ Only (fun _ => False) w1 w') := fun w1 ho => hid (by
            have := like_yes w1 _ (seq + 1) xs _ (hlst.ref.only ho (fun _ _ e => e)) (by omega)
            rw [HM.out.1, he1] at this
            exact this)
          have HTx : ∀ w1, Only (fun _ => False) w7 w1 → Hid (Calls Try.prog 68 #[.agg #[.int .u64 ((seq : Int) + 1), .slice (some ⟨g', 0, none⟩) xs.length cap']] w1 fun e w' => e = .returned (.string (strOf (enc M))) ∧ Only (fun _ => False) w1 w') := fun w1 ho => hid (by
            have := text_c w1 _ (seq + 1) xs _ (hlst.ref.only ho (fun _ _ e => e)) (by omega) Hx.out (by omega)
            rw [HM.out.1, he1] at this
            exact this)
          obtain ⟨sp, hsp⟩ : ∃ sp : Int, (f : Int) + ((seq : Int) + 1) % 2 = sp := ⟨_, rfl⟩
          have HSu : ∀ w1, Only (fun _ => False) w7 w1 → Hid (Calls Try.prog 44 #[.pointer (some ⟨b, 0, none⟩), .int .i64 sp] w1 fun e w' => e = .returned (.string (strOf (enc M))) ∧ Only (fun _ => False) w1 w') := fun w1 ho => hid (by
            have := sure_c (HS7.out.disk.only ho (fun _ _ e => e)) (f + (seq + 1) % 2) (by rw [HS7.out.n]; omega)
            rw [HQ4.out.2.2.2.2, HM.out.2, if_pos rfl, show ((f + (seq + 1) % 2 : Nat) : Int) = sp from by rw [← hsp]; omega] at this
            exact this)
          have hwt : ((seq : Int) + 1).tmod 2 = ((seq : Int) + 1) % 2 := Int.tmod_eq_emod_of_nonneg (by omega)
          have hwc : IntKind.i64.wrap (((seq : Int) + 1) % 2) = ((seq : Int) + 1) % 2 := IntWalk.i64_in _ (by omega)
          have hwp : IntKind.i64.wrap ((f : Int) + ((seq : Int) + 1) % 2) = sp := by rw [← hsp]; exact IntWalk.i64_in _ (by omega)
          have hwq : IntKind.i64.wrap ((f : Int) + IntKind.i64.wrap (((seq : Int) + 1).tmod 2)) = sp := by rw [hwt, hwc]; exact hwp
          have hwr : IntKind.i64.wrap sp = sp := IntWalk.i64_in _ (by omega)
          have hse : ((strOf (enc M)).toList == (strOf (enc M)).toList) = true := beq_self_eq_true _
          have HLk := hid HLk; have HTx := hid HTx; have HSu := hid HSu
          have Hb7r := hid hb117
          clear hlst hb117 he1 hge hlt8 hiU hU0 hU1 hU2
          clear h20 hx20
          go_region_held3 (fun W' => W'.cell? ⟨w4.heap.size, 0, none⟩ = some (.int .u64 M.s) ∧ W'.cell? ⟨w4.heap.size, 1, none⟩ = some (.int .u64 M.w0) ∧ W'.cell? ⟨w4.heap.size, 2, none⟩ = some (.int .u64 M.w1) ∧ W'.cell? ⟨w4.heap.size, 3, none⟩ = some (.int .u64 M.w2) ∧ W'.cell? ⟨w4.heap.size, 4, none⟩ = some (.int .u64 M.w3) ∧ W'.cell? ⟨w4.heap.size, 5, none⟩ = some (.int .u64 M.w4) ∧ W'.cell? ⟨w4.heap.size, 6, none⟩ = some (.int .u64 M.w5) ∧ W'.cell? ⟨w2.heap.size, 0, none⟩ = some (.int .u64 ((seq : Int) + 1)) ∧ W'.cell? ⟨w2.heap.size, 1, none⟩ = some (.slice (some ⟨g', 0, none⟩) xs.length cap')) ((first | exact ⟨cellF Ho10.out Hlt7.out.2 d0, cellF Ho10.out Hlt7.out.2 d1, cellF Ho10.out Hlt7.out.2 d2, cellF Ho10.out Hlt7.out.2 d3, cellF Ho10.out Hlt7.out.2 d4, cellF Ho10.out Hlt7.out.2 d5, cellF Ho10.out Hlt7.out.2 d6, cellF Ho10.out Hlt7.out.1 y0, cellF Ho10.out Hlt7.out.1 y1⟩ | exact ⟨cellF Ho9.out Hlt7.out.2 d0, cellF Ho9.out Hlt7.out.2 d1, cellF Ho9.out Hlt7.out.2 d2, cellF Ho9.out Hlt7.out.2 d3, cellF Ho9.out Hlt7.out.2 d4, cellF Ho9.out Hlt7.out.2 d5, cellF Ho9.out Hlt7.out.2 d6, cellF Ho9.out Hlt7.out.1 y0, cellF Ho9.out Hlt7.out.1 y1⟩ | exact ⟨cellF Ho8.out Hlt7.out.2 d0, cellF Ho8.out Hlt7.out.2 d1, cellF Ho8.out Hlt7.out.2 d2, cellF Ho8.out Hlt7.out.2 d3, cellF Ho8.out Hlt7.out.2 d4, cellF Ho8.out Hlt7.out.2 d5, cellF Ho8.out Hlt7.out.2 d6, cellF Ho8.out Hlt7.out.1 y0, cellF Ho8.out Hlt7.out.1 y1⟩ | go_keep)) ((first | (go_at_call 46; refine (HLk.out _ ((Only.refl (fun _ => False) w7).drew)).out.mono ?_; rintro e w8 ⟨rfl, ho8⟩; have Ho8 : Hid (Only (fun _ => False) w7 w8) := hid ((Only.refl (fun _ => False) w7).drew.trans ho8 (fun _ _ e => e)); clear ho8) | (go_at_call 44; (try rw [hwq]); (try rw [hwr]); refine (HSu.out _ Ho8.out).out.mono ?_; rintro e w9 ⟨rfl, ho9⟩; have Ho9 : Hid (Only (fun _ => False) w7 w9) := hid (Ho8.out.trans ho9 (fun _ _ e => e)); clear ho9) | (go_at_call 68; refine (HTx.out _ Ho9.out).out.mono ?_; rintro e w10 ⟨rfl, ho10⟩; have Ho10 : Hid (Only (fun _ => False) w7 w10) := hid (Ho9.out.trans ho10 (fun _ _ e => e)); clear ho10)))
          have HS10 := hid (HS7.out.step Ho10.out)
          have HG := hid (get_st (⟨HS10.out.disk, HD6.out.sl, HS10.out.up, by rw [HS10.out.n]; omega⟩ : MarkSt w10 b f D' q0 q1 F') M 0 (by rw [HQ4.out.1, HM.out.2, if_neg (by omega)]))
          clear d0 d1 d2 d3 d4 d5 d6 y0 y1
          have hsq : 0 < (seq : Int) + 1 := by omega
          have hsn : ¬ (seq : Int) + 1 = 0 := by omega
          go_wp2_with fail
          refine HG.out.mono ?_
          rintro e w11 ⟨rfl, ho11⟩
          have HS11 := hid (HS10.out.step ho11)
          have Ho11 := hid (Ho10.out.trans ho11 (fun _ _ e => e))
          clear ho11
          go_wp2_with (first | (refine wpList_store_all rfl 67 (.tmp 13) (.tmp 89) rfl w11.heap.size M.V rfl rfl MarkM.zero.V 67 (blk_new w11 _) rfl info_mark (V_one _) ?_; intro w12 hb12 ho12 hs12; have Ho112 := hid (((Only.refl (fun _ => False) w11).alloc _).trans ho12 (fun k hk e => by have e' : k = w11.heap.size := e; omega)); have HS12 := hid (HS11.out.step Ho112.out); have Ho12 := hid (Ho11.out.trans Ho112.out (fun _ _ e => e)); have x0 : w12.cell? ⟨w11.heap.size, 0, none⟩ = some (.int .u64 M.s) := cell_blk hb12 0; have x1 : w12.cell? ⟨w11.heap.size, 1, none⟩ = some (.int .u64 M.w0) := cell_blk hb12 1; have x2 : w12.cell? ⟨w11.heap.size, 2, none⟩ = some (.int .u64 M.w1) := cell_blk hb12 2; have x3 : w12.cell? ⟨w11.heap.size, 3, none⟩ = some (.int .u64 M.w2) := cell_blk hb12 3; have x4 : w12.cell? ⟨w11.heap.size, 4, none⟩ = some (.int .u64 M.w3) := cell_blk hb12 4; have x5 : w12.cell? ⟨w11.heap.size, 5, none⟩ = some (.int .u64 M.w4) := cell_blk hb12 5; have x6 : w12.cell? ⟨w11.heap.size, 6, none⟩ = some (.int .u64 M.w5) := cell_blk hb12 6; have y0 : w12.cell? ⟨w2.heap.size, 0, none⟩ = some (.int .u64 ((seq : Int) + 1)) := cell_blk HS12.out.lst.blk 0; have y1 : w12.cell? ⟨w2.heap.size, 1, none⟩ = some (.slice (some ⟨g', 0, none⟩) xs.length cap') := cell_blk HS12.out.lst.blk 1; clear hb12 ho12 hs12) | (go_at_call 46; refine (HLk.out _ Ho12.out).out.mono ?_; rintro e w13 ⟨rfl, ho13⟩; have HS13 := hid (HS12.out.step ho13); clear ho13))
          go_roundw
          case rel => exact ⟨k + 1, D', F', q0, q1, seq + 1, xs, some ⟨g', 0, none⟩, cap', by go_num, by omega, by go_num, by omega, HS13.out⟩
          case measure => simp [intOf]; omega
    · obtain rfl : k = ls.length := by omega
      go_wp2_with fail
      refine (pending_c HS.out.disk).mono ?_
      rintro e w4 ⟨bo, cp, ks, rfl, -, ho4, hpo, -⟩
      obtain rfl := pend_nil hpo HS.out.pd
      go_wp2_with fail
      go_ret
      exact ⟨rfl, HS.out.only.trans ho4 (fun _ _ e => e)⟩
end Go.Proofs.Ytepndjojodbhdaa
