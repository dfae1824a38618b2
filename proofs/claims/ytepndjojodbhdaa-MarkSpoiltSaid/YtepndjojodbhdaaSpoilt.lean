/- MarkSpoilt: the walk. -/
import Derived.Test.YtepndjojodbhdaaSpoiltL
import Derived.Test.YtepndjojodbhdaaOpenM
import Derived.IntWalk
namespace Go.Proofs.Ytepndjojodbhdaa
open Go.RowKit

/-- What stands between the rounds. -/
structure SpSt (w wr : World) (b : Nat) (D : DiskM) (F : Nat → Prop) (P L : MarkM) (ms : List MarkM) (ao : Option Addr) (cap : Nat) : Prop where
  disk : DiskAt wr b D F
  two : TwoM D ms.length P L
  l : 0 < ms.length → ms[ms.length - 1]? = some L
  p : 1 < ms.length → ms[ms.length - 2]? = some P
  out : MOut wr ao cap ms w.heap.size
  nao : ∀ g, ao = some ⟨g, 0, none⟩ → ¬ F g ∧ g < wr.heap.size
  f0 : ∀ k, F k → w.heap.size ≤ k
  only : Only (fun _ => False) w wr
theorem SpSt.step {w wr w' : World} {b : Nat} {D : DiskM} {F : Nat → Prop} {P L : MarkM} {ms : List MarkM} {ao : Option Addr} {cap : Nat} (h : SpSt w wr b D F P L ms ao cap) (ho : Only (fun _ => False) wr w') : SpSt w w' b D F P L ms ao cap :=
  ⟨h.disk.only ho (fun _ _ e => e), h.two, h.l, h.p, h.out.only ho (fun _ _ e => e), fun g e => ⟨(h.nao g e).1, Nat.lt_of_lt_of_le (h.nao g e).2 ho.size⟩, h.f0, h.only.trans ho (fun _ _ e => e)⟩
/-- A mark is put and laid behind the others. -/
theorem SpSt.put {w wr w4 w5 w6 : World} {b : Nat} {D D' : DiskM} {F F' : Nat → Prop} {P L L' : MarkM} {ms : List MarkM} {ao ao' : Option Addr} {cap cap' : Nat} (h : SpSt w wr b D F P L ms ao cap)
    (hd : DiskAt w4 b D' F') (ho : Only F wr w4) (hn : ∀ k, F' k → F k ∨ wr.heap.size ≤ k) (ht : TwoM D' (ms.length + 1) L L') (h45 : Only (fun _ => False) w4 w5)
    (hm : MOut w6 ao' cap' (ms ++ [L']) w.heap.size) (hg : ∀ g, ao' = some ⟨g, 0, none⟩ → ao = some ⟨g, 0, none⟩ ∨ w5.heap.size ≤ g) (ho6 : Only (fun k => ao = some ⟨k, 0, none⟩) w5 w6) : SpSt w w6 b D' F' L L' (ms ++ [L']) ao' cap' := by
  have hF' : ∀ k, F' k → ¬ ao = some ⟨k, 0, none⟩ := fun k hk e => by
    rcases hn k hk with e' | e'
    · exact (h.nao k e).1 e'
    · have := (h.nao k e).2; omega
  have hd5 := hd.only h45 (fun _ _ e => e)
  refine ⟨hd5.only ho6 hF', by rw [List.length_append]; exact ht, fun _ => by simp, fun h1 => ?_, hm, fun g e => ⟨fun hFg => ?_, ?_⟩, fun k hk => ?_, ?_⟩
  · simp only [List.length_append, List.length_cons, List.length_nil] at h1 ⊢
    rw [show ms.length + (0 + 1) - 2 = ms.length - 1 from by omega, List.getElem?_append_left (by omega)]
    exact h.l (by omega)
  · rcases hg g e with e' | e'
    · exact hF' g hFg e'
    · have := hd5.lt hFg; omega
  · rcases hm with ⟨e', -, -⟩ | ⟨g', e', -, hr⟩
    · rw [e'] at e; cases e
    · rw [e'] at e; simp only [Option.some.injEq, Addr.mk.injEq] at e
      rw [← e.1]; exact hr.lt
  · rcases hn k hk with e | e
    · exact h.f0 k e
    · have := h.only.size; omega
  · refine ((h.only.trans ho (fun k hk e => by have := h.f0 k e; omega)).trans h45 (fun _ _ e => e)).trans ho6 (fun k hk e => ?_)
    rcases h.out with ⟨e', -, -⟩ | ⟨g', e', hg', -⟩
    · rw [e'] at e; cases e
    · rw [e'] at e; simp only [Option.some.injEq, Addr.mk.injEq] at e; omega
theorem MOut.cell {w : World} {ao : Option Addr} {cap : Nat} {ms : List MarkM} {lo : Nat} (h : MOut w ao cap ms lo) {g : Nat} (e : ao = some ⟨g, 0, none⟩) (i j : Nat) (m : MarkM) (u : Value) (hi : ms[i]? = some m) (hu : m.V.toList[j]? = some u) : w.cell? ⟨g, i * 7 + j, none⟩ = some u := by
  rcases h with ⟨e', -, -⟩ | ⟨g', e', -, hr⟩
  · rw [e'] at e; cases e
  · rw [e'] at e; simp only [Option.some.injEq, Addr.mk.injEq] at e
    rw [← e.1]
    have hg := marksV_get ms i j m u hi hu
    rw [hr.cell _ (by rcases Nat.lt_or_ge (i * 7 + j) (marksV ms).length with g | g; exact g; rw [List.getElem?_eq_none g] at hg; cases hg)]
    exact hg
theorem two_blk (w : World) (o1 o2 : Array Value) : ((w.alloc (.cells o1 67)).alloc (.cells o2 67)).drew.heap[w.heap.size]? = some (.cells o1 67 (0, 0)) ∧ ((w.alloc (.cells o1 67)).alloc (.cells o2 67)).drew.heap[w.heap.size + 1]? = some (.cells o2 67 (0, 0)) ∧ Only (fun _ => False) w ((w.alloc (.cells o1 67)).alloc (.cells o2 67)).drew := by
  have hd : Only (fun _ => False) ((w.alloc (.cells o1 67)).alloc (.cells o2 67)) ((w.alloc (.cells o1 67)).alloc (.cells o2 67)).drew := (Only.refl _ _).drew
  have h1 := blk_only (blk_alloc (o' := .cells o2 67) (blk_new w (.cells o1 67))) hd (fun e => e)
  have h2 := blk_only (blk_new (w.alloc (.cells o1 67)) (.cells o2 67)) hd (fun e => e)
  rw [World.size_alloc] at h2
  exact ⟨h1, h2, (((Only.refl _ w).alloc _).alloc _).trans hd (fun _ _ e => e)⟩

set_option maxRecDepth 100000 in
set_option maxHeartbeats 12800000 in
theorem markSpoilt_c (w : World) (v : Value) (ls : List (List Nat)) (hv : NatsV w v ls) (at' : Int) (x : UInt8) :
    Calls Try.prog 9 #[v, .int .i64 at', .int .u8 (x.toNat : Nat)] w fun e w' => e = .returned (.bool true) ∧ Only (fun _ => False) w w' := by
  obtain ⟨a, c, rfl, hll, hl⟩ := hv
  have HL := hid hl
  clear hl
  by_cases h0 : (ls.length : Int) < 2
  · go_enter Try.func9, Try.ntmps9
    go_wp2_with (go_at_call 42; refine (marks_c _).mono ?_; rintro e w1 ⟨rfl, ho1⟩; have Ho1 := hid ho1; clear ho1)
    go_ret
    exact ⟨rfl, Ho1.out⟩
  by_cases h1 : 10 < (ls.length : Int)
  · go_enter Try.func9, Try.ntmps9
    go_wp2_with (go_at_call 42; refine (marks_c _).mono ?_; rintro e w1 ⟨rfl, ho1⟩; have Ho1 := hid ho1; clear ho1)
    go_ret
    exact ⟨rfl, Ho1.out⟩
  by_cases h2 : at' < 0
  · go_enter Try.func9, Try.ntmps9
    go_wp2_with (go_at_call 42; refine (marks_c _).mono ?_; rintro e w1 ⟨rfl, ho1⟩; have Ho1 := hid ho1; clear ho1)
    go_ret
    exact ⟨rfl, Ho1.out⟩
  by_cases h3 : 112 ≤ at'
  · go_enter Try.func9, Try.ntmps9
    go_wp2_with (go_at_call 42; refine (marks_c _).mono ?_; rintro e w1 ⟨rfl, ho1⟩; have Ho1 := hid ho1; clear ho1)
    go_ret
    exact ⟨rfl, Ho1.out⟩
  by_cases h4 : (x.toNat : Int) = 0
  · go_enter Try.func9, Try.ntmps9
    go_wp2_with (go_at_call 42; refine (marks_c _).mono ?_; rintro e w1 ⟨rfl, ho1⟩; have Ho1 := hid ho1; clear ho1)
    go_ret
    exact ⟨rfl, Ho1.out⟩
  have hx0 : ((x.toNat : Int) == 0) = false := by simpa using h4
  have hx1 : ¬ x.toNat = 0 := by omega
  have hx2 : x ≠ 0 := fun e => hx1 (by rw [e]; rfl)
  have Hx2 := hid hx2
  go_enter Try.func9, Try.ntmps9
  go_wp2_with (go_at_call 42; refine (marks_c _).mono ?_; rintro e w1 ⟨rfl, ho1⟩; have Ho1 := hid ho1; clear ho1)
  refine (new_ok w1 2 (by decide) (by decide)).mono ?_
  rintro e w2 ⟨b, F, rfl, hD, ho2, hF⟩
  have HI : Hid (SpSt w w2 b (DiskM.new 2) F MarkM.zero MarkM.zero [] none 0) :=
    hid ⟨hD, two_new, fun h => absurd h (by decide), fun h => absurd h (by decide), .inl ⟨rfl, rfl, rfl⟩, fun g e => (by cases e), fun k hk => Nat.le_trans Ho1.out.size (hF k hk), Ho1.out.trans ho2 (fun _ _ e => e)⟩
  clear hD ho2 hF
  go_wp2_with fail
  go_loopw [51, 9, 11, 12, 13] (fun i al _ _ _ wr => ∃ (k : Nat) (D : DiskM) (F : Nat → Prop) (P L : MarkM) (ms : List MarkM) (ao : Option Addr) (cap : Nat), i = .int .i64 k ∧ k ≤ ls.length ∧ ms.length = k ∧ al = .slice ao k cap ∧ SpSt w wr b D F P L ms ao cap) (fun i _ _ _ _ _ => ls.length - (intOf i).toNat)
  case atStart => exact ⟨0, _, _, _, _, [], none, 0, rfl, Nat.zero_le _, rfl, rfl, HI.out⟩
  case round =>
    clear HI
    obtain ⟨k, D, F, P, L, ms, ao, cap, rfl, hk, hmk, rfl, hst⟩ := hrel
    obtain ⟨w3, rfl⟩ : ∃ w3 : World, w3 = wr := ⟨_, rfl⟩
    have HS := hid hst
    clear hst
    by_cases hkl : k < ls.length
    · obtain ⟨hxl, hx64, g, o, pa, pc, rfl, hc, hsv⟩ := HL.out k ls[k] (List.getElem?_eq_getElem hkl)
      obtain ⟨xs, hxs⟩ : ∃ xs, ls[k] = xs := ⟨_, rfl⟩
      rw [hxs] at hxl hx64 hc hsv
      have hcw : w3.cell? ⟨g, o + k, none⟩ = some (.slice pa xs.length pc) := (World.cell?_of_block (HS.out.only.block g (World.block_lt_of_cell? _ _ hc) (fun e => e))).trans hc
      have HSv := hid (srcV_only hsv HS.out.only (fun _ _ e => e))
      have Hx := hid hx64
      clear hc hsv hx64 hxs
      by_cases h6 : 6 < (xs.length : Int)
      · go_wp2_with fail
        go_ret
        exact ⟨rfl, HS.out.only⟩
      obtain ⟨D', L', hpr, htw⟩ := HS.out.two.put (by omega) xs (by omega) Hx.out
      have HP := hid (put_c HS.out.disk 0 (by decide) _ xs HSv.out hxl Hx.out)
      rw [hpr] at HP
      have Htw := hid htw
      have Hmk := hid hmk
      clear hpr htw
      go_wp2_with (first | (go_at_call 47; refine HP.out.mono ?_; rintro e w4 ⟨rfl, F', hd4, ho4, hn4⟩; have HD4 := hid hd4; have Ho4 := hid ho4; have Hn4 := hid hn4; clear hd4 ho4 hn4) | (refine wpList_store_all rfl 67 (.tmp 12) (.tmp 62) rfl w4.heap.size L'.V rfl rfl MarkM.zero.V 67 (blk_new w4 _) rfl info_mark (V_one _) ?_; intro w5 hb5 ho5 hs5; have Ho45 := hid (((Only.refl (fun _ => False) w4).alloc _).trans ho5 (fun k hk e => by have e' : k = w4.heap.size := e; omega)); have x0 : w5.cell? ⟨w4.heap.size, 0, none⟩ = some (.int .u64 L'.s) := cell_blk hb5 0; have x1 : w5.cell? ⟨w4.heap.size, 1, none⟩ = some (.int .u64 L'.w0) := cell_blk hb5 1; have x2 : w5.cell? ⟨w4.heap.size, 2, none⟩ = some (.int .u64 L'.w1) := cell_blk hb5 2; have x3 : w5.cell? ⟨w4.heap.size, 3, none⟩ = some (.int .u64 L'.w2) := cell_blk hb5 3; have x4 : w5.cell? ⟨w4.heap.size, 4, none⟩ = some (.int .u64 L'.w3) := cell_blk hb5 4; have x5 : w5.cell? ⟨w4.heap.size, 5, none⟩ = some (.int .u64 L'.w4) := cell_blk hb5 5; have x6 : w5.cell? ⟨w4.heap.size, 6, none⟩ = some (.int .u64 L'.w5) := cell_blk hb5 6; clear hb5 ho5 hs5) | (refine wpList_addm rfl (.tmp 64) (.tmp 66) rfl ao cap w.heap.size k ms Hmk.out rfl (((HS.out.out.only Ho4.out (fun g e => (HS.out.nao g e).1)).only Ho45.out (fun _ _ e => e)).only ((Only.refl (fun _ => False) w5).alloc _) (fun _ _ e => e)) (by have := HS.out.only.size; have := Ho4.out.size; have := Ho45.out.size; simp only [World.size_alloc]; omega) w5.heap.size L' rfl (fun j u hu => (cell_blk (blk_new w5 (.cells L'.V 67)) j).trans (by simpa using hu)) (by omega) ?_; intro ao' cap' w6 hm6 hg6 ho6; have HS6 := hid (HS.out.put HD4.out Ho4.out Hn4.out (by rw [Hmk.out]; rw [← Hmk.out]; exact Htw.out) (Ho45.out.alloc _) hm6 hg6 ho6); clear hm6 hg6 ho6))
      go_roundw
      case rel => exact ⟨k + 1, D', F', L, L', ms ++ [L'], ao', cap', by go_num, by omega, by rw [List.length_append, Hmk.out]; rfl, by go_num, HS6.out⟩
      case measure => simp [intOf]; omega
    · obtain ⟨j, rfl⟩ : ∃ j, k = j + 2 := ⟨k - 2, by omega⟩
      have hjl : ¬ ((j : Int) + 2 < ls.length) := by omega
      obtain ⟨g, hao, hgl⟩ : ∃ g, ao = some ⟨g, 0, none⟩ ∧ g < w3.heap.size := by
        rcases HS.out.out with ⟨-, -, e⟩ | ⟨g, e, -, hr⟩
        · rw [e] at hmk; simp at hmk
        · exact ⟨g, e, hr.lt⟩
      subst hao
      have HLm := hid (HS.out.l (by omega)); have HPm := hid (HS.out.p (by omega))
      rw [hmk, show j + 2 - 1 = j + 1 from rfl] at HLm
      rw [hmk, show j + 2 - 2 = j from rfl] at HPm
      have l0 : w3.cell? ⟨g, (j + 1) * 7, none⟩ = some (.int .u64 L.s) := HS.out.out.cell rfl (j + 1) 0 L _ HLm.out rfl
      have l1 : w3.cell? ⟨g, (j + 1) * 7 + 1, none⟩ = some (.int .u64 L.w0) := HS.out.out.cell rfl (j + 1) 1 L _ HLm.out rfl
      have l2 : w3.cell? ⟨g, (j + 1) * 7 + 2, none⟩ = some (.int .u64 L.w1) := HS.out.out.cell rfl (j + 1) 2 L _ HLm.out rfl
      have l3 : w3.cell? ⟨g, (j + 1) * 7 + 3, none⟩ = some (.int .u64 L.w2) := HS.out.out.cell rfl (j + 1) 3 L _ HLm.out rfl
      have l4 : w3.cell? ⟨g, (j + 1) * 7 + 4, none⟩ = some (.int .u64 L.w3) := HS.out.out.cell rfl (j + 1) 4 L _ HLm.out rfl
      have l5 : w3.cell? ⟨g, (j + 1) * 7 + 5, none⟩ = some (.int .u64 L.w4) := HS.out.out.cell rfl (j + 1) 5 L _ HLm.out rfl
      have l6 : w3.cell? ⟨g, (j + 1) * 7 + 6, none⟩ = some (.int .u64 L.w5) := HS.out.out.cell rfl (j + 1) 6 L _ HLm.out rfl
      have p0 : w3.cell? ⟨g, j * 7, none⟩ = some (.int .u64 P.s) := HS.out.out.cell rfl j 0 P _ HPm.out rfl
      have p1 : w3.cell? ⟨g, j * 7 + 1, none⟩ = some (.int .u64 P.w0) := HS.out.out.cell rfl j 1 P _ HPm.out rfl
      have p2 : w3.cell? ⟨g, j * 7 + 2, none⟩ = some (.int .u64 P.w1) := HS.out.out.cell rfl j 2 P _ HPm.out rfl
      have p3 : w3.cell? ⟨g, j * 7 + 3, none⟩ = some (.int .u64 P.w2) := HS.out.out.cell rfl j 3 P _ HPm.out rfl
      have p4 : w3.cell? ⟨g, j * 7 + 4, none⟩ = some (.int .u64 P.w3) := HS.out.out.cell rfl j 4 P _ HPm.out rfl
      have p5 : w3.cell? ⟨g, j * 7 + 5, none⟩ = some (.int .u64 P.w4) := HS.out.out.cell rfl j 5 P _ HPm.out rfl
      have p6 : w3.cell? ⟨g, j * 7 + 6, none⟩ = some (.int .u64 P.w5) := HS.out.out.cell rfl j 6 P _ HPm.out rfl
      have e1 : IntKind.i64.wrap ((j : Int) + 2 - 1) = (j : Int) + 1 := by rw [IntWalk.i64_in _ (by omega)]; omega
      have e2 : IntKind.i64.wrap ((j : Int) + 2 - 2) = (j : Int) := by rw [IntWalk.i64_in _ (by omega)]; omega
      have e3 : ((j : Int) + 1).toNat = j + 1 := by omega
      have e4 : IntKind.i64.wrap ((j : Int) + 1) = (j : Int) + 1 := IntWalk.i64_in _ (by omega)
      have e5 : IntKind.i64.wrap (j : Int) = (j : Int) := IntWalk.i64_in _ (by omega)
      have b1 : (0 : Int) ≤ (j : Int) + 1 := by omega
      have b2 : (j : Int) + 1 < (j : Int) + 2 := by omega
      have b3 : (0 : Int) ≤ (j : Int) := by omega
      have b4 : (j : Int) < (j : Int) + 2 := by omega
      go_wp2_with fail
      go_cut [14, 15] from 69 (fun u v wx => ∃ g14 g15, u = .pointer (some ⟨g14, 0, none⟩) ∧ v = .pointer (some ⟨g15, 0, none⟩) ∧ wx.heap[g14]? = some (.cells L.V 67 (0, 0)) ∧ wx.heap[g15]? = some (.cells P.V 67 (0, 0)) ∧ Only (fun _ => False) w3 wx ∧ w3.heap.size ≤ g14 ∧ w3.heap.size ≤ g15 ∧ g14 ≠ g15)
      case first =>
        go_region_held3 (fun W => W.cell? ⟨g, (j + 1) * 7, none⟩ = some (.int .u64 L.s) ∧ W.cell? ⟨g, (j + 1) * 7 + 1, none⟩ = some (.int .u64 L.w0) ∧ W.cell? ⟨g, (j + 1) * 7 + 2, none⟩ = some (.int .u64 L.w1) ∧ W.cell? ⟨g, (j + 1) * 7 + 3, none⟩ = some (.int .u64 L.w2) ∧ W.cell? ⟨g, (j + 1) * 7 + 4, none⟩ = some (.int .u64 L.w3) ∧ W.cell? ⟨g, (j + 1) * 7 + 5, none⟩ = some (.int .u64 L.w4) ∧ W.cell? ⟨g, (j + 1) * 7 + 6, none⟩ = some (.int .u64 L.w5) ∧ W.cell? ⟨g, j * 7, none⟩ = some (.int .u64 P.s) ∧ W.cell? ⟨g, j * 7 + 1, none⟩ = some (.int .u64 P.w0) ∧ W.cell? ⟨g, j * 7 + 2, none⟩ = some (.int .u64 P.w1) ∧ W.cell? ⟨g, j * 7 + 3, none⟩ = some (.int .u64 P.w2) ∧ W.cell? ⟨g, j * 7 + 4, none⟩ = some (.int .u64 P.w3) ∧ W.cell? ⟨g, j * 7 + 5, none⟩ = some (.int .u64 P.w4) ∧ W.cell? ⟨g, j * 7 + 6, none⟩ = some (.int .u64 P.w5)) (go_keep) ((fail))
        all_goals (go_wp2_with fail)
        all_goals (go_meet)
        case' rel => first | exact ⟨_, _, rfl, rfl, (two_blk w3 _ _).1, (two_blk w3 _ _).2.1, (two_blk w3 _ _).2.2, Nat.le_refl _, Nat.le_succ _, by omega⟩ | exact ⟨_, _, rfl, rfl, (two_blk w3 _ _).2.1, (two_blk w3 _ _).1, (two_blk w3 _ _).2.2, Nat.le_succ _, Nat.le_refl _, by omega⟩
        case' rel => first | exact ⟨_, _, rfl, rfl, (two_blk w3 _ _).1, (two_blk w3 _ _).2.1, (two_blk w3 _ _).2.2, Nat.le_refl _, Nat.le_succ _, by omega⟩ | exact ⟨_, _, rfl, rfl, (two_blk w3 _ _).2.1, (two_blk w3 _ _).1, (two_blk w3 _ _).2.2, Nat.le_succ _, Nat.le_refl _, by omega⟩
      case rest =>
        obtain ⟨g14, g15, rfl, rfl, hb14, hb15, hoc, hl14, hl15, hne⟩ := hcut
        clear l0 p0 l1 p1 l2 p2 l3 p3 l4 p4 l5 p5 l6 p6 e1 e2 e3 e4 e5 b1 b2 b3 b4 hjl hgl
        have htw := HS.out.two
        rw [hmk] at htw
        have HTw := hid htw
        have HSc := hid (HS.out.step hoc)
        have Hf := hid (show ∀ k, F k → k < w3.heap.size from fun k hk => HS.out.disk.lt hk)
        have Hb14 := hid hb14; have Hb15 := hid hb15
        have Hsc := hid hoc.size
        have Hl := hid (And.intro hl14 hl15)
        have hls : L.s = j + 2 := htw.ls
        have hps : P.s = j + 1 := (htw.p (by omega)).1
        obtain ⟨sl, hsl⟩ : ∃ sl : Int, (((j + 2) % 2 : Nat) : Int) = sl := ⟨_, rfl⟩
        obtain ⟨sp, hsp⟩ : ∃ sp : Int, (((j + 2 - 1) % 2 : Nat) : Int) = sp := ⟨_, rfl⟩
        have q1 : IntKind.i64.wrap ((L.s : Int).tmod 2) = sl := by rw [Int.tmod_eq_emod_of_nonneg (by omega), IntWalk.i64_in _ (by omega), hls]; omega
        have q2 : IntKind.i64.wrap ((P.s : Int).tmod 2) = sp := by rw [Int.tmod_eq_emod_of_nonneg (by omega), IntWalk.i64_in _ (by omega), hps]; omega
        have q3 : (L.s : Int) % 2 = sl := by rw [hls]; omega
        have q4 : (P.s : Int) % 2 = sp := by rw [hps]; omega
        have hsl2 : 0 ≤ sl ∧ sl < 2 := by omega
        have hsp2 : 0 ≤ sp ∧ sp < 2 := by omega
        have htl : sl.toNat = (j + 2) % 2 := by omega
        have htp : sp.toNat = (j + 2 - 1) % 2 := by omega
        have hg1 := htw.spoil_last (by omega) at'.toNat (by omega) x Hx2.out
        have hg2 := htw.spoil_prev (by omega) at'.toNat (by omega) x Hx2.out
        rw [← htl] at hg1
        rw [← htp] at hg2
        have Hg1 := hid hg1; have Hg2 := hid hg2
        have Hsl2 := hid hsl2; have Hsp2 := hid hsp2; have Hn2 := hid htw.n
        clear hb14 hb15 hoc hl14 hl15 htw hls hps hsl hsp hsl2 hsp2 htl htp hg1 hg2 hne
        go_wp2_with fail
        refine (clone_c HSc.out.disk).mono ?_
        rintro e w7 ⟨bc, Fc, rfl, hdc, ho7, hfc⟩
        have HS7 := hid (HSc.out.step ho7)
        have Hb147 := hid (blk_only Hb14.out ho7 (fun e => e)); have Hb157 := hid (blk_only Hb15.out ho7 (fun e => e))
        have HDc := hid hdc; have Hfc := hid hfc
        have z0 : w7.cell? ⟨g14, 0, none⟩ = some (.int .u64 L.s) := cell_blk Hb147.out 0
        have hh : at' < 128 := by omega
        have Hat := hid (And.intro h2 hh)
        clear hdc ho7 hfc hh
        go_wp2_with fail
        try rw [q3]
        refine (spoil_ok HS7.out.disk sl Hsl2.out.1 (by rw [Hn2.out]; exact Hsl2.out.2) at' Hat.out.1 Hat.out.2 x).mono ?_
        rintro e w8 ⟨rfl, hd8, ho8⟩
        have HD8 := hid hd8
        have nF : ∀ k, w3.heap.size ≤ k → ¬ F k := fun k hk e => by have := Hf.out k e; omega
        have Hb148 := hid (blk_only Hb147.out ho8 (nF _ Hl.out.1)); have Hb158 := hid (blk_only Hb157.out ho8 (nF _ Hl.out.2))
        have HDc8 := hid (HDc.out.only ho8 (fun k hk => nF k (Nat.le_trans Hsc.out (Hfc.out k hk))))
        have Ho8 := hid (HS7.out.only.trans ho8 (fun k hk e => by have := HSc.out.f0 k e; omega))
        have z1 : w8.cell? ⟨g15, 0, none⟩ = some (.int .u64 P.s) := cell_blk Hb158.out 0
        have Hlc := hid (And.intro (blk_lt Hb14.out) (blk_lt Hb15.out))
        clear hd8 ho8 z0
        go_wp2_with fail
        try rw [q4]
        refine (spoil_ok HDc8.out sp Hsp2.out.1 (by show sp < ((D.clone.n : Nat) : Int); rw [show D.clone.n = 2 from Hn2.out]; exact Hsp2.out.2) at' Hat.out.1 Hat.out.2 x).mono ?_
        rintro e w9 ⟨rfl, hd9, ho9⟩
        have HDc9 := hid hd9
        have nC : ∀ k, k < wc.heap.size → ¬ Fc k := fun k hk e => by have := Hfc.out k e; omega
        have HD9 := hid (HD8.out.only ho9 (fun k hk => nC k (Nat.lt_of_lt_of_le (Hf.out k hk) Hsc.out)))
        have Hb149 := hid (blk_only Hb148.out ho9 (nC _ Hlc.out.1)); have Hb159 := hid (blk_only Hb158.out ho9 (nC _ Hlc.out.2))
        have Hwc := hid HSc.out.only.size
        have Ho9 := hid (Ho8.out.trans ho9 (fun k hk e => by have := Hfc.out k e; have := Hwc.out; omega))
        clear hd9 ho9 z1 nF nC
        have HG1 := hid (get_c HD9.out 0 (by decide))
        rw [Hg1.out] at HG1
        go_wp2_with fail
        refine HG1.out.mono ?_
        rintro e w10 ⟨rfl, ho10⟩
        have HDc10 := hid (HDc9.out.only ho10 (fun _ _ e => e))
        have Hb1410 := hid (blk_only Hb149.out ho10 (fun e => e)); have Hb1510 := hid (blk_only Hb159.out ho10 (fun e => e))
        have Ho10 := hid (Ho9.out.trans ho10 (fun _ _ e => e))
        clear ho10
        go_wp2_with (refine wpList_store_all rfl 67 (.tmp 17) (.tmp 102) rfl w10.heap.size P.V rfl rfl MarkM.zero.V 67 (blk_new w10 _) rfl info_mark (V_one _) ?_; intro w11 hb11 ho11 hs11; have Ho1011 := hid (((Only.refl (fun _ => False) w10).alloc _).trans ho11 (fun k hk e => by have e' : k = w10.heap.size := e; omega)); have Hb17 := hid hb11; have HDc11 := hid (HDc10.out.only Ho1011.out (fun _ _ e => e)); have Hb1411 := hid (blk_only Hb1410.out Ho1011.out (fun e => e)); have Hb1511 := hid (blk_only Hb1510.out Ho1011.out (fun e => e)); have Ho11 := hid (Ho10.out.trans Ho1011.out (fun _ _ e => e)); clear hb11 ho11 hs11)
        have HG2 := hid (get_c HDc11.out 0 (by decide))
        rw [Hg2.out] at HG2
        refine HG2.out.mono ?_
        rintro e w12 ⟨rfl, ho12⟩
        have Hb1412 := hid (blk_only Hb1411.out ho12 (fun e => e)); have Hb1512 := hid (blk_only Hb1511.out ho12 (fun e => e)); have Hb1712 := hid (blk_only Hb17.out ho12 (fun e => e))
        have Ho12 := hid (Ho11.out.trans ho12 (fun _ _ e => e))
        clear ho12
        have hqp : ∀ w, (binOp .eql 67 (.agg #[.int .u64 P.s, .int .u64 P.w0, .int .u64 P.w1, .int .u64 P.w2, .int .u64 P.w3, .int .u64 P.w4, .int .u64 P.w5]) (.agg #[.int .u64 P.s, .int .u64 P.w0, .int .u64 P.w1, .int .u64 P.w2, .int .u64 P.w3, .int .u64 P.w4, .int .u64 P.w5])).run Try.prog w = .ok (.bool true) w := fun w => by have := eql_mark w P P; rw [show decide (P = P) = true by simp] at this; exact this
        have hql : ∀ w, (binOp .eql 67 (.agg #[.int .u64 L.s, .int .u64 L.w0, .int .u64 L.w1, .int .u64 L.w2, .int .u64 L.w3, .int .u64 L.w4, .int .u64 L.w5]) (.agg #[.int .u64 L.s, .int .u64 L.w0, .int .u64 L.w1, .int .u64 L.w2, .int .u64 L.w3, .int .u64 L.w4, .int .u64 L.w5])).run Try.prog w = .ok (.bool true) w := fun w => by have := eql_mark w L L; rw [show decide (L = L) = true by simp] at this; exact this
        go_wp2_with (refine wpList_store_all rfl 67 (.tmp 19) (.tmp 107) rfl w12.heap.size L.V rfl rfl MarkM.zero.V 67 (blk_new w12 _) rfl info_mark (V_one _) ?_; intro w13 hb13 ho13 hs13; have Ho1213 := hid (((Only.refl (fun _ => False) w12).alloc _).trans ho13 (fun k hk e => by have e' : k = w12.heap.size := e; omega)); have hb14z := blk_only Hb1412.out Ho1213.out (fun e => e); have hb15z := blk_only Hb1512.out Ho1213.out (fun e => e); have hb17z := blk_only Hb1712.out Ho1213.out (fun e => e); have a0 : w13.cell? ⟨g14, 0, none⟩ = some (.int .u64 L.s) := cell_blk hb14z 0; have a1 : w13.cell? ⟨g14, 1, none⟩ = some (.int .u64 L.w0) := cell_blk hb14z 1; have a2 : w13.cell? ⟨g14, 2, none⟩ = some (.int .u64 L.w1) := cell_blk hb14z 2; have a3 : w13.cell? ⟨g14, 3, none⟩ = some (.int .u64 L.w2) := cell_blk hb14z 3; have a4 : w13.cell? ⟨g14, 4, none⟩ = some (.int .u64 L.w3) := cell_blk hb14z 4; have a5 : w13.cell? ⟨g14, 5, none⟩ = some (.int .u64 L.w4) := cell_blk hb14z 5; have a6 : w13.cell? ⟨g14, 6, none⟩ = some (.int .u64 L.w5) := cell_blk hb14z 6; have b0 : w13.cell? ⟨g15, 0, none⟩ = some (.int .u64 P.s) := cell_blk hb15z 0; have b1 : w13.cell? ⟨g15, 1, none⟩ = some (.int .u64 P.w0) := cell_blk hb15z 1; have b2 : w13.cell? ⟨g15, 2, none⟩ = some (.int .u64 P.w1) := cell_blk hb15z 2; have b3 : w13.cell? ⟨g15, 3, none⟩ = some (.int .u64 P.w2) := cell_blk hb15z 3; have b4 : w13.cell? ⟨g15, 4, none⟩ = some (.int .u64 P.w3) := cell_blk hb15z 4; have b5 : w13.cell? ⟨g15, 5, none⟩ = some (.int .u64 P.w4) := cell_blk hb15z 5; have b6 : w13.cell? ⟨g15, 6, none⟩ = some (.int .u64 P.w5) := cell_blk hb15z 6; have c0 : w13.cell? ⟨w10.heap.size, 0, none⟩ = some (.int .u64 P.s) := cell_blk hb17z 0; have c1 : w13.cell? ⟨w10.heap.size, 1, none⟩ = some (.int .u64 P.w0) := cell_blk hb17z 1; have c2 : w13.cell? ⟨w10.heap.size, 2, none⟩ = some (.int .u64 P.w1) := cell_blk hb17z 2; have c3 : w13.cell? ⟨w10.heap.size, 3, none⟩ = some (.int .u64 P.w2) := cell_blk hb17z 3; have c4 : w13.cell? ⟨w10.heap.size, 4, none⟩ = some (.int .u64 P.w3) := cell_blk hb17z 4; have c5 : w13.cell? ⟨w10.heap.size, 5, none⟩ = some (.int .u64 P.w4) := cell_blk hb17z 5; have c6 : w13.cell? ⟨w10.heap.size, 6, none⟩ = some (.int .u64 P.w5) := cell_blk hb17z 6; have d0 : w13.cell? ⟨w12.heap.size, 0, none⟩ = some (.int .u64 L.s) := cell_blk hb13 0; have d1 : w13.cell? ⟨w12.heap.size, 1, none⟩ = some (.int .u64 L.w0) := cell_blk hb13 1; have d2 : w13.cell? ⟨w12.heap.size, 2, none⟩ = some (.int .u64 L.w1) := cell_blk hb13 2; have d3 : w13.cell? ⟨w12.heap.size, 3, none⟩ = some (.int .u64 L.w2) := cell_blk hb13 3; have d4 : w13.cell? ⟨w12.heap.size, 4, none⟩ = some (.int .u64 L.w3) := cell_blk hb13 4; have d5 : w13.cell? ⟨w12.heap.size, 5, none⟩ = some (.int .u64 L.w4) := cell_blk hb13 5; have d6 : w13.cell? ⟨w12.heap.size, 6, none⟩ = some (.int .u64 L.w5) := cell_blk hb13 6; have Ho13 := hid (Ho12.out.trans Ho1213.out (fun _ _ e => e)); clear hb13 ho13 hs13 hb14z hb15z hb17z)
        go_ret
        exact ⟨rfl, Ho13.out⟩
end Go.Proofs.Ytepndjojodbhdaa
