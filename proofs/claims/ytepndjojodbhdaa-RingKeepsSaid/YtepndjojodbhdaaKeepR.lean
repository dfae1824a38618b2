/- RingKeeps: the walk. -/
import Derived.Test.YtepndjojodbhdaaKeepL
import Derived.Test.YtepndjojodbhdaaGoesR
import Derived.Test.YtepndjojodbhdaaParts
import Derived.Test.YtepndjojodbhdaaPend
import Derived.Test.YtepndjojodbhdaaDiskY
import Derived.Test.YtepndjojodbhdaaStrB
import Derived.Deep.Cut
import Derived.Deep.CutRange
import Derived.Deep.CutBlock
namespace Go.Proofs.Ytepndjojodbhdaa
open Go.RowKit

theorem OneParts2 {w : World} {N : Nat → Prop} {g c : Nat} {pa : Option Addr} {l : List UInt8} {T : TypeId} (hn : ¬ N g) (hg : w.heap[g]? = some (.cells #[.slice pa l.length c] T (0, 0))) (hs : Src w (.slice pa l.length c) l) (hl : l.length ≤ 1000000) (hp : l ≠ [] → ∀ g' o', pa = some ⟨g', o', none⟩ → ¬ N g') :
    PartsAt w (.slice (some ⟨g, 0, none⟩) 1 1) [l] N := by
  refine ⟨_, _, rfl, (by show 1 ≤ 9223372036854775807; decide), fun i x hi => ?_⟩
  match i with
  | 0 =>
    simp only [List.getElem?_cons_zero, Option.some.injEq] at hi
    subst hi
    exact ⟨g, 0, pa, c, rfl, hn, by rw [cell_blk hg]; rfl, hs, fun hne g' o' e => hp hne g' o' e, hl⟩
  | i + 1 => simp at hi
def behindL : List UInt8 := [98, 101, 104, 105, 110, 100]
theorem strOf_app2 (a b : List UInt8) : strOf a ++ strOf b = strOf (a ++ b) := by
  apply ByteArray.ext
  simp [strOf]
theorem srcV_ints {w : World} {bo : Option Addr} {cap : Nat} {ks : List Int} (h : SrcV w (.slice bo ks.length cap) (intsV ks)) (hne : ks ≠ []) : ∃ g o, bo = some ⟨g, o, none⟩ ∧ ∀ k n, ks[k]? = some n → w.cell? ⟨g, o + k, none⟩ = some (.int .i64 n) := by
  obtain ⟨a, c, e, hq⟩ := h
  simp only [Value.slice.injEq] at e
  obtain ⟨rfl, -, -⟩ := e
  obtain ⟨g, o, e2, hc⟩ := hq (by intro e; apply hne; have := congrArg List.length e; simpa using this)
  refine ⟨g, o, e2, fun k n hk => hc k _ ?_⟩
  rw [intsV_get, hk]; rfl
/-- In the middle of RingKeeps: a ring over a disk of the call's own, whose power may go. -/
structure KI (w wr : World) (r b : Nat) (D : DiskM) (R : RingM) (t T : List UInt8) (F FD : Nat → Prop) : Prop where
  ring : RingAt wr r b R F
  disk : DiskAt wr b D FD
  apart : ∀ k, F k → ¬ FD k
  kr : KR D R t T
  only : Only (fun _ => False) w wr
  f0 : ∀ k, F k ∨ FD k → w.heap.size ≤ k
section
variable {w wr w' : World} {r b : Nat} {D D' : DiskM} {R : RingM} {t T : List UInt8} {F FD : Nat → Prop}
theorem KI.same (h : KI w wr r b D R t T F FD) (ho : Only (fun _ => False) wr w') : KI w w' r b D R t T F FD :=
  ⟨h.ring.only ho (fun _ _ e => e), h.disk.only ho (fun _ _ e => e), h.apart, h.kr, h.only.trans ho (fun _ _ e => e), h.f0⟩
theorem KI.turn (h : KI w wr r b D R t T F FD) (hd : DiskAt w' b D' FD) (ho : Only FD wr w') (hk : KR D' R t T) : KI w w' r b D' R t T F FD :=
  ⟨h.ring.only ho (fun k hk hf => h.apart k hk hf), hd, h.apart, hk, h.only.trans ho (fun k hk e => by have := h.f0 k (.inr e); omega), h.f0⟩
def AppK (w : World) (r b : Nat) (t : List UInt8) (e : Ending) (w' : World) : Prop := ∃ (c : Int) (D : DiskM) (R : RingM) (T : List UInt8) (F FD : Nat → Prop), e = .returned (.int .i64 c) ∧ KI w w' r b D R t T F FD
theorem ki_append (h : KI w wr r b D R t T F FD) (v : Value) (s : List UInt8) (hp : PartsAt wr v [s] (fun k => F k ∨ FD k)) :
    Calls Try.prog 39 #[.pointer (some ⟨r, 0, none⟩), .int .u64 0, v] wr (AppK w r b t) := by
  have hfl : [s].flatten = s := by simp
  obtain ⟨T', hkr⟩ := h.kr.append s
  by_cases hc : R.left 0 < s.length ∨ s = []
  · refine (append_no h.ring v [s] _ hp 0 (by decide) (D := D) (by rw [hfl]; exact hc)).mono ?_
    rintro e w' ⟨rfl, e1, e2, rfl⟩
    rw [hfl] at e1 e2
    rw [e1, e2] at hkr
    exact ⟨_, D, R, T', F, FD, rfl, h.ring, h.disk, h.apart, hkr, h.only, h.f0⟩
  · simp only [not_or] at hc
    have hl := h.kr.left
    refine (append_go h.ring h.disk h.apart (by rw [h.kr.f1, h.kr.c5, h.kr.n6]; decide) v [s] hp 0 (by decide) (by rw [hfl]; exact hc.2) (by rw [hfl]; omega) (by rw [hfl, h.kr.tail]; have := h.kr.le; omega)).mono ?_
    rw [hfl]
    rintro e w' ⟨rfl, F', FD', g1, g2, g3, g4, g5, g6⟩
    have hs := h.only.size
    refine ⟨_, _, _, T', F', FD', rfl, g1, g2, g3, hkr, h.only.trans g4 (fun k hk e => by have := h.f0 k e; omega), fun k hk => ?_⟩
    rcases hk with hk | hk
    · rcases g5 k hk with e | e
      · exact h.f0 k (.inl e)
      · omega
    · rcases g6 k hk with e | e
      · exact h.f0 k (.inr e)
      · omega
end

set_option maxRecDepth 100000 in
set_option maxHeartbeats 6400000 in
theorem ringKeeps_c (w : World) (v0 : Value) (t : List UInt8) (hs : Src w v0 t) (v1 : Value) (ls : List (List UInt8)) (h1 : PartsV w v1 ls) (c0 c1 c2 : Int) (hc0 : c0 ≤ 9223372036854775807) (hc1 : -9223372036854775808 ≤ c1 ∧ c1 ≤ 9223372036854775807) (htl : t.length ≤ 9223372036854775807) :
    Calls Try.prog 20 #[v0, v1, .agg #[.int .i64 c0, .int .i64 c1, .int .i64 c2]] w fun e w' => e = .returned (.bool true) ∧ Only (fun _ => False) w w' := by
  obtain ⟨pa0, pc0, rfl⟩ := hs.len
  obtain ⟨pa1, pc1, rfl, hll, hl⟩ := h1
  have HS := hid hs
  have HL : Hid (PartsV w (.slice pa1 ls.length pc1) ls) := hid ⟨pa1, pc1, rfl, hll, hl⟩
  clear hs hl
  go_enter Try.func20, Try.ntmps20
  go_wp2_with fail
  obtain ⟨wA, hwA⟩ : ∃ wA, (w.alloc (.cells #[.int .i64 c0, .int .i64 c1, .int .i64 c2] 129)) = wA := ⟨_, rfl⟩
  have HbA : Hid (wA.heap[w.heap.size]? = some (.cells #[.int .i64 c0, .int .i64 c1, .int .i64 c2] 129 (0, 0))) := hid (by rw [← hwA]; exact blk_new w _)
  have HoA : Hid (Only (fun _ => False) w wA) := hid (by rw [← hwA]; exact (Only.refl _ w).alloc _)
  have HsA : Hid (wA.heap.size = w.heap.size + 1) := hid (by rw [← hwA]; simp)
  rw [hwA]
  clear hwA
  refine (goes_c _).mono ?_
  rintro e w1 ⟨rfl, ho1⟩
  have Ho1 := hid ho1
  clear ho1
  by_cases h300 : 300 < (t.length : Int)
  · go_wp2_with fail
    go_ret
    exact ⟨rfl, HoA.out.trans Ho1.out (fun _ _ e => e)⟩
  by_cases h10 : 10 < (ls.length : Int)
  · go_wp2_with fail
    go_ret
    exact ⟨rfl, HoA.out.trans Ho1.out (fun _ _ e => e)⟩
  go_wp2_with fail
  refine (new_ok w1 6 (by decide) (by decide)).mono ?_
  rintro e w2 ⟨b, F0, rfl, hd0, ho0, hF0⟩
  have Hd0 := hid hd0; have Ho2 := hid (Ho1.out.trans ho0 (fun _ _ e => e))
  have HF0 : Hid (∀ k, F0 k → wA.heap.size ≤ k) := hid (fun k hk => by have h1 := Ho1.out.size; have h2 := hF0 k hk; omega)
  clear hd0 ho0 hF0 Ho1
  have HRn := hid (rig_new Hd0.out 1 5 (by decide) (by decide))
  go_wp2_with fail
  refine HRn.out.mono ?_
  rintro e w3 ⟨r, G, rfl, hrig, ho3, hG⟩
  have HRig := hid hrig
  have Ho3 := hid (Ho2.out.trans ho3 (fun _ _ e => e))
  have HG : Hid (∀ k, G k → wA.heap.size ≤ k) := hid (fun k hk => by
    rcases hG k hk with e | e
    · exact HF0.out k e
    · have := Ho2.out.size; omega)
  clear hrig ho3 hG HRn Ho2 HF0 Hd0
  -- the first bytes
  have HSw : ∀ wx, Only (fun _ => False) wA wx → Hid (Src wx (.slice pa0 t.length pc0) t) := fun wx ho => hid (HS.out.only (HoA.out.trans ho (fun _ _ e => e)) (fun _ _ _ _ _ e => e))
  have HPa : Hid (PartsAt (w3.alloc (.cells #[.slice pa0 t.length pc0] 30)) (.slice (some ⟨w3.heap.size, 0, none⟩) 1 1) [t] G) := hid (by
    refine OneParts2 (fun e => ?_) (blk_new w3 _) (HSw _ (Ho3.out.alloc _)).out (by omega) (fun hne g' o' e hg => ?_)
    · have := HRig.out.lt e; omega
    · have h1 := HG.out g' hg
      have h2 := HS.out.lt (g := g') (of := o') (c := pc0) (by rw [e]) hne
      have := HsA.out; omega)
  have HRg3 := hid (HRig.out.only ((Only.refl (fun _ => False) w3).alloc (.cells #[.slice pa0 t.length pc0] 30)) (fun _ _ e => e))
  have HAp := hid (rig_append HRg3.out 0 (by decide) _ [t] HPa.out (by simp; omega) (by decide))
  have HAp2 : Hid (Calls Try.prog 39 #[.pointer (some ⟨r, 0, none⟩), .int .u64 0, .slice (some ⟨w3.heap.size, 0, none⟩) 1 1] (w3.alloc (.cells #[.slice pa0 t.length pc0] 30)) fun e w' => e = .returned (.int .i64 0) ∧ ∃ (D : DiskM) (R : RingM) (F FD : Nat → Prop), RingAt w' r b R F ∧ DiskAt w' b D FD ∧ (∀ k, F k → ¬ FD k) ∧ RS D R t ∧ R.first = 1 ∧ R.count = 5 ∧ D.n = 6 ∧ Only (fun _ => False) wA w' ∧ ∀ k, F k ∨ FD k → wA.heap.size ≤ k) := hid (HAp.out.mono (fun e w' h => by
    obtain ⟨he, G', hrg, hog, hng⟩ := h
    obtain ⟨D, R, F, FD, q1, q2, q3, q4, q5, q6, q7, q8⟩ := hrg
    have s3 := Ho3.out.size
    have hG' : ∀ k, G' k → wA.heap.size ≤ k := fun k hk => by
      rcases hng k hk with e | e
      · exact HG.out k e
      · simp at e; omega
    exact ⟨he, D, R, F, FD, q1, q2, q3, by simpa using q4, q5, q6, q7, (Ho3.out.alloc _).trans hog (fun k hk e => by have := HG.out k e; omega), fun k hk => hG' k ((q8 k).2 hk)⟩))
  clear HAp HRg3 HPa HRig HG Ho3
  go_wp2_with fail
  refine HAp2.out.mono ?_
  rintro e w4 ⟨rfl, D, R, F, FD, hR, hD, hap, hrs, h1, h5, hn6, ho4, hf0⟩
  obtain ⟨e1, e2, e3⟩ := keeps_flushed hrs h1 h5 hn6 (by omega)
  have HFl := hid (flush_c hD)
  rw [e1] at HFl
  have HK4 : ∀ w5, DiskAt w5 b D.flush.1 FD → Only FD w4 w5 → Hid (KI wA w5 r b D.flush.1 R t t F FD) := fun w5 hd ho => hid ⟨hR.only ho (fun k hk hf => hap k hk hf), hd, hap, e2, ho4.trans ho (fun k hk e => by have := hf0 k (.inr e); omega), hf0⟩
  clear hR hap hrs h1 h5 hn6 ho4 hf0 e1 e2 e3 HAp2 hD
  go_wp2_with fail
  refine HFl.out.mono ?_
  rintro e w5 ⟨rfl, hd5, ho5⟩
  have HI5 := HK4 w5 hd5 ho5
  obtain ⟨D5, hD5⟩ : ∃ D5, D.flush.1 = D5 := ⟨_, rfl⟩
  rw [hD5] at HI5
  clear HK4 hd5 ho5 hD5 HFl
  have x0 : w5.cell? ⟨w.heap.size, 0, none⟩ = some (.int .i64 c0) := cell_blk (blk_only HbA.out HI5.out.only (fun e => e)) 0
  go_wp2_with fail
  refine (fuse_c HI5.out.disk c0 hc0).mono ?_
  rintro e w6 ⟨rfl, hd6, ho6⟩
  have HI6 : Hid (KI wA w6 r b (D5.setFuse c0) R t t F FD) := hid (HI5.out.turn hd6 ho6 ⟨HI5.out.kr.f1, HI5.out.kr.c5, HI5.out.kr.tail, HI5.out.kr.rest, HI5.out.kr.le, HI5.out.kr.pre, HI5.out.kr.keeps.same rfl rfl, HI5.out.kr.n6⟩)
  clear x0 hd6 ho6 HI5
  go_wp2_with fail
  go_loopw [62, 12] (fun i _ wr => ∃ k : Nat, i = .int .i64 k ∧ k ≤ ls.length ∧ ∃ D R T F FD, KI wA wr r b D R t T F FD) (fun i _ _ => ls.length - (intOf i).toNat)
  case atStart => exact ⟨0, rfl, Nat.zero_le _, _, _, _, _, _, HI6.out⟩
  case round =>
    clear HI6
    obtain ⟨k, rfl, hk, D, R, T, F, FD, hki⟩ := hrel
    have HI := hid hki
    clear hki
    by_cases hkl : k < ls.length
    · have hki : (k : Int) < ls.length := by omega
      obtain ⟨l, hl⟩ : ∃ l, ls[k]? = some l := ⟨_, List.getElem?_eq_getElem hkl⟩
      have hL := HL.out.only (HoA.out.trans HI.out.only (fun _ _ e => e)) (fun _ _ e => e)
      obtain ⟨a', c', e, -, hh⟩ := hL
      simp only [Value.slice.injEq] at e
      obtain ⟨rfl, -, rfl⟩ := e
      obtain ⟨hlb, g, o, pa, pc, rfl, hc, hsl⟩ := hh k l hl
      have Hsl := hid hsl
      have Hlw : Hid (∀ g' o', pa = some ⟨g', o', none⟩ → l ≠ [] → g' < w.heap.size) := hid (by
        obtain ⟨a2, c2', e, -, hh2⟩ := HL.out
        simp only [Value.slice.injEq] at e
        obtain ⟨rfl, -, rfl⟩ := e
        obtain ⟨-, g2, o2, pa2, pc2, e2, hc2, hsl2⟩ := hh2 k l hl
        simp only [Option.some.injEq, Addr.mk.injEq, and_true] at e2
        obtain ⟨rfl, rfl⟩ := e2
        have hcc := (World.cell?_of_block ((HoA.out.trans HI.out.only (fun _ _ e => e)).block g (World.block_lt_of_cell? _ _ hc2) (fun e => e))).symm.trans hc
        rw [hc2] at hcc
        simp only [Option.some.injEq, Value.slice.injEq, true_and] at hcc
        obtain ⟨rfl, rfl⟩ := hcc
        intro g' o' e hne
        exact hsl2.lt (of := o') (c := pc2) (by rw [e]) hne)
      clear hh hl hsl
      by_cases hb : 300 < (l.length : Int)
      · go_wp2_with fail
        go_ret
        exact ⟨rfl, HoA.out.trans HI.out.only (fun _ _ e => e)⟩
      have hI2 := HI.out.same ((Only.refl (fun _ => False) wr).alloc (.cells #[.slice pa l.length pc] 30))
      have HApp := hid (ki_append hI2 _ l (OneParts2 (fun e => by have hlt := HI.out.ring; have := HI.out.disk; rcases e with e | e; (obtain ⟨rv, hRR⟩ := HI.out.ring; have := hRR.lt _ e; omega); (have := HI.out.disk.lt e; omega)) (blk_new wr _) (Hsl.out.only ((Only.refl (fun _ => False) wr).alloc _) (fun _ _ _ _ _ e => e)) (by omega) (fun hne g' o' e hg => by have h1 := Hlw.out g' o' e hne; have h2 := HI.out.f0 g' hg; have := HsA.out; omega)))
      clear hI2
      go_wp2_with (go_at_call 39; refine HApp.out.mono ?_; rintro e w7 ⟨cx, D', R', T', F', FD', rfl, hki'⟩; have HI' := hid hki'; clear hki')
      go_roundw
      case rel => exact ⟨k + 1, by go_num, by omega, _, _, _, _, _, HI'.out⟩
      case measure => simp [intOf]; omega
    · obtain rfl : k = ls.length := by omega
      have HPd := hid (pending_c HI.out.disk)
      have hls : ls.length ≤ 10 := by omega
      go_upto_region 21 with (go_at_call 62; refine HPd.out.mono ?_; rintro e w8 ⟨bo, cp, ks, rfl, hio, ho8, hpo, hkl8⟩; have Hio := hid hio; have HI8 := hid (HI.out.same ho8); have Hkl8 := hid hkl8; have y1 : w8.cell? ⟨w.heap.size, 1, none⟩ = some (.int .i64 c1) := cell_blk (blk_only HbA.out HI8.out.only (fun e => e)) 1; clear hio ho8 hpo hkl8)
      have HIO : Hid (SrcV w8 (.slice bo ks.length cp) (intsV ks) ∧ ks.length ≤ cp ∧ ∀ g o, bo = some ⟨g, o, none⟩ → wr.heap.size ≤ g) := hid (by
        refine ⟨Hio.out.src, ?_, fun g o e => ?_⟩
        · rcases Hio.out with ⟨-, -, rfl⟩ | ⟨g, -, -, hr⟩
          · simp
          · have := hr.le; rw [length_intsV] at this; exact this
        · rcases Hio.out with ⟨rfl, -, -⟩ | ⟨g2, rfl, hg, -⟩
          · cases e
          · simp only [Option.some.injEq, Addr.mk.injEq, and_true] at e
            omega)
      clear Hio HPd
      obtain ⟨bb, hbb⟩ : ∃ bb : Bool, decide (0 ≤ c1 ∧ c1 < (ks.length : Int)) = bb := ⟨_, rfl⟩
      have Hbb := hid hbb
      clear hbb
      go_cut [85] from 78 to 85 (fun x wx => w8 = wx ∧ x = .bool bb)
      case first =>
        by_cases hk0 : 0 ≤ c1
        · by_cases hk1 : c1 < (ks.length : Int)
          · have e1 : bb = true := by rw [← Hbb.out]; simp [hk0, hk1]
            go_wp2_with fail
            go_meet
            case rel => exact ⟨rfl, by rw [e1]⟩
          · have e1 : bb = false := by rw [← Hbb.out]; simp [hk1]
            go_wp2_with fail
            go_meet
            case rel => exact ⟨rfl, by rw [e1]⟩
        · have e1 : bb = false := by rw [← Hbb.out]; simp [hk0]
          go_wp2_with fail
          go_meet
          case rel => exact ⟨rfl, by rw [e1]⟩
      case rest =>
      obtain ⟨rfl, rfl⟩ := hcut
      go_upto_if 85 with fail
      go_cut [13] from 85 to 88 (fun x wx => w8 = wx ∧ ∃ kl : Nat, kl ≤ ks.length ∧ x = .slice bo kl cp)
      case first =>
        cases hb2 : bb with
        | true =>
          have h2 : 0 ≤ c1 ∧ c1 < (ks.length : Int) := by have := Hbb.out; rw [hb2] at this; simpa using this
          obtain ⟨hk0, hk1⟩ := h2
          obtain ⟨j, rfl⟩ : ∃ j : Nat, c1 = j := ⟨c1.toNat, by omega⟩
          have hcp := HIO.out.2.1
          have hjc : (j : Int) ≤ cp := by omega
          have hjp : j < ks.length := by omega
          clear hb2
          go_wp2_with fail
          go_meet
          case rel => exact ⟨rfl, j, by omega, by first | rfl | trivial⟩
        | false =>
          clear hb2
          go_wp2_with fail
          go_meet
          case rel => exact ⟨rfl, ks.length, Nat.le_refl _, rfl⟩
      case rest =>
        obtain ⟨rfl, kl, hkl, rfl⟩ := hcut
        have HPd := hid (pending_c HI8.out.disk)
        have hkl2 := Hkl8.out
        clear y1
        go_upto_if 95 with (go_at_call 62; refine HPd.out.mono ?_; rintro e w9 ⟨bo2, cp2, ks2, rfl, hio, ho9, hpo, hkl9⟩; have Hio := hid hio.src; have Ho9 := hid ho9; have HI9 := hid (HI8.out.same ho9); have Hkl9 := hid hkl9; clear hio ho9 hpo hkl9)
        go_cut [15] from 95 to 100 (fun x wx => w9 = wx ∧ ∃ tear : Int, x = .int .i64 tear)
        case first =>
          by_cases hlt : (kl : Int) < (ks2.length : Int)
          · have hne : ks2 ≠ [] := by rintro rfl; simp at hlt; omega
            obtain ⟨g2, o2, rfl, hcs⟩ := srcV_ints Hio.out hne
            obtain ⟨z, hz⟩ : ∃ z, ks2[kl]? = some z := ⟨_, List.getElem?_eq_getElem (by omega)⟩
            have hc := hcs kl z hz
            clear hcs hz
            go_wp2_with fail
            go_meet
            case rel => exact ⟨rfl, _, rfl⟩
          · go_wp2_with fail
            go_meet
            case rel => exact ⟨rfl, _, rfl⟩
        case rest =>
          obtain ⟨rfl, tear, rfl⟩ := hcut
          have y2 : w9.cell? ⟨w.heap.size, 2, none⟩ = some (.int .i64 c2) := cell_blk (blk_only HbA.out HI9.out.only (fun e => e)) 2
          have HCr := hid (crash_c2 HI9.out.disk (.slice bo kl cp) (ks.take kl) (by
            obtain ⟨a2, c3, e, hq⟩ := HIO.out.1
            simp only [Value.slice.injEq] at e
            obtain ⟨rfl, -, -⟩ := e
            refine ⟨bo, cp, by rw [length_intsV, List.length_take, Nat.min_eq_left hkl], fun hne => ?_⟩
            have hks : intsV ks ≠ [] := by intro e; apply hne; have h0 := congrArg List.length e; rw [length_intsV] at h0; have : ks = [] := List.eq_nil_of_length_eq_zero h0; rw [this]; simp [intsV]
            obtain ⟨g, o, rfl, hc⟩ := hq hks
            refine ⟨g, o, rfl, fun i u hu => ?_⟩
            have hu2 : (intsV ks)[i]? = some u := by
              rw [intsV_get] at hu ⊢
              by_cases hi : i < kl
              · rw [List.getElem?_take_of_lt hi] at hu; exact hu
              · rw [List.getElem?_take_eq_none (by omega)] at hu; cases hu
            have h1 := hc i u hu2
            exact (World.cell?_of_block (Ho9.out.block g (World.block_lt_of_cell? _ _ h1) (fun e => e))).trans h1) (fun hne g o c e hf => by
              simp only [Value.slice.injEq] at e
              have h1 := HIO.out.2.2 g o e.1
              have h2 := HI.out.disk.lt hf; omega) (by rw [List.length_take]; omega) tear c2)
          clear Hio HPd HIO
          go_wp2_with (go_at_call 50; refine HCr.out.mono ?_; rintro e w10 ⟨rfl, hd10, ho10⟩; have Hd10 := hid hd10; have Ho10 := hid ho10; clear hd10 ho10)
          refine (up_c Hd10.out).mono ?_
          rintro e w11 ⟨rfl, hd11, ho11⟩
          obtain ⟨DU, hDU⟩ : ∃ DU, (D.crash (ks.take kl) tear c2).up = DU := ⟨_, rfl⟩
          have HRS : Hid (RS DU (RingM.opened DU 1 5 t.length) t) := hid (by
            rw [← hDU]
            exact keeps_rs (HI.out.kr.keeps.crash (fun k l hl => (HI.out.disk.pend_lt hl).2) (ks.take kl) tear c2) (by omega) rfl (by show (-1 : Int) < 0; decide) HI.out.kr.n6 (fun k => by simp [DiskM.up, DiskM.crash]))
          have Hn6 : Hid (DU.n = 6) := hid (by rw [← hDU]; exact HI.out.kr.n6)
          rw [hDU] at hd11
          have Hd11 := hid hd11
          have HoU : Hid (Only (fun _ => False) wA w11) := hid ((HI9.out.only.trans (Ho10.out.trans ho11 (fun _ _ e => e)) (fun k hk e => by have := HI.out.f0 k (.inr e); omega)))
          clear hd11 ho11 HCr Hd10 Ho10 hDU
          have HOp := hid (open_ok Hd11.out 1 5 t.length (by decide) (by rw [Hn6.out]; decide) (by omega) HRS.out.up)
          go_wp2_with fail
          refine HOp.out.mono ?_
          rintro e w12 ⟨s, F', rfl, hR12, ho12, hF12⟩
          have HRg : Hid (Rig w12 s b 1 5 6 t (fun k => F' k ∨ FD k)) := hid ⟨DU, _, F', FD, hR12, Hd11.out.only ho12 (fun _ _ e => e), fun k hk hd => (by have := hF12 k hk; have := Hd11.out.lt hd; omega), HRS.out, rfl, rfl, Hn6.out, fun k => Iff.rfl⟩
          have HG0 : Hid (∀ k, F' k ∨ FD k → wA.heap.size ≤ k) := hid (fun k hk => by
            rcases hk with hk | hk
            · have := hF12 k hk; have := HoU.out.size; omega
            · exact HI.out.f0 k (.inr hk))
          have Ho12 := hid (HoU.out.trans ho12 (fun _ _ e => e))
          clear hR12 ho12 hF12 HOp HRS Hd11 Hn6 HoU HI8 HI9
          obtain ⟨G, hGe⟩ : ∃ G : Nat → Prop, (fun k => F' k ∨ FD k) = G := ⟨_, rfl⟩
          rw [hGe] at HRg
          have HG : Hid (∀ k, G k → wA.heap.size ≤ k) := hid (by rw [← hGe]; exact HG0.out)
          clear hGe HG0
          have HRd := hid (rig_read HRg.out 0 t.length (by omega) (by omega) (by unfold ups; omega))
          rw [List.drop_zero, List.take_length] at HRd
          have HRd2 : Hid (Calls Try.prog 40 #[.pointer (some ⟨s, 0, none⟩), .int .u64 0, .int .i64 t.length] w12 fun e w' => ∃ bo cap, e = .returned (.tuple #[.slice bo t.length cap, .int .i64 0]) ∧ BOut w' bo cap t w12.heap.size ∧ Only (fun _ => False) w12 w') := HRd
          clear HRd
          have hse : ((strOf t).toList == (strOf t).toList) = true := beq_self_eq_true _
          go_wp2_with (go_at_call 40; refine HRd2.out.mono ?_; rintro e w13 ⟨bo3, cp3, rfl, hbo3, ho13⟩; have Ho13 := hid (Ho12.out.trans ho13 (fun _ _ e => e)); have HRg13 := hid (HRg.out.only ho13 (fun _ _ e => e)); have hcv1 := conv_str hbo3.src; have hcv2 := conv_str (HS.out.only (HoA.out.trans Ho13.out (fun _ _ e => e)) (fun _ _ _ _ _ e => e)); have hcl : (convert 30 30 (.slice (some ⟨w13.heap.size, 0, none⟩) 6 6)).run Try.prog (w13.alloc (.cells #[.int .u8 98, .int .u8 101, .int .u8 104, .int .u8 105, .int .u8 110, .int .u8 100] 5)) = .ok (.slice (some ⟨w13.heap.size, 0, none⟩) 6 6) ((w13.alloc (.cells #[.int .u8 98, .int .u8 101, .int .u8 104, .int .u8 105, .int .u8 110, .int .u8 100] 5)).freeze ⟨w13.heap.size, 6, none⟩ 1) := conv_lit (blk_new w13 _); clear hbo3 ho13)
          obtain ⟨w14, hw14⟩ : ∃ w14, (w13.alloc (.cells #[.int .u8 98, .int .u8 101, .int .u8 104, .int .u8 105, .int .u8 110, .int .u8 100] 5)).freeze ⟨w13.heap.size, 6, none⟩ 1 = w14 := ⟨_, rfl⟩
          have Ho1314 : Hid (Only (fun _ => False) w13 w14) := hid (by
            rw [← hw14]
            exact ((Only.refl (fun _ => False) w13).alloc _).trans (freeze_only _ _ _) (fun k hk e => by have e' : k = w13.heap.size := e; omega))
          have Hsz14 : Hid (w14.heap.size = w13.heap.size + 1) := hid (by rw [← hw14, freeze_size]; simp)
          have HSb : Hid (Src w14 (.slice (some ⟨w13.heap.size, 0, none⟩) 6 6) behindL) := hid (by
            refine ⟨_, _, rfl, fun _ => ⟨w13.heap.size, 0, rfl, fun i u hu => ?_⟩⟩
            rw [← hw14, freeze_cell, Nat.zero_add, cell_blk (blk_new w13 _)]
            simpa [behindL, bytesV] using hu)
          rw [hw14]
          clear hw14 hcl hcv1 hcv2
          have HPb : Hid (PartsAt (w14.alloc (.cells #[.slice (some ⟨w13.heap.size, 0, none⟩) 6 6] 30)) (.slice (some ⟨w14.heap.size, 0, none⟩) 1 1) [behindL] G) := hid (by
            refine OneParts2 (l := behindL) (fun e => ?_) (blk_new w14 _) (HSb.out.only ((Only.refl (fun _ => False) w14).alloc _) (fun _ _ _ _ _ e => e)) (by decide) (fun hne g' o' e hg => ?_)
            · have := HRg13.out.lt e; have := Hsz14.out; omega
            · simp only [Option.some.injEq, Addr.mk.injEq, and_true] at e
              have := HRg13.out.lt hg; omega)
          have HRg14 := hid (HRg13.out.only (Ho1314.out.trans ((Only.refl (fun _ => False) w14).alloc (.cells #[.slice (some ⟨w13.heap.size, 0, none⟩) 6 6] 30)) (fun _ _ e => e)) (fun _ _ e => e))
          have HAp := hid (rig_append HRg14.out 0 (by omega) _ [behindL] HPb.out (by show (behindL ++ []).length ≤ 5 * 128 - (t.length - 0 / 128 * 128); simp [behindL]; omega) (by omega))
          have HAp2 : Hid (Calls Try.prog 39 #[.pointer (some ⟨s, 0, none⟩), .int .u64 0, .slice (some ⟨w14.heap.size, 0, none⟩) 1 1] (w14.alloc (.cells #[.slice (some ⟨w13.heap.size, 0, none⟩) 6 6] 30)) fun e w' => e = .returned (.int .i64 0) ∧ ∃ G', Rig w' s b 1 5 6 (t ++ behindL) G' ∧ Only (fun _ => False) wA w') := hid (HAp.out.mono (fun e w' h => by
            obtain ⟨he, G', hrg, hog, hng⟩ := h
            exact ⟨he, G', by simpa using hrg, ((Ho13.out.trans Ho1314.out (fun _ _ e => e)).alloc _).trans hog (fun k hk e => by have := HG.out k e; omega)⟩))
          refine HAp2.out.mono ?_
          rintro e w15 ⟨rfl, G', hrg15, ho15⟩
          have HRg15 := hid hrg15
          have Ho15 := hid ho15
          clear hrg15 ho15 HAp HAp2 HRg14 HPb HSb Hsz14 Ho1314 HRg13 Ho13 HRd2 Ho12 HRg
          have hlb : (t ++ behindL).length = t.length + 6 := by simp [behindL]
          have HRd := hid (rig_read HRg15.out 0 (t.length + 6) (by omega) (by omega) (by rw [hlb]; unfold ups; omega))
          have htk : ((t ++ behindL).drop 0).take (t.length + 6) = t ++ behindL := by rw [List.drop_zero, ← hlb, List.take_length]
          rw [htk] at HRd
          have HRd2 : Hid (Calls Try.prog 40 #[.pointer (some ⟨s, 0, none⟩), .int .u64 0, .int .i64 ((t.length : Int) + 6)] w15 fun e w' => ∃ bo cap, e = .returned (.tuple #[.slice bo (t.length + 6) cap, .int .i64 0]) ∧ BOut w' bo cap (t ++ behindL) w15.heap.size ∧ Only (fun _ => False) w15 w') := by
            rw [show ((t.length : Int) + 6) = ((t.length + 6 : Nat) : Int) from by omega]
            exact HRd
          have Hlb := hid hlb
          clear HRd htk hlb
          have hcat : (strOf t).size + 6 ≤ 9223372036854775807 := by show t.toArray.size + 6 ≤ _; simp; omega
          have hse2 : ((strOf (t ++ behindL)).toList == (strOf t ++ ⟨#[98, 101, 104, 105, 110, 100]⟩).toList) = true := by
            have : strOf t ++ ⟨#[98, 101, 104, 105, 110, 100]⟩ = strOf (t ++ behindL) := strOf_app2 t behindL
            rw [this]; exact beq_self_eq_true _
          go_wp2_with (go_at_call 40; refine HRd2.out.mono ?_; rintro e w16 ⟨bo4, cp4, rfl, hbo4, ho16⟩; have Ho16 := hid (Ho15.out.trans ho16 (fun _ _ e => e)); have hcv1 : (convert 30 9 (.slice bo4 (t.length + 6) cp4)).run Try.prog w16 = .ok (.string (strOf (t ++ behindL))) w16 := (by have := conv_str hbo4.src; rw [Hlb.out] at this; exact this); have hcv2 := conv_str (HS.out.only (HoA.out.trans Ho16.out (fun _ _ e => e)) (fun _ _ _ _ _ e => e)); clear hbo4 ho16)
          go_ret
          exact ⟨rfl, HoA.out.trans Ho16.out (fun _ _ e => e)⟩
end Go.Proofs.Ytepndjojodbhdaa
