/- The disk's reference: Crash. -/
import Derived.Test.YtepndjojodbhdaaRfC
namespace Go.Proofs.Ytepndjojodbhdaa
open Go.RowKit

def RM.cr (r : RM) (keep : List Int) (tear at' : Int) (j : Nat) : List UInt8 :=
  match r.last (j : Int) with
  | some l => if (j : Int) ∈ keep then l else if (j : Int) = tear then torn l (r.sure.getD j []) at' else r.sure.getD j []
  | none => r.sure.getD j []
def RM.crs (r : RM) (keep : List Int) (tear at' : Int) (k : Nat) : List (List UInt8) := (List.range k).map (r.cr keep tear at')
theorem crs_len (r : RM) (keep : List Int) (tear at' : Int) (k : Nat) : (r.crs keep tear at' k).length = k := by simp [RM.crs]
theorem crs_succ (r : RM) (keep : List Int) (tear at' : Int) (k : Nat) : r.crs keep tear at' (k + 1) = r.crs keep tear at' k ++ [r.cr keep tear at' k] := by simp [RM.crs, List.range_succ]
def RM.crash (r : RM) (keep : List Int) (tear at' : Int) : RM := { r with sure := r.crs keep tear at' r.sure.length, ws := [], down := true, fuse := -1 }
/-- In the middle of Crash's loop: k sectors are told. -/
structure CrR (w w3 wr : World) (r : RM) (cs1 : Array Value) (G : Nat → Prop) (keep : List Int) (tear at' : Int) (k : Nat) (bo : Option Addr) (cap : Nat) : Prop where
  ref : RefAt wr cs1 r G
  b1 : wr.heap[w.heap.size]? = some (.cells cs1 113 (0, 0))
  b2 : wr.heap[w.heap.size + 1]? = some (.cells #[.slice none 0 0, .slice none 0 0, .bool false, .int .i64 0, .int .i64 0, .int .i64 0] 113 (0, 0))
  so : SOut wr bo cap (r.crs keep tear at' k) w3.heap.size
  only : Only (fun j => w3.heap.size ≤ j) w3 wr

section
variable {w : World} {cs : Array Value} {r : RM} {G : Nat → Prop}
set_option maxRecDepth 100000 in
set_option maxHeartbeats 6400000 in
theorem rcrash_c (h : RefAt w cs r G) (hwl : r.ws.length ≤ 1000000) (hsl : r.sure.length ≤ 1000000) (v : Value) (keep : List Int) (hs : SrcV w v (intsV keep)) (hkeepl : keep.length ≤ 9223372036854775807) (tear at' : Int)
    (h128 : ∀ k, k < r.sure.length → (r.sure.getD k []).length = 128) (hl128 : ∀ n l, r.last n = some l → l.length = 128) :
    Calls Try.prog 96 #[.agg cs, v, .int .i64 tear, .int .i64 at'] w fun e w' => ∃ cs' G', e = .returned (.agg cs') ∧ RefAt w' cs' (r.crash keep tear at') G' ∧ (∀ k, G' k → G k ∨ w.heap.size ≤ k) ∧ Only (fun _ => False) w w' := by
  have H := hid h; have HKs0 := hid hs; have H128 := hid h128; have HL128 := hid hl128; have Hwl := hid hwl
  obtain ⟨sa, sc, wa, wk, rfl, -⟩ := h.ex
  unfold RM.cells
  have nG : Hid (∀ k, w.heap.size ≤ k → ¬ G k) := hid (fun k hk e => by have := H.out.lt k e; omega)
  clear h hs h128 hl128 hwl
  go_enter Try.func96, Try.ntmps96
  go_upto_if 15 with fail
  go_cut [3] from 14 (fun t wx => t = .int .i64 (max 0 at') ∧ wx.heap[w.heap.size]? = some (.cells #[.slice sa r.sure.length sc, .slice wa r.ws.length wk, .bool r.down, .int .i64 r.fuse, .int .i64 r.written, .int .i64 r.flushed] 113 (0, 0)) ∧ wx.heap[w.heap.size + 1]? = some (.cells #[.slice none 0 0, .slice none 0 0, .bool false, .int .i64 0, .int .i64 0, .int .i64 0] 113 (0, 0)) ∧ Only (fun _ => False) w wx)
  case first =>
    by_cases ha : at' < 0
    · have e0 : max 0 at' = 0 := Int.max_eq_left (by omega)
      go_wp2_with fail
      go_meet
      case rel => exact ⟨by rw [e0], blk_alloc (blk_new w _), blk2 w _ _, ((Only.refl _ w).alloc _).alloc _⟩
    · have e0 : max 0 at' = at' := Int.max_eq_right (by omega)
      go_wp2_with fail
      go_meet
      case rel => exact ⟨by rw [e0], blk_alloc (blk_new w _), blk2 w _ _, ((Only.refl _ w).alloc _).alloc _⟩
  case rest =>
    obtain ⟨rfl, hb1, hb2, how⟩ := hcut
    obtain ⟨a0, ha0⟩ : ∃ a0, max 0 at' = a0 := ⟨_, rfl⟩
    rw [ha0]
    have Hb1 := hid hb1; have Hb2 := hid hb2; have How := hid how; have Ha0 := hid ha0
    clear hb1 hb2 how ha0
    go_upto_if 17 with fail
    obtain ⟨w3, hw3⟩ : ∃ w3 : World, w3 = wc := ⟨_, rfl⟩
    subst hw3
    go_cut [3] from 14 (fun t wx => t = .int .i64 ((tornAt at' : Nat) : Int) ∧ w3 = wx)
    case first =>
      by_cases hb : 128 < a0
      · have e0 : ((tornAt at' : Nat) : Int) = 128 := by unfold tornAt; have := Ha0.out; omega
        go_wp2_with fail
        go_meet
        case rel => exact ⟨by rw [e0], rfl⟩
      · have e0 : ((tornAt at' : Nat) : Int) = a0 := by unfold tornAt; have := Ha0.out; omega
        go_wp2_with fail
        go_meet
        case rel => exact ⟨by rw [e0], rfl⟩
    case rest =>
      obtain ⟨rfl, rfl⟩ := hcut
      obtain ⟨m, hm⟩ : ∃ m : Nat, tornAt at' = m := ⟨_, rfl⟩
      have hm128 : (m : Int) ≤ 128 := by have := tornAt_le at'; omega
      have Hm := hid hm
      rw [hm]
      have Hl3 := hid (blk_lt Hb2.out)
      have HI : Hid (CrR w w3 w3 r (r.cells sa sc wa wk) G keep tear at' 0 none 0) := hid ⟨H.out.same How.out, Hb1.out, Hb2.out, .inl ⟨rfl, rfl, rfl⟩, Only.refl _ _⟩
      clear hm
      go_wp2_with fail
      go_loopw [10, 9, 11, 12, 13] (fun i sv _ _ _ wr => ∃ (k : Nat) (bo : Option Addr) (cap : Nat), i = .int .i64 k ∧ k ≤ r.sure.length ∧ sv = .slice bo k cap ∧ CrR w w3 wr r (r.cells sa sc wa wk) G keep tear at' k bo cap) (fun i _ _ _ _ _ => r.sure.length - (intOf i).toNat)
      case atStart => exact ⟨0, none, 0, rfl, Nat.zero_le _, rfl, HI.out⟩
      case round =>
        clear HI
        obtain ⟨k, bo, cap, rfl, hk, rfl, hst⟩ := hrel
        have HS := hid hst
        have Hb : Hid (wr.heap[w.heap.size]? = some (.cells #[.slice sa r.sure.length sc, .slice wa r.ws.length wk, .bool r.down, .int .i64 r.fuse, .int .i64 r.written, .int .i64 r.flushed] 113 (0, 0))) := hid (by have := hst.b1; unfold RM.cells at this; exact this)
        have HKs := hid ((HKs0.out.only How.out (fun _ _ _ _ _ _ e => e)).only hst.only (fun _ g _ _ _ hlt e => by have e' : w3.heap.size ≤ g := e; omega))
        clear hst
        have y0 : wr.cell? ⟨w.heap.size, 0, none⟩ = some (.slice sa r.sure.length sc) := cell_blk Hb.out 0
        have y1 : wr.cell? ⟨w.heap.size, 1, none⟩ = some (.slice wa r.ws.length wk) := cell_blk Hb.out 1
        have y2 : wr.cell? ⟨w.heap.size, 2, none⟩ = some (.bool r.down) := cell_blk Hb.out 2
        have y3 : wr.cell? ⟨w.heap.size, 3, none⟩ = some (.int .i64 r.fuse) := cell_blk Hb.out 3
        have y4 : wr.cell? ⟨w.heap.size, 4, none⟩ = some (.int .i64 r.written) := cell_blk Hb.out 4
        have y5 : wr.cell? ⟨w.heap.size, 5, none⟩ = some (.int .i64 r.flushed) := cell_blk Hb.out 5
        by_cases hkl : k < r.sure.length
        · have hki : (k : Int) < r.sure.length := by omega
          have HLa := hid (rlast_c HS.out.ref Hwl.out k)
          unfold RM.cells at HLa
          obtain ⟨q, hq⟩ : ∃ q, r.last (k : Int) = q := ⟨_, rfl⟩
          obtain ⟨s, hs⟩ : ∃ s, r.sure.getD k [] = s := ⟨_, rfl⟩
          have hs128 : s.length = 128 := by rw [← hs]; exact H128.out k hkl
          have hq128 : ∀ l, q = some l → l.length = 128 := fun l e => HL128.out k l (by rw [hq, e])
          have Hq128 := hid hq128
          obtain ⟨z, hz⟩ : ∃ z, r.cr keep tear at' k = z := ⟨_, rfl⟩
          have Hcr := hid hz
          have hz2 := hz
          unfold RM.cr at hz2
          rw [hq, hs] at hz2
          have Hz2 := hid hz2
          rw [hq] at HLa
          have hcell : ∃ g o, sa = some ⟨g, o, none⟩ ∧ wr.cell? ⟨g, o + k, none⟩ = some (.string (strOf s)) := by
            obtain ⟨s1', c1', a1', d1', e, hq1, -, -, -⟩ := HS.out.ref.ex
            unfold RM.cells at e
            simp only [Array.mk.injEq, List.cons.injEq, Value.slice.injEq, true_and] at e
            obtain ⟨⟨rfl, rfl⟩, -⟩ := e
            obtain ⟨a', c', e, hq⟩ := hq1
            simp only [Value.slice.injEq] at e
            obtain ⟨rfl, -, -⟩ := e
            have hne : strs r.sure ≠ [] := by
              intro e
              have := congrArg List.length e
              rw [length_strs, List.length_nil] at this
              omega
            obtain ⟨g, o, e2, hq2⟩ := hq hne
            refine ⟨g, o, e2, hq2 k _ ?_⟩
            rw [← hs]
            simp [strs, List.getElem?_eq_getElem hkl]
          obtain ⟨g, o, rfl, hc⟩ := hcell
          have hgl := World.block_lt_of_cell? _ _ hc
          clear hq hs hz hz2 hq128
          cases q with
          | none =>
            obtain rfl : s = z := Hz2.out
            go_wp2_with (first | (go_at_call 114; refine HLa.out.mono ?_; rintro e w5 ⟨rfl, ho5⟩; have hc5 : w5.cell? ⟨g, o + k, none⟩ = some (.string (strOf s)) := cellG ho5 hgl (fun e => e) hc; have hb5 := cell_blk (blk_only Hb.out ho5 (fun e => e)); have HHas := hid (rhas_c w5 v keep k (HKs.out.only ho5 (fun _ _ _ _ _ _ e => e)) hkeepl); have Ho5 := hid ho5; clear ho5) | (refine wpList_addstr rfl (.tmp 56) (.tmp 58) rfl bo cap w3.heap.size k (r.crs keep tear at' k) (crs_len _ _ _ _ _) rfl ((HS.out.so.only Ho5.out (fun _ _ _ e => e)).only (((Only.refl (fun _ => False) w5).alloc _)) (fun _ _ _ e => e)) (by have := HS.out.only.size; have := Ho5.out.size; simp only [World.size_alloc]; omega) w5.heap.size s rfl (cell_blk (blk_new w5 _) 0) (by omega) ?_; intro bo' cap' w6 hso6 ho6; have Hso6 := hid hso6; have Ho6 := hid ho6; clear hso6 ho6))
            go_roundw
            case rel =>
              have l3 := Hl3.out
              have ha : Only (fun _ => False) wr (w5.alloc (.cells #[.string (strOf s)] 9)) := Ho5.out.alloc _
              refine ⟨k + 1, bo', cap', by go_num, by omega, by go_num, (HS.out.ref.only ha (fun _ _ e => e)).only Ho6.out (fun j hj e => nG.out j (by have e' : w3.heap.size ≤ j := e; omega) hj), blk_only (blk_only HS.out.b1 ha (fun e => e)) Ho6.out (show ¬ w3.heap.size ≤ w.heap.size by omega), blk_only (blk_only HS.out.b2 ha (fun e => e)) Ho6.out (show ¬ w3.heap.size ≤ w.heap.size + 1 by omega), by rw [crs_succ, Hcr.out]; exact Hso6.out, (HS.out.only.trans ha (fun _ _ e => e.elim)).trans Ho6.out (fun _ _ e => e)⟩
            case measure => simp [intOf]; omega
          | some l =>
            have hl128 := Hq128.out l rfl
            by_cases hmem : (k : Int) ∈ keep
            · obtain rfl : l = z := by have := Hz2.out; simp only [if_pos hmem] at this; exact this
              have hdec : decide ((k : Int) ∈ keep) = true := decide_eq_true hmem
              clear hmem
              go_wp2_with (first | (go_at_call 114; refine HLa.out.mono ?_; rintro e w5 ⟨rfl, ho5⟩; have hc5 : w5.cell? ⟨g, o + k, none⟩ = some (.string (strOf s)) := cellG ho5 hgl (fun e => e) hc; have hb5 := cell_blk (blk_only Hb.out ho5 (fun e => e)); have HHas := hid (rhas_c w5 v keep k (HKs.out.only ho5 (fun _ _ _ _ _ _ e => e)) hkeepl); have Ho5 := hid ho5; clear ho5) | (go_at_call 115; refine HHas.out.mono ?_; rintro e w' ⟨rfl, rfl⟩) | (refine wpList_addstr rfl (.tmp 56) (.tmp 58) rfl bo cap w3.heap.size k (r.crs keep tear at' k) (crs_len _ _ _ _ _) rfl ((HS.out.so.only Ho5.out (fun _ _ _ e => e)).only (((Only.refl (fun _ => False) w5).alloc _)) (fun _ _ _ e => e)) (by have := HS.out.only.size; have := Ho5.out.size; simp only [World.size_alloc]; omega) w5.heap.size l rfl (cell_blk (blk_new w5 _) 0) (by omega) ?_; intro bo' cap' w6 hso6 ho6; have Hso6 := hid hso6; have Ho6 := hid ho6; clear hso6 ho6))
              go_roundw
              case rel =>
                have l3 := Hl3.out
                have ha : Only (fun _ => False) wr (w5.alloc (.cells #[.string (strOf l)] 9)) := Ho5.out.alloc _
                refine ⟨k + 1, bo', cap', by go_num, by omega, by go_num, (HS.out.ref.only ha (fun _ _ e => e)).only Ho6.out (fun j hj e => nG.out j (by have e' : w3.heap.size ≤ j := e; omega) hj), blk_only (blk_only HS.out.b1 ha (fun e => e)) Ho6.out (show ¬ w3.heap.size ≤ w.heap.size by omega), blk_only (blk_only HS.out.b2 ha (fun e => e)) Ho6.out (show ¬ w3.heap.size ≤ w.heap.size + 1 by omega), by rw [crs_succ, Hcr.out]; exact Hso6.out, (HS.out.only.trans ha (fun _ _ e => e.elim)).trans Ho6.out (fun _ _ e => e)⟩
              case measure => simp [intOf]; omega
            · have hdec : decide ((k : Int) ∈ keep) = false := decide_eq_false hmem
              clear hmem
              by_cases ht : (k : Int) = tear
              · obtain rfl : torn l s at' = z := by have := Hz2.out; simp only [if_neg (of_decide_eq_false hdec), if_pos ht] at this; exact this
                have htt : ((k : Int) == tear) = true := by simp [ht]
                have hz1 : (strOf l).size = 128 := hl128
                have hz2 : (strOf s).size = 128 := hs128
                have heq : (strOf l).extract 0 m ++ (strOf s).extract m 128 = strOf (torn l s at') := by
                  have e1 := strS_extract l 0 m
                  have e2 := strS_extract s m (128 - m)
                  rw [Nat.zero_add, List.drop_zero] at e1
                  rw [show m + (128 - m) = 128 by omega, List.take_of_length_le (by simp; omega)] at e2
                  rw [e1, e2, strS_append, ← Hm.out]; rfl
                have Heq := hid heq
                have hcat : ((strOf l).extract 0 m).size + ((strOf s).extract m 128).size ≤ 9223372036854775807 := by simp [ByteArray.size_extract]; omega
                clear ht
                go_wp2_with (first | (go_at_call 114; refine HLa.out.mono ?_; rintro e w5 ⟨rfl, ho5⟩; have hc5 : w5.cell? ⟨g, o + k, none⟩ = some (.string (strOf s)) := cellG ho5 hgl (fun e => e) hc; have hb5 := cell_blk (blk_only Hb.out ho5 (fun e => e)); have HHas := hid (rhas_c w5 v keep k (HKs.out.only ho5 (fun _ _ _ _ _ _ e => e)) hkeepl); have Ho5 := hid ho5; clear ho5) | (go_at_call 115; refine HHas.out.mono ?_; rintro e w' ⟨rfl, rfl⟩))
                go_quiet (fail)
                go_wp2_with (refine wpList_addstr rfl (.tmp 56) (.tmp 58) rfl bo cap w3.heap.size k (r.crs keep tear at' k) (crs_len _ _ _ _ _) rfl ((HS.out.so.only Ho5.out (fun _ _ _ e => e)).only ((only_drewS w5 nq).alloc _) (fun _ _ _ e => e)) (by have := HS.out.only.size; have := Ho5.out.size; have := (only_drewS w5 nq).size; simp only [World.size_alloc]; omega) (w5.drewN nq).heap.size (torn l s at') rfl ((cell_blk (blk_new (w5.drewN nq) _) 0).trans (by rw [← Heq.out]; rfl)) (by omega) ?_; intro bo' cap' w6 hso6 ho6; have Hso6 := hid hso6; have Ho6 := hid ho6; clear hso6 ho6)
                go_roundw
                case rel =>
                  have l3 := Hl3.out
                  have ha : Only (fun _ => False) wr ((w5.drewN nq).alloc (.cells #[.string (strOf (torn l s at'))] 9)) := (Ho5.out.trans (only_drewS w5 nq) (fun _ _ e => e)).alloc _
                  refine ⟨k + 1, bo', cap', by go_num, by omega, by go_num, (HS.out.ref.only ha (fun _ _ e => e)).only Ho6.out (fun j hj e => nG.out j (by have e' : w3.heap.size ≤ j := e; omega) hj), blk_only (blk_only HS.out.b1 ha (fun e => e)) Ho6.out (show ¬ w3.heap.size ≤ w.heap.size by omega), blk_only (blk_only HS.out.b2 ha (fun e => e)) Ho6.out (show ¬ w3.heap.size ≤ w.heap.size + 1 by omega), by rw [crs_succ, Hcr.out]; exact Hso6.out, (HS.out.only.trans ha (fun _ _ e => e.elim)).trans Ho6.out (fun _ _ e => e)⟩
                case measure => simp [intOf]; omega
              · have htt : ((k : Int) == tear) = false := by simp [ht]
                obtain rfl : s = z := by have := Hz2.out; simp only [if_neg (of_decide_eq_false hdec), if_neg ht] at this; exact this
                clear ht
                go_wp2_with (first | (go_at_call 114; refine HLa.out.mono ?_; rintro e w5 ⟨rfl, ho5⟩; have hc5 : w5.cell? ⟨g, o + k, none⟩ = some (.string (strOf s)) := cellG ho5 hgl (fun e => e) hc; have hb5 := cell_blk (blk_only Hb.out ho5 (fun e => e)); have HHas := hid (rhas_c w5 v keep k (HKs.out.only ho5 (fun _ _ _ _ _ _ e => e)) hkeepl); have Ho5 := hid ho5; clear ho5) | (go_at_call 115; refine HHas.out.mono ?_; rintro e w' ⟨rfl, rfl⟩) | (refine wpList_addstr rfl (.tmp 56) (.tmp 58) rfl bo cap w3.heap.size k (r.crs keep tear at' k) (crs_len _ _ _ _ _) rfl ((HS.out.so.only Ho5.out (fun _ _ _ e => e)).only (((Only.refl (fun _ => False) w5).alloc _)) (fun _ _ _ e => e)) (by have := HS.out.only.size; have := Ho5.out.size; simp only [World.size_alloc]; omega) w5.heap.size s rfl (cell_blk (blk_new w5 _) 0) (by omega) ?_; intro bo' cap' w6 hso6 ho6; have Hso6 := hid hso6; have Ho6 := hid ho6; clear hso6 ho6))
                go_roundw
                case rel =>
                  have l3 := Hl3.out
                  have ha : Only (fun _ => False) wr (w5.alloc (.cells #[.string (strOf s)] 9)) := Ho5.out.alloc _
                  refine ⟨k + 1, bo', cap', by go_num, by omega, by go_num, (HS.out.ref.only ha (fun _ _ e => e)).only Ho6.out (fun j hj e => nG.out j (by have e' : w3.heap.size ≤ j := e; omega) hj), blk_only (blk_only HS.out.b1 ha (fun e => e)) Ho6.out (show ¬ w3.heap.size ≤ w.heap.size by omega), blk_only (blk_only HS.out.b2 ha (fun e => e)) Ho6.out (show ¬ w3.heap.size ≤ w.heap.size + 1 by omega), by rw [crs_succ, Hcr.out]; exact Hso6.out, (HS.out.only.trans ha (fun _ _ e => e.elim)).trans Ho6.out (fun _ _ e => e)⟩
                case measure => simp [intOf]; omega
        · obtain rfl : k = r.sure.length := by omega
          have hz := frozen_blk Hb.out
          have hcb := cell_blk Hb.out
          have Hset := hid (show ∀ v0 v1 v2 v3, Only (fun k => k = w.heap.size) wr ((((wr.setCell ⟨w.heap.size, 0, none⟩ v0).setCell ⟨w.heap.size, 1, none⟩ v1).setCell ⟨w.heap.size, 2, none⟩ v2).setCell ⟨w.heap.size, 3, none⟩ v3) from fun v0 v1 v2 v3 => (((only_set w.heap.size 0 v0).trans (only_set w.heap.size 1 v1) (fun k _ e => e)).trans (only_set w.heap.size 2 v2) (fun k _ e => e)).trans (only_set w.heap.size 3 v3) (fun k _ e => e))
          have Hb2s := hid (fun v0 v1 v2 v3 => blk_only HS.out.b2 (Hset.out v0 v1 v2 v3) (show ¬ w.heap.size + 1 = w.heap.size by omega))
          clear y0 y1 y2 y3 y4 y5
          go_wp2_with (refine wpList_store_all rfl 113 (.tmp 8) (.tmp 65) rfl (w.heap.size + 1) #[.slice bo r.sure.length cap, .slice none 0 0, .bool true, .int .i64 (-1), .int .i64 r.written, .int .i64 r.flushed] rfl rfl #[.slice none 0 0, .slice none 0 0, .bool false, .int .i64 0, .int .i64 0, .int .i64 0] 113 ?hb rfl info_rdisk (by simp [Value.oneCell']) ?_; (case hb => exact (Hb2s.out _ _ _ _)); intro w6 hb6 ho6 hs6; have Hb66 := hid hb6; have Ho6 := hid ho6; clear hb6 ho6 hs6)
          refine bodyPost_ret (results_cell0 rfl _ _ (w.heap.size + 1) 113 #[.slice bo r.sure.length cap, .slice none 0 0, .bool true, .int .i64 (-1), .int .i64 r.written, .int .i64 r.flushed] _ _ rfl Hb66.out Try.underlying113 rfl info_rdisk) rfl ?_
          have l3 := Hl3.out
          have h6 : Only (fun k => k = w.heap.size ∨ k = w.heap.size + 1) wr w6 := ((Hset.out (.slice bo r.sure.length cap) (.slice none 0 0) (.bool true) (.int .i64 (-1))).mono (fun k _ e => Or.inl e)).trans Ho6.out (fun k _ e => Or.inr e)
          have hso := HS.out.so.only h6 (fun j _ hj e => by rcases e with e | e <;> omega)
          have hsrc := hso.src
          rw [crs_len] at hsrc
          have hall : Only (fun k => w.heap.size ≤ k) w3 w6 := (HS.out.only.mono (fun k _ e => by have e' : w3.heap.size ≤ k := e; omega)).trans h6 (fun k _ e => by rcases e with e | e <;> omega)
          refine ⟨_, fun j => w.heap.size ≤ j ∧ j < w6.heap.size, rfl, ⟨⟨bo, cap, none, 0, by unfold RM.cells RM.crash; simp [crs_len], by simpa [RM.crash, crs_len] using hsrc, ⟨none, 0, rfl, fun e => absurd rfl e⟩, fun g o e => ?_, fun g o e => by cases e⟩, fun j hj => hj.2⟩, fun j hj => .inr hj.1, How.out.trans hall (fun k hk e => by have e' : w.heap.size ≤ k := e; omega)⟩
          rcases hso with ⟨e', -, -⟩ | ⟨g', e', hg, hr⟩
          · rw [e'] at e; cases e
          · rw [e'] at e
            simp only [Option.some.injEq, Addr.mk.injEq] at e
            have := hr.lt
            omega
end
end Go.Proofs.Ytepndjojodbhdaa
