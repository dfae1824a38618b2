/- A mark's sector is read. -/
import Derived.Test.YthodcbhejjbhaaaMarkB
import Derived.Test.YthodcbhejjbhaaaWhole
import Derived.Deep.QuietTactic
import Derived.BigQuiet
import Derived.ChangeAlike
import Derived.Deep.RegionHeld3
namespace Go.Proofs.Ythodcbhejjbhaaa
open Go.RowKit

def deAt (l : List UInt8) (i : Nat) : Nat := deN ((l.drop (8 * i)).take 8)
theorem deAt_lt (l : List UInt8) (i : Nat) : deAt l i < 18446744073709551616 := by
  have h := deN_lt ((l.drop (8 * i)).take 8)
  have h2 : ((l.drop (8 * i)).take 8).length ≤ 8 := by simp; omega
  have h3 : 256 ^ ((l.drop (8 * i)).take 8).length ≤ 256 ^ 8 := Nat.pow_le_pow_right (by decide) h2
  have h4 : (256 : Nat) ^ 8 = 18446744073709551616 := by decide
  unfold deAt; omega
/-- The mark of bytes, if they are one's. -/
def decM (l : List UInt8) : MarkM := ⟨deAt l 0, deAt l 1, deAt l 2, deAt l 3, deAt l 4, deAt l 5, deAt l 6⟩
def readOk (l : List UInt8) : Bool := l.length == 128 && (l.take 56 == (l.drop 56).take 56 && (l.drop 112).all (· == 0))
def readM (l : List UInt8) : MarkM × Bool := if readOk l = true then (decM l, decide (0 < (decM l).s)) else (MarkM.zero, false)
theorem decM_ok (l : List UInt8) : (decM l).ok := by
  intro n hn
  simp only [decM, MarkM.nums, List.mem_cons, List.not_mem_nil, or_false] at hn
  rcases hn with rfl | rfl | rfl | rfl | rfl | rfl | rfl <;> exact deAt_lt _ _

/-- A mark of which the first i numbers are told. -/
def part (l : List UInt8) (i : Nat) : Array Value := ((List.range 7).map fun j => Value.int .u64 ((if j < i then deAt l j else 0 : Nat) : Int)).toArray
theorem part_zero (l : List UInt8) : part l 0 = MarkM.zero.V := rfl
theorem part_all (l : List UInt8) : part l 7 = (decM l).V := rfl
@[simp] theorem part_size (l : List UInt8) (i : Nat) : (part l i).size = 7 := by simp [part]
theorem part_set (l : List UInt8) (i : Nat) (_ : i < 7) : (part l i).setIfInBounds i (.int .u64 (deAt l i : Nat)) = part l (i + 1) := by
  apply Array.ext
  · simp
  · intro j h1 h2
    have hj : j < 7 := by simpa using h2
    rw [Array.getElem_setIfInBounds (by simpa using hj)]
    by_cases e : i = j
    · subst e; simp [part]
    · rw [if_neg e]
      simp only [part, List.getElem_toArray, List.getElem_map, List.getElem_range]
      congr 2
      by_cases h3 : j < i
      · rw [if_pos h3, if_pos (by omega)]
      · rw [if_neg h3, if_neg (by omega)]

theorem all_zero_get {l : List UInt8} (h : (l.drop 112).all (· == 0) = true) (k : Nat) (hk : 112 + k < l.length) : l[112 + k] = 0 := by
  have := List.all_eq_true.1 h (l[112 + k]) (by rw [List.mem_drop_iff_getElem]; exact ⟨k, by omega, by simp [Nat.add_comm]⟩)
  simpa using this

theorem info_mark : (Try.prog.info? 85).map (·.size) = some 7 := by kernel_rfl
theorem V_one (m : MarkM) : m.V.all (·.oneCell') = true := by simp [MarkM.V, Value.oneCell']

set_option maxRecDepth 100000 in
set_option maxHeartbeats 1600000 in
theorem read_long (w : World) (v : Value) (l : List UInt8) (h : Src w v l) (hl : l.length ≠ 128) (_ : l.length ≤ 1000000) :
    Calls Try.prog 68 #[v] w fun e w' => e = .returned (.tuple #[.agg (readM l).1.V, .bool (readM l).2]) ∧ Only (fun _ => False) w w' := by
  have hr : readM l = (MarkM.zero, false) := by
    have : readOk l = false := by unfold readOk; simp [hl]
    unfold readM; rw [this]; rfl
  rw [hr]
  obtain ⟨a, c, rfl, hs⟩ := h
  clear hs hr
  have h1 : ((l.length : Int) != 128) = true := by simp; omega
  have h2 : ((l.length : Int) == 128) = false := by simp; omega
  clear hl
  go_enter Try.func68, Try.ntmps68
  go_wp2_with fail
  go_quiet (fail)
  go_wp2_with (refine wpList_store_all rfl 85 (.tmp 2) (.tmp 22) rfl w.heap.size MarkM.zero.V rfl rfl MarkM.zero.V 85 (blk_new w _) rfl info_mark (V_one _) ?_; intro w3 hb3 ho3 hs3; have Hb3 := hid hb3; have Ho3 := hid ho3; clear hb3 ho3 hs3)
  refine bodyPost_ret (results_cell1 (q := 3) rfl _ _ w.heap.size 85 MarkM.zero.V _ _ rfl Hb3.out Try.underlying85 rfl info_mark) rfl ⟨rfl, ?_⟩
  exact (((Only.refl _ w).alloc _).trans (only_drewN _ _) (fun _ _ e => e)).trans Ho3.out (fun k hk e => absurd hk (by rw [e]; exact Nat.lt_irrefl _))
theorem Src.piece {w : World} {g o n c : Nat} {l : List UInt8} (h : Src w (.slice (some ⟨g, o, none⟩) n c) l) (k m c' : Nat) (p : List UInt8) (hp : p = (l.drop k).take m) (hm : p.length = m) : Src w (.slice (some ⟨g, o + k, none⟩) m c') p := by
  obtain ⟨a, c0, e, hs⟩ := h
  simp only [Value.slice.injEq] at e
  obtain ⟨rfl, -, -⟩ := e
  refine ⟨_, c', by rw [hm], fun hne => ⟨g, o + k, rfl, fun i u hu => ?_⟩⟩
  have hi : i < m := by
    rcases Nat.lt_or_ge i m with h | h
    · exact h
    · rw [bytesV_get, List.getElem?_eq_none (by omega)] at hu; cases hu
  have hl : k + i < l.length := by
    have : ((l.drop k).take m).length = m := by rw [← hp]; exact hm
    rw [List.length_take, List.length_drop] at this; omega
  obtain ⟨g', o', e', hc⟩ := hs (by intro e; rw [e] at hl; simp at hl)
  simp only [Option.some.injEq, Addr.mk.injEq, and_true] at e'
  obtain ⟨rfl, rfl⟩ := e'
  rw [Nat.add_assoc]
  refine hc (k + i) u ?_
  rw [bytesV_get] at hu ⊢
  rw [hp, List.getElem?_take_of_lt hi, List.getElem?_drop] at hu
  exact hu
theorem set7 {w : World} {b : Nat} {a0 a1 a2 a3 a4 a5 a6 : Value} {T : TypeId} (h : w.heap[b]? = some (.cells #[a0, a1, a2, a3, a4, a5, a6] T (0, 0))) (v0 v1 v2 v3 v4 v5 v6 : Value) :
    (((((((w.setCell ⟨b, 0, none⟩ v0).setCell ⟨b, 1, none⟩ v1).setCell ⟨b, 2, none⟩ v2).setCell ⟨b, 3, none⟩ v3).setCell ⟨b, 4, none⟩ v4).setCell ⟨b, 5, none⟩ v5).setCell ⟨b, 6, none⟩ v6).heap[b]? = some (.cells #[v0, v1, v2, v3, v4, v5, v6] T (0, 0)) := by
  have h0 := blk_set h 0 v0
  simp only [List.setIfInBounds_toArray, List.set_cons_zero] at h0
  have h1 := blk_set h0 1 v1
  simp only [List.setIfInBounds_toArray, List.set_cons_succ, List.set_cons_zero] at h1
  have h2 := blk_set h1 2 v2
  simp only [List.setIfInBounds_toArray, List.set_cons_succ, List.set_cons_zero] at h2
  have h3 := blk_set h2 3 v3
  simp only [List.setIfInBounds_toArray, List.set_cons_succ, List.set_cons_zero] at h3
  have h4 := blk_set h3 4 v4
  simp only [List.setIfInBounds_toArray, List.set_cons_succ, List.set_cons_zero] at h4
  have h5 := blk_set h4 5 v5
  simp only [List.setIfInBounds_toArray, List.set_cons_succ, List.set_cons_zero] at h5
  have h6 := blk_set h5 6 v6
  simp only [List.setIfInBounds_toArray, List.set_cons_succ, List.set_cons_zero] at h6
  exact h6
theorem set7_only (w : World) {b : Nat} (v0 v1 v2 v3 v4 v5 v6 : Value) :
    Only (fun k => k = b) w (((((((w.setCell ⟨b, 0, none⟩ v0).setCell ⟨b, 1, none⟩ v1).setCell ⟨b, 2, none⟩ v2).setCell ⟨b, 3, none⟩ v3).setCell ⟨b, 4, none⟩ v4).setCell ⟨b, 5, none⟩ v5).setCell ⟨b, 6, none⟩ v6) := by
  have e : ∀ {w' : World}, Only (fun k => k = b) w w' → ∀ (o : Nat) (v : Value), Only (fun k => k = b) w (w'.setCell ⟨b, o, none⟩ v) := fun h o v => h.setCell _ _ (fun _ => rfl)
  exact e (e (e (e (e (e (e (Only.refl _ _) 0 v0) 1 v1) 2 v2) 3 v3) 4 v4) 5 v5) 6 v6
theorem part_get (l : List UInt8) (i j : Nat) (h : j < 7) : ∃ x, (part l i)[j]? = some x := ⟨_, Array.getElem?_eq_getElem (by simpa using h)⟩

set_option maxRecDepth 100000 in
set_option maxHeartbeats 3200000 in
theorem read_ok' (w : World) (v : Value) (l : List UInt8) (h : Src w v l) (hl : l.length = 128) (hcap : ∀ a c, v = .slice a 128 c → 128 ≤ c) :
    Calls Try.prog 68 #[v] w fun e w' => e = .returned (.tuple #[.agg (readM l).1.V, .bool (readM l).2]) ∧ Only (fun _ => False) w w' := by
  obtain ⟨a, c, rfl, hs⟩ := h
  rw [hl] at hcap ⊢
  have hc8 := hcap _ _ rfl
  obtain ⟨g, o, rfl, hc⟩ := hs (by intro e; rw [e] at hl; simp at hl)
  have hsrc : Src w (.slice (some ⟨g, o, none⟩) 128 c) l := ⟨_, c, by rw [hl], hs⟩
  have HC := hid hc; have HS := hid hsrc; have HL := hid hl
  clear hc hs hcap hsrc hl
  have hcv1 : ∀ ob n, (convert 33 9 (.slice (some ⟨g, o, none⟩) 56 c)).run Try.prog ((w.alloc ob).drewN n) = .ok (.string (strOf (l.take 56))) ((w.alloc ob).drewN n) := fun ob n => by
    have h1 := HS.out.piece 0 56 c (l.take 56) (by simp) (by simp; have := HL.out; omega)
    exact conv_str (h1.only (((Only.refl (fun _ => False) w).alloc ob).trans (only_drewN _ n) (fun _ _ e => e)) (fun _ _ _ _ _ e => e))
  have hcv2 : ∀ ob n, (convert 33 9 (.slice (some ⟨g, o + 56, none⟩) 56 (c - 56))).run Try.prog ((w.alloc ob).drewN n) = .ok (.string (strOf ((l.drop 56).take 56))) ((w.alloc ob).drewN n) := fun ob n => by
    have h1 := HS.out.piece 56 56 (c - 56) ((l.drop 56).take 56) rfl (by simp; have := HL.out; omega)
    exact conv_str (h1.only (((Only.refl (fun _ => False) w).alloc ob).trans (only_drewN _ n) (fun _ _ e => e)) (fun _ _ _ _ _ e => e))
  by_cases hhalf : l.take 56 = (l.drop 56).take 56
  · have hse : ((strOf (List.take 56 l)).toList == (strOf (List.take 56 (List.drop 56 l))).toList) = true := by rw [← hhalf]; exact beq_self_eq_true _
    have Hhalf := hid hhalf
    clear hhalf
    go_enter Try.func68, Try.ntmps68
    go_wp2_with fail
    go_quiet (fail)
    clear hcv1 hcv2
    have hb0 : ((w.alloc (.cells #[.int .u64 0, .int .u64 0, .int .u64 0, .int .u64 0, .int .u64 0, .int .u64 0, .int .u64 0] 85)).drewN nq).heap[w.heap.size]? = some (.cells MarkM.zero.V 85 (0, 0)) := blk_new w _
    have ho0 : Only (fun _ => False) w ((w.alloc (.cells #[.int .u64 0, .int .u64 0, .int .u64 0, .int .u64 0, .int .u64 0, .int .u64 0, .int .u64 0] 85)).drewN nq) := ((Only.refl _ _).alloc _).trans (only_drewN _ _) (fun _ _ e => e)
    have hs0 : ((w.alloc (.cells #[.int .u64 0, .int .u64 0, .int .u64 0, .int .u64 0, .int .u64 0, .int .u64 0, .int .u64 0] 85)).drewN nq).heap.size = w.heap.size + 1 := by simp
    generalize (w.alloc (.cells #[.int .u64 0, .int .u64 0, .int .u64 0, .int .u64 0, .int .u64 0, .int .u64 0, .int .u64 0] 85)).drewN nq = W at hb0 ho0 hs0 ⊢
    have HCW : Hid (∀ i u, (bytesV l)[i]? = some u → W.cell? ⟨g, o + i, none⟩ = some u) := hid (fun i u hu => (World.cell?_of_block (ho0.block g (World.block_lt_of_cell? _ _ (HC.out i u hu)) (fun e => e))).trans (HC.out i u hu))
    have Hb0 := hid hb0; have Ho0 := hid ho0; have Hs0 := hid hs0
    clear hb0 ho0 hs0
    go_wp2_with fail
    go_loop [26, 5] (fun i _ => ∃ k : Nat, i = .int .i64 k ∧ k ≤ 16 ∧ ∀ j, j < k → l[112 + j]? = some 0) (fun i _ => 16 - (intOf i).toNat)
    case atStart => exact ⟨0, rfl, by omega, fun j hj => absurd hj (by omega)⟩
    case round =>
      obtain ⟨k, rfl, hk, hz⟩ := hrel
      have HZ := hid hz
      clear hz
      by_cases hk16 : k < 16
      · obtain ⟨x, hx⟩ : ∃ x, l[112 + k]? = some x := ⟨_, List.getElem?_eq_getElem (by have := HL.out; omega)⟩
        have hcell : W.cell? ⟨g, o + 112 + k, none⟩ = some (.int .u8 x.toNat) := by rw [Nat.add_assoc]; exact HCW.out (112 + k) _ (by rw [bytesV_get, hx]; rfl)
        have HX := hid hx
        clear hx
        by_cases hx0 : (x.toNat : Int) = 0
        · go_wp2_with fail
          go_round
          case rel => exact ⟨k + 1, by go_num, by omega, fun j hj => by
            by_cases e : j = k
            · rw [e, HX.out]; congr 1; exact UInt8.toNat_inj.1 (by show x.toNat = 0; omega)
            · exact HZ.out j (by omega)⟩
          case measure => simp [intOf]; omega
        · have hr : readM l = (MarkM.zero, false) := by
            have : readOk l = false := by
              cases h : readOk l with
              | false => rfl
              | true =>
                exfalso
                unfold readOk at h
                simp only [Bool.and_eq_true] at h
                have hlt : 112 + k < l.length := by have := HL.out; omega
                have h2 := all_zero_get h.2.2 k hlt
                have h3 := HX.out
                rw [List.getElem?_eq_getElem hlt, h2] at h3
                have h4 := Option.some.inj h3
                rw [← h4] at hx0; exact hx0 rfl
            unfold readM; rw [this]; rfl
          have Hr := hid hr
          clear hr
          have hxn : ((x.toNat : Int) == 0) = false := by simpa using hx0
          go_wp2_with (refine wpList_store_all rfl 85 (.tmp 2) (.tmp 32) rfl w.heap.size MarkM.zero.V rfl rfl MarkM.zero.V 85 Hb0.out rfl info_mark (V_one _) ?_; intro w3 hb3 ho3 hs3; have Hb3 := hid hb3; have Ho3 := hid ho3; clear hb3 ho3 hs3)
          refine bodyPost_ret (results_cell1 (q := 3) rfl _ _ w.heap.size 85 MarkM.zero.V _ _ rfl Hb3.out Try.underlying85 rfl info_mark) rfl ⟨by rw [Hr.out]; rfl, ?_⟩
          exact Ho0.out.trans Ho3.out (fun k hk e => absurd hk (by rw [e]; exact Nat.lt_irrefl _))
      · obtain rfl : k = 16 := by omega
        have hok : readOk l = true := by
          unfold readOk
          have h3 : (l.drop 112).all (· == 0) = true := by
            rw [List.all_eq_true]
            intro x hx
            obtain ⟨j, hj, rfl⟩ := List.mem_drop_iff_getElem.1 hx
            have := HZ.out j (by have := HL.out; omega)
            rw [List.getElem?_eq_getElem (by omega)] at this
            have := Option.some.inj this
            simpa [Nat.add_comm] using this
          rw [h3, HL.out, ← Hhalf.out]; simp
        have hr : readM l = (decM l, decide (0 < (decM l).s)) := by unfold readM; rw [hok]; rfl
        have Hr := hid hr
        clear hok hr HZ Hhalf hse
        have hzs : W.heap.size = w.heap.size + 1 := Hs0.out
        go_wp2_with fail
        go_loopw [34, 7, 8, 9] (fun i _ _ _ wr => ∃ k : Nat, i = .int .i64 k ∧ k ≤ 7 ∧ wr.heap[w.heap.size + 1]? = some (.cells (part l k) 85 (0, 0)) ∧ Only (fun _ => False) W wr) (fun i _ _ _ _ => 7 - (intOf i).toNat)
        case atStart =>
          refine ⟨0, rfl, by omega, ?_, (Only.refl _ _).alloc _⟩
          have := blk_new W (.cells MarkM.zero.V 85)
          rw [hzs] at this
          exact this
        case round =>
          obtain ⟨k, rfl, hk, hblk, ho⟩ := hrel
          have Ho := hid ho
          obtain ⟨w3, rfl⟩ : ∃ w3 : World, w3 = wr := ⟨_, rfl⟩
          by_cases hk7 : k < 7
          · have HBlk := hid hblk
            clear hblk ho
            go_wp2_with fail
            go_loop [37, 8, 9] (fun i n _ => ∃ j : Nat, i = .int .i64 j ∧ j ≤ 8 ∧ n = .int .u64 (deN ((l.drop (8 * k)).take j))) (fun i _ _ => 8 - (intOf i).toNat)
            case atStart => exact ⟨0, rfl, by omega, rfl⟩
            case round =>
              obtain ⟨j, rfl, hj, rfl⟩ := hrel
              by_cases hj8 : j < 8
              · have hlt : j < (l.drop (8 * k)).length := by rw [List.length_drop]; have := HL.out; omega
                have hcell : w3.cell? ⟨g, o + (8 * k + j), none⟩ = some (.int .u8 ((l.drop (8 * k))[j]).toNat) := by
                  have h1 := HCW.out (8 * k + j) (.int .u8 ((l.drop (8 * k))[j]).toNat) (by
                    rw [bytesV_get, ← List.getElem?_drop, List.getElem?_eq_getElem hlt]; rfl)
                  exact (World.cell?_of_block (Ho.out.block g (World.block_lt_of_cell? _ _ h1) (fun e => e))).trans h1
                have hst := or_step (l.drop (8 * k)) j hj8 hlt
                simp only [List.getElem_drop] at hst hcell
                have HST := hid hst
                clear hst
                go_wp2_with fail
                go_round
                case rel => exact ⟨j + 1, by go_num, by omega, by rw [HST.out]⟩
                case measure => simp [intOf]; omega
              · obtain rfl : j = 8 := by omega
                have hd : deN ((l.drop (8 * k)).take 8) = deAt l k := rfl
                rw [hd]
                clear hd
                have hfz := frozen_blk HBlk.out
                by_cases hk0 : (k : Int) = 0
                · obtain rfl : k = 0 := by omega
                  obtain ⟨x, hx⟩ := part_get l 0 0 (by omega)
                  have hcx := (cell_blk HBlk.out 0).trans hx
                  clear hx
                  go_wp2_with fail
                  go_roundw
                  case rel =>
                    have hb := blk_set HBlk.out 0 (.int .u64 (deAt l 0))
                    rw [part_set l 0 (by omega)] at hb
                    exact ⟨1, rfl, by omega, hb, Ho.out.setCell _ _ (fun h => absurd h (by show ¬ (w.heap.size + 1 < W.heap.size); omega))⟩
                  case measure => simp [intOf]
                · obtain ⟨x, hx⟩ := part_get l k k hk7
                  have hk1 : 1 ≤ (k : Int) := by omega
                  have hcx : w3.cell? ⟨w.heap.size + 1, 1 + (k - 1), none⟩ = some x := by
                    rw [show 1 + (k - 1) = k from by omega]; exact (cell_blk HBlk.out k).trans hx
                  clear hx hk0
                  go_wp2_with fail
                  go_roundw
                  case rel =>
                    have hb := blk_set HBlk.out k (.int .u64 (deAt l k))
                    rw [part_set l k hk7] at hb
                    have e : 1 + (k - 1) = k := by omega
                    refine ⟨k + 1, by go_num, by omega, ?_, Ho.out.setCell _ _ (fun h => absurd h (by show ¬ (w.heap.size + 1 < W.heap.size); omega))⟩
                    rw [e]; exact hb
                  case measure => simp [intOf]; omega
          · obtain rfl : k = 7 := by omega
            have hc := cell_blk hblk
            have c0 : w3.cell? ⟨w.heap.size + 1, 0, none⟩ = some (.int .u64 (deAt l 0)) := hc 0
            have c1 : w3.cell? ⟨w.heap.size + 1, 1, none⟩ = some (.int .u64 (deAt l 1)) := hc 1
            have c2 : w3.cell? ⟨w.heap.size + 1, 2, none⟩ = some (.int .u64 (deAt l 2)) := hc 2
            have c3 : w3.cell? ⟨w.heap.size + 1, 3, none⟩ = some (.int .u64 (deAt l 3)) := hc 3
            have c4 : w3.cell? ⟨w.heap.size + 1, 4, none⟩ = some (.int .u64 (deAt l 4)) := hc 4
            have c5 : w3.cell? ⟨w.heap.size + 1, 5, none⟩ = some (.int .u64 (deAt l 5)) := hc 5
            have c6 : w3.cell? ⟨w.heap.size + 1, 6, none⟩ = some (.int .u64 (deAt l 6)) := hc 6
            clear hc hblk ho
            have Hb4 : Hid (w3.heap[w.heap.size]? = some (.cells MarkM.zero.V 85 (0, 0))) := hid ((Ho.out.block _ (by omega) (fun e => e)).trans Hb0.out)
            go_wp2_with fail
            have Hb5 : Hid (w3.drew.heap[w.heap.size]? = some (.cells MarkM.zero.V 85 (0, 0))) := Hb4
            have z0 := frozen_blk Hb4.out
            have y0 : w3.cell? ⟨w.heap.size, 0, none⟩ = some (.int .u64 0) := cell_blk Hb4.out 0
            have y1 : w3.cell? ⟨w.heap.size, 1, none⟩ = some (.int .u64 0) := cell_blk Hb4.out 1
            have y2 : w3.cell? ⟨w.heap.size, 2, none⟩ = some (.int .u64 0) := cell_blk Hb4.out 2
            have y3 : w3.cell? ⟨w.heap.size, 3, none⟩ = some (.int .u64 0) := cell_blk Hb4.out 3
            have y4 : w3.cell? ⟨w.heap.size, 4, none⟩ = some (.int .u64 0) := cell_blk Hb4.out 4
            have y5 : w3.cell? ⟨w.heap.size, 5, none⟩ = some (.int .u64 0) := cell_blk Hb4.out 5
            have y6 : w3.cell? ⟨w.heap.size, 6, none⟩ = some (.int .u64 0) := cell_blk Hb4.out 6
            clear hzs
            go_region_held3 (fun W' => W'.cell? ⟨w.heap.size + 1, 0, none⟩ = some (.int .u64 (deAt l 0)) ∧ W'.cell? ⟨w.heap.size + 1, 1, none⟩ = some (.int .u64 (deAt l 1)) ∧ W'.cell? ⟨w.heap.size + 1, 2, none⟩ = some (.int .u64 (deAt l 2)) ∧ W'.cell? ⟨w.heap.size + 1, 3, none⟩ = some (.int .u64 (deAt l 3)) ∧ W'.cell? ⟨w.heap.size + 1, 4, none⟩ = some (.int .u64 (deAt l 4)) ∧ W'.cell? ⟨w.heap.size + 1, 5, none⟩ = some (.int .u64 (deAt l 5)) ∧ W'.cell? ⟨w.heap.size + 1, 6, none⟩ = some (.int .u64 (deAt l 6))) (go_keep) (fail)
            go_wp2_with fail
            refine bodyPost_ret (results_cell1 (q := 3) rfl _ _ w.heap.size 85 (decM l).V (0, 0) _ rfl ?_ Try.underlying85 rfl info_mark) rfl ⟨?_, ?_⟩
            · rw [heap_drew]
              exact set7 (a0 := .int .u64 0) (a1 := .int .u64 0) (a2 := .int .u64 0) (a3 := .int .u64 0) (a4 := .int .u64 0) (a5 := .int .u64 0) (a6 := .int .u64 0) Hb4.out (.int .u64 (deAt l 0)) (.int .u64 (deAt l 1)) (.int .u64 (deAt l 2)) (.int .u64 (deAt l 3)) (.int .u64 (deAt l 4)) (.int .u64 (deAt l 5)) (.int .u64 (deAt l 6))
            · rw [Hr.out]; rfl
            · refine (Ho0.out.trans Ho.out (fun _ _ e => e)).trans ?_ (G := fun k => k = w.heap.size) (fun k hk e => absurd hk (by rw [e]; exact Nat.lt_irrefl _))
              exact (set7_only (b := w.heap.size) w3 (.int .u64 (deAt l 0)) (.int .u64 (deAt l 1)) (.int .u64 (deAt l 2)) (.int .u64 (deAt l 3)) (.int .u64 (deAt l 4)) (.int .u64 (deAt l 5)) (.int .u64 (deAt l 6))).drew
  · have hse : ((strOf (List.take 56 l)).toList == (strOf (List.take 56 (List.drop 56 l))).toList) = false := by
      rw [strOf_list, strOf_list]; simpa using hhalf
    have hr : readM l = (MarkM.zero, false) := by
      have : readOk l = false := by unfold readOk; simp [HL.out, hhalf]
      unfold readM; rw [this]; rfl
    rw [hr]
    clear hhalf hr
    go_enter Try.func68, Try.ntmps68
    go_wp2_with fail
    go_quiet (fail)
    clear hcv1 hcv2
    go_wp2_with (refine wpList_store_all rfl 85 (.tmp 2) (.tmp 22) rfl w.heap.size MarkM.zero.V rfl rfl MarkM.zero.V 85 (blk_new w _) rfl info_mark (V_one _) ?_; intro w3 hb3 ho3 hs3; have Hb3 := hid hb3; have Ho3 := hid ho3; clear hb3 ho3 hs3)
    refine bodyPost_ret (results_cell1 (q := 3) rfl _ _ w.heap.size 85 MarkM.zero.V _ _ rfl Hb3.out Try.underlying85 rfl info_mark) rfl ⟨rfl, ?_⟩
    exact (((Only.refl _ w).alloc _).trans (only_drewN _ _) (fun _ _ e => e)).trans Ho3.out (fun k hk e => absurd hk (by rw [e]; exact Nat.lt_irrefl _))
end Go.Proofs.Ythodcbhejjbhaaa
