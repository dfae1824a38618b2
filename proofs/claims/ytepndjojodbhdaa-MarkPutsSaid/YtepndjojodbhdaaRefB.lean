/- The reference's Text, Read, Get. -/
import Derived.Test.YtepndjojodbhdaaRefA
namespace Go.Proofs.Ytepndjojodbhdaa
open Go.RowKit

def lenOfStr : Value → Nat
  | .string s => s.size
  | _ => 0
/-- A reference's mark as a value: its number, a slice of numbers. -/
structure RefV (w : World) (v : Value) (s : Nat) (ws : List Nat) (lo : Nat) : Prop where
  ex : ∃ a c, v = .agg #[.int .u64 s, .slice a ws.length c] ∧ SrcV w (.slice a ws.length c) (nat64 ws) ∧ ∀ g o, a = some ⟨g, o, none⟩ → lo ≤ g
theorem RefV.only {w w' : World} {v : Value} {s : Nat} {ws : List Nat} {lo : Nat} {G : Nat → Prop} (h : RefV w v s ws lo) (ho : Only G w w') (hG : ∀ k, lo ≤ k → ¬ G k) : RefV w' v s ws lo := by
  obtain ⟨a, c, rfl, ⟨a', c', e, hs⟩, hlo⟩ := h.ex
  refine ⟨a, c, rfl, ⟨a', c', e, fun hne => ?_⟩, hlo⟩
  obtain ⟨g, o, rfl, hc⟩ := hs hne
  simp only [Value.slice.injEq] at e
  exact ⟨g, o, rfl, fun i u hu => (World.cell?_of_block (ho.block g (World.block_lt_of_cell? _ _ (hc i u hu)) (hG g (hlo g o e.1)))).trans (hc i u hu)⟩
theorem RefV.mono {w : World} {v : Value} {s : Nat} {ws : List Nat} {lo lo' : Nat} (h : RefV w v s ws lo) (hl : lo' ≤ lo) : RefV w v s ws lo' := by
  obtain ⟨a, c, e, hs, hlo⟩ := h.ex
  exact ⟨a, c, e, hs, fun g o e => Nat.le_trans hl (hlo g o e)⟩
theorem getD_lt {xs : List Nat} (h : ∀ x ∈ xs, x < 18446744073709551616) (i : Nat) : xs.getD i 0 < 18446744073709551616 := by
  rw [List.getD_eq_getElem?_getD]
  cases hi : xs[i]? with
  | none => simp
  | some x => exact h x (List.mem_of_getElem? hi)
/-- The first k of six numbers' bytes. -/
def six (ws : List Nat) (k : Nat) : List UInt8 := ((List.range k).map fun i => ws.getD i 0).flatMap le8
theorem six_succ (ws : List Nat) (k : Nat) : six ws (k + 1) = six ws k ++ le8 (ws.getD k 0) := by
  unfold six; rw [List.range_succ, List.map_append, List.flatMap_append]; simp
theorem six_len (ws : List Nat) (k : Nat) : (six ws k).length = 8 * k := by unfold six; rw [flat8_len]; simp
theorem encH_six (s : Nat) (ws : List Nat) : encH (mkMark s ws) = le8 s ++ six ws 6 := rfl

set_option maxRecDepth 100000 in
set_option maxHeartbeats 1600000 in
theorem text_c (w : World) (v : Value) (s : Nat) (ws : List Nat) (lo : Nat) (h : RefV w v s ws lo) (hs : s < 18446744073709551616) (hw : ∀ x ∈ ws, x < 18446744073709551616) (_hl : ws.length ≤ 1000000) :
    Calls Try.prog 68 #[v] w fun e w' => e = .returned (.string (strOf (enc (mkMark s ws)))) ∧ Only (fun _ => False) w w' := by
  obtain ⟨a, c, rfl, hsrc, -⟩ := h.ex
  have HS := hid hsrc; have Hw := hid hw; have Hs := hid hs
  clear h hsrc hw hs
  have HE := fun w n hn => hid (eight_c w n hn)
  go_enter Try.func68, Try.ntmps68
  go_wp2_with (first | (go_at_call 99; refine (HE _ s Hs.out).out.mono ?_; rintro e w1 ⟨rfl, ho1⟩; have hb1 := blk_only (blk_new w (.cells #[.int .u64 s, .slice a ws.length c] 62)) ho1 (fun e => e); have Hb1 := hid hb1; have Ho1 := hid (((Only.refl (fun _ => False) w).alloc _).trans ho1 (fun _ _ e => e)); clear hb1 ho1))
  go_loopw [3, 4, 5] (fun t i _ wr => ∃ k : Nat, i = .int .i64 k ∧ k ≤ 6 ∧ t = .string (strOf (le8 s ++ six ws k)) ∧ wr.heap[w.heap.size]? = some (.cells #[.int .u64 s, .slice a ws.length c] 62 (0, 0)) ∧ Only (fun _ => False) w wr) (fun _ i _ _ => 6 - (intOf i).toNat)
  case atStart => exact ⟨0, rfl, by omega, by simp [six], Hb1.out, Ho1.out⟩
  case round =>
    obtain ⟨k, rfl, hk, rfl, hb, ho⟩ := hrel
    obtain ⟨w3, rfl⟩ : ∃ w3 : World, w3 = wr := ⟨_, rfl⟩
    have hc1 : w3.cell? ⟨w.heap.size, 1, none⟩ = some (.slice a ws.length c) := cell_blk hb 1
    have Hb := hid hb; have Ho := hid ho
    clear hb ho
    by_cases hk6 : k < 6
    · obtain ⟨x, hx⟩ : ∃ x, ws.getD k 0 = x := ⟨_, rfl⟩
      have HX := hid hx
      have hxl : x < 18446744073709551616 := by rw [← hx]; exact getD_lt Hw.out k
      have Hxl := hid hxl
      have hsz : (strOf (le8 s ++ six ws k)).size + (strOf (le8 x)).size ≤ 9223372036854775807 := by
        rw [strOf_size, strOf_size, List.length_append, six_len]; simp; omega
      clear hxl
      by_cases hkl : (k : Int) < (ws.length : Int)
      · have hcx : ∃ g o, a = some ⟨g, o, none⟩ ∧ w3.cell? ⟨g, o + k, none⟩ = some (.int .u64 x) := by
          obtain ⟨a', c', e, hc⟩ := HS.out
          simp only [Value.slice.injEq] at e
          obtain ⟨rfl, -, -⟩ := e
          have hkl' : k < ws.length := by omega
          obtain ⟨g, o, rfl, hc2⟩ := hc (by intro e; have := congrArg List.length e; rw [length_nat64] at this; simp at this; rw [this] at hkl'; simp at hkl')
          have h1 := hc2 k (.int .u64 x) (by unfold nat64; rw [List.getElem?_map, List.getElem?_eq_getElem hkl', ← hx, List.getD_eq_getElem?_getD, List.getElem?_eq_getElem hkl']; rfl)
          exact ⟨g, o, rfl, (World.cell?_of_block (Ho.out.block g (World.block_lt_of_cell? _ _ h1) (fun e => e))).trans h1⟩
        obtain ⟨g, o, rfl, hcx⟩ := hcx
        clear hx
        go_wp2_with (first | (go_at_call 99; refine (HE _ x Hxl.out).out.mono ?_; rintro e w4 ⟨rfl, ho4⟩; have Hb4 := hid (blk_only Hb.out ho4 (fun e => e)); have Ho4 := hid (Ho.out.trans ho4 (fun _ _ e => e)); clear ho4))
        go_roundw
        case rel => exact ⟨k + 1, by go_num, by omega, by rw [strOf_app, six_succ, HX.out, List.append_assoc], Hb4.out, Ho4.out⟩
        case measure => simp [intOf]; omega
      · have hx0 : x = 0 := by rw [← hx, List.getD_eq_getElem?_getD, List.getElem?_eq_none (by omega)]; rfl
        subst hx0
        clear hx
        go_wp2_with (first | (go_at_call 99; refine (HE _ 0 Hxl.out).out.mono ?_; rintro e w4 ⟨rfl, ho4⟩; have Hb4 := hid (blk_only Hb.out ho4 (fun e => e)); have Ho4 := hid (Ho.out.trans ho4 (fun _ _ e => e)); clear ho4))
        go_roundw
        case rel => exact ⟨k + 1, by go_num, by omega, by rw [strOf_app, six_succ, HX.out, List.append_assoc], Hb4.out, Ho4.out⟩
        case measure => simp [intOf]; omega
    · obtain rfl : k = 6 := by omega
      have he := encH_six s ws
      rw [← he]
      have h56 : (strOf (encH (mkMark s ws))).size = 56 := by rw [strOf_size, length_encH]
      have hcat : (strOf (encH (mkMark s ws))).size + (strOf (encH (mkMark s ws))).size ≤ 9223372036854775807 := by rw [h56]; decide
      have H56 := hid h56
      clear he h56 hc1
      go_wp2_with fail
      go_loop [3] (fun t => ∃ j : Nat, j ≤ 16 ∧ t = .string (strOf (encH (mkMark s ws) ++ encH (mkMark s ws) ++ zeros j))) (fun t => 16 - (lenOfStr t - 112))
      case atStart => exact ⟨0, by omega, by rw [strOf_app]; simp [zeros]⟩
      case round =>
        obtain ⟨j, hj, rfl⟩ := hrel
        obtain ⟨X, hX⟩ : ∃ X, encH (mkMark s ws) ++ encH (mkMark s ws) ++ zeros j = X := ⟨_, rfl⟩
        have hjz : X.length = 112 + j := by rw [← hX]; simp; omega
        rw [hX]
        have HX := hid hX
        have Hjz := hid (show (strOf X).size = 112 + j from hjz)
        clear hX hjz
        by_cases hj16 : j < 16
        · have hlt : ((strOf X).size : Int) < 128 := by have := Hjz.out; omega
          have hcat2 : (strOf X).size + 1 ≤ 9223372036854775807 := by have := Hjz.out; omega
          go_wp2_with fail
          go_round
          case rel => exact ⟨j + 1, by omega, by rw [show ({ data := #[0] } : ByteArray) = strOf [0] from rfl, strOf_app, ← HX.out]; simp [zeros, List.replicate_succ']⟩
          case measure =>
            have h1 := Hjz.out
            have h2 : (strOf X ++ { data := #[0] }).size = (strOf X).size + 1 := by rw [show ({ data := #[0] } : ByteArray) = strOf [0] from rfl, strOf_app, strOf_size, strOf_size]; simp
            simp only [lenOfStr, h2]; omega
        · obtain rfl : j = 16 := by omega
          have hge : ¬ ((strOf X).size : Int) < 128 := by have := Hjz.out; omega
          go_wp2_with fail
          go_ret
          exact ⟨by rw [← HX.out]; rfl, Ho.out⟩
end Go.Proofs.Ytepndjojodbhdaa
