/- foliotlaw06: sure, like; the plain law of what is read. -/
import Derived.Test.YtepndjojodbhdaaRefD
namespace Go.Proofs.Ytepndjojodbhdaa
open Go.RowKit

def MarkM.wd (m : MarkM) (i : Nat) : Nat := match i with | 0 => m.w0 | 1 => m.w1 | 2 => m.w2 | 3 => m.w3 | 4 => m.w4 | _ => m.w5
theorem ix0 (m : MarkM) (w : World) : (Instr.index 65 (.agg #[.int .u64 m.w0, .int .u64 m.w1, .int .u64 m.w2, .int .u64 m.w3, .int .u64 m.w4, .int .u64 m.w5]) (.int .i64 0)).run Try.prog w = .ok (.int .u64 m.w0) w := by kernel_rfl
theorem ix1 (m : MarkM) (w : World) : (Instr.index 65 (.agg #[.int .u64 m.w0, .int .u64 m.w1, .int .u64 m.w2, .int .u64 m.w3, .int .u64 m.w4, .int .u64 m.w5]) (.int .i64 1)).run Try.prog w = .ok (.int .u64 m.w1) w := by kernel_rfl
theorem ix2 (m : MarkM) (w : World) : (Instr.index 65 (.agg #[.int .u64 m.w0, .int .u64 m.w1, .int .u64 m.w2, .int .u64 m.w3, .int .u64 m.w4, .int .u64 m.w5]) (.int .i64 2)).run Try.prog w = .ok (.int .u64 m.w2) w := by kernel_rfl
theorem ix3 (m : MarkM) (w : World) : (Instr.index 65 (.agg #[.int .u64 m.w0, .int .u64 m.w1, .int .u64 m.w2, .int .u64 m.w3, .int .u64 m.w4, .int .u64 m.w5]) (.int .i64 3)).run Try.prog w = .ok (.int .u64 m.w3) w := by kernel_rfl
theorem ix4 (m : MarkM) (w : World) : (Instr.index 65 (.agg #[.int .u64 m.w0, .int .u64 m.w1, .int .u64 m.w2, .int .u64 m.w3, .int .u64 m.w4, .int .u64 m.w5]) (.int .i64 4)).run Try.prog w = .ok (.int .u64 m.w4) w := by kernel_rfl
theorem ix5 (m : MarkM) (w : World) : (Instr.index 65 (.agg #[.int .u64 m.w0, .int .u64 m.w1, .int .u64 m.w2, .int .u64 m.w3, .int .u64 m.w4, .int .u64 m.w5]) (.int .i64 5)).run Try.prog w = .ok (.int .u64 m.w5) w := by kernel_rfl
theorem index_a6 (m : MarkM) (i : Nat) (hi : i < 6) (w : World) : (Instr.index 65 (.agg #[.int .u64 m.w0, .int .u64 m.w1, .int .u64 m.w2, .int .u64 m.w3, .int .u64 m.w4, .int .u64 m.w5]) (.int .i64 i)).run Try.prog w = .ok (.int .u64 (m.wd i)) w := by
  have : i = 0 ∨ i = 1 ∨ i = 2 ∨ i = 3 ∨ i = 4 ∨ i = 5 := by omega
  rcases this with rfl | rfl | rfl | rfl | rfl | rfl
  · exact ix0 m w
  · exact ix1 m w
  · exact ix2 m w
  · exact ix3 m w
  · exact ix4 m w
  · exact ix5 m w
theorem mk_wd (s : Nat) (ws : List Nat) (i : Nat) (hi : i < 6) : (mkMark s ws).wd i = ws.getD i 0 := by
  match i, hi with
  | 0, _ => rfl
  | 1, _ => rfl
  | 2, _ => rfl
  | 3, _ => rfl
  | 4, _ => rfl
  | 5, _ => rfl

section
variable {w : World} {b : Nat} {D : DiskM} {F : Nat → Prop}
set_option maxRecDepth 100000 in
set_option maxHeartbeats 800000 in
theorem sure_c (h : DiskAt w b D F) (n : Nat) (hn : n < D.n) :
    Calls Try.prog 44 #[.pointer (some ⟨b, 0, none⟩), .int .i64 n] w fun e w' => e = .returned (.string (strOf (D.sure n))) ∧ Only (fun _ => False) w w' := by
  have hl := h.sure_len hn
  have HS := hid (sure_ok h n (by omega) (by omega))
  rw [Int.toNat_natCast] at HS
  have HL := hid hl
  clear h hl
  go_enter Try.func44, Try.ntmps44
  go_wp2_with fail
  refine HS.out.mono ?_
  rintro e w1 ⟨g, c, rfl, hm, ho⟩
  have hcv : (convert 30 9 (.slice (some ⟨g, 0, none⟩) 128 c)).run Try.prog w1 = .ok (.string (strOf (D.sure n))) w1 := by
    have := secV_src hm.row HL.out
    unfold secV at this
    exact conv_str this
  have Ho := hid ho
  clear hm ho
  unfold secV
  go_wp2_with fail
  go_ret
  exact ⟨rfl, Ho.out⟩

set_option maxRecDepth 100000 in
set_option maxHeartbeats 1600000 in
theorem like_yes (w : World) (v : Value) (s : Nat) (ws : List Nat) (lo : Nat) (h : RefV w v s ws lo) (_hl : ws.length ≤ 1000000) :
    Calls Try.prog 46 #[.agg (mkMark s ws).V, v] w fun e w' => e = .returned (.bool true) ∧ Only (fun _ => False) w w' := by
  obtain ⟨a, c, rfl, hsrc, -⟩ := h.ex
  have HS := hid hsrc
  clear h hsrc
  obtain ⟨m, hm⟩ : ∃ m, mkMark s ws = m := ⟨_, rfl⟩
  have hms : m.s = s := by rw [← hm]; rfl
  subst hms
  have HM := hid hm
  rw [hm]
  clear hm
  unfold MarkM.V
  have hidx := fun i (hi : i < 6) => index_a6 m i hi
  have Hidx := hid hidx
  clear hidx
  go_enter Try.func46, Try.ntmps46
  go_wp2_with fail
  go_loopw [15, 5, 6, 7] (fun i _ _ _ wr => ∃ k : Nat, i = .int .i64 k ∧ k ≤ 6 ∧ wr.heap[w.heap.size + 1]? = some (.cells #[.int .u64 m.s, .slice a ws.length c] 62 (0, 0)) ∧ Only (fun _ => False) w wr) (fun i _ _ _ _ => 6 - (intOf i).toNat)
  case atStart =>
    refine ⟨0, rfl, by omega, ?_, ((Only.refl _ _).alloc _).alloc _⟩
    have := blk_new (w.alloc (.cells m.V 67)) (.cells #[.int .u64 m.s, .slice a ws.length c] 62)
    rw [World.size_alloc] at this
    exact this
  case round =>
    obtain ⟨k, rfl, hk, hb, ho⟩ := hrel
    obtain ⟨w3, rfl⟩ : ∃ w3 : World, w3 = wr := ⟨_, rfl⟩
    have hc1 : w3.cell? ⟨w.heap.size + 1, 1, none⟩ = some (.slice a ws.length c) := cell_blk hb 1
    have Hb := hid hb; have Ho := hid ho
    clear hb ho
    by_cases hk6 : k < 6
    · have hix := Hidx.out k hk6
      obtain ⟨x, hx⟩ : ∃ x, m.wd k = x := ⟨_, rfl⟩
      have hxw : ws.getD k 0 = x := by rw [← hx, ← HM.out, mk_wd _ _ _ hk6]
      rw [hx] at hix
      clear hx
      by_cases hkl : (k : Int) < (ws.length : Int)
      · have hcx : ∃ g o, a = some ⟨g, o, none⟩ ∧ w3.cell? ⟨g, o + k, none⟩ = some (.int .u64 x) := by
          obtain ⟨a', c', e, hc⟩ := HS.out
          simp only [Value.slice.injEq] at e
          obtain ⟨rfl, -, -⟩ := e
          have hkl' : k < ws.length := by omega
          obtain ⟨g, o, rfl, hc2⟩ := hc (by intro e; have := congrArg List.length e; rw [length_nat64] at this; simp at this; rw [this] at hkl'; simp at hkl')
          have h1 := hc2 k (.int .u64 x) (by unfold nat64; rw [List.getElem?_map, List.getElem?_eq_getElem hkl', ← hxw, List.getD_eq_getElem?_getD, List.getElem?_eq_getElem hkl']; rfl)
          exact ⟨g, o, rfl, (World.cell?_of_block (Ho.out.block g (World.block_lt_of_cell? _ _ h1) (fun e => e))).trans h1⟩
        obtain ⟨g, o, rfl, hcx⟩ := hcx
        clear hxw
        go_wp2_with fail
        go_roundw
        case rel => exact ⟨k + 1, by go_num, by omega, Hb.out, Ho.out⟩
        case measure => simp [intOf]; omega
      · have hx0 : x = 0 := by rw [← hxw, List.getD_eq_getElem?_getD, List.getElem?_eq_none (by omega)]; rfl
        subst hx0
        clear hxw
        go_wp2_with fail
        go_roundw
        case rel => exact ⟨k + 1, by go_num, by omega, Hb.out, Ho.out⟩
        case measure => simp [intOf]; omega
    · obtain rfl : k = 6 := by omega
      go_wp2_with fail
      go_ret
      exact ⟨rfl, Ho.out⟩
end

/-- What the program finds is what the reference finds. -/
theorem ref_law (C : Nat → List UInt8) :
    ((refGet (C 0) (C 1)).1 = 0 → (lookK C 2).1.s = 0) ∧ ((refGet (C 0) (C 1)).1 ≠ 0 → (lookK C 2).1 = mkMark (refGet (C 0) (C 1)).1 (refGet (C 0) (C 1)).2 ∧ (lookK C 2).1.s ≠ 0) := by
  have hd : ∀ l, (decM l).s = deAt l 0 := fun _ => rfl
  have hm : ∀ l, mkMark (deAt l 0) (refK l 6) = decM l := fun _ => rfl
  have hr : ∀ l, readM l = if readOk l = true then (decM l, decide (0 < deAt l 0)) else (MarkM.zero, false) := fun _ => rfl
  have e1 : (lookK C 1).1 = if readOk (C 0) = true ∧ 0 < deAt (C 0) 0 ∧ deAt (C 0) 0 % 2 = 0 then decM (C 0) else MarkM.zero := by
    show (lookStep 0 (MarkM.zero, 0) (C 0)).1 = _
    unfold lookStep
    simp only [hr]
    by_cases a : readOk (C 0) = true
    · simp only [a, if_true, hd, true_and, decide_eq_true_eq, MarkM.zero]
      by_cases b : 0 < deAt (C 0) 0 ∧ deAt (C 0) 0 % 2 = 0
      · rw [if_pos ⟨b.1, b⟩, if_pos b]
      · rw [if_neg (fun e => b e.2), if_neg b]
    · simp [a]
  have e2 : (lookK C 2).1 = if readOk (C 1) = true ∧ (lookK C 1).1.s < deAt (C 1) 0 ∧ deAt (C 1) 0 % 2 = 1 then decM (C 1) else (lookK C 1).1 := by
    show (lookStep 1 (lookK C 1) (C 1)).1 = _
    unfold lookStep
    simp only [hr]
    by_cases a : readOk (C 1) = true
    · simp only [a, if_true, hd, true_and, decide_eq_true_eq]
      by_cases b : (lookK C 1).1.s < deAt (C 1) 0 ∧ deAt (C 1) 0 % 2 = 1
      · rw [if_pos ⟨by omega, b⟩, if_pos b]
      · rw [if_neg (fun e => b e.2), if_neg b]
    · simp [a]
  have z : MarkM.zero.s = 0 := rfl
  have c1 : (lookK C 1).1.s = (refX (C 0)).1 ∧ ((refX (C 0)).1 ≠ 0 → (lookK C 1).1 = mkMark (refX (C 0)).1 (refX (C 0)).2) := by
    rw [e1]
    unfold refX refS refW
    by_cases a : readOk (C 0) = true
    · simp only [a, if_true, true_and]
      by_cases b : deAt (C 0) 0 % 2 = 0
      · rw [if_pos b]
        by_cases c : 0 < deAt (C 0) 0
        · rw [if_pos ⟨c, b⟩]; exact ⟨rfl, fun _ => (hm _).symm⟩
        · rw [if_neg (fun e => c e.1)]; exact ⟨by rw [z]; show 0 = deAt (C 0) 0; omega, fun e => absurd (by show deAt (C 0) 0 = 0; omega) e⟩
      · rw [if_neg b, if_neg (fun e => b e.2)]; exact ⟨rfl, fun e => absurd rfl e⟩
    · simp only [a, if_false, false_and, Bool.false_eq_true]
      exact ⟨rfl, fun e => absurd rfl e⟩
  have c2 : (refY (C 1)).1 = 0 ∧ (lookK C 2).1 = (lookK C 1).1 ∨ readOk (C 1) = true ∧ deAt (C 1) 0 % 2 = 1 ∧ refY (C 1) = (deAt (C 1) 0, refK (C 1) 6) := by
    rw [e2]
    unfold refY refS refW
    by_cases a : readOk (C 1) = true
    · simp only [a, if_true, true_and]
      by_cases b : deAt (C 1) 0 % 2 = 1
      · right; exact ⟨b, if_pos b⟩
      · left; rw [if_neg b, if_neg (fun e => b e.2)]; exact ⟨rfl, rfl⟩
    · left
      simp only [a, if_false, false_and, Bool.false_eq_true]
      exact ⟨rfl, trivial⟩
  unfold refGet
  rcases c2 with ⟨y0, yl⟩ | ⟨ok1, q1, yq⟩
  · rw [if_neg (by omega), yl]
    exact ⟨fun e => by rw [c1.1, e], fun e => ⟨c1.2 e, by rw [c1.1]; exact e⟩⟩
  · rw [yq]
    by_cases hlt : (refX (C 0)).1 < deAt (C 1) 0
    · rw [if_pos hlt]
      have e3 : (lookK C 2).1 = decM (C 1) := by rw [e2, if_pos ⟨ok1, by rw [c1.1]; exact hlt, q1⟩]
      rw [e3]
      exact ⟨fun e => e, fun e => ⟨(hm _).symm, e⟩⟩
    · rw [if_neg hlt]
      have e3 : (lookK C 2).1 = (lookK C 1).1 := by rw [e2, if_neg (fun e => hlt (by rw [← c1.1]; exact e.2.1))]
      rw [e3]
      exact ⟨fun e => by rw [c1.1, e], fun e => ⟨c1.2 e, by rw [c1.1]; exact e⟩⟩
end Go.Proofs.Ytepndjojodbhdaa
