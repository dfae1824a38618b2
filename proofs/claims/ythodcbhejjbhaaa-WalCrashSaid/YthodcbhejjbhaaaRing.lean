/- The ring: how it lies in memory; sector, Tail, Size, Left. -/
import Derived.Test.YthodcbhejjbhaaaFuse
import Derived.Deep.QuietTactic
import Derived.BigQuiet
namespace Go.Proofs.Ythodcbhejjbhaaa
open Go.RowKit

/-- A ring over a disk's sectors: where it begins, how many sectors, the number of the next byte, the last sector's bytes up to it. -/
structure RingM where
  first : Nat
  count : Nat
  tail : Nat
  rest : List UInt8

def ringCells (R : RingM) (b : Nat) (rv : Value) : Array Value := #[.pointer (some ⟨b, 0, none⟩), .int .i64 R.first, .int .i64 R.count, .int .u64 R.tail, rv]

structure RingRep (w : World) (r b : Nat) (R : RingM) (rv : Value) (F : Nat → Prop) : Prop where
  blk : w.heap[r]? = some (.cells (ringCells R b rv) 114 (0, 0))
  rest : Src w rv R.rest
  inF : ∀ g o c, rv = .slice (some ⟨g, o, none⟩) R.rest.length c → F g
  own : F r
  lt : ∀ k, F k → k < w.heap.size
  c0 : 0 < R.count ∧ R.first + R.count ≤ 4096
  t0 : R.tail ≤ 18446744073709551615
  len : R.rest.length = R.tail % 128
def RingAt (w : World) (r b : Nat) (R : RingM) (F : Nat → Prop) : Prop := ∃ rv, RingRep w r b R rv F

theorem RingAt.only {w w' : World} {r b : Nat} {R : RingM} {F G : Nat → Prop} (h : RingAt w r b R F) (ho : Only G w w') (hd : ∀ k, F k → ¬ G k) : RingAt w' r b R F := by
  obtain ⟨rv, h⟩ := h
  exact ⟨rv, blk_only h.blk ho (hd _ h.own), h.rest.only ho (fun _ g o c e => hd _ (h.inF g o c e)), h.inF, h.own, fun k hk => Nat.lt_of_lt_of_le (h.lt k hk) ho.size, h.c0, h.t0, h.len⟩

theorem RingAt.lt {w : World} {r b : Nat} {R : RingM} {F : Nat → Prop} (h : RingAt w r b R F) : r < w.heap.size := by obtain ⟨rv, h⟩ := h; exact blk_lt h.blk

def RingM.sector (R : RingM) (at' : Nat) : Nat := R.first + at' / 128 % R.count
def RingM.size (R : RingM) : Nat := R.count * 128

theorem ret_i {k : IntKind} {a b : Int} (h : a = b) : Ending.returned (.int k a) = .returned (.int k b) := by rw [h]

section
variable {w : World} {r b : Nat} {R : RingM} {F : Nat → Prop}
theorem RingAt.cells (h : RingAt w r b R F) : ∃ rv a c, rv = .slice a R.rest.length c ∧ (∀ o, w.cell? ⟨r, o, none⟩ = (#[.pointer (some ⟨b, 0, none⟩), .int .i64 R.first, .int .i64 R.count, .int .u64 R.tail, rv] : Array Value)[o]?) ∧ ∀ o, w.frozen? ⟨r, o, none⟩ = false := by
  obtain ⟨rv, h⟩ := h
  obtain ⟨a, c, e⟩ := h.rest.len
  exact ⟨rv, a, c, e, cell_blk h.blk, frozen_blk h.blk⟩

theorem tail_c (h : RingAt w r b R F) : Calls Try.prog 48 #[.pointer (some ⟨r, 0, none⟩)] w fun e w' => e = .returned (.int .u64 R.tail) ∧ w = w' := by
  obtain ⟨rv, a, c, -, hc, hz⟩ := h.cells
  clear h
  go_enter Try.func48, Try.ntmps48
  go_wp2
  go_ret
  exact ⟨rfl, rfl⟩

theorem size_c (h : RingAt w r b R F) : Calls Try.prog 57 #[.pointer (some ⟨r, 0, none⟩)] w fun e w' => e = .returned (.int .i64 R.size) ∧ w = w' := by
  obtain ⟨rv, a, c, -, hc, hz⟩ := h.cells
  have hb : (R.count : Int) ≤ 4096 := by obtain ⟨rv, h⟩ := h; have := h.c0; omega
  clear h
  go_enter Try.func57, Try.ntmps57
  go_wp2
  go_ret
  exact ⟨by simp [RingM.size], rfl⟩

/-- In a drawn order: reads alone. -/
theorem ringsector_raw {first count : Nat} {x0 x3 x4 : Value} (hb0 : w.heap[r]? = some (.cells #[x0, .int .i64 first, .int .i64 count, x3, x4] 114 (0, 0))) (hb : 0 < count ∧ first + count ≤ 4096) (n : Nat) (hn : n ≤ 18446744073709551615) :
    Calls Try.prog 52 #[.pointer (some ⟨r, 0, none⟩), .int .u64 n] w fun e w' => e = .returned (.int .i64 (first + n / 128 % count : Nat)) ∧ w'.heap = w.heap ∧ Only (fun _ => False) w w' := by
  have hc := cell_blk hb0
  have hb1 : count ≤ 4096 := by omega
  have hb2 : 0 < count := by omega
  have hb3 : first ≤ 4096 := by omega
  clear hb0 hb
  go_enter Try.func52, Try.ntmps52
  go_wp2
  go_quiet (fail)
  go_wp2
  go_ret
  have h1 : (n : Int) / 128 % count < count := Int.emod_lt_of_pos _ (by omega)
  have h2 : 0 ≤ (n : Int) / 128 % count := Int.emod_nonneg _ (by omega)
  have e1 : wrap64 ((n : Int) / 128 % count) = (n : Int) / 128 % count := IntWalk.wrap64_in _ ⟨by omega, by omega⟩
  have e2 : wrap64 (first + (n : Int) / 128 % count) = first + (n : Int) / 128 % count := IntWalk.wrap64_in _ ⟨by omega, by omega⟩
  have e3 : ((first + n / 128 % count : Nat) : Int) = first + (n : Int) / 128 % count := by simp
  refine ⟨?_, rfl, only_drewN w _⟩
  rw [e3]
  show Ending.returned (.int .i64 (wrap64 (first + wrap64 ((n : Int) / 128 % count)))) = _
  rw [e1, e2]
theorem ringsector_c (h : RingAt w r b R F) (n : Nat) (hn : n ≤ 18446744073709551615) : Calls Try.prog 52 #[.pointer (some ⟨r, 0, none⟩), .int .u64 n] w fun e w' => e = .returned (.int .i64 (R.sector n)) ∧ w'.heap = w.heap ∧ Only (fun _ => False) w w' := by
  obtain ⟨rv, h⟩ := h
  exact ringsector_raw h.blk h.c0 n hn

def RingM.left (R : RingM) (head : Nat) : Nat :=
  let h := min head R.tail
  R.size - (R.tail - h / 128 * 128)

theorem left_c (h : RingAt w r b R F) (n : Nat) (hn : n ≤ 18446744073709551615) : Calls Try.prog 34 #[.pointer (some ⟨r, 0, none⟩), .int .u64 n] w fun e w' => e = .returned (.int .i64 (R.left n)) ∧ w = w' := by
  obtain ⟨rv, a, c, -, hc, hz⟩ := h.cells
  have hb : R.count ≤ 4096 ∧ 0 < R.count ∧ R.first ≤ 4096 ∧ R.tail ≤ 18446744073709551615 := by obtain ⟨rv, h⟩ := h; have := h.c0; have := h.t0; omega
  have HS := hid (size_c h)
  clear h
  obtain ⟨hb1, hb2, hb3, hb4⟩ := hb
  have hsz : (R.size : Int) ≤ 524288 := by unfold RingM.size; omega
  by_cases hnt : R.tail < n
  · have h0 : (R.tail : Int) < (n : Int) := by omega
    have hL : R.left n = R.size - (R.tail - R.tail / 128 * 128) := by unfold RingM.left; rw [Nat.min_eq_right (by omega)]
    have HL := hid hL
    clear hL
    go_enter Try.func34, Try.ntmps34
    go_wp2_with (go_at_call 57; refine HS.out.mono ?_; rintro e w' ⟨rfl, rfl⟩)
    · go_ret
      rw [HL.out]
      exact ⟨ret_i (by omega), rfl⟩
    · go_ret
      rw [HL.out]
      exact ⟨ret_i (by omega), rfl⟩
  · have h0 : (n : Int) ≤ (R.tail : Int) := by omega
    have hL : R.left n = R.size - (R.tail - n / 128 * 128) := by unfold RingM.left; rw [Nat.min_eq_left (by omega)]
    have HL := hid hL
    clear hL
    go_enter Try.func34, Try.ntmps34
    go_wp2_with (go_at_call 57; refine HS.out.mono ?_; rintro e w' ⟨rfl, rfl⟩)
    · go_ret
      rw [HL.out]
      exact ⟨ret_i (by omega), rfl⟩
    · go_ret
      rw [HL.out]
      exact ⟨ret_i (by omega), rfl⟩
end
end Go.Proofs.Ythodcbhejjbhaaa
