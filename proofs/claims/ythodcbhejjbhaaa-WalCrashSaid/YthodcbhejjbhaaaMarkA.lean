/- The mark's small functions: eight bytes as a number, a slot. -/
import Derived.Test.YthodcbhejjbhaaaRig
import Derived.Laws.Bits64b
namespace Go.Proofs.Ythodcbhejjbhaaa
open Go.RowKit

/-- Bytes as a number, the lowest first. -/
def deN : List UInt8 → Nat
  | [] => 0
  | x :: xs => x.toNat + 256 * deN xs
theorem deN_lt : ∀ l : List UInt8, deN l < 256 ^ l.length
  | [] => by simp [deN]
  | x :: xs => by
    have h := deN_lt xs
    have hx : x.toNat < 256 := x.toNat_lt
    simp only [deN, List.length_cons, Nat.pow_succ]
    omega
theorem deN_snoc : ∀ (l : List UInt8) (x : UInt8), deN (l ++ [x]) = deN l + 256 ^ l.length * x.toNat
  | [], x => by simp [deN]
  | y :: l, x => by
    simp only [List.cons_append, deN, deN_snoc l x, List.length_cons, Nat.pow_succ, Nat.mul_add]
    rw [Nat.add_assoc, ← Nat.mul_assoc, Nat.mul_comm 256 (256 ^ l.length)]

/-- A sum's low part and its high part, by 'or'. -/
theorem or_shl (n x k : Nat) (hn : n < 2 ^ k) : n ||| (x * 2 ^ k) = n + 2 ^ k * x := by
  rw [Nat.mul_comm, Nat.add_comm, Nat.or_comm]
  exact (Nat.two_pow_add_eq_or_of_lt hn x).symm

theorem slot_c (w : World) (first : Int) (seq : Nat) (h0 : 0 ≤ first) (h1 : first ≤ 1000000) :
    Calls Try.prog 69 #[.int .i64 first, .int .u64 seq] w fun e w' => e = .returned (.int .i64 (first + (seq % 2 : Nat))) ∧ w = w' := by
  go_enter Try.func69, Try.ntmps69
  go_wp2
  go_ret
  refine ⟨?_, rfl⟩
  rw [Int.natCast_emod]; rfl

/-- One byte more, by 'or' and a shift. -/
theorem or_step (l : List UInt8) (k : Nat) (hk : k < 8) (hl : k < l.length) :
    bits .or .u64 (deN (l.take k) : Nat) (IntKind.u64.wrap (IntKind.u64.wrap ((l[k]).toNat : Nat) * 2 ^ (8 * k))) = (deN (l.take (k + 1)) : Nat) := by
  have hx : (l[k]).toNat < 256 := (l[k]).toNat_lt
  have h1 : IntKind.u64.wrap (((l[k]).toNat : Nat) : Int) = ((l[k]).toNat : Nat) := by rw [IntKind.wrap_u64]; omega
  have hp : 2 ^ (8 * k) * 256 ≤ 2 ^ 64 := by
    have : 2 ^ (8 * k) * 256 = 2 ^ (8 * k + 8) := by rw [Nat.pow_add]
    rw [this]; exact Nat.pow_le_pow_right (by decide) (by omega)
  have hxl : (l[k]).toNat * 2 ^ (8 * k) < 18446744073709551616 := by
    have : (l[k]).toNat * 2 ^ (8 * k) < 256 * 2 ^ (8 * k) := Nat.mul_lt_mul_of_pos_right hx (Nat.two_pow_pos _)
    have h64 : (2 : Nat) ^ 64 = 18446744073709551616 := by decide
    rw [Nat.mul_comm 256] at this
    omega
  have h2 : (((l[k]).toNat : Nat) : Int) * 2 ^ (8 * k) = (((l[k]).toNat * 2 ^ (8 * k) : Nat) : Int) := by simp
  have hlen : (l.take k).length = k := by simp; omega
  have hd := deN_lt (l.take k)
  rw [hlen] at hd
  have h256 : (256 : Nat) ^ k = 2 ^ (8 * k) := by rw [Nat.pow_mul]
  have hdl : deN (l.take k) < 18446744073709551616 := by
    have h64 : (2 : Nat) ^ 64 = 18446744073709551616 := by decide
    omega
  rw [h1, h2, IntKind.wrap_u64]
  rw [show (((l[k]).toNat * 2 ^ (8 * k) : Nat) : Int) % 18446744073709551616 = (((l[k]).toNat * 2 ^ (8 * k) : Nat) : Int) from by omega]
  rw [bits_or_u64_nat _ _ hdl hxl, or_shl _ _ _ (by rw [← h256]; exact hd)]
  rw [List.take_succ_eq_append_getElem hl, deN_snoc, hlen, h256]

set_option maxHeartbeats 400000 in
theorem mnumber_c (w : World) (v : Value) (l : List UInt8) (h : Src w v l) (h8 : 8 ≤ l.length) (hb : l.length ≤ 1000000) (hcap : ∀ a c, v = .slice a l.length c → 8 ≤ c) :
    Calls Try.prog 67 #[v] w fun e w' => e = .returned (.int .u64 (deN (l.take 8))) ∧ w = w' := by
  obtain ⟨a, c, rfl, hs⟩ := h
  have hc8 := hcap _ _ rfl
  obtain ⟨g, o, rfl, hc⟩ := hs (by intro e; rw [e] at h8; simp at h8)
  have HC := hid hc
  clear hc hs hcap
  go_enter Try.func67, Try.ntmps67
  go_wp2
  go_loop [9, 3, 4, 5] (fun i n _ _ => ∃ k : Nat, k ≤ 8 ∧ i = .int .i64 k ∧ n = .int .u64 (deN (l.take k))) (fun i _ _ _ => 8 - (intOf i).toNat)
  case atStart => exact ⟨0, by omega, rfl, rfl⟩
  case round =>
    obtain ⟨k, hk, rfl, rfl⟩ := hrel
    by_cases hk8 : k < 8
    · have hlt : k < l.length := by omega
      have hcell : w.cell? ⟨g, o + k, none⟩ = some (.int .u8 (l[k]).toNat) := HC.out k _ (by rw [bytesV_get, List.getElem?_eq_getElem hlt]; rfl)
      have hst := or_step l k hk8 hlt
      have HST := hid hst
      clear hst
      go_wp2
      go_round
      case rel => exact ⟨k + 1, by omega, by go_num, by rw [HST.out]⟩
      case measure => simp [intOf]; omega
    · obtain rfl : k = 8 := by omega
      go_wp2
      go_ret
      exact ⟨rfl, rfl⟩
end Go.Proofs.Ythodcbhejjbhaaa
