/- The reference's small functions: a number's eight bytes, and back. -/
import Derived.Test.YtepndjojodbhdaaMarkL
namespace Go.Proofs.Ytepndjojodbhdaa
open Go.RowKit

theorem strOf_app (a b : List UInt8) : strOf a ++ strOf b = strOf (a ++ b) := by
  apply ByteArray.ext
  simp [strOf]
theorem strOf_size (l : List UInt8) : (strOf l).size = l.length := rfl

theorem strOf_get (l : List UInt8) (j : Nat) (h : j < (strOf l).size) : (strOf l)[j]'h = l[j]'h := rfl
theorem wrap_div (q r : Nat) (h : q < 18446744073709551616) (hr : q / 256 = r) : Value.int .u64 (IntKind.u64.wrap ((q : Int) / 256)) = .int .u64 (r : Nat) := by
  rw [← hr, IntKind.wrap_u64]
  congr 1
  omega

set_option maxRecDepth 100000 in
set_option maxHeartbeats 800000 in
theorem eight_c (w : World) (n : Nat) (hn : n < 18446744073709551616) :
    Calls Try.prog 99 #[.int .u64 n] w fun e w' => e = .returned (.string (strOf (le8 n))) ∧ Only (fun _ => False) w w' := by
  have Hn := hid hn
  clear hn
  go_enter Try.func99, Try.ntmps99
  go_wp2_with fail
  go_loopw [0, 3, 4] (fun q s i wr => ∃ k : Nat, i = .int .i64 k ∧ k ≤ 8 ∧ q = .int .u64 (n / 256 ^ k : Nat) ∧ s = .string (strOf ((le8 n).take k)) ∧ Only (fun _ => False) w wr) (fun _ _ i _ => 8 - (intOf i).toNat)
  case atStart => exact ⟨0, rfl, by omega, by simp, rfl, Only.refl _ _⟩
  case round =>
    obtain ⟨k, rfl, hk, rfl, rfl, ho⟩ := hrel
    have Ho := hid ho
    clear ho
    by_cases hk8 : k < 8
    · obtain ⟨q, hq⟩ : ∃ q, n / 256 ^ k = q := ⟨_, rfl⟩
      have hqb : byteAt n k = UInt8.ofNat q := by unfold byteAt; rw [← hq, Nat.pow_mul]
      have hq2 : q / 256 = n / 256 ^ (k + 1) := by rw [← hq, Nat.div_div_eq_div_mul, Nat.pow_succ]
      have htk : (le8 n).take (k + 1) = (le8 n).take k ++ [UInt8.ofNat q] := by
        rw [List.take_succ_eq_append_getElem (by simpa using hk8), ← hqb]
        congr 2
        have := le8_get n k hk8
        rw [List.getElem?_eq_getElem (by simpa using hk8)] at this
        exact Option.some.inj this
      rw [hq]
      have hql : q < 18446744073709551616 := by rw [← hq]; exact Nat.lt_of_le_of_lt (Nat.div_le_self _ _) Hn.out
      have Hq := hid (And.intro hq2 (And.intro htk hql))
      have hcv : (convert 30 9 (.slice (some ⟨wr.heap.size, 0, none⟩) 1 1)).run Try.prog (wr.alloc (.cells #[.int .u8 ((q : Int) % 256)] 5)) = .ok (.string (strOf [UInt8.ofNat q])) (wr.alloc (.cells #[.int .u8 ((q : Int) % 256)] 5)) := by
        refine conv_str (l := [UInt8.ofNat q]) ⟨_, _, rfl, fun _ => ⟨wr.heap.size, 0, rfl, fun i u hu => ?_⟩⟩
        rw [cell_blk (blk_new wr _), Nat.zero_add]
        match i with
        | 0 =>
          simp only [bytesV, List.map_cons, List.map_nil, List.getElem?_cons_zero, Option.some.injEq] at hu
          subst hu
          simp
        | i + 1 => simp [bytesV] at hu
      have hsz : (strOf ((le8 n).take k)).size + (strOf [UInt8.ofNat q]).size ≤ 9223372036854775807 := by
        rw [strOf_size, strOf_size, List.length_take, length_le8]; simp; omega
      clear hqb hq hq2 htk hql
      go_wp2_with fail
      go_roundw
      case rel => exact ⟨k + 1, by go_num, by omega, wrap_div q _ Hq.out.2.2 Hq.out.1, by rw [Hq.out.2.1, strOf_app], Ho.out.alloc _⟩
      case measure => simp [intOf]; omega
    · obtain rfl : k = 8 := by omega
      go_wp2_with fail
      go_ret
      refine ⟨?_, Ho.out⟩
      rw [← List.take_of_length_le (show (le8 n).length ≤ 8 by simp)]
      rfl

theorem low_step (l : List UInt8) (k : Nat) (hk : k < l.length) (h8 : l.length = 8) : IntKind.u64.wrap (IntKind.u64.wrap ((deN (l.drop (k + 1)) : Nat) * 256) + IntKind.u64.wrap ((l[k]).toNat : Nat)) = (deN (l.drop k) : Nat) := by
  have hd : l.drop k = l[k] :: l.drop (k + 1) := List.drop_eq_getElem_cons hk
  have h1 := deN_lt (l.drop k)
  have h2 : 256 ^ (l.drop k).length ≤ 256 ^ 8 := Nat.pow_le_pow_right (by decide) (by rw [List.length_drop]; omega)
  have h3 : (256 : Nat) ^ 8 = 18446744073709551616 := by decide
  have h4 : deN (l.drop k) = (l[k]).toNat + 256 * deN (l.drop (k + 1)) := by rw [hd]; rfl
  rw [h4] at h1 ⊢
  have hx : (l[k]).toNat < 256 := (l[k]).toNat_lt
  simp only [IntKind.wrap_u64]
  omega

set_option maxRecDepth 100000 in
set_option maxHeartbeats 800000 in
theorem low_c (w : World) (l : List UInt8) (h8 : l.length = 8) :
    Calls Try.prog 102 #[.string (strOf l)] w fun e w' => e = .returned (.int .u64 (deN l)) ∧ w = w' := by
  have hsz : ((strOf l).size : Int) = 8 := by rw [strOf_size, h8]; rfl
  have H8 := hid h8
  clear h8
  go_enter Try.func102, Try.ntmps102
  go_wp2_with fail
  go_loop [3, 4] (fun n i => ∃ (k : Nat) (z : Int), k ≤ 8 ∧ z + 1 = k ∧ i = .int .i64 z ∧ n = .int .u64 (deN (l.drop k) : Nat)) (fun _ i => (intOf i + 1).toNat)
  case atStart => exact ⟨8, 7, by omega, by omega, rfl, by rw [List.drop_of_length_le (by rw [H8.out]; omega)]; rfl⟩
  case round =>
    obtain ⟨k, z, hk, hz, rfl, rfl⟩ := hrel
    by_cases h0 : 0 ≤ z
    · obtain ⟨j, rfl⟩ := Int.eq_ofNat_of_zero_le h0
      obtain rfl : k = j + 1 := by omega
      have hj : j < l.length := by rw [H8.out]; omega
      have hji : (j : Int) < ((strOf l).size : Int) := by omega
      have HST := hid (low_step l j hj H8.out)
      obtain ⟨d, hd⟩ : ∃ d, deN (l.drop (j + 1)) = d := ⟨_, rfl⟩
      rw [hd] at HST ⊢
      clear hd hz
      go_wp2_with fail
      go_round
      case rel => exact ⟨j, (j : Int) - 1, by omega, by omega, rfl, by rw [strOf_get]; exact congrArg (Value.int .u64) HST.out⟩
      case measure => simp [intOf]
    · obtain rfl : k = 0 := by omega
      have hz : z = -1 := by omega
      subst hz
      go_wp2_with fail
      go_ret
      exact ⟨rfl, rfl⟩
end Go.Proofs.Ytepndjojodbhdaa
