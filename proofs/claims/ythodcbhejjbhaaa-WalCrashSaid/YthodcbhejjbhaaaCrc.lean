/- sum.CRC: of the bytes of all parts, one behind the other. -/
import Derived.Test.YthodcbhejjbhaaaOpenP
import Derived.Laws.BitsAllLaws
namespace Go.Proofs.Ythodcbhejjbhaaa
open Go.RowKit

def crcSh (c : Nat) : Nat := if c % 2 = 1 then (c / 2) ^^^ 3988292384 else c / 2
def crcShN : Nat → Nat → Nat
  | 0, c => c
  | n + 1, c => crcSh (crcShN n c)
def crcB (c : Nat) (x : UInt8) : Nat := crcShN 8 (c ^^^ x.toNat)
def crcL (c : Nat) (l : List UInt8) : Nat := l.foldl crcB c
def crc (l : List UInt8) : Nat := crcL 4294967295 l ^^^ 4294967295
theorem crcSh_lt {c : Nat} (h : c < 4294967296) : crcSh c < 4294967296 := by
  unfold crcSh
  split
  · exact Nat.xor_lt_two_pow (n := 32) (by omega) (by decide)
  · omega
theorem crcShN_lt {c : Nat} (h : c < 4294967296) : ∀ n, crcShN n c < 4294967296
  | 0 => h
  | n + 1 => crcSh_lt (crcShN_lt h n)
theorem xor8_lt {c : Nat} (h : c < 4294967296) (x : UInt8) : c ^^^ x.toNat < 4294967296 := Nat.xor_lt_two_pow (n := 32) h (by have := x.toNat_lt; omega)
theorem crcB_lt {c : Nat} (h : c < 4294967296) (x : UInt8) : crcB c x < 4294967296 := crcShN_lt (xor8_lt h x) 8
theorem crcL_lt : ∀ {c : Nat} (l : List UInt8), c < 4294967296 → crcL c l < 4294967296
  | _, [], h => h
  | _, x :: l, h => crcL_lt l (crcB_lt h x)
theorem crc_lt (l : List UInt8) : crc l < 4294967296 := Nat.xor_lt_two_pow (n := 32) (crcL_lt l (by decide)) (by decide)
theorem crcL_app (c : Nat) (a b : List UInt8) : crcL c (a ++ b) = crcL (crcL c a) b := List.foldl_append
theorem crcL_take {c : Nat} {l : List UInt8} {k : Nat} {x : UInt8} (h : l[k]? = some x) : crcL c (l.take (k + 1)) = crcB (crcL c (l.take k)) x := by
  rw [List.take_add_one, h, crcL_app]; rfl
theorem flat_take {ps : List (List UInt8)} {k : Nat} {l : List UInt8} (h : ps[k]? = some l) : (ps.take (k + 1)).flatten = (ps.take k).flatten ++ l := by
  rw [List.take_add_one, h, List.flatten_append]; simp

section
variable {w : World}
set_option maxRecDepth 100000 in
set_option maxHeartbeats 3200000 in
theorem crc_c (v : Value) (ps : List (List UInt8)) (h : PartsV w v ps) :
    Calls Try.prog 71 #[v] w fun e w' => e = .returned (.int .u32 (crc ps.flatten : Nat)) ∧ w = w' := by
  obtain ⟨a, c, rfl, hll, hl⟩ := h
  have HL := hid hl
  clear hl
  go_enter Try.func71, Try.ntmps71
  go_wp2_with fail
  go_loop [11, 5, 7, 8, 3] (fun i _ _ _ c => ∃ k : Nat, i = .int .i64 k ∧ k ≤ ps.length ∧ c = .int .u32 (crcL 4294967295 (ps.take k).flatten : Nat)) (fun i _ _ _ _ => ps.length - (intOf i).toNat)
  case atStart => exact ⟨0, rfl, Nat.zero_le _, rfl⟩
  case round =>
    obtain ⟨k, rfl, hk, rfl⟩ := hrel
    by_cases hkl : k < ps.length
    · have hki : (k : Int) < ps.length := by omega
      obtain ⟨l, hpl⟩ : ∃ l, ps[k]? = some l := ⟨_, List.getElem?_eq_getElem hkl⟩
      obtain ⟨hlb, g, o, pa, pc, rfl, hc, hsl⟩ := HL.out k l hpl
      obtain ⟨c0, hc0⟩ : ∃ c0, crcL 4294967295 (ps.take k).flatten = c0 := ⟨_, rfl⟩
      have hc0l : c0 < 4294967296 := by rw [← hc0]; exact crcL_lt _ (by decide)
      have Hstep : Hid (crcL 4294967295 (ps.take (k + 1)).flatten = crcL c0 l) := hid (by rw [flat_take hpl, crcL_app, hc0])
      rw [hc0]
      have Hsl := hid hsl
      clear hpl hc0 hsl
      go_wp2_with fail
      go_loop [17, 7, 8, 3] (fun i _ _ c => ∃ j : Nat, i = .int .i64 j ∧ j ≤ l.length ∧ c = .int .u32 (crcL c0 (l.take j) : Nat)) (fun i _ _ _ => l.length - (intOf i).toNat)
      case atStart => exact ⟨0, rfl, Nat.zero_le _, rfl⟩
      case round =>
        obtain ⟨j, rfl, hj, rfl⟩ := hrel
        by_cases hjl : j < l.length
        · have hji : (j : Int) < l.length := by omega
          obtain ⟨x, hx⟩ : ∃ x, l[j]? = some x := ⟨_, List.getElem?_eq_getElem hjl⟩
          obtain ⟨a', c', e, hq⟩ := Hsl.out
          simp only [Value.slice.injEq] at e
          obtain ⟨rfl, -, rfl⟩ := e
          obtain ⟨g', o', rfl, hcs⟩ := hq (by rintro rfl; simp at hjl)
          have hcx : w.cell? ⟨g', o' + j, none⟩ = some (.int .u8 (x.toNat : Nat)) := hcs j _ (by rw [bytesV_get, hx]; rfl)
          obtain ⟨c1, hc1⟩ : ∃ c1, crcL c0 (l.take j) = c1 := ⟨_, rfl⟩
          have hc1l : c1 < 4294967296 := by rw [← hc1]; exact crcL_lt _ hc0l
          have Hst2 : Hid (crcL c0 (l.take (j + 1)) = crcShN 8 (c1 ^^^ x.toNat)) := hid (by rw [crcL_take hx, hc1]; rfl)
          rw [hc1]
          have hxl : x.toNat < 256 := x.toNat_lt
          have hxI : (x.toNat : Int) < 256 := by omega
          have hxor : bits .xor .u32 (c1 : Nat) (x.toNat : Nat) = ((c1 ^^^ x.toNat : Nat) : Int) := u32_xor_nat _ _ hc1l (by omega)
          obtain ⟨d, hd⟩ : ∃ d, c1 ^^^ x.toNat = d := ⟨_, rfl⟩
          have hdl : d < 4294967296 := by rw [← hd]; exact xor8_lt hc1l x
          rw [hd] at hxor Hst2
          clear hx hc1 hq hcs hd
          go_wp2_with fail
          go_loop [25, 8, 3] (fun i _ c => ∃ m : Nat, i = .int .i64 m ∧ m ≤ 8 ∧ c = .int .u32 (crcShN m d : Nat)) (fun i _ _ => 8 - (intOf i).toNat)
          case atStart => exact ⟨0, rfl, by omega, rfl⟩
          case round =>
            obtain ⟨m, rfl, hm, rfl⟩ := hrel
            by_cases hm8 : m < 8
            · have hmi : (m : Int) < 8 := by omega
              have Hsn : Hid (crcShN (m + 1) d = crcSh (crcShN m d)) := hid rfl
              have hel := crcShN_lt hdl m
              obtain ⟨e0, he0⟩ : ∃ e0, crcShN m d = e0 := ⟨_, rfl⟩
              rw [he0] at Hsn hel ⊢
              have hand : bits .and .u32 (e0 : Nat) 1 = ((e0 % 2 : Nat) : Int) := (u32_and_nat e0 1 hel (by decide)).trans (by rw [Nat.and_one_is_mod])
              clear he0
              by_cases hodd : e0 % 2 = 1
              · have hb : (((e0 % 2 : Nat) : Int) == 1) = true := by simp [hodd]
                have hx3 : bits .xor .u32 ((e0 : Int) / 2) 3988292384 = (((e0 / 2) ^^^ 3988292384 : Nat) : Int) := u32_xor_nat (e0 / 2) 3988292384 (by omega) (by decide)
                have Hs2 : Hid (crcSh e0 = (e0 / 2) ^^^ 3988292384) := hid (by unfold crcSh; rw [if_pos hodd])
                clear hodd
                go_wp2_with fail
                go_round
                case rel => exact ⟨m + 1, by go_num, by omega, by rw [Hsn.out, Hs2.out]⟩
                case measure => simp [intOf]; omega
              · have hb : (((e0 % 2 : Nat) : Int) == 1) = false := by simp; omega
                have Hs2 : Hid (crcSh e0 = e0 / 2) := hid (by unfold crcSh; rw [if_neg hodd])
                clear hodd
                go_wp2_with fail
                go_round
                case rel => exact ⟨m + 1, by go_num, by omega, by rw [Hsn.out, Hs2.out]; go_num⟩
                case measure => simp [intOf]; omega
            · obtain rfl : m = 8 := by omega
              rw [← Hst2.out]
              go_wp2_with fail
              go_round
              case rel => exact ⟨j + 1, by go_num, by omega, rfl⟩
              case measure => simp [intOf]; omega
        · obtain rfl : j = l.length := by omega
          rw [List.take_length, ← Hstep.out]
          go_wp2_with fail
          go_round
          case rel => exact ⟨k + 1, by go_num, by omega, rfl⟩
          case measure => simp [intOf]; omega
    · obtain rfl : k = ps.length := by omega
      rw [List.take_length]
      have hcl := crcL_lt (c := 4294967295) ps.flatten (by decide)
      have Hfin : Hid (crc ps.flatten = crcL 4294967295 ps.flatten ^^^ 4294967295) := hid rfl
      obtain ⟨c1, hc1⟩ : ∃ c1, crcL 4294967295 ps.flatten = c1 := ⟨_, rfl⟩
      rw [hc1] at hcl Hfin ⊢
      clear hc1
      have hmx : bits .xor .u32 IntKind.u32.max (c1 : Nat) = ((c1 ^^^ 4294967295 : Nat) : Int) := (u32_xor_nat 4294967295 c1 (by decide) hcl).trans (by rw [Nat.xor_comm])
      go_wp2_with fail
      go_ret
      exact ⟨by rw [Hfin.out]; rfl, rfl⟩
end
end Go.Proofs.Ythodcbhejjbhaaa
