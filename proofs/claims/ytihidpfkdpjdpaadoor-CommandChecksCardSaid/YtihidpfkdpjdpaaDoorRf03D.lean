/- foliotref03.digits, Number. -/
import Derived.Test.YtihidpfkdpjdpaaDoorItoa
import Derived.Test.YtihidpfkdpjdpaaDoorVMisc
namespace Go.Proofs.YtihidpfkdpjdpaaDoor
open Go.RowKit

theorem dd_step {m : Nat} : Lib.decDigits m = (if m < 10 then [] else Lib.decDigits (m / 10)) ++ [UInt8.ofNat (48 + m % 10)] := by
  conv => lhs; rw [Lib.decDigits]
  by_cases h : m < 10
  · rw [dif_pos h, if_pos h]
    have : m % 10 = m := Nat.mod_eq_of_lt h
    rw [this]; rfl
  · rw [dif_neg h, if_neg h]
theorem nd_le : ∀ (k u : Nat), u < 10 ^ (k + 1) → Lib.nDigits u ≤ k + 1
  | 0, u, h => by rw [Lib.nDigits, dif_pos (by omega)]; omega
  | k + 1, u, h => by
    rw [Lib.nDigits]
    by_cases g : u < 10
    · rw [dif_pos g]; omega
    · rw [dif_neg g]
      have : u / 10 < 10 ^ (k + 1) := by rw [Nat.pow_succ] at h; omega
      have := nd_le k (u / 10) this
      omega
theorem dd_len {u : Nat} (h : u < 18446744073709551616) : (Lib.decDigits u).length ≤ 20 := by
  rw [Lib.decDigits_length]
  exact nd_le 19 u (Nat.lt_of_lt_of_le h (by decide))
theorem conv_dig (w : World) (c : Nat) (hc : c < 10) : (convert 34 9 (.slice (some ⟨w.heap.size, 0, none⟩) 1 1)).run Tryd.prog (w.alloc (.cells #[.int .u8 (48 + (c : Int))] 5)) = .ok (.string (strOf [UInt8.ofNat (48 + c)])) (w.alloc (.cells #[.int .u8 (48 + (c : Int))] 5)) := by
  have hcv0 := conv_str (w := w.alloc (.cells (bytesV [UInt8.ofNat (48 + c)]).toArray 5)) (v := .slice (some ⟨w.heap.size, 0, none⟩) 1 1) (l := [UInt8.ofNat (48 + c)]) ⟨_, 1, rfl, fun _ => ⟨w.heap.size, 0, rfl, fun i u hu => by rw [Nat.zero_add]; rw [cell_blk (blk_new w _)]; simpa using hu⟩⟩
  have hu8 : (UInt8.ofNat (48 + c)).toNat = 48 + c := by simp; omega
  have hbv : (bytesV [UInt8.ofNat (48 + c)]).toArray = #[.int .u8 (48 + (c : Int))] := by simp only [bytesV, List.map_cons, List.map_nil, hu8]; simp
  rw [hbv] at hcv0
  exact hcv0
section
variable {w : World}
set_option maxRecDepth 100000 in
set_option maxHeartbeats 1600000 in
theorem rfdigits_c (n : Nat) (hn : n < 18446744073709551616) : Calls Tryd.prog 70 #[.int .u64 n] w fun x w' => x = .returned (.string (strOf (Lib.decDigits n))) ∧ Only (fun _ => False) w w' := by
  have HD := hid (dd_step (m := n))
  have hnl := dd_len hn
  obtain ⟨c, hc⟩ : ∃ c, n % 10 = c := ⟨_, rfl⟩
  have hc10 : c < 10 := by omega
  rw [hc] at HD
  have hcm : (n : Int) % 10 = (c : Int) := by omega
  have hcv0 := conv_dig w c hc10
  have HO0 := hid (only_new w (.cells #[.int .u8 (48 + (c : Int))] 5))
  obtain ⟨ch, hch⟩ : ∃ x, UInt8.ofNat (48 + c) = x := ⟨_, rfl⟩
  have hcv0' := hcv0
  rw [hch] at hcv0' HD
  clear hcv0 hch
  obtain ⟨dd, hdd⟩ : ∃ d, Lib.decDigits n = d := ⟨_, rfl⟩
  rw [hdd] at HD hnl ⊢
  clear hdd
  go_enter Tryd.func70, Tryd.ntmps70
  go_wp2_with fail
  go_loopw [0, 3] (fun a b wr => ∃ (m : Nat) (d : List UInt8), a = .int .u64 m ∧ b = .string (strOf d) ∧ m ≤ n ∧ dd = (if m < 10 then [] else Lib.decDigits (m / 10)) ++ d ∧ Only (fun _ => False) w wr) (fun a _ _ => (intOf a).toNat)
  case atStart => exact ⟨n, _, rfl, rfl, Nat.le_refl _, HD.out, HO0.out⟩
  case round =>
    obtain ⟨m, d, rfl, rfl, hm, hd, ho⟩ := hrel
    have hdl : d.length ≤ 20 := by have := congrArg List.length hd; rw [List.length_append] at this; omega
    have HDD := hid hd; have HO := hid ho
    clear hd ho hcv0' hcm
    by_cases h10 : m < 10
    · have HF : Hid (dd = d) := hid (by rw [HDD.out, if_pos h10, List.nil_append])
      have hi : ¬ (10 : Int) ≤ m := by omega
      go_wp2_with fail
      go_ret
      rw [HF.out]; exact ⟨rfl, HO.out⟩
    · have hi : (10 : Int) ≤ m := by omega
      obtain ⟨q, hq⟩ : ∃ q, m / 10 = q := ⟨_, rfl⟩
      have hqi : (m : Int) / 10 = (q : Int) := by omega
      obtain ⟨c, hc⟩ : ∃ c, q % 10 = c := ⟨_, rfl⟩
      have hc10 : c < 10 := by omega
      have hcm : (q : Int) % 10 = (c : Int) := by omega
      have hcv := conv_dig wr c hc10
      have HNX : Hid (dd = (if q < 10 then [] else Lib.decDigits (q / 10)) ++ (UInt8.ofNat (48 + c) :: d)) := hid (by
        rw [HDD.out, if_neg h10, hq, dd_step (m := q), hc, List.append_assoc]; rfl)
      have cc : strOf [UInt8.ofNat (48 + c)] ++ strOf d = strOf (UInt8.ofNat (48 + c) :: d) := strOf_app _ _
      have zz : ¬ 9223372036854775807 < (strOf [UInt8.ofNat (48 + c)]).size + (strOf d).size := by have h1 : (strOf [UInt8.ofNat (48 + c)]).size = 1 := rfl; have h2 : (strOf d).size = d.length := rfl; omega
      obtain ⟨ch2, hch⟩ : ∃ x, UInt8.ofNat (48 + c) = x := ⟨_, rfl⟩
      rw [hch] at hcv HNX cc zz
      clear hch
      go_wp2_with fail
      go_roundw
      case rel => exact ⟨q, _, rfl, rfl, by omega, HNX.out, HO.out.trans (only_new wr _) (fun _ _ e => e)⟩
      case measure => simp [intOf]; omega
set_option maxRecDepth 100000 in
theorem rfnumber_c (n : Int) (h0 : -9223372036854775808 ≤ n) (h1 : n ≤ 9223372036854775807) : Calls Tryd.prog 49 #[.int .i64 n] w fun x w' => x = .returned (.string (strOf (Lib.itoa n))) ∧ Only (fun _ => False) w w' := by
  by_cases h : n < 0
  · have hF : Lib.itoa n = 45 :: Lib.decDigits n.natAbs := if_pos h
    have hl := dd_len (u := n.natAbs) (by omega)
    have hD := rfdigits_c (w := w) n.natAbs (by omega)
    have hna : ((n.natAbs : Nat) : Int) = -(n + 1) + 1 := by omega
    rw [hna] at hD
    obtain ⟨d, hd⟩ : ∃ d, Lib.decDigits n.natAbs = d := ⟨_, rfl⟩
    rw [hd] at hD hF hl
    have HD := hid hD; have HF := hid hF
    have cc : (⟨#[45]⟩ : ByteArray) ++ strOf d = strOf (45 :: d) := strOf_app [45] _
    have zz : ¬ 9223372036854775807 < 1 + (strOf d).size := by have h2 : (strOf d).size = d.length := rfl; omega
    have hb1 : 0 ≤ -(n + 1) := by omega
    have hb2 : -(n + 1) ≤ 9223372036854775807 := by omega
    clear hD hF hna hd
    go_enter Tryd.func49, Tryd.ntmps49
    go_wp2_with fail
    refine HD.out.mono ?_
    rintro x w2 ⟨rfl, ho2⟩
    have HO2 := hid ho2
    clear ho2
    go_wp2_with fail
    go_ret
    rw [HF.out]; exact ⟨rfl, HO2.out⟩
  · have hF : Lib.itoa n = Lib.decDigits n.toNat := if_neg h
    have hD := rfdigits_c (w := w) n.toNat (by omega)
    have hna : ((n.toNat : Nat) : Int) = n := by omega
    rw [hna] at hD
    obtain ⟨d, hd⟩ : ∃ d, Lib.decDigits n.toNat = d := ⟨_, rfl⟩
    rw [hd] at hD hF
    have HD := hid hD; have HF := hid hF
    have hb1 : 0 ≤ n := by omega
    clear hD hF hna hd
    go_enter Tryd.func49, Tryd.ntmps49
    go_wp2_with fail
    refine HD.out.mono ?_
    rintro x w2 ⟨rfl, ho2⟩
    have HO2 := hid ho2
    clear ho2
    go_wp2_with fail
    go_ret
    rw [HF.out]; exact ⟨rfl, HO2.out⟩
end
end Go.Proofs.YtihidpfkdpjdpaaDoor
