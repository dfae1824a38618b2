/- HistorySeeds' walk. -/
import Derived.Test.YtnoopajedgllhaaHsS
import Derived.Test.YtnoopajedgllhaaHsK
import Derived.Test.YtnoopajedgllhaaRf01E
import Derived.Test.YtnoopajedgllhaaRf02
import Derived.Test.YtnoopajedgllhaaSumQ
namespace Go.Proofs.Ytnoopajedgllhaa
open Go.RowKit
section
variable {w : World}
set_option maxRecDepth 100000 in
set_option maxHeartbeats 1600000 in
theorem hseeds_c (l : List UInt8) (n : Int) (h1 : -9223372036854775808 ≤ n) (h2 : n ≤ 9223372036854775807) :
    Calls Try.prog 6 #[.string (strOf l), .int .i64 n] w fun e w' => e = .returned (.bool true) ∧ Only (fun _ => False) w w' := by
  have HK := hid (keeps_c (w := w))
  have hz : (strOf l).size = l.length := rfl
  by_cases hl : 200 < l.length
  · have hli : (200 : Int) < l.length := by omega
    go_enter Try.func6, Try.ntmps6
    go_wp2_with fail
    refine HK.out.mono ?_
    rintro x w1 ⟨rfl, ho1⟩
    have HO1 := hid ho1
    clear ho1
    go_wp2_with fail
    go_ret
    exact ⟨rfl, HO1.out⟩
  · have hli : ¬ (200 : Int) < l.length := by omega
    obtain ⟨N, hN⟩ : ∃ N, n.toNat = N := ⟨_, rfl⟩
    have hNb : N < 18446744073709551616 := by omega
    have htl : (textB l).length ≤ 220 := by unfold textB; rw [List.length_append]; have := numB_len l.length; omega
    have hnl : (numB N).length ≤ 10 := by have := numB_len N; omega
    have hs1 : (strOf (textB l)).size = (textB l).length := rfl
    have hs2 : (strOf (numB N)).size = (numB N).length := rfl
    have hcat : strOf (textB l) ++ strOf (numB N) = strOf (textB l ++ numB N) := strOf_cat _ _
    have HSD : Hid (seedB l n = sha (textB l ++ numB N)) := hid (by rw [seedB, hN])
    have HSE := hid (fun wx => seed_c (w := wx) l n (by omega) h1 h2)
    have HTX := hid (fun wx => rftext_c (w := wx) l (by omega))
    have HNU : Hid (∀ (wx : World) (m : Int), m = (N : Nat) → Calls Try.prog 27 #[.int .u64 m] wx fun e w' => e = .returned (.string (strOf (numB N))) ∧ Only (fun _ => False) wx w') := hid (fun wx m hm => by subst hm; exact rfnum_c (w := wx) N hNb)
    have hNi : n ≤ 0 → (0 : Int) = (N : Nat) := fun _ => by omega
    have hNj : 0 < n → n = (N : Nat) := fun _ => by omega
    have HNi := hid hNi; have HNj := hid hNj
    clear hNi hNj
    have HOF := hid (fun wx => rof_c (w := wx) (textB l ++ numB N) (by rw [List.length_append]; omega))
    have HEQ := hid (fun wx => eqIn_arr wx 29 Try.underlying29 cells_u8 (s := seedB l n) (t := seedB l n) (seedB_len l n) (seedB_len l n))
    rw [← HSD.out] at HOF
    obtain ⟨R, hR⟩ : ∃ x, (bytesV (seedB l n)).toArray = x := ⟨_, rfl⟩
    simp only [hR] at HSE HOF
    have heq : Hid (∀ W, (Op.equalIn 10000 29 (.agg R) (.agg R)).run Try.prog W = .ok true W) := hid fun W => by have := HEQ.out W; rw [hR] at this; simpa using this
    clear HEQ hR HSD
    by_cases hp : 0 < n
    all_goals
      have hnN : (if 0 < n then n else 0) = (N : Int) := by (first | rw [if_pos hp] | rw [if_neg hp]); omega
      clear hN
      go_enter Try.func6, Try.ntmps6
      go_wp2_with fail
      refine HK.out.mono ?_
      rintro x w1 ⟨rfl, ho1⟩
      have HO1 := hid ho1
      clear ho1
      go_wp2_with fail
      refine (HSE.out _).mono ?_
      rintro x w2 ⟨rfl, ho2⟩
      have HO2 := hid (HO1.out.trans ho2 (fun _ _ e => e))
      clear ho2
      go_wp2_with fail
      refine (HTX.out _).mono ?_
      rintro x w3 ⟨rfl, ho3⟩
      have HO3 := hid (HO2.out.trans ho3 (fun _ _ e => e))
      clear ho3
      have e0 : (0 : Int) = N ∨ n = N := by first | exact .inr (HNj.out hp) | exact .inl (HNi.out (by omega))
      go_wp2_with fail
      refine (HNU.out _ _ (by first | exact HNj.out hp | exact HNi.out (by omega))).mono ?_; ( rintro x w4 ⟨rfl, ho4⟩; have HO4 := hid (HO3.out.trans ho4 (fun _ _ e => e)); clear ho4 e0)
      go_wp2_with fail
      refine (HOF.out _).mono ?_
      rintro x w5 ⟨rfl, ho5⟩
      have HO5 := hid (HO4.out.trans ho5 (fun _ _ e => e))
      have hq := heq.out w5
      clear ho5
      go_wp2_with fail
      go_ret
      exact ⟨rfl, HO5.out⟩
end
end Go.Proofs.Ytnoopajedgllhaa
