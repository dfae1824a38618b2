/- WalNone's walk. -/
import Derived.Test.YthodcbhejjbhaaaWlB
namespace Go.Proofs.Ythodcbhejjbhaaa
open Go.RowKit
section
variable {w : World}
set_option maxRecDepth 100000 in
set_option maxHeartbeats 3200000 in
theorem walnone_c (n : Int) : Calls Try.prog 3 #[.int .i64 n] w fun x w' => x = .returned (.bool true) ∧ Only (fun _ => False) w w' := by
  go_enter Try.func3, Try.ntmps3
  go_wp2_with fail
  refine logs_c.mono ?_
  rintro x w1 ⟨rfl, ho1⟩
  have HO1 := hid ho1
  clear ho1
  by_cases h1 : n < 1
  · go_wp2_with fail
    go_ret
    exact ⟨rfl, HO1.out⟩
  by_cases h2 : 200 < n
  · go_wp2_with fail
    go_ret
    exact ⟨rfl, HO1.out⟩
  obtain ⟨m, rfl⟩ : ∃ m : Nat, n = m := ⟨n.toNat, by omega⟩
  have HNW := hid (new_ok w1 m (by omega) (by omega))
  obtain ⟨sg, hsg⟩ : ∃ x, ((m : Int) - 2).tdiv 16 = x := ⟨_, rfl⟩
  have hsb : 0 ≤ sg ∧ sg ≤ 20 := by
    rcases Int.lt_or_le ((m : Int) - 2) 0 with hlt | hge
    · obtain rfl : m = 1 := by omega
      rw [show (((1 : Nat) : Int) - 2).tdiv 16 = 0 from by decide] at hsg
      omega
    · rw [Int.tdiv_eq_ediv_of_nonneg hge] at hsg
      omega
  obtain ⟨hsb1, hsb2⟩ := hsb
  go_wp2_with fail
  refine HNW.out.mono ?_
  rintro x w2 ⟨b, FD, rfl, hd, ho2, hf2⟩
  have HO2 := hid (HO1.out.trans ho2 (fun _ _ e => e))
  by_cases h3 : sg < 2
  · have HON := hid (open_none hd (by show ((m : Int) - 2).tdiv 16 < 2; rw [hsg]; exact h3))
    clear hd ho2 hf2 HNW
    go_wp2_with fail
    refine HON.out.mono ?_
    rintro x w3 ⟨rfl, rfl⟩
    go_wp2_with fail
    go_ret
    exact ⟨rfl, HO2.out⟩
  · have hz : (0 : Int) ≤ (m : Int) - 2 := by
      rcases Int.lt_or_le ((m : Int) - 2) 0 with hlt | hge
      · exfalso
        obtain rfl : m = 1 := by omega
        rw [show (((1 : Nat) : Int) - 2).tdiv 16 = 0 from by decide] at hsg
        omega
      · exact hge
    obtain ⟨g, rfl⟩ : ∃ g : Nat, sg = g := ⟨sg.toNat, by omega⟩
    have hfit := sg_fits hsg (by omega)
    have HP := hid (LP.new (sg := g) (n := m) (by omega) hfit hsg)
    have HOP := hid (lopen_c (w0 := w1) hd hf2 ho2 HP.out (by decide))
    clear hd ho2 hf2 HNW
    go_wp2_with fail
    refine HOP.out.mono ?_
    rintro x w3 ⟨v3, l, r, lo3, F3, rfl, hl3, -, hfo3, -, -, ho3⟩
    obtain ⟨ao3, cap3, xs3, rfl, -⟩ := hfo3
    have HL3 := hid hl3
    have HO3 := hid (HO2.out.trans ho3 (fun _ _ e => e))
    have HLF : Hid (Calls Try.prog 12 #[.pointer (some ⟨l, 0, none⟩)] w3 fun e w' => e = .returned (.int .i64 ((g * 2048 : Nat))) ∧ ∃ n, w' = w3.drewN n) := hid ((logleft_c HL3.out.log).mono (fun e w' ⟨h1, h2⟩ => ⟨by rw [h1, HP.out.anew.left]; show Ending.returned (.int .i64 ((g * 2048 - (0 - 0 / 128 * 128) : Nat) : Int)) = _; simp, h2⟩))
    have hgg : g ≤ 20 := by omega
    clear hl3 ho3 HOP hz hfit
    go_wp2_with fail
    refine HLF.out.mono ?_
    rintro x w4 ⟨rfl, n4, rfl⟩
    have hbb : (((g * 2048 : Nat) : Int) == (g : Int) * 2048) = true := by rw [beq_iff_eq]; omega
    go_wp2_with fail
    go_ret
    exact ⟨rfl, HO3.out.trans (only_drewN _ _) (fun _ _ e => e)⟩
end
end Go.Proofs.Ythodcbhejjbhaaa
