/- CommandSaturates's walk. -/
import Derived.Test.YtihidpfkdpjdpaaDoorWants
namespace Go.Proofs.YtihidpfkdpjdpaaDoor
open Go.RowKit
theorem satu_mono {n a b : Int} (hn : 0 ≤ n ∧ n ≤ 4611686018427387903) (ha : 0 ≤ a) (hb : a ≤ b) : n ≤ satu n a ∧ satu n a ≤ satu n b ∧ satu n b ≤ 4611686018427387903 ∧ (a ≤ 4611686018427387903 - n → satu n a = n + a) ∧ (¬ a ≤ 4611686018427387903 - n → satu n a = 4611686018427387903) := by
  have e1 : satu n a = if 4611686018427387903 ≤ n ∨ 4611686018427387903 - n < a then 4611686018427387903 else n + a := by unfold satu; rw [if_neg (by omega)]
  have e2 : satu n b = if 4611686018427387903 ≤ n ∨ 4611686018427387903 - n < b then 4611686018427387903 else n + b := by unfold satu; rw [if_neg (by omega)]
  rw [e1, e2]
  refine ⟨by split <;> omega, by split <;> split <;> omega, by split <;> omega, fun h => by split <;> omega, fun h => by split <;> omega⟩
section
variable {w : World}
set_option maxRecDepth 100000 in
theorem sat_no (hT : Tab w) (now a b : Int) (g1 : -9223372036854775808 ≤ now ∧ now ≤ 9223372036854775807) (g2 : -9223372036854775808 ≤ a ∧ a ≤ 9223372036854775807) (h : now < 0 ∨ 4611686018427387903 < now ∨ a < 0 ∨ b < 0) : Calls Tryd.prog 8 #[.int .i64 now, .int .i64 a, .int .i64 b] w fun x w' => x = .returned (.bool true) ∧ Only (fun _ => False) w w' := by
  have HTL := hid (wants_c hT)
  have HS1 := fun wc => hid (satu_c (w := wc) (-1) a (by decide) g2)
  have HS2 := fun wc => hid (satu_c (w := wc) now (-1) g1 (by decide))
  simp only [show satu (-1) a = 0 from by unfold satu; rw [if_pos (.inl (by decide))], show satu now (-1) = 0 from by unfold satu; rw [if_pos (.inr (by decide))]] at HS1 HS2
  clear hT
  by_cases h1 : now < 0
  · clear h
    go_enter Tryd.func8, Tryd.ntmps8
    go_wp2_with fail
    refine HTL.out.mono ?_
    rintro x w1 ⟨rfl, ho1⟩
    have HO1 := hid ho1
    clear ho1 HTL
    go_wp2_with fail
    refine (HS1 _).out.mono ?_
    rintro x w2 ⟨rfl, rfl⟩
    go_wp2_with fail
    refine (HS2 _).out.mono ?_
    rintro x w3 ⟨rfl, rfl⟩
    go_wp2_with fail
    go_ret
    exact ⟨rfl, HO1.out⟩
  by_cases h2 : 4611686018427387903 < now
  · clear h
    go_enter Tryd.func8, Tryd.ntmps8
    go_wp2_with fail
    refine HTL.out.mono ?_
    rintro x w1 ⟨rfl, ho1⟩
    have HO1 := hid ho1
    clear ho1 HTL
    go_wp2_with fail
    refine (HS1 _).out.mono ?_
    rintro x w2 ⟨rfl, rfl⟩
    go_wp2_with fail
    refine (HS2 _).out.mono ?_
    rintro x w3 ⟨rfl, rfl⟩
    go_wp2_with fail
    go_ret
    exact ⟨rfl, HO1.out⟩
  by_cases h3 : a < 0
  · clear h
    go_enter Tryd.func8, Tryd.ntmps8
    go_wp2_with fail
    refine HTL.out.mono ?_
    rintro x w1 ⟨rfl, ho1⟩
    have HO1 := hid ho1
    clear ho1 HTL
    go_wp2_with fail
    refine (HS1 _).out.mono ?_
    rintro x w2 ⟨rfl, rfl⟩
    go_wp2_with fail
    refine (HS2 _).out.mono ?_
    rintro x w3 ⟨rfl, rfl⟩
    go_wp2_with fail
    go_ret
    exact ⟨rfl, HO1.out⟩
  have h4 : b < 0 := by omega
  clear h
  go_enter Tryd.func8, Tryd.ntmps8
  go_wp2_with fail
  refine HTL.out.mono ?_
  rintro x w1 ⟨rfl, ho1⟩
  have HO1 := hid ho1
  clear ho1 HTL
  go_wp2_with fail
  refine (HS1 _).out.mono ?_
  rintro x w2 ⟨rfl, rfl⟩
  go_wp2_with fail
  refine (HS2 _).out.mono ?_
  rintro x w3 ⟨rfl, rfl⟩
  go_wp2_with fail
  go_ret
  exact ⟨rfl, HO1.out⟩
set_option maxRecDepth 100000 in
theorem sat_yes (hT : Tab w) (now a b : Int) (g1 : 0 ≤ now ∧ now ≤ 4611686018427387903) (g2 : 0 ≤ a ∧ a ≤ 9223372036854775807) (g3 : 0 ≤ b ∧ b ≤ 9223372036854775807) : Calls Tryd.prog 8 #[.int .i64 now, .int .i64 a, .int .i64 b] w fun x w' => x = .returned (.bool true) ∧ Only (fun _ => False) w w' := by
  have HTL := hid (wants_c hT)
  clear hT
  have n1 : ¬ now < 0 := by omega
  have n2 : ¬ 4611686018427387903 < now := by omega
  have n3 : ¬ a < 0 := by omega
  have n4 : ¬ b < 0 := by omega
  by_cases hab : b < a
  · skip
    have hm := satu_mono (n := now) (a := b) (b := a) g1 (by omega) (by omega)
    have HS1 := fun wc => hid (satu_c (w := wc) now b (by omega) (by omega))
    have HS2 := fun wc => hid (satu_c (w := wc) now a (by omega) (by omega))
    obtain ⟨xa, hxa⟩ : ∃ x, satu now b = x := ⟨_, rfl⟩
    obtain ⟨xb, hxb⟩ : ∃ x, satu now a = x := ⟨_, rfl⟩
    simp only [hxa] at HS1 hm
    simp only [hxb] at HS2 hm
    have HM := hid hm
    have m1 : ¬ xb < xa := by omega
    have m2 : ¬ 4611686018427387903 < xb := by omega
    have m3 : ¬ xa < now := by omega
    clear hm hxa hxb
    by_cases hc : b ≤ 4611686018427387903 - now
    · skip
      have hx := HM.out.2.2.2.1 hc
      go_enter Tryd.func8, Tryd.ntmps8
      go_wp2_with fail
      refine HTL.out.mono ?_
      rintro x w1 ⟨rfl, ho1⟩
      have HO1 := hid ho1
      clear ho1 HTL
      go_wp2_with fail
      refine (HS1 _).out.mono ?_
      rintro x w2 ⟨rfl, rfl⟩
      go_wp2_with fail
      refine (HS2 _).out.mono ?_
      rintro x w3 ⟨rfl, rfl⟩
      go_wp2_with fail
      go_ret
      exact ⟨rfl, HO1.out⟩
    · skip
      have hx := HM.out.2.2.2.2 hc
      go_enter Tryd.func8, Tryd.ntmps8
      go_wp2_with fail
      refine HTL.out.mono ?_
      rintro x w1 ⟨rfl, ho1⟩
      have HO1 := hid ho1
      clear ho1 HTL
      go_wp2_with fail
      refine (HS1 _).out.mono ?_
      rintro x w2 ⟨rfl, rfl⟩
      go_wp2_with fail
      refine (HS2 _).out.mono ?_
      rintro x w3 ⟨rfl, rfl⟩
      go_wp2_with fail
      go_ret
      exact ⟨rfl, HO1.out⟩
  · skip
    have hm := satu_mono (n := now) (a := a) (b := b) g1 (by omega) (by omega)
    have HS1 := fun wc => hid (satu_c (w := wc) now a (by omega) (by omega))
    have HS2 := fun wc => hid (satu_c (w := wc) now b (by omega) (by omega))
    obtain ⟨xa, hxa⟩ : ∃ x, satu now a = x := ⟨_, rfl⟩
    obtain ⟨xb, hxb⟩ : ∃ x, satu now b = x := ⟨_, rfl⟩
    simp only [hxa] at HS1 hm
    simp only [hxb] at HS2 hm
    have HM := hid hm
    have m1 : ¬ xb < xa := by omega
    have m2 : ¬ 4611686018427387903 < xb := by omega
    have m3 : ¬ xa < now := by omega
    clear hm hxa hxb
    by_cases hc : a ≤ 4611686018427387903 - now
    · skip
      have hx := HM.out.2.2.2.1 hc
      go_enter Tryd.func8, Tryd.ntmps8
      go_wp2_with fail
      refine HTL.out.mono ?_
      rintro x w1 ⟨rfl, ho1⟩
      have HO1 := hid ho1
      clear ho1 HTL
      go_wp2_with fail
      refine (HS1 _).out.mono ?_
      rintro x w2 ⟨rfl, rfl⟩
      go_wp2_with fail
      refine (HS2 _).out.mono ?_
      rintro x w3 ⟨rfl, rfl⟩
      go_wp2_with fail
      go_ret
      exact ⟨rfl, HO1.out⟩
    · skip
      have hx := HM.out.2.2.2.2 hc
      go_enter Tryd.func8, Tryd.ntmps8
      go_wp2_with fail
      refine HTL.out.mono ?_
      rintro x w1 ⟨rfl, ho1⟩
      have HO1 := hid ho1
      clear ho1 HTL
      go_wp2_with fail
      refine (HS1 _).out.mono ?_
      rintro x w2 ⟨rfl, rfl⟩
      go_wp2_with fail
      refine (HS2 _).out.mono ?_
      rintro x w3 ⟨rfl, rfl⟩
      go_wp2_with fail
      go_ret
      exact ⟨rfl, HO1.out⟩
theorem saturates_c (hT : Tab w) (now a b : Int) (g1 : -9223372036854775808 ≤ now ∧ now ≤ 9223372036854775807) (g2 : -9223372036854775808 ≤ a ∧ a ≤ 9223372036854775807) (g3 : -9223372036854775808 ≤ b ∧ b ≤ 9223372036854775807) : Calls Tryd.prog 8 #[.int .i64 now, .int .i64 a, .int .i64 b] w fun x w' => x = .returned (.bool true) ∧ Only (fun _ => False) w w' := by
  by_cases h : now < 0 ∨ 4611686018427387903 < now ∨ a < 0 ∨ b < 0
  · exact sat_no hT now a b g1 g2 h
  · exact sat_yes hT now a b (by omega) (by omega) (by omega)
end
end Go.Proofs.YtihidpfkdpjdpaaDoor
