/- event.Name, Kind. -/
import Derived.Test.YtnoopajedgllhaaGreatDoorEvW
import Derived.Test.YtnoopajedgllhaaGreatDoorHsA
namespace Go.Proofs.YtnoopajedgllhaaGreatDoor
open Go.RowKit
section
variable {w : World} {G : Nat → Prop} {e : EM} {cs : List Value}
set_option maxRecDepth 100000 in
theorem name_c (k : Int) (h1 : -9223372036854775808 ≤ k) (h2 : k ≤ 9223372036854775807) : Calls Tryz.prog 45 #[.int .i64 k] w fun x w' => x = .returned (.string (strOf (evName k))) ∧ ∃ n, w' = w.drewN n := by
  have HE := hid (entry_c (w := w) k h1 h2)
  obtain ⟨nm, hnm⟩ : ∃ x, evName k = x := ⟨_, rfl⟩
  obtain ⟨fl, hfl⟩ : ∃ x, evFlds k = x := ⟨_, rfl⟩
  rw [hnm, hfl] at HE
  rw [hnm]
  clear hnm hfl
  go_enter Tryz.func45, Tryz.ntmps45
  go_wp2_with fail
  refine HE.out.mono ?_
  rintro x w1 ⟨rfl, n, rfl⟩
  go_wp2_with fail
  go_ret
  exact ⟨rfl, n, rfl⟩
/-- The kind of a name. -/
def kindOf (s : List UInt8) : Nat := (((List.range 21).find? fun i => evName ((i + 1 : Nat) : Int) == s).map (· + 1)).getD 0
theorem kindOf_hit {s : List UInt8} {j : Nat} (h0 : ∀ i < j, evName ((i + 1 : Nat) : Int) ≠ s) (hj : j < 21) (h : evName ((j + 1 : Nat) : Int) = s) : kindOf s = j + 1 := by
  unfold kindOf
  have : (List.range 21).find? (fun i => evName ((i + 1 : Nat) : Int) == s) = some j := by
    rw [List.find?_range_eq_some]
    exact ⟨by simpa using h, by simpa using hj, fun i hi => by simpa using h0 i hi⟩
  rw [this]; rfl
theorem kindOf_none {s : List UInt8} (h0 : ∀ i < 21, evName ((i + 1 : Nat) : Int) ≠ s) : kindOf s = 0 := by
  unfold kindOf
  have : (List.range 21).find? (fun i => evName ((i + 1 : Nat) : Int) == s) = none := by
    rw [List.find?_eq_none]
    intro i hi; simpa using h0 i (by simpa using hi)
  rw [this]; rfl
set_option maxRecDepth 100000 in
theorem kind_c (s : List UInt8) : Calls Tryz.prog 14 #[.string (strOf s)] w fun x w' => x = .returned (.int .i64 (kindOf s)) ∧ Only (fun _ => False) w w' := by
  go_enter Tryz.func14, Tryz.ntmps14
  go_wp2_with fail
  go_loopw [3] (fun i wr => ∃ j : Nat, i = .int .i64 (j + 1 : Nat) ∧ j ≤ 21 ∧ (∀ i < j, evName ((i + 1 : Nat) : Int) ≠ s) ∧ Only (fun _ => False) w wr) (fun i _ => 22 - (intOf i).toNat)
  case atStart => exact ⟨0, rfl, by omega, fun i hi => absurd hi (by omega), Only.refl _ _⟩
  case round =>
    obtain ⟨j, rfl, hj, hall, ho⟩ := hrel
    have HA := hid hall; have HO := hid ho
    clear hall ho
    obtain ⟨q, hq⟩ : ∃ q, j + 1 = q := ⟨_, rfl⟩
    rw [hq]
    by_cases hjl : (q : Int) ≤ 21
    · have HN := hid (name_c (w := wr) (q : Int) (by omega) (by omega))
      obtain ⟨nm, hnm⟩ : ∃ x, evName (q : Int) = x := ⟨_, rfl⟩
      rw [hnm] at HN
      by_cases he : nm = s
      · subst he
        have HF : Hid (kindOf nm = q) := hid (by rw [← hq]; exact kindOf_hit HA.out (by omega) (by rw [hq]; exact hnm))
        have hbe : ((strOf nm).toList == (strOf nm).toList) = true := by simp
        clear hnm hq
        go_wp2_with fail
        refine HN.out.mono ?_
        rintro x w1 ⟨rfl, n, rfl⟩
        go_wp2_with fail
        go_ret
        rw [HF.out]; exact ⟨rfl, HO.out.trans (only_drewN _ _) (fun _ _ e => e)⟩
      · have hbe : ((strOf nm).toList == (strOf s).toList) = false := by rw [strOf_list, strOf_list]; simpa using he
        have HQ := hid hq
        have HNE : Hid (∀ i < q, evName ((i + 1 : Nat) : Int) ≠ s) := hid (fun i hi => by
          rcases Nat.lt_or_ge i j with h | h
          · exact HA.out i h
          · have : i = j := by omega
            subst this; rw [hq, hnm]; exact he)
        clear hnm hq he
        go_wp2_with fail
        refine HN.out.mono ?_
        rintro x w1 ⟨rfl, n, rfl⟩
        go_wp2_with fail
        go_roundw
        case rel => exact ⟨q, by go_num, by omega, HNE.out, HO.out.trans (only_drewN _ _) (fun _ _ e => e)⟩
        case measure => simp [intOf]; omega
    · have HF : Hid (kindOf s = 0) := hid (kindOf_none (fun i hi => HA.out i (by omega)))
      clear hq
      go_wp2_with fail
      go_ret
      rw [HF.out]; exact ⟨rfl, HO.out⟩
end
end Go.Proofs.YtnoopajedgllhaaGreatDoor
