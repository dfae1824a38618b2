/- package cron: numbers, the calendar. -/
import Derived.Test.YtokefeemhgcmhaaGreatDoorGrow
import Derived.Test.YtokefeemhgcmhaaGreatDoorFrm
import Derived.Test.YtokefeemhgcmhaaGreatDoorPg
import Derived.Test.YtokefeemhgcmhaaGreatDoorRuns
import Derived.Test.YtokefeemhgcmhaaGreatDoorVMisc
namespace Go.Proofs.YtokefeemhgcmhaaGreatDoor
open Go.RowKit
/-- Has a year a day more? -/
def cLeap (y : Int) : Bool := y.tmod 4 == 0 && (y.tmod 100 != 0 || y.tmod 400 == 0)
def cDays (y m : Int) : Int := if m = 2 then (if cLeap y = true then 29 else 28) else if m = 4 ∨ m = 6 ∨ m = 9 ∨ m = 11 then 30 else 31
section
variable {w : World}
theorem leap_c (y : Int) : Calls Tryz.prog 56 #[.int .i64 y] w fun e w' => e = .returned (.bool (cLeap y)) ∧ w' = w := by
  cases h4 : (y.tmod 4 == 0) with
  | false =>
    have hr : cLeap y = false := by unfold cLeap; rw [h4]; rfl
    rw [hr]
    go_enter Tryz.func56, Tryz.ntmps56
    go_wp2_with fail
    go_ret
    exact ⟨rfl, rfl⟩
  | true =>
    cases h1 : (y.tmod 100 != 0) with
    | true =>
      have hr : cLeap y = true := by unfold cLeap; rw [h4, h1]; rfl
      rw [hr]
      go_enter Tryz.func56, Tryz.ntmps56
      go_wp2_with fail
      go_ret
      exact ⟨rfl, rfl⟩
    | false =>
      have hr : cLeap y = (y.tmod 400 == 0) := by unfold cLeap; rw [h4, h1]; simp
      rw [hr]
      go_enter Tryz.func56, Tryz.ntmps56
      go_wp2_with fail
      go_ret
      exact ⟨rfl, rfl⟩
theorem days_c (y m : Int) : Calls Tryz.prog 57 #[.int .i64 y, .int .i64 m] w fun e w' => e = .returned (.int .i64 (cDays y m)) ∧ w' = w := by
  have HL := hid (leap_c (w := w) y)
  by_cases h2 : m = 2
  · subst h2
    cases hl : cLeap y with
    | true =>
      have hr : cDays y 2 = 29 := by unfold cDays; rw [if_pos rfl, if_pos hl]
      rw [hr]
      rw [hl] at HL
      go_enter Tryz.func57, Tryz.ntmps57
      go_wp2_with fail
      refine HL.out.mono ?_
      rintro e w' ⟨rfl, rfl⟩
      go_wp2_with fail
      go_ret
      exact ⟨rfl, rfl⟩
    | false =>
      have hr : cDays y 2 = 28 := by unfold cDays; rw [if_pos rfl, if_neg (by rw [hl]; simp)]
      rw [hr]
      rw [hl] at HL
      go_enter Tryz.func57, Tryz.ntmps57
      go_wp2_with fail
      refine HL.out.mono ?_
      rintro e w' ⟨rfl, rfl⟩
      go_wp2_with fail
      go_ret
      exact ⟨rfl, rfl⟩
  have b2 : (m == 2) = false := beq_eq_false_iff_ne.2 h2
  by_cases h3 : m = 4 ∨ m = 6 ∨ m = 9 ∨ m = 11
  · have hr : cDays y m = 30 := by unfold cDays; rw [if_neg h2, if_pos h3]
    rw [hr]
    rcases h3 with rfl | rfl | rfl | rfl
    all_goals
      go_enter Tryz.func57, Tryz.ntmps57
      go_wp2_with fail
      go_ret
      exact ⟨rfl, rfl⟩
  · have hr : cDays y m = 31 := by unfold cDays; rw [if_neg h2, if_neg h3]
    rw [hr]
    have b4 : (m == 4) = false := beq_eq_false_iff_ne.2 (by omega)
    have b6 : (m == 6) = false := beq_eq_false_iff_ne.2 (by omega)
    have b9 : (m == 9) = false := beq_eq_false_iff_ne.2 (by omega)
    have b11 : (m == 11) = false := beq_eq_false_iff_ne.2 (by omega)
    go_enter Tryz.func57, Tryz.ntmps57
    go_wp2_with fail
    go_ret
    exact ⟨rfl, rfl⟩
end
def hasB (s n : Int) : Bool := if 0 ≤ n ∧ n < 64 then bits .and .u64 (s / 2 ^ n.toNat) 1 == 1 else false
section
variable {w : World}
theorem crhas_c (s n : Int) : Calls Tryz.prog 35 #[.int .u64 s, .int .i64 n] w fun e w' => e = .returned (.bool (hasB s n)) ∧ w' = w := by
  by_cases h0 : 0 ≤ n
  · have h1 : n ≥ 0 := h0
    by_cases h2 : n < 64
    · have hr : hasB s n = (bits .and .u64 (s / 2 ^ n.toNat) 1 == 1) := by unfold hasB; rw [if_pos ⟨h0, h2⟩]
      rw [hr]
      go_enter Tryz.func35, Tryz.ntmps35
      go_wp2_with fail
      go_ret
      exact ⟨rfl, rfl⟩
    · have hr : hasB s n = false := by unfold hasB; rw [if_neg (fun h => h2 h.2)]
      rw [hr]
      go_enter Tryz.func35, Tryz.ntmps35
      go_wp2_with fail
      go_ret
      exact ⟨rfl, rfl⟩
  · have h1 : ¬ n ≥ 0 := h0
    have hr : hasB s n = false := by unfold hasB; rw [if_neg (fun h => h0 h.1)]
    rw [hr]
    go_enter Tryz.func35, Tryz.ntmps35
    go_wp2_with fail
    go_ret
    exact ⟨rfl, rfl⟩
end
def numGo : List UInt8 → Nat → Nat × Bool
  | [], n => (n, true)
  | b :: l, n => if b.toNat < 48 ∨ 57 < b.toNat then (0, false) else numGo l (10 * n + (b.toNat - 48))
theorem drop_getE {α : Type} {l : List α} {j : Nat} {c : α} (h : l[j]? = some c) : l.drop j = c :: l.drop (j + 1) := by
  obtain ⟨h1, rfl⟩ := List.getElem?_eq_some_iff.1 h
  exact List.drop_eq_getElem_cons h1
/-- The number that a text is. -/
def numR (s : List UInt8) : Nat × Bool := if s = [] ∨ 2 < s.length ∨ (s.length = 2 ∧ s[0]? = some 48) then (0, false) else numGo s 0
theorem numGo_le : ∀ (s : List UInt8) (n : Nat), (numGo s n).1 ≤ n * 10 ^ s.length + 10 ^ s.length - 1
  | [], n => by simp [numGo]
  | b :: l, n => by
    rw [numGo]
    have h0 : 0 < 10 ^ (l.length + 1) := Nat.pow_pos (by decide)
    split
    · show 0 ≤ _; omega
    · rename_i h
      have := numGo_le l (10 * n + (b.toNat - 48))
      rw [List.length_cons, Nat.pow_succ]
      have e : (10 * n + (b.toNat - 48)) * 10 ^ l.length = n * (10 ^ l.length * 10) + (b.toNat - 48) * 10 ^ l.length := by
        rw [Nat.add_mul]; congr 1; rw [Nat.mul_comm 10 n, Nat.mul_assoc, Nat.mul_comm 10]
      have h9 : (b.toNat - 48) * 10 ^ l.length ≤ 9 * 10 ^ l.length := Nat.mul_le_mul_right _ (by omega)
      have h1 : 0 < 10 ^ l.length := Nat.pow_pos (by decide)
      omega
theorem numR_le (s : List UInt8) : (numR s).1 ≤ 99 := by
  unfold numR
  split
  · exact Nat.zero_le _
  · rename_i h
    have h1 := numGo_le s 0
    have h2 : s.length ≤ 2 := by omega
    have h3 : 10 ^ s.length ≤ 10 ^ 2 := Nat.pow_le_pow_right (by decide) h2
    omega
section
variable {w : World}
set_option maxRecDepth 100000 in
set_option maxHeartbeats 1600000 in
theorem crnum_c (s : List UInt8) (hs : s.length ≤ 1000000000) : Calls Tryz.prog 77 #[.string (strOf s)] w fun e w' => e = .returned (.tuple #[.int .i64 ((numR s).1 : Nat), .bool (numR s).2]) ∧ w' = w := by
  have hsz : (strOf s).size = s.length := rfl
  by_cases h0 : s = []
  · subst h0
    have hem : (strOf []).toList = [] := strOf_list []
    rw [show numR [] = (0, false) from rfl]
    go_enter Tryz.func77, Tryz.ntmps77
    go_wp2_with fail
    go_ret2
    exact ⟨rfl, rfl⟩
  have hne : ¬ (strOf s).toList = [] := by rw [strOf_list]; exact h0
  have hie : (strOf s).toList.isEmpty = false := by rw [strOf_list]; cases s with | nil => exact absurd rfl h0 | cons _ _ => rfl
  by_cases h2 : 2 < s.length
  · have h2i : (2 : Int) < (strOf s).size := by omega
    have hr : numR s = (0, false) := by unfold numR; rw [if_pos (.inr (.inl h2))]
    rw [hr]
    clear hsz
    go_enter Tryz.func77, Tryz.ntmps77
    go_wp2_with fail
    go_ret2
    exact ⟨rfl, rfl⟩
  have h2i : ¬ (2 : Int) < (strOf s).size := by omega
  have hpos : 0 < s.length := List.length_pos_iff.2 h0
  have hps : 0 < (strOf s).size := hpos
  obtain ⟨c, hc⟩ : ∃ c, s[0]? = some c := ⟨_, List.getElem?_eq_getElem hpos⟩
  have hsc := strOf_at hc hps
  obtain ⟨cn, hcn⟩ : ∃ n : Nat, c.toNat = n := ⟨_, rfl⟩
  have hcv : ((((strOf s)[0]'hps).toNat : Nat) : Int) = (cn : Int) := by rw [hsc, hcn]
  by_cases h48 : s.length = 2 ∧ cn = 48
  · obtain ⟨hl2, rfl⟩ := h48
    have hr : numR s = (0, false) := by
      unfold numR; rw [if_pos (.inr (.inr ⟨hl2, by rw [hc]; congr 1; exact UInt8.toNat_inj.1 hcn⟩))]
    have hb2 : ((((strOf s).size : Nat) : Int) == 2) = true := by rw [beq_iff_eq]; omega
    have hb2' : (strOf s).size = 2 := by omega
    rw [hr]
    clear hsz hsc hcn hc
    go_enter Tryz.func77, Tryz.ntmps77
    go_wp2_with fail
    go_ret2
    exact ⟨rfl, rfl⟩
  have hr : numR s = numGo s 0 := by
    unfold numR
    rw [if_neg]
    rintro (g | g | ⟨g, g'⟩)
    · exact h0 g
    · exact h2 g
    · rw [hc] at g'; obtain rfl := Option.some.inj g'; exact h48 ⟨g, hcn.symm⟩
  rw [hr]
  obtain ⟨R, hR⟩ : ∃ x, numGo s 0 = x := ⟨_, rfl⟩
  rw [hR]
  have HR := hid hR
  have HL : Hid (s.length ≤ 2) := hid (by omega)
  have hgd : (s.length = 2 ∧ ((cn : Int) == 48) = false) ∨ s.length = 1 := by
    rcases Nat.lt_or_ge s.length 2 with g | g
    · exact .inr (by omega)
    · exact .inl ⟨by omega, beq_eq_false_iff_ne.2 fun e => h48 ⟨by omega, by omega⟩⟩
  clear h48 hR hr hsc hcn hc h0
  rcases hgd with ⟨hl, hb⟩ | hl
  all_goals
    go_enter Tryz.func77, Tryz.ntmps77
    go_wp2_with fail
    clear hcv hps hpos
    go_loopw [25, 4] (fun i v wr => ∃ (j n : Nat), i = .int .i64 j ∧ j ≤ s.length ∧ v = .int .i64 n ∧ n < 10 ^ j ∧ numGo (s.drop j) n = R ∧ wr = w) (fun i _ _ => s.length - (intOf i).toNat)
    case atStart => exact ⟨0, 0, rfl, Nat.zero_le _, rfl, by decide, HR.out, rfl⟩
    case round =>
      obtain ⟨j, n, rfl, hj, rfl, hn, hg, rfl⟩ := hrel
      have HG := hid hg
      clear hg
      by_cases hjl : j < (strOf s).size
      · have hjl' : j < s.length := hjl
        obtain ⟨c, hc⟩ : ∃ c, s[j]? = some c := ⟨_, List.getElem?_eq_getElem hjl'⟩
        have hsc := strOf_at hc hjl
        obtain ⟨cn, hcn⟩ : ∃ n : Nat, c.toNat = n := ⟨_, rfl⟩
        have hcv : ((((strOf s)[j]'hjl).toNat : Nat) : Int) = (cn : Int) := by rw [hsc, hcn]
        have hcl : cn < 256 := by rw [← hcn]; exact UInt8.toNat_lt _
        have hst : (if cn < 48 ∨ 57 < cn then (0, false) else numGo (s.drop (j + 1)) (10 * n + (cn - 48))) = R := by
          have h1 := HG.out
          rw [drop_getE hc, numGo, hcn] at h1
          exact h1
        have hn9 : n < 10 := by
          have hj1 : j ≤ 1 := by have := HL.out; omega
          have h3 : 10 ^ j ≤ 10 ^ 1 := Nat.pow_le_pow_right (by decide) hj1
          omega
        have HP : Hid (10 * n + 10 ≤ 10 ^ (j + 1)) := hid (by rw [Nat.pow_succ]; omega)
        have hji : (j : Int) < s.length := by omega
        have HST := hid hst
        clear hsc hcn hc hst hn
        by_cases hd : cn < 48 ∨ 57 < cn
        · have hR0 : (0, false) = R := by have h1 := HST.out; rw [if_pos hd] at h1; exact h1
          subst hR0
          clear HST HG HR
          rcases Nat.lt_or_ge cn 48 with h4 | h4
          · have h4i : (cn : Int) < 48 := by omega
            go_wp2_with fail
            go_ret2
            exact ⟨rfl, rfl⟩
          · have h4i : ¬ (cn : Int) < 48 := by omega
            have h5i : (57 : Int) < cn := by omega
            go_wp2_with fail
            go_ret2
            exact ⟨rfl, rfl⟩
        · have h4i : ¬ (cn : Int) < 48 := by omega
          have h5i : ¬ (57 : Int) < cn := by omega
          have hsb : (48 : Int) ≤ cn := by omega
          have HST2 : Hid (numGo (s.drop (j + 1)) (10 * n + (cn - 48)) = R) := hid (by have h1 := HST.out; rw [if_neg hd] at h1; exact h1)
          have HD : Hid (cn - 48 < 10) := hid (by omega)
          clear HST HG hd
          go_wp2_with fail
          go_roundw
          case rel => exact ⟨j + 1, 10 * n + (cn - 48), by go_num, hjl', by go_num, by have := HD.out; have := HP.out; omega, HST2.out, trivial⟩
          case measure => simp [intOf]; omega
      · obtain rfl : j = s.length := by omega
        have hg2 := HG.out
        rw [List.drop_length, numGo] at hg2
        subst hg2
        have hji : ¬ ((s.length : Nat) : Int) < s.length := by omega
        clear HG HR
        go_wp2_with fail
        go_ret2
        exact ⟨rfl, rfl⟩
end
end Go.Proofs.YtokefeemhgcmhaaGreatDoor
