/- event.Task, Closes, Outside, Name, Kind. -/
import Derived.Test.YtdjpapdkbglkmaaGreatDoorEvK
namespace Go.Proofs.YtdjpapdkbglkmaaGreatDoor
open Go.RowKit
def taskB (k : Int) : Bool := k == 2 || k == 3 || k == 5 || k == 6
def closesB (k : Int) : Bool := decide (16 ≤ k ∧ k ≤ 21)
def outsideB (k : Int) : Bool := k == 8 || k == 9 || k == 10 || k == 12 || k == 14 || k == 15 || k == 19 || k == 20 || k == 1
section
variable {w : World} {G : Nat → Prop} {e : EM} {cs : List Value}
set_option maxRecDepth 100000 in
theorem task_c (hE : EAt w G e cs) : Calls Tryz.prog 20 #[.agg cs.toArray] w fun x w' => x = .returned (.bool (taskB e.k)) ∧ Only (fun _ => False) w w' := by
  obtain ⟨vk, vn, vs, va, vm, vc, rfl, -⟩ := hE.form
  obtain ⟨id, tm, k, a, b, nn, tt, v⟩ := e
  have HO := hid (only_new w (.cells #[.int .i64 id, .int .i64 tm, .int .i64 k, .int .i64 a, .int .i64 b, .string (strOf nn), .string (strOf tt), .int .i64 vk, .int .i64 vn, .string (strOf vs), .slice va vm vc] 26))
  clear hE
  simp only
  by_cases h2 : k = 2
  · subst h2
    have HF : Hid (taskB 2 = true) := hid rfl
    go_enter Tryz.func20, Tryz.ntmps20
    go_wp2_with fail
    go_ret
    rw [HF.out]; exact ⟨rfl, HO.out⟩
  have b2 : (k == 2) = false := by simpa using h2
  by_cases h3 : k = 3
  · subst h3
    have HF : Hid (taskB 3 = true) := hid rfl
    go_enter Tryz.func20, Tryz.ntmps20
    go_wp2_with fail
    go_ret
    rw [HF.out]; exact ⟨rfl, HO.out⟩
  have b3 : (k == 3) = false := by simpa using h3
  by_cases h5 : k = 5
  · subst h5
    have HF : Hid (taskB 5 = true) := hid rfl
    go_enter Tryz.func20, Tryz.ntmps20
    go_wp2_with fail
    go_ret
    rw [HF.out]; exact ⟨rfl, HO.out⟩
  have b5 : (k == 5) = false := by simpa using h5
  by_cases h6 : k = 6
  · subst h6
    have HF : Hid (taskB 6 = true) := hid rfl
    go_enter Tryz.func20, Tryz.ntmps20
    go_wp2_with fail
    go_ret
    rw [HF.out]; exact ⟨rfl, HO.out⟩
  have b6 : (k == 6) = false := by simpa using h6
  have HF : Hid (taskB k = false) := hid (by unfold taskB; simp [h2, h3, h5, h6])
  clear h2 h3 h5 h6
  go_enter Tryz.func20, Tryz.ntmps20
  go_wp2_with fail
  go_ret
  rw [HF.out]; exact ⟨rfl, HO.out⟩
set_option maxRecDepth 100000 in
theorem outside_c (hE : EAt w G e cs) : Calls Tryz.prog 25 #[.agg cs.toArray] w fun x w' => x = .returned (.bool (outsideB e.k)) ∧ Only (fun _ => False) w w' := by
  obtain ⟨vk, vn, vs, va, vm, vc, rfl, -⟩ := hE.form
  obtain ⟨id, tm, k, a, b, nn, tt, v⟩ := e
  have HO := hid (only_new w (.cells #[.int .i64 id, .int .i64 tm, .int .i64 k, .int .i64 a, .int .i64 b, .string (strOf nn), .string (strOf tt), .int .i64 vk, .int .i64 vn, .string (strOf vs), .slice va vm vc] 26))
  clear hE
  simp only
  by_cases h8 : k = 8
  · subst h8
    have HF : Hid (outsideB 8 = true) := hid rfl
    go_enter Tryz.func25, Tryz.ntmps25
    go_wp2_with fail
    go_ret
    rw [HF.out]; exact ⟨rfl, HO.out⟩
  have b8 : (k == 8) = false := by simpa using h8
  by_cases h9 : k = 9
  · subst h9
    have HF : Hid (outsideB 9 = true) := hid rfl
    go_enter Tryz.func25, Tryz.ntmps25
    go_wp2_with fail
    go_ret
    rw [HF.out]; exact ⟨rfl, HO.out⟩
  have b9 : (k == 9) = false := by simpa using h9
  by_cases h10 : k = 10
  · subst h10
    have HF : Hid (outsideB 10 = true) := hid rfl
    go_enter Tryz.func25, Tryz.ntmps25
    go_wp2_with fail
    go_ret
    rw [HF.out]; exact ⟨rfl, HO.out⟩
  have b10 : (k == 10) = false := by simpa using h10
  by_cases h12 : k = 12
  · subst h12
    have HF : Hid (outsideB 12 = true) := hid rfl
    go_enter Tryz.func25, Tryz.ntmps25
    go_wp2_with fail
    go_ret
    rw [HF.out]; exact ⟨rfl, HO.out⟩
  have b12 : (k == 12) = false := by simpa using h12
  by_cases h14 : k = 14
  · subst h14
    have HF : Hid (outsideB 14 = true) := hid rfl
    go_enter Tryz.func25, Tryz.ntmps25
    go_wp2_with fail
    go_ret
    rw [HF.out]; exact ⟨rfl, HO.out⟩
  have b14 : (k == 14) = false := by simpa using h14
  by_cases h15 : k = 15
  · subst h15
    have HF : Hid (outsideB 15 = true) := hid rfl
    go_enter Tryz.func25, Tryz.ntmps25
    go_wp2_with fail
    go_ret
    rw [HF.out]; exact ⟨rfl, HO.out⟩
  have b15 : (k == 15) = false := by simpa using h15
  by_cases h19 : k = 19
  · subst h19
    have HF : Hid (outsideB 19 = true) := hid rfl
    go_enter Tryz.func25, Tryz.ntmps25
    go_wp2_with fail
    go_ret
    rw [HF.out]; exact ⟨rfl, HO.out⟩
  have b19 : (k == 19) = false := by simpa using h19
  by_cases h20 : k = 20
  · subst h20
    have HF : Hid (outsideB 20 = true) := hid rfl
    go_enter Tryz.func25, Tryz.ntmps25
    go_wp2_with fail
    go_ret
    rw [HF.out]; exact ⟨rfl, HO.out⟩
  have b20 : (k == 20) = false := by simpa using h20
  by_cases h1 : k = 1
  · subst h1
    have HF : Hid (outsideB 1 = true) := hid rfl
    go_enter Tryz.func25, Tryz.ntmps25
    go_wp2_with fail
    go_ret
    rw [HF.out]; exact ⟨rfl, HO.out⟩
  have b1 : (k == 1) = false := by simpa using h1
  have HF : Hid (outsideB k = false) := hid (by unfold outsideB; simp [h8, h9, h10, h12, h14, h15, h19, h20, h1])
  clear h8 h9 h10 h12 h14 h15 h19 h20 h1
  go_enter Tryz.func25, Tryz.ntmps25
  go_wp2_with fail
  go_ret
  rw [HF.out]; exact ⟨rfl, HO.out⟩
set_option maxRecDepth 100000 in
theorem closes_c (hE : EAt w G e cs) : Calls Tryz.prog 26 #[.agg cs.toArray] w fun x w' => x = .returned (.bool (closesB e.k)) ∧ Only (fun _ => False) w w' := by
  obtain ⟨vk, vn, vs, va, vm, vc, rfl, -⟩ := hE.form
  obtain ⟨id, tm, k, a, b, nn, tt, v⟩ := e
  have HO := hid (only_new w (.cells #[.int .i64 id, .int .i64 tm, .int .i64 k, .int .i64 a, .int .i64 b, .string (strOf nn), .string (strOf tt), .int .i64 vk, .int .i64 vn, .string (strOf vs), .slice va vm vc] 26))
  clear hE
  simp only
  by_cases h1 : 16 ≤ k
  · by_cases h2 : k ≤ 21
    · have HF : Hid (closesB k = true) := hid (decide_eq_true ⟨h1, h2⟩)
      go_enter Tryz.func26, Tryz.ntmps26
      go_wp2_with fail
      go_ret
      rw [HF.out]; exact ⟨rfl, HO.out⟩
    · have HF : Hid (closesB k = false) := hid (decide_eq_false (fun h => h2 h.2))
      go_enter Tryz.func26, Tryz.ntmps26
      go_wp2_with fail
      go_ret
      rw [HF.out]; exact ⟨rfl, HO.out⟩
  · have HF : Hid (closesB k = false) := hid (decide_eq_false (fun h => h1 h.1))
    go_enter Tryz.func26, Tryz.ntmps26
    go_wp2_with fail
    go_ret
    rw [HF.out]; exact ⟨rfl, HO.out⟩
set_option maxRecDepth 100000 in
theorem name_c (k : Int) (h1 : -9223372036854775808 ≤ k) (h2 : k ≤ 9223372036854775807) : Calls Tryz.prog 60 #[.int .i64 k] w fun x w' => x = .returned (.string (strOf (evName k))) ∧ ∃ n, w' = w.drewN n := by
  have HE := hid (entry_c (w := w) k h1 h2)
  obtain ⟨nm, hnm⟩ : ∃ x, evName k = x := ⟨_, rfl⟩
  obtain ⟨fl, hfl⟩ : ∃ x, evFlds k = x := ⟨_, rfl⟩
  rw [hnm, hfl] at HE
  rw [hnm]
  clear hnm hfl
  go_enter Tryz.func60, Tryz.ntmps60
  go_wp2_with fail
  refine HE.out.mono ?_
  rintro x w1 ⟨rfl, n, rfl⟩
  go_wp2_with fail
  go_ret
  exact ⟨rfl, n, rfl⟩
/-- The kind of a name. -/
def kindOf (s : List UInt8) : Nat := (((List.range 21).find? fun i => evName ((i + 1 : Nat) : Int) == s).map (· + 1)).getD 0
theorem kindOf_hit {s : List UInt8} {j : Nat} (h0 : ∀ i < j, evName ((i + 1 : Nat) : Int) ≠ s) (hj : j < 21) (h : evName ((j + 1 : Nat) : Int) = s) : kindOf s = j + 1 := by
  unfold kindOf
  have : (List.range 21).find? (fun i => evName ((i + 1 : Nat) : Int) == s) = some j := by
    rw [List.find?_range_eq_some]
    exact ⟨by simpa using h, by simpa using hj, fun i hi => by simpa using h0 i hi⟩
  rw [this]; rfl
theorem kindOf_none {s : List UInt8} (h0 : ∀ i < 21, evName ((i + 1 : Nat) : Int) ≠ s) : kindOf s = 0 := by
  unfold kindOf
  have : (List.range 21).find? (fun i => evName ((i + 1 : Nat) : Int) == s) = none := by
    rw [List.find?_eq_none]
    intro i hi; simpa using h0 i (by simpa using hi)
  rw [this]; rfl
set_option maxRecDepth 100000 in
theorem kind_c (s : List UInt8) : Calls Tryz.prog 24 #[.string (strOf s)] w fun x w' => x = .returned (.int .i64 (kindOf s)) ∧ Only (fun _ => False) w w' := by
  go_enter Tryz.func24, Tryz.ntmps24
  go_wp2_with fail
  go_loopw [3] (fun i wr => ∃ j : Nat, i = .int .i64 (j + 1 : Nat) ∧ j ≤ 21 ∧ (∀ i < j, evName ((i + 1 : Nat) : Int) ≠ s) ∧ Only (fun _ => False) w wr) (fun i _ => 22 - (intOf i).toNat)
  case atStart => exact ⟨0, rfl, by omega, fun i hi => absurd hi (by omega), Only.refl _ _⟩
  case round =>
    obtain ⟨j, rfl, hj, hall, ho⟩ := hrel
    have HA := hid hall; have HO := hid ho
    clear hall ho
    obtain ⟨q, hq⟩ : ∃ q, j + 1 = q := ⟨_, rfl⟩
    rw [hq]
    by_cases hjl : (q : Int) ≤ 21
    · have HN := hid (name_c (w := wr) (q : Int) (by omega) (by omega))
      obtain ⟨nm, hnm⟩ : ∃ x, evName (q : Int) = x := ⟨_, rfl⟩
      rw [hnm] at HN
      by_cases he : nm = s
      · subst he
        have HF : Hid (kindOf nm = q) := hid (by rw [← hq]; exact kindOf_hit HA.out (by omega) (by rw [hq]; exact hnm))
        have hbe : ((strOf nm).toList == (strOf nm).toList) = true := by simp
        clear hnm hq
        go_wp2_with fail
        refine HN.out.mono ?_
        rintro x w1 ⟨rfl, n, rfl⟩
        go_wp2_with fail
        go_ret
        rw [HF.out]; exact ⟨rfl, HO.out.trans (only_drewN _ _) (fun _ _ e => e)⟩
      · have hbe : ((strOf nm).toList == (strOf s).toList) = false := by rw [strOf_list, strOf_list]; simpa using he
        have HQ := hid hq
        have HNE : Hid (∀ i < q, evName ((i + 1 : Nat) : Int) ≠ s) := hid (fun i hi => by
          rcases Nat.lt_or_ge i j with h | h
          · exact HA.out i h
          · have : i = j := by omega
            subst this; rw [hq, hnm]; exact he)
        clear hnm hq he
        go_wp2_with fail
        refine HN.out.mono ?_
        rintro x w1 ⟨rfl, n, rfl⟩
        go_wp2_with fail
        go_roundw
        case rel => exact ⟨q, by go_num, by omega, HNE.out, HO.out.trans (only_drewN _ _) (fun _ _ e => e)⟩
        case measure => simp [intOf]; omega
    · have HF : Hid (kindOf s = 0) := hid (kindOf_none (fun i hi => HA.out i (by omega)))
      clear hq
      go_wp2_with fail
      go_ret
      rw [HF.out]; exact ⟨rfl, HO.out⟩
end
end Go.Proofs.YtdjpapdkbglkmaaGreatDoor
