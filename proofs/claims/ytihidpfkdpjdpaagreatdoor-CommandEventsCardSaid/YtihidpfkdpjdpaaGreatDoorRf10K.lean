/- foliotref10: A, B, N, V, Name, Check (without its other functions). -/
import Derived.Test.YtihidpfkdpjdpaaGreatDoorCmG
import Derived.Test.YtihidpfkdpjdpaaGreatDoorRf03
namespace Go.Proofs.YtihidpfkdpjdpaaGreatDoor
open Go.RowKit
section
variable {w : World}
set_option maxRecDepth 100000 in
theorem r10A_c (k : Int) : Calls Tryz.prog 25 #[.int .i64 k] w fun x w' => x = .returned (.bool (fA k)) ∧ w = w' := by
  rcases c_k7 k with rfl | rfl | rfl | rfl | rfl | rfl | h
  case inr.inr.inr.inr.inr.inr =>
    have HF : Hid (fA k = false) := hid (by unfold fA; simp only [Bool.or_eq_false_iff, beq_eq_false_iff_ne]; omega)
    by_cases h1 : 1 ≤ k
    · have h3 : ¬ k ≤ 3 := by omega
      go_enter Tryz.func25, Tryz.ntmps25
      go_wp2_with fail
      go_ret
      rw [HF.out]; exact ⟨rfl, rfl⟩
    · skip
      go_enter Tryz.func25, Tryz.ntmps25
      go_wp2_with fail
      go_ret
      rw [HF.out]; exact ⟨rfl, rfl⟩
  all_goals
    go_enter Tryz.func25, Tryz.ntmps25
    go_wp2_with fail
    go_ret
    exact ⟨rfl, rfl⟩
set_option maxRecDepth 100000 in
theorem r10B_c (k : Int) : Calls Tryz.prog 26 #[.int .i64 k] w fun x w' => x = .returned (.bool (fB k)) ∧ w = w' := by
  rcases c_k7 k with rfl | rfl | rfl | rfl | rfl | rfl | h
  case inr.inr.inr.inr.inr.inr =>
    have b1 : (k == 1) = false := by simp; omega
    have b3 : (k == 3) = false := by simp; omega
    have HF : Hid (fB k = false) := hid (by unfold fB; rw [b1, b3]; rfl)
    clear h
    go_enter Tryz.func26, Tryz.ntmps26
    go_wp2_with fail
    go_ret
    rw [HF.out]; exact ⟨rfl, rfl⟩
  all_goals
    go_enter Tryz.func26, Tryz.ntmps26
    go_wp2_with fail
    go_ret
    exact ⟨rfl, rfl⟩
set_option maxRecDepth 100000 in
theorem r10N_c (k : Int) : Calls Tryz.prog 27 #[.int .i64 k] w fun x w' => x = .returned (.bool (fN k)) ∧ w = w' := by
  rcases c_k7 k with rfl | rfl | rfl | rfl | rfl | rfl | h
  case inr.inr.inr.inr.inr.inr =>
    have b3 : (k == 3) = false := by simp; omega
    have b5 : (k == 5) = false := by simp; omega
    have HF : Hid (fN k = false) := hid (by unfold fN; rw [b3, b5]; rfl)
    clear h
    go_enter Tryz.func27, Tryz.ntmps27
    go_wp2_with fail
    go_ret
    rw [HF.out]; exact ⟨rfl, rfl⟩
  all_goals
    go_enter Tryz.func27, Tryz.ntmps27
    go_wp2_with fail
    go_ret
    exact ⟨rfl, rfl⟩
set_option maxRecDepth 100000 in
theorem r10V_c (k : Int) : Calls Tryz.prog 28 #[.int .i64 k] w fun x w' => x = .returned (.bool (fV k)) ∧ w = w' := by
  rcases c_k7 k with rfl | rfl | rfl | rfl | rfl | rfl | h
  case inr.inr.inr.inr.inr.inr =>
    have b3 : (k == 3) = false := by simp; omega
    have b4 : (k == 4) = false := by simp; omega
    have b6 : (k == 6) = false := by simp; omega
    have HF : Hid (fV k = false) := hid (by unfold fV; rw [b3, b4, b6]; rfl)
    clear h
    go_enter Tryz.func28, Tryz.ntmps28
    go_wp2_with fail
    go_ret
    rw [HF.out]; exact ⟨rfl, rfl⟩
  all_goals
    go_enter Tryz.func28, Tryz.ntmps28
    go_wp2_with fail
    go_ret
    exact ⟨rfl, rfl⟩
set_option maxRecDepth 100000 in
theorem r10name_c (k : Int) : Calls Tryz.prog 24 #[.int .i64 k] w fun x w' => x = .returned (.string (strOf (cName k))) ∧ Only (fun _ => False) w w' := by
  rcases c_k7 k with rfl | rfl | rfl | rfl | rfl | rfl | h
  case inr.inr.inr.inr.inr.inr =>
    have HF : Hid (cName k = []) := hid (by unfold cName; rw [if_neg h])
    by_cases h1 : k < 1
    · skip
      go_enter Tryz.func24, Tryz.ntmps24
      go_wp2_with fail
      go_ret
      rw [HF.out]; first | exact ⟨rfl, Only.refl _ _⟩ | exact ⟨rfl, only_new _ _⟩
    · have h6 : 6 < k := by omega
      go_enter Tryz.func24, Tryz.ntmps24
      go_wp2_with fail
      go_ret
      rw [HF.out]; first | exact ⟨rfl, Only.refl _ _⟩ | exact ⟨rfl, only_new _ _⟩
  all_goals
    go_enter Tryz.func24, Tryz.ntmps24
    go_wp2_with fail
    go_ret
    first | exact ⟨rfl, Only.refl _ _⟩ | exact ⟨rfl, only_new _ _⟩
end
section
variable {w : World} {G : Nat → Prop} {e : EM} {cs : List Value}
set_option maxRecDepth 100000 in
set_option maxHeartbeats 3200000 in
theorem r10check_c (hE : CAt w G e cs) (hg : e.rg) : Calls Tryz.prog 6 #[.agg cs.toArray] w fun x w' => x = .returned (.int .i64 e.cchk) ∧ Only (fun _ => False) w w' := by
  obtain ⟨vk, vn, vs, va, vm, vc, rfl, hV⟩ := hE.form
  have hvk := hV.k
  obtain ⟨gid, gtm, gk, ga, gb, gn, gt, gv⟩ := hg
  have HV := hid hV; have Hgv := hid gv
  have HCK : Hid (e.cchk = if fK e.k = false then 9 else if e.tm < 0 ∨ 4611686018427387903 < e.tm ∨ e.a < 0 ∨ e.b < 0 ∨ (fA e.k = false ∧ e.a ≠ 0) ∨ (fB e.k = false ∧ e.b ≠ 0) then 1 else if 64 < e.name.length then 2
    else if (fN e.k = false ∧ e.name ≠ []) ∨ (fV e.k = false ∧ vk ≠ 0) then 8 else e.v.chk) := hid (by rw [← hvk]; exact cchk_eq e)
  have HNM := fun wc => hid (r10name_c (w := wc) e.k)
  have HA := fun wc => hid (r10A_c (w := wc) e.k)
  have HB := fun wc => hid (r10B_c (w := wc) e.k)
  have HN := fun wc => hid (r10N_c (w := wc) e.k)
  have HVV := fun wc => hid (r10V_c (w := wc) e.k)
  obtain ⟨id, tm, k, a, b, name, text, v⟩ := e
  simp only at HCK HNM HA HB HN HVV gtm ga gb gn HV Hgv ⊢
  obtain ⟨mA, hmA⟩ : ∃ m : Bool, fA k = m := ⟨_, rfl⟩
  obtain ⟨mB, hmB⟩ : ∃ m : Bool, fB k = m := ⟨_, rfl⟩
  obtain ⟨mN, hmN⟩ : ∃ m : Bool, fN k = m := ⟨_, rfl⟩
  obtain ⟨mV, hmV⟩ : ∃ m : Bool, fV k = m := ⟨_, rfl⟩
  obtain ⟨mK, hmK⟩ : ∃ m : Bool, fK k = m := ⟨_, rfl⟩
  rw [hmA, hmB, hmN, hmV, hmK] at HCK
  simp only [hmA] at HA
  simp only [hmB] at HB
  simp only [hmN] at HN
  simp only [hmV] at HVV
  have hKn := fK_name k
  rw [hmK] at hKn
  obtain ⟨nm, hnm⟩ : ∃ x, cName k = x := ⟨_, rfl⟩
  rw [hnm] at hKn
  simp only [hnm] at HNM
  have HKN := hid hKn
  clear hE hV hvk gv gk hmA hmB hmN hmV hmK hKn hnm
  have hsn : (strOf name).size = name.length := rfl
  have HB0 := hid (blk_new w (.cells #[.int .i64 k, .int .i64 tm, .int .i64 a, .int .i64 b, .string (strOf name), .int .i64 vk, .int .i64 vn, .string (strOf vs), .slice va vm vc] 26))
  have HO0 := hid (only_new w (.cells #[.int .i64 k, .int .i64 tm, .int .i64 a, .int .i64 b, .string (strOf name), .int .i64 vk, .int .i64 vn, .string (strOf vs), .slice va vm vc] 26))
  go_enter Tryz.func6, Tryz.ntmps6
  go_wp2_with fail
  refine (HNM _).out.mono ?_
  rintro x wb ⟨rfl, ho⟩
  clear HNM
  have hbb := blk_only HB0.out ho (fun e => e)
  have HOB := hid (HO0.out.trans ho (fun _ _ e => e))
  clear ho
  have b0 : wb.cell? ⟨w.heap.size, 0, none⟩ = some (.int .i64 k) := cell_blk hbb 0
  have b1 : wb.cell? ⟨w.heap.size, 1, none⟩ = some (.int .i64 tm) := cell_blk hbb 1
  have b2 : wb.cell? ⟨w.heap.size, 2, none⟩ = some (.int .i64 a) := cell_blk hbb 2
  have b3 : wb.cell? ⟨w.heap.size, 3, none⟩ = some (.int .i64 b) := cell_blk hbb 3
  have b4 : wb.cell? ⟨w.heap.size, 4, none⟩ = some (.string (strOf name)) := cell_blk hbb 4
  have b5 : wb.cell? ⟨w.heap.size, 5, none⟩ = some (.int .i64 vk) := cell_blk hbb 5
  have b6 : wb.cell? ⟨w.heap.size, 6, none⟩ = some (.int .i64 vn) := cell_blk hbb 6
  have b7 : wb.cell? ⟨w.heap.size, 7, none⟩ = some (.string (strOf vs)) := cell_blk hbb 7
  have b8 : wb.cell? ⟨w.heap.size, 8, none⟩ = some (.slice va vm vc) := cell_blk hbb 8
  have hwl := blk_lt hbb
  cases mK with
  | false =>
    have hF : Hid ((⟨id, tm, k, a, b, name, text, v⟩ : EM).cchk = 9) := hid (by rw [HCK.out, if_pos rfl])
    obtain rfl : nm = [] := HKN.out.2 rfl
    have hem : (strOf []).toList.isEmpty = true := by rw [strOf_list]; rfl
    have hem2 : (strOf []).toList = [] := strOf_list []
    go_wp2_with fail
    go_ret
    rw [hF.out]; exact ⟨rfl, HOB.out⟩
  | true =>
  have hn0 : nm ≠ [] := fun h => by have := HKN.out.1 h; cases this
  have hne : (strOf nm).toList.isEmpty = false := by rw [strOf_list]; simpa using hn0
  have hne2 : ¬ (strOf nm).toList = [] := by rw [strOf_list]; exact hn0
  obtain ⟨B1, hB1⟩ : ∃ B : Bool, decide (tm < 0 ∨ 4611686018427387903 < tm ∨ a < 0 ∨ b < 0 ∨ (mA = false ∧ a ≠ 0) ∨ (mB = false ∧ b ≠ 0)) = B := ⟨_, rfl⟩
  obtain ⟨B4, hB4⟩ : ∃ B : Bool, decide ((mN = false ∧ name ≠ []) ∨ (mV = false ∧ vk ≠ 0)) = B := ⟨_, rfl⟩
  have HC2 : Hid ((⟨id, tm, k, a, b, name, text, v⟩ : EM).cchk = if B1 then 1 else if 64 < name.length then 2 else if B4 then 8 else v.chk) := hid (by
    rw [HCK.out, if_neg (by decide), ← hB1, ← hB4]; simp only [decide_eq_true_eq])
  have H1 := hid hB1; have H4 := hid hB4
  clear HCK hB1 hB4 hbb hn0
  go_upto_region 4 with fail
  go_cut [48] from 11 to 48 (fun x wx => wb = wx ∧ x = .bool B1)
  case first =>
    by_cases h1 : tm < 0
    · skip
      have e1 : B1 = true := by rw [← H1.out]; exact decide_eq_true (by omega)
      go_wp2_with fail
      go_meet
      case rel => exact ⟨rfl, by rw [e1]⟩
    · skip
      by_cases h2 : 4611686018427387903 < tm
      · skip
        have e1 : B1 = true := by rw [← H1.out]; exact decide_eq_true (by omega)
        go_wp2_with fail
        go_meet
        case rel => exact ⟨rfl, by rw [e1]⟩
      · skip
        by_cases h3 : a < 0
        · skip
          have e1 : B1 = true := by rw [← H1.out]; exact decide_eq_true (by omega)
          go_wp2_with fail
          go_meet
          case rel => exact ⟨rfl, by rw [e1]⟩
        · skip
          by_cases h4 : b < 0
          · skip
            have e1 : B1 = true := by rw [← H1.out]; exact decide_eq_true (by omega)
            go_wp2_with fail
            go_meet
            case rel => exact ⟨rfl, by rw [e1]⟩
          · skip
            cases mA with
            | true =>
              cases mB with
              | true =>
                have e1 : B1 = false := by rw [← H1.out]; exact decide_eq_false (by rintro (h | h | h | h | ⟨h, h'⟩ | ⟨h, h'⟩) <;> first | omega | (exact absurd h (by decide)) | (exact h' Za.out) | (exact h' Zb.out) | (exact h' Zname.out) | (exact h' Zvk.out))
                go_wp2_with (first | (go_at_call 25; (with_reducible refine (HA _).out.mono ?_); rintro x w2 ⟨rfl, rfl⟩) | (go_at_call 26; (with_reducible refine (HB _).out.mono ?_); rintro x w2 ⟨rfl, rfl⟩) | (go_at_call 27; (with_reducible refine (HN _).out.mono ?_); rintro x w2 ⟨rfl, rfl⟩) | (go_at_call 28; (with_reducible refine (HVV _).out.mono ?_); rintro x w2 ⟨rfl, rfl⟩))
                go_meet
                case rel => exact ⟨rfl, by rw [e1]⟩
              | false =>
                by_cases hb : b = 0
                · have zb : (b == 0) = true := by simpa using hb
                  have yb : (b != 0) = false := by simpa using hb
                  have Zb := hid hb
                  clear hb
                  have e1 : B1 = false := by rw [← H1.out]; exact decide_eq_false (by rintro (h | h | h | h | ⟨h, h'⟩ | ⟨h, h'⟩) <;> first | omega | (exact absurd h (by decide)) | (exact h' Za.out) | (exact h' Zb.out) | (exact h' Zname.out) | (exact h' Zvk.out))
                  go_wp2_with (first | (go_at_call 25; (with_reducible refine (HA _).out.mono ?_); rintro x w2 ⟨rfl, rfl⟩) | (go_at_call 26; (with_reducible refine (HB _).out.mono ?_); rintro x w2 ⟨rfl, rfl⟩) | (go_at_call 27; (with_reducible refine (HN _).out.mono ?_); rintro x w2 ⟨rfl, rfl⟩) | (go_at_call 28; (with_reducible refine (HVV _).out.mono ?_); rintro x w2 ⟨rfl, rfl⟩))
                  go_meet
                  case rel => exact ⟨rfl, by rw [e1]⟩
                · have zb : (b == 0) = false := by simpa using hb
                  have yb : (b != 0) = true := by simpa using hb
                  have e1 : B1 = true := by rw [← H1.out]; exact decide_eq_true (.inr (.inr (.inr (.inr (.inr ⟨rfl, hb⟩)))))
                  go_wp2_with (first | (go_at_call 25; (with_reducible refine (HA _).out.mono ?_); rintro x w2 ⟨rfl, rfl⟩) | (go_at_call 26; (with_reducible refine (HB _).out.mono ?_); rintro x w2 ⟨rfl, rfl⟩) | (go_at_call 27; (with_reducible refine (HN _).out.mono ?_); rintro x w2 ⟨rfl, rfl⟩) | (go_at_call 28; (with_reducible refine (HVV _).out.mono ?_); rintro x w2 ⟨rfl, rfl⟩))
                  go_meet
                  case rel => exact ⟨rfl, by rw [e1]⟩
            | false =>
              by_cases ha : a = 0
              · have za : (a == 0) = true := by simpa using ha
                have ya : (a != 0) = false := by simpa using ha
                have Za := hid ha
                clear ha
                cases mB with
                | true =>
                  have e1 : B1 = false := by rw [← H1.out]; exact decide_eq_false (by rintro (h | h | h | h | ⟨h, h'⟩ | ⟨h, h'⟩) <;> first | omega | (exact absurd h (by decide)) | (exact h' Za.out) | (exact h' Zb.out) | (exact h' Zname.out) | (exact h' Zvk.out))
                  go_wp2_with (first | (go_at_call 25; (with_reducible refine (HA _).out.mono ?_); rintro x w2 ⟨rfl, rfl⟩) | (go_at_call 26; (with_reducible refine (HB _).out.mono ?_); rintro x w2 ⟨rfl, rfl⟩) | (go_at_call 27; (with_reducible refine (HN _).out.mono ?_); rintro x w2 ⟨rfl, rfl⟩) | (go_at_call 28; (with_reducible refine (HVV _).out.mono ?_); rintro x w2 ⟨rfl, rfl⟩))
                  go_meet
                  case rel => exact ⟨rfl, by rw [e1]⟩
                | false =>
                  by_cases hb : b = 0
                  · have zb : (b == 0) = true := by simpa using hb
                    have yb : (b != 0) = false := by simpa using hb
                    have Zb := hid hb
                    clear hb
                    have e1 : B1 = false := by rw [← H1.out]; exact decide_eq_false (by rintro (h | h | h | h | ⟨h, h'⟩ | ⟨h, h'⟩) <;> first | omega | (exact absurd h (by decide)) | (exact h' Za.out) | (exact h' Zb.out) | (exact h' Zname.out) | (exact h' Zvk.out))
                    go_wp2_with (first | (go_at_call 25; (with_reducible refine (HA _).out.mono ?_); rintro x w2 ⟨rfl, rfl⟩) | (go_at_call 26; (with_reducible refine (HB _).out.mono ?_); rintro x w2 ⟨rfl, rfl⟩) | (go_at_call 27; (with_reducible refine (HN _).out.mono ?_); rintro x w2 ⟨rfl, rfl⟩) | (go_at_call 28; (with_reducible refine (HVV _).out.mono ?_); rintro x w2 ⟨rfl, rfl⟩))
                    go_meet
                    case rel => exact ⟨rfl, by rw [e1]⟩
                  · have zb : (b == 0) = false := by simpa using hb
                    have yb : (b != 0) = true := by simpa using hb
                    have e1 : B1 = true := by rw [← H1.out]; exact decide_eq_true (.inr (.inr (.inr (.inr (.inr ⟨rfl, hb⟩)))))
                    go_wp2_with (first | (go_at_call 25; (with_reducible refine (HA _).out.mono ?_); rintro x w2 ⟨rfl, rfl⟩) | (go_at_call 26; (with_reducible refine (HB _).out.mono ?_); rintro x w2 ⟨rfl, rfl⟩) | (go_at_call 27; (with_reducible refine (HN _).out.mono ?_); rintro x w2 ⟨rfl, rfl⟩) | (go_at_call 28; (with_reducible refine (HVV _).out.mono ?_); rintro x w2 ⟨rfl, rfl⟩))
                    go_meet
                    case rel => exact ⟨rfl, by rw [e1]⟩
              · have za : (a == 0) = false := by simpa using ha
                have ya : (a != 0) = true := by simpa using ha
                have e1 : B1 = true := by rw [← H1.out]; exact decide_eq_true (.inr (.inr (.inr (.inr (.inl ⟨rfl, ha⟩)))))
                go_wp2_with (first | (go_at_call 25; (with_reducible refine (HA _).out.mono ?_); rintro x w2 ⟨rfl, rfl⟩) | (go_at_call 26; (with_reducible refine (HB _).out.mono ?_); rintro x w2 ⟨rfl, rfl⟩) | (go_at_call 27; (with_reducible refine (HN _).out.mono ?_); rintro x w2 ⟨rfl, rfl⟩) | (go_at_call 28; (with_reducible refine (HVV _).out.mono ?_); rintro x w2 ⟨rfl, rfl⟩))
                go_meet
                case rel => exact ⟨rfl, by rw [e1]⟩
  case rest =>
  obtain ⟨rfl, rfl⟩ := hcut
  cases B1 with
  | true =>
    have hF : Hid ((⟨id, tm, k, a, b, name, text, v⟩ : EM).cchk = 1) := hid (by rw [HC2.out]; simp)
    go_wp2_with fail
    go_ret
    rw [hF.out]; exact ⟨rfl, HOB.out⟩
  | false =>
  by_cases hnl : 64 < (name.length : Int)
  · have hF : Hid ((⟨id, tm, k, a, b, name, text, v⟩ : EM).cchk = 2) := hid (by rw [HC2.out, if_neg (by decide), if_pos (by omega)])
    go_wp2_with fail
    go_ret
    rw [hF.out]; exact ⟨rfl, HOB.out⟩
  have HC3 : Hid ((⟨id, tm, k, a, b, name, text, v⟩ : EM).cchk = if B4 then 8 else v.chk) := hid (by rw [HC2.out, if_neg (by decide), if_neg (by omega)])
  clear HC2
  go_upto_region 8 with fail
  go_cut [71] from 53 to 71 (fun x wx => wb = wx ∧ x = .bool B4)
  case first =>
    cases mN with
    | true =>
      cases mV with
      | true =>
        have e1 : B4 = false := by rw [← H4.out]; exact decide_eq_false (by rintro (⟨h, h'⟩ | ⟨h, h'⟩) <;> first | omega | (exact absurd h (by decide)) | (exact h' Za.out) | (exact h' Zb.out) | (exact h' Zname.out) | (exact h' Zvk.out))
        go_wp2_with (first | (go_at_call 25; (with_reducible refine (HA _).out.mono ?_); rintro x w2 ⟨rfl, rfl⟩) | (go_at_call 26; (with_reducible refine (HB _).out.mono ?_); rintro x w2 ⟨rfl, rfl⟩) | (go_at_call 27; (with_reducible refine (HN _).out.mono ?_); rintro x w2 ⟨rfl, rfl⟩) | (go_at_call 28; (with_reducible refine (HVV _).out.mono ?_); rintro x w2 ⟨rfl, rfl⟩))
        go_meet
        case rel => exact ⟨rfl, by rw [e1]⟩
      | false =>
        by_cases hvk : vk = 0
        · have zvk : (vk == 0) = true := by simpa using hvk
          have yvk : (vk != 0) = false := by simpa using hvk
          have Zvk := hid hvk
          clear hvk
          have e1 : B4 = false := by rw [← H4.out]; exact decide_eq_false (by rintro (⟨h, h'⟩ | ⟨h, h'⟩) <;> first | omega | (exact absurd h (by decide)) | (exact h' Za.out) | (exact h' Zb.out) | (exact h' Zname.out) | (exact h' Zvk.out))
          go_wp2_with (first | (go_at_call 25; (with_reducible refine (HA _).out.mono ?_); rintro x w2 ⟨rfl, rfl⟩) | (go_at_call 26; (with_reducible refine (HB _).out.mono ?_); rintro x w2 ⟨rfl, rfl⟩) | (go_at_call 27; (with_reducible refine (HN _).out.mono ?_); rintro x w2 ⟨rfl, rfl⟩) | (go_at_call 28; (with_reducible refine (HVV _).out.mono ?_); rintro x w2 ⟨rfl, rfl⟩))
          go_meet
          case rel => exact ⟨rfl, by rw [e1]⟩
        · have zvk : (vk == 0) = false := by simpa using hvk
          have yvk : (vk != 0) = true := by simpa using hvk
          have e1 : B4 = true := by rw [← H4.out]; exact decide_eq_true (.inr ⟨rfl, hvk⟩)
          go_wp2_with (first | (go_at_call 25; (with_reducible refine (HA _).out.mono ?_); rintro x w2 ⟨rfl, rfl⟩) | (go_at_call 26; (with_reducible refine (HB _).out.mono ?_); rintro x w2 ⟨rfl, rfl⟩) | (go_at_call 27; (with_reducible refine (HN _).out.mono ?_); rintro x w2 ⟨rfl, rfl⟩) | (go_at_call 28; (with_reducible refine (HVV _).out.mono ?_); rintro x w2 ⟨rfl, rfl⟩))
          go_meet
          case rel => exact ⟨rfl, by rw [e1]⟩
    | false =>
      by_cases hname : name = []
      · have zname : (strOf name).toList.isEmpty = true := by rw [strOf_list, hname]; rfl
        have Zname := hid hname
        clear hname
        cases mV with
        | true =>
          have e1 : B4 = false := by rw [← H4.out]; exact decide_eq_false (by rintro (⟨h, h'⟩ | ⟨h, h'⟩) <;> first | omega | (exact absurd h (by decide)) | (exact h' Za.out) | (exact h' Zb.out) | (exact h' Zname.out) | (exact h' Zvk.out))
          go_wp2_with (first | (go_at_call 25; (with_reducible refine (HA _).out.mono ?_); rintro x w2 ⟨rfl, rfl⟩) | (go_at_call 26; (with_reducible refine (HB _).out.mono ?_); rintro x w2 ⟨rfl, rfl⟩) | (go_at_call 27; (with_reducible refine (HN _).out.mono ?_); rintro x w2 ⟨rfl, rfl⟩) | (go_at_call 28; (with_reducible refine (HVV _).out.mono ?_); rintro x w2 ⟨rfl, rfl⟩))
          go_meet
          case rel => exact ⟨rfl, by rw [e1]⟩
        | false =>
          by_cases hvk : vk = 0
          · have zvk : (vk == 0) = true := by simpa using hvk
            have yvk : (vk != 0) = false := by simpa using hvk
            have Zvk := hid hvk
            clear hvk
            have e1 : B4 = false := by rw [← H4.out]; exact decide_eq_false (by rintro (⟨h, h'⟩ | ⟨h, h'⟩) <;> first | omega | (exact absurd h (by decide)) | (exact h' Za.out) | (exact h' Zb.out) | (exact h' Zname.out) | (exact h' Zvk.out))
            go_wp2_with (first | (go_at_call 25; (with_reducible refine (HA _).out.mono ?_); rintro x w2 ⟨rfl, rfl⟩) | (go_at_call 26; (with_reducible refine (HB _).out.mono ?_); rintro x w2 ⟨rfl, rfl⟩) | (go_at_call 27; (with_reducible refine (HN _).out.mono ?_); rintro x w2 ⟨rfl, rfl⟩) | (go_at_call 28; (with_reducible refine (HVV _).out.mono ?_); rintro x w2 ⟨rfl, rfl⟩))
            go_meet
            case rel => exact ⟨rfl, by rw [e1]⟩
          · have zvk : (vk == 0) = false := by simpa using hvk
            have yvk : (vk != 0) = true := by simpa using hvk
            have e1 : B4 = true := by rw [← H4.out]; exact decide_eq_true (.inr ⟨rfl, hvk⟩)
            go_wp2_with (first | (go_at_call 25; (with_reducible refine (HA _).out.mono ?_); rintro x w2 ⟨rfl, rfl⟩) | (go_at_call 26; (with_reducible refine (HB _).out.mono ?_); rintro x w2 ⟨rfl, rfl⟩) | (go_at_call 27; (with_reducible refine (HN _).out.mono ?_); rintro x w2 ⟨rfl, rfl⟩) | (go_at_call 28; (with_reducible refine (HVV _).out.mono ?_); rintro x w2 ⟨rfl, rfl⟩))
            go_meet
            case rel => exact ⟨rfl, by rw [e1]⟩
      · have zname : (strOf name).toList.isEmpty = false := by rw [strOf_list]; simpa using hname
        have e1 : B4 = true := by rw [← H4.out]; exact decide_eq_true (.inl ⟨rfl, hname⟩)
        go_wp2_with (first | (go_at_call 25; (with_reducible refine (HA _).out.mono ?_); rintro x w2 ⟨rfl, rfl⟩) | (go_at_call 26; (with_reducible refine (HB _).out.mono ?_); rintro x w2 ⟨rfl, rfl⟩) | (go_at_call 27; (with_reducible refine (HN _).out.mono ?_); rintro x w2 ⟨rfl, rfl⟩) | (go_at_call 28; (with_reducible refine (HVV _).out.mono ?_); rintro x w2 ⟨rfl, rfl⟩))
        go_meet
        case rel => exact ⟨rfl, by rw [e1]⟩
  case rest =>
  obtain ⟨rfl, rfl⟩ := hcut
  cases B4 with
  | true =>
    have hF : Hid ((⟨id, tm, k, a, b, name, text, v⟩ : EM).cchk = 8) := hid (by rw [HC3.out]; simp)
    go_wp2_with fail
    go_ret
    rw [hF.out]; exact ⟨rfl, HOB.out⟩
  | false =>
    have hF : Hid ((⟨id, tm, k, a, b, name, text, v⟩ : EM).cchk = v.chk) := hid (by rw [HC3.out]; simp)
    have HVC := hid (rfcheck_c (HV.out.same HOB.out) Hgv.out)
    go_wp2_with fail
    refine HVC.out.mono ?_
    rintro x w2 ⟨rfl, ho2⟩
    have HO2 := hid ho2
    clear ho2
    go_wp2_with fail
    go_ret
    rw [hF.out]; exact ⟨rfl, HOB.out.trans HO2.out (fun _ _ e => e)⟩
end
end Go.Proofs.YtihidpfkdpjdpaaGreatDoor
