/- foliotref10: its functions. -/
import Derived.Test.YtihidpfkdpjdpaaDoorCmA
import Derived.Test.YtihidpfkdpjdpaaDoorCmD
import Derived.Test.YtihidpfkdpjdpaaDoorRf03
import Derived.Test.YtihidpfkdpjdpaaDoorCmQ
import Derived.Test.YtihidpfkdpjdpaaDoorRf03P
import Derived.Test.YtihidpfkdpjdpaaDoorRf02
namespace Go.Proofs.YtihidpfkdpjdpaaDoor
open Go.RowKit
section
variable {w : World}
set_option maxRecDepth 100000 in
theorem r10A_c (k : Int) : Calls Tryd.prog 33 #[.int .i64 k] w fun x w' => x = .returned (.bool (fA k)) ∧ w = w' := by
  rcases c_k7 k with rfl | rfl | rfl | rfl | rfl | rfl | h
  case inr.inr.inr.inr.inr.inr =>
    have HF : Hid (fA k = false) := hid (by unfold fA; simp only [Bool.or_eq_false_iff, beq_eq_false_iff_ne]; omega)
    by_cases h1 : 1 ≤ k
    · have h3 : ¬ k ≤ 3 := by omega
      go_enter Tryd.func33, Tryd.ntmps33
      go_wp2_with fail
      go_ret
      rw [HF.out]; exact ⟨rfl, rfl⟩
    · skip
      go_enter Tryd.func33, Tryd.ntmps33
      go_wp2_with fail
      go_ret
      rw [HF.out]; exact ⟨rfl, rfl⟩
  all_goals
    go_enter Tryd.func33, Tryd.ntmps33
    go_wp2_with fail
    go_ret
    exact ⟨rfl, rfl⟩
set_option maxRecDepth 100000 in
theorem r10B_c (k : Int) : Calls Tryd.prog 34 #[.int .i64 k] w fun x w' => x = .returned (.bool (fB k)) ∧ w = w' := by
  rcases c_k7 k with rfl | rfl | rfl | rfl | rfl | rfl | h
  case inr.inr.inr.inr.inr.inr =>
    have b1 : (k == 1) = false := by simp; omega
    have b3 : (k == 3) = false := by simp; omega
    have HF : Hid (fB k = false) := hid (by unfold fB; rw [b1, b3]; rfl)
    clear h
    go_enter Tryd.func34, Tryd.ntmps34
    go_wp2_with fail
    go_ret
    rw [HF.out]; exact ⟨rfl, rfl⟩
  all_goals
    go_enter Tryd.func34, Tryd.ntmps34
    go_wp2_with fail
    go_ret
    exact ⟨rfl, rfl⟩
set_option maxRecDepth 100000 in
theorem r10N_c (k : Int) : Calls Tryd.prog 35 #[.int .i64 k] w fun x w' => x = .returned (.bool (fN k)) ∧ w = w' := by
  rcases c_k7 k with rfl | rfl | rfl | rfl | rfl | rfl | h
  case inr.inr.inr.inr.inr.inr =>
    have b3 : (k == 3) = false := by simp; omega
    have b5 : (k == 5) = false := by simp; omega
    have HF : Hid (fN k = false) := hid (by unfold fN; rw [b3, b5]; rfl)
    clear h
    go_enter Tryd.func35, Tryd.ntmps35
    go_wp2_with fail
    go_ret
    rw [HF.out]; exact ⟨rfl, rfl⟩
  all_goals
    go_enter Tryd.func35, Tryd.ntmps35
    go_wp2_with fail
    go_ret
    exact ⟨rfl, rfl⟩
set_option maxRecDepth 100000 in
theorem r10V_c (k : Int) : Calls Tryd.prog 36 #[.int .i64 k] w fun x w' => x = .returned (.bool (fV k)) ∧ w = w' := by
  rcases c_k7 k with rfl | rfl | rfl | rfl | rfl | rfl | h
  case inr.inr.inr.inr.inr.inr =>
    have b3 : (k == 3) = false := by simp; omega
    have b4 : (k == 4) = false := by simp; omega
    have b6 : (k == 6) = false := by simp; omega
    have HF : Hid (fV k = false) := hid (by unfold fV; rw [b3, b4, b6]; rfl)
    clear h
    go_enter Tryd.func36, Tryd.ntmps36
    go_wp2_with fail
    go_ret
    rw [HF.out]; exact ⟨rfl, rfl⟩
  all_goals
    go_enter Tryd.func36, Tryd.ntmps36
    go_wp2_with fail
    go_ret
    exact ⟨rfl, rfl⟩
set_option maxRecDepth 100000 in
theorem r10name_c (k : Int) : Calls Tryd.prog 23 #[.int .i64 k] w fun x w' => x = .returned (.string (strOf (cName k))) ∧ Only (fun _ => False) w w' := by
  rcases c_k7 k with rfl | rfl | rfl | rfl | rfl | rfl | h
  case inr.inr.inr.inr.inr.inr =>
    have HF : Hid (cName k = []) := hid (by unfold cName; rw [if_neg h])
    by_cases h1 : k < 1
    · skip
      go_enter Tryd.func23, Tryd.ntmps23
      go_wp2_with fail
      go_ret
      rw [HF.out]; first | exact ⟨rfl, Only.refl _ _⟩ | exact ⟨rfl, only_new _ _⟩
    · have h6 : 6 < k := by omega
      go_enter Tryd.func23, Tryd.ntmps23
      go_wp2_with fail
      go_ret
      rw [HF.out]; first | exact ⟨rfl, Only.refl _ _⟩ | exact ⟨rfl, only_new _ _⟩
  all_goals
    go_enter Tryd.func23, Tryd.ntmps23
    go_wp2_with fail
    go_ret
    first | exact ⟨rfl, Only.refl _ _⟩ | exact ⟨rfl, only_new _ _⟩
end
end Go.Proofs.YtihidpfkdpjdpaaDoor
namespace Go.Proofs.YtihidpfkdpjdpaaDoor
open Go.RowKit
section
variable {w : World} {G : Nat → Prop} {e : EM} {cs : List Value}
set_option maxRecDepth 100000 in
set_option maxHeartbeats 3200000 in
theorem r10check_c (hE : CAt w G e cs) (hg : e.rg) : Calls Tryd.prog 13 #[.agg cs.toArray] w fun x w' => x = .returned (.int .i64 e.cchk) ∧ Only (fun _ => False) w w' := by
  obtain ⟨vk, vn, vs, va, vm, vc, rfl, hV⟩ := hE.form
  have hvk := hV.k
  obtain ⟨gid, gtm, gk, ga, gb, gn, gt, gv⟩ := hg
  have HV := hid hV; have Hgv := hid gv
  have HCK : Hid (e.cchk = if fK e.k = false then 9 else if e.tm < 0 ∨ 4611686018427387903 < e.tm ∨ e.a < 0 ∨ e.b < 0 ∨ (fA e.k = false ∧ e.a ≠ 0) ∨ (fB e.k = false ∧ e.b ≠ 0) then 1 else if 64 < e.name.length then 2
    else if (fN e.k = false ∧ e.name ≠ []) ∨ (fV e.k = false ∧ vk ≠ 0) then 8 else e.v.chk) := hid (by rw [← hvk]; exact cchk_eq e)
  have HNM := fun wc => hid (r10name_c (w := wc) e.k)
  have HA := fun wc => hid (r10A_c (w := wc) e.k)
  have HB := fun wc => hid (r10B_c (w := wc) e.k)
  have HN := fun wc => hid (r10N_c (w := wc) e.k)
  have HVV := fun wc => hid (r10V_c (w := wc) e.k)
  obtain ⟨id, tm, k, a, b, name, text, v⟩ := e
  simp only at HCK HNM HA HB HN HVV gtm ga gb gn HV Hgv ⊢
  obtain ⟨mA, hmA⟩ : ∃ m : Bool, fA k = m := ⟨_, rfl⟩
  obtain ⟨mB, hmB⟩ : ∃ m : Bool, fB k = m := ⟨_, rfl⟩
  obtain ⟨mN, hmN⟩ : ∃ m : Bool, fN k = m := ⟨_, rfl⟩
  obtain ⟨mV, hmV⟩ : ∃ m : Bool, fV k = m := ⟨_, rfl⟩
  obtain ⟨mK, hmK⟩ : ∃ m : Bool, fK k = m := ⟨_, rfl⟩
  rw [hmA, hmB, hmN, hmV, hmK] at HCK
  simp only [hmA] at HA
  simp only [hmB] at HB
  simp only [hmN] at HN
  simp only [hmV] at HVV
  have hKn := fK_name k
  rw [hmK] at hKn
  obtain ⟨nm, hnm⟩ : ∃ x, cName k = x := ⟨_, rfl⟩
  rw [hnm] at hKn
  simp only [hnm] at HNM
  have HKN := hid hKn
  clear hE hV hvk gv gk hmA hmB hmN hmV hmK hKn hnm
  have hsn : (strOf name).size = name.length := rfl
  have HB0 := hid (blk_new w (.cells #[.int .i64 k, .int .i64 tm, .int .i64 a, .int .i64 b, .string (strOf name), .int .i64 vk, .int .i64 vn, .string (strOf vs), .slice va vm vc] 29))
  have HO0 := hid (only_new w (.cells #[.int .i64 k, .int .i64 tm, .int .i64 a, .int .i64 b, .string (strOf name), .int .i64 vk, .int .i64 vn, .string (strOf vs), .slice va vm vc] 29))
  go_enter Tryd.func13, Tryd.ntmps13
  go_wp2_with fail
  refine (HNM _).out.mono ?_
  rintro x wb ⟨rfl, ho⟩
  clear HNM
  have hbb := blk_only HB0.out ho (fun e => e)
  have HOB := hid (HO0.out.trans ho (fun _ _ e => e))
  clear ho
  have b0 : wb.cell? ⟨w.heap.size, 0, none⟩ = some (.int .i64 k) := cell_blk hbb 0
  have b1 : wb.cell? ⟨w.heap.size, 1, none⟩ = some (.int .i64 tm) := cell_blk hbb 1
  have b2 : wb.cell? ⟨w.heap.size, 2, none⟩ = some (.int .i64 a) := cell_blk hbb 2
  have b3 : wb.cell? ⟨w.heap.size, 3, none⟩ = some (.int .i64 b) := cell_blk hbb 3
  have b4 : wb.cell? ⟨w.heap.size, 4, none⟩ = some (.string (strOf name)) := cell_blk hbb 4
  have b5 : wb.cell? ⟨w.heap.size, 5, none⟩ = some (.int .i64 vk) := cell_blk hbb 5
  have b6 : wb.cell? ⟨w.heap.size, 6, none⟩ = some (.int .i64 vn) := cell_blk hbb 6
  have b7 : wb.cell? ⟨w.heap.size, 7, none⟩ = some (.string (strOf vs)) := cell_blk hbb 7
  have b8 : wb.cell? ⟨w.heap.size, 8, none⟩ = some (.slice va vm vc) := cell_blk hbb 8
  have hwl := blk_lt hbb
  cases mK with
  | false =>
    have hF : Hid ((⟨id, tm, k, a, b, name, text, v⟩ : EM).cchk = 9) := hid (by rw [HCK.out, if_pos rfl])
    obtain rfl : nm = [] := HKN.out.2 rfl
    have hem : (strOf []).toList.isEmpty = true := by rw [strOf_list]; rfl
    have hem2 : (strOf []).toList = [] := strOf_list []
    go_wp2_with fail
    go_ret
    rw [hF.out]; exact ⟨rfl, HOB.out⟩
  | true =>
  have hn0 : nm ≠ [] := fun h => by have := HKN.out.1 h; cases this
  have hne : (strOf nm).toList.isEmpty = false := by rw [strOf_list]; simpa using hn0
  have hne2 : ¬ (strOf nm).toList = [] := by rw [strOf_list]; exact hn0
  obtain ⟨B1, hB1⟩ : ∃ B : Bool, decide (tm < 0 ∨ 4611686018427387903 < tm ∨ a < 0 ∨ b < 0 ∨ (mA = false ∧ a ≠ 0) ∨ (mB = false ∧ b ≠ 0)) = B := ⟨_, rfl⟩
  obtain ⟨B4, hB4⟩ : ∃ B : Bool, decide ((mN = false ∧ name ≠ []) ∨ (mV = false ∧ vk ≠ 0)) = B := ⟨_, rfl⟩
  have HC2 : Hid ((⟨id, tm, k, a, b, name, text, v⟩ : EM).cchk = if B1 then 1 else if 64 < name.length then 2 else if B4 then 8 else v.chk) := hid (by
    rw [HCK.out, if_neg (by decide), ← hB1, ← hB4]; simp only [decide_eq_true_eq])
  have H1 := hid hB1; have H4 := hid hB4
  clear HCK hB1 hB4 hbb hn0
  go_upto_region 4 with fail
  go_cut [48] from 11 to 48 (fun x wx => wb = wx ∧ x = .bool B1)
  case first =>
    by_cases h1 : tm < 0
    · skip
      have e1 : B1 = true := by rw [← H1.out]; exact decide_eq_true (by omega)
      go_wp2_with fail
      go_meet
      case rel => exact ⟨rfl, by rw [e1]⟩
    · skip
      by_cases h2 : 4611686018427387903 < tm
      · skip
        have e1 : B1 = true := by rw [← H1.out]; exact decide_eq_true (by omega)
        go_wp2_with fail
        go_meet
        case rel => exact ⟨rfl, by rw [e1]⟩
      · skip
        by_cases h3 : a < 0
        · skip
          have e1 : B1 = true := by rw [← H1.out]; exact decide_eq_true (by omega)
          go_wp2_with fail
          go_meet
          case rel => exact ⟨rfl, by rw [e1]⟩
        · skip
          by_cases h4 : b < 0
          · skip
            have e1 : B1 = true := by rw [← H1.out]; exact decide_eq_true (by omega)
            go_wp2_with fail
            go_meet
            case rel => exact ⟨rfl, by rw [e1]⟩
          · skip
            cases mA with
            | true =>
              cases mB with
              | true =>
                have e1 : B1 = false := by rw [← H1.out]; exact decide_eq_false (by rintro (h | h | h | h | ⟨h, h'⟩ | ⟨h, h'⟩) <;> first | omega | (exact absurd h (by decide)) | (exact h' Za.out) | (exact h' Zb.out) | (exact h' Zname.out) | (exact h' Zvk.out))
                go_wp2_with (first | (go_at_call 33; (with_reducible refine (HA _).out.mono ?_); rintro x w2 ⟨rfl, rfl⟩) | (go_at_call 34; (with_reducible refine (HB _).out.mono ?_); rintro x w2 ⟨rfl, rfl⟩) | (go_at_call 35; (with_reducible refine (HN _).out.mono ?_); rintro x w2 ⟨rfl, rfl⟩) | (go_at_call 36; (with_reducible refine (HVV _).out.mono ?_); rintro x w2 ⟨rfl, rfl⟩))
                go_meet
                case rel => exact ⟨rfl, by rw [e1]⟩
              | false =>
                by_cases hb : b = 0
                · have zb : (b == 0) = true := by simpa using hb
                  have yb : (b != 0) = false := by simpa using hb
                  have Zb := hid hb
                  clear hb
                  have e1 : B1 = false := by rw [← H1.out]; exact decide_eq_false (by rintro (h | h | h | h | ⟨h, h'⟩ | ⟨h, h'⟩) <;> first | omega | (exact absurd h (by decide)) | (exact h' Za.out) | (exact h' Zb.out) | (exact h' Zname.out) | (exact h' Zvk.out))
                  go_wp2_with (first | (go_at_call 33; (with_reducible refine (HA _).out.mono ?_); rintro x w2 ⟨rfl, rfl⟩) | (go_at_call 34; (with_reducible refine (HB _).out.mono ?_); rintro x w2 ⟨rfl, rfl⟩) | (go_at_call 35; (with_reducible refine (HN _).out.mono ?_); rintro x w2 ⟨rfl, rfl⟩) | (go_at_call 36; (with_reducible refine (HVV _).out.mono ?_); rintro x w2 ⟨rfl, rfl⟩))
                  go_meet
                  case rel => exact ⟨rfl, by rw [e1]⟩
                · have zb : (b == 0) = false := by simpa using hb
                  have yb : (b != 0) = true := by simpa using hb
                  have e1 : B1 = true := by rw [← H1.out]; exact decide_eq_true (.inr (.inr (.inr (.inr (.inr ⟨rfl, hb⟩)))))
                  go_wp2_with (first | (go_at_call 33; (with_reducible refine (HA _).out.mono ?_); rintro x w2 ⟨rfl, rfl⟩) | (go_at_call 34; (with_reducible refine (HB _).out.mono ?_); rintro x w2 ⟨rfl, rfl⟩) | (go_at_call 35; (with_reducible refine (HN _).out.mono ?_); rintro x w2 ⟨rfl, rfl⟩) | (go_at_call 36; (with_reducible refine (HVV _).out.mono ?_); rintro x w2 ⟨rfl, rfl⟩))
                  go_meet
                  case rel => exact ⟨rfl, by rw [e1]⟩
            | false =>
              by_cases ha : a = 0
              · have za : (a == 0) = true := by simpa using ha
                have ya : (a != 0) = false := by simpa using ha
                have Za := hid ha
                clear ha
                cases mB with
                | true =>
                  have e1 : B1 = false := by rw [← H1.out]; exact decide_eq_false (by rintro (h | h | h | h | ⟨h, h'⟩ | ⟨h, h'⟩) <;> first | omega | (exact absurd h (by decide)) | (exact h' Za.out) | (exact h' Zb.out) | (exact h' Zname.out) | (exact h' Zvk.out))
                  go_wp2_with (first | (go_at_call 33; (with_reducible refine (HA _).out.mono ?_); rintro x w2 ⟨rfl, rfl⟩) | (go_at_call 34; (with_reducible refine (HB _).out.mono ?_); rintro x w2 ⟨rfl, rfl⟩) | (go_at_call 35; (with_reducible refine (HN _).out.mono ?_); rintro x w2 ⟨rfl, rfl⟩) | (go_at_call 36; (with_reducible refine (HVV _).out.mono ?_); rintro x w2 ⟨rfl, rfl⟩))
                  go_meet
                  case rel => exact ⟨rfl, by rw [e1]⟩
                | false =>
                  by_cases hb : b = 0
                  · have zb : (b == 0) = true := by simpa using hb
                    have yb : (b != 0) = false := by simpa using hb
                    have Zb := hid hb
                    clear hb
                    have e1 : B1 = false := by rw [← H1.out]; exact decide_eq_false (by rintro (h | h | h | h | ⟨h, h'⟩ | ⟨h, h'⟩) <;> first | omega | (exact absurd h (by decide)) | (exact h' Za.out) | (exact h' Zb.out) | (exact h' Zname.out) | (exact h' Zvk.out))
                    go_wp2_with (first | (go_at_call 33; (with_reducible refine (HA _).out.mono ?_); rintro x w2 ⟨rfl, rfl⟩) | (go_at_call 34; (with_reducible refine (HB _).out.mono ?_); rintro x w2 ⟨rfl, rfl⟩) | (go_at_call 35; (with_reducible refine (HN _).out.mono ?_); rintro x w2 ⟨rfl, rfl⟩) | (go_at_call 36; (with_reducible refine (HVV _).out.mono ?_); rintro x w2 ⟨rfl, rfl⟩))
                    go_meet
                    case rel => exact ⟨rfl, by rw [e1]⟩
                  · have zb : (b == 0) = false := by simpa using hb
                    have yb : (b != 0) = true := by simpa using hb
                    have e1 : B1 = true := by rw [← H1.out]; exact decide_eq_true (.inr (.inr (.inr (.inr (.inr ⟨rfl, hb⟩)))))
                    go_wp2_with (first | (go_at_call 33; (with_reducible refine (HA _).out.mono ?_); rintro x w2 ⟨rfl, rfl⟩) | (go_at_call 34; (with_reducible refine (HB _).out.mono ?_); rintro x w2 ⟨rfl, rfl⟩) | (go_at_call 35; (with_reducible refine (HN _).out.mono ?_); rintro x w2 ⟨rfl, rfl⟩) | (go_at_call 36; (with_reducible refine (HVV _).out.mono ?_); rintro x w2 ⟨rfl, rfl⟩))
                    go_meet
                    case rel => exact ⟨rfl, by rw [e1]⟩
              · have za : (a == 0) = false := by simpa using ha
                have ya : (a != 0) = true := by simpa using ha
                have e1 : B1 = true := by rw [← H1.out]; exact decide_eq_true (.inr (.inr (.inr (.inr (.inl ⟨rfl, ha⟩)))))
                go_wp2_with (first | (go_at_call 33; (with_reducible refine (HA _).out.mono ?_); rintro x w2 ⟨rfl, rfl⟩) | (go_at_call 34; (with_reducible refine (HB _).out.mono ?_); rintro x w2 ⟨rfl, rfl⟩) | (go_at_call 35; (with_reducible refine (HN _).out.mono ?_); rintro x w2 ⟨rfl, rfl⟩) | (go_at_call 36; (with_reducible refine (HVV _).out.mono ?_); rintro x w2 ⟨rfl, rfl⟩))
                go_meet
                case rel => exact ⟨rfl, by rw [e1]⟩
  case rest =>
  obtain ⟨rfl, rfl⟩ := hcut
  cases B1 with
  | true =>
    have hF : Hid ((⟨id, tm, k, a, b, name, text, v⟩ : EM).cchk = 1) := hid (by rw [HC2.out]; simp)
    go_wp2_with fail
    go_ret
    rw [hF.out]; exact ⟨rfl, HOB.out⟩
  | false =>
  by_cases hnl : 64 < (name.length : Int)
  · have hF : Hid ((⟨id, tm, k, a, b, name, text, v⟩ : EM).cchk = 2) := hid (by rw [HC2.out, if_neg (by decide), if_pos (by omega)])
    go_wp2_with fail
    go_ret
    rw [hF.out]; exact ⟨rfl, HOB.out⟩
  have HC3 : Hid ((⟨id, tm, k, a, b, name, text, v⟩ : EM).cchk = if B4 then 8 else v.chk) := hid (by rw [HC2.out, if_neg (by decide), if_neg (by omega)])
  clear HC2
  go_upto_region 8 with fail
  go_cut [71] from 53 to 71 (fun x wx => wb = wx ∧ x = .bool B4)
  case first =>
    cases mN with
    | true =>
      cases mV with
      | true =>
        have e1 : B4 = false := by rw [← H4.out]; exact decide_eq_false (by rintro (⟨h, h'⟩ | ⟨h, h'⟩) <;> first | omega | (exact absurd h (by decide)) | (exact h' Za.out) | (exact h' Zb.out) | (exact h' Zname.out) | (exact h' Zvk.out))
        go_wp2_with (first | (go_at_call 33; (with_reducible refine (HA _).out.mono ?_); rintro x w2 ⟨rfl, rfl⟩) | (go_at_call 34; (with_reducible refine (HB _).out.mono ?_); rintro x w2 ⟨rfl, rfl⟩) | (go_at_call 35; (with_reducible refine (HN _).out.mono ?_); rintro x w2 ⟨rfl, rfl⟩) | (go_at_call 36; (with_reducible refine (HVV _).out.mono ?_); rintro x w2 ⟨rfl, rfl⟩))
        go_meet
        case rel => exact ⟨rfl, by rw [e1]⟩
      | false =>
        by_cases hvk : vk = 0
        · have zvk : (vk == 0) = true := by simpa using hvk
          have yvk : (vk != 0) = false := by simpa using hvk
          have Zvk := hid hvk
          clear hvk
          have e1 : B4 = false := by rw [← H4.out]; exact decide_eq_false (by rintro (⟨h, h'⟩ | ⟨h, h'⟩) <;> first | omega | (exact absurd h (by decide)) | (exact h' Za.out) | (exact h' Zb.out) | (exact h' Zname.out) | (exact h' Zvk.out))
          go_wp2_with (first | (go_at_call 33; (with_reducible refine (HA _).out.mono ?_); rintro x w2 ⟨rfl, rfl⟩) | (go_at_call 34; (with_reducible refine (HB _).out.mono ?_); rintro x w2 ⟨rfl, rfl⟩) | (go_at_call 35; (with_reducible refine (HN _).out.mono ?_); rintro x w2 ⟨rfl, rfl⟩) | (go_at_call 36; (with_reducible refine (HVV _).out.mono ?_); rintro x w2 ⟨rfl, rfl⟩))
          go_meet
          case rel => exact ⟨rfl, by rw [e1]⟩
        · have zvk : (vk == 0) = false := by simpa using hvk
          have yvk : (vk != 0) = true := by simpa using hvk
          have e1 : B4 = true := by rw [← H4.out]; exact decide_eq_true (.inr ⟨rfl, hvk⟩)
          go_wp2_with (first | (go_at_call 33; (with_reducible refine (HA _).out.mono ?_); rintro x w2 ⟨rfl, rfl⟩) | (go_at_call 34; (with_reducible refine (HB _).out.mono ?_); rintro x w2 ⟨rfl, rfl⟩) | (go_at_call 35; (with_reducible refine (HN _).out.mono ?_); rintro x w2 ⟨rfl, rfl⟩) | (go_at_call 36; (with_reducible refine (HVV _).out.mono ?_); rintro x w2 ⟨rfl, rfl⟩))
          go_meet
          case rel => exact ⟨rfl, by rw [e1]⟩
    | false =>
      by_cases hname : name = []
      · have zname : (strOf name).toList.isEmpty = true := by rw [strOf_list, hname]; rfl
        have Zname := hid hname
        clear hname
        cases mV with
        | true =>
          have e1 : B4 = false := by rw [← H4.out]; exact decide_eq_false (by rintro (⟨h, h'⟩ | ⟨h, h'⟩) <;> first | omega | (exact absurd h (by decide)) | (exact h' Za.out) | (exact h' Zb.out) | (exact h' Zname.out) | (exact h' Zvk.out))
          go_wp2_with (first | (go_at_call 33; (with_reducible refine (HA _).out.mono ?_); rintro x w2 ⟨rfl, rfl⟩) | (go_at_call 34; (with_reducible refine (HB _).out.mono ?_); rintro x w2 ⟨rfl, rfl⟩) | (go_at_call 35; (with_reducible refine (HN _).out.mono ?_); rintro x w2 ⟨rfl, rfl⟩) | (go_at_call 36; (with_reducible refine (HVV _).out.mono ?_); rintro x w2 ⟨rfl, rfl⟩))
          go_meet
          case rel => exact ⟨rfl, by rw [e1]⟩
        | false =>
          by_cases hvk : vk = 0
          · have zvk : (vk == 0) = true := by simpa using hvk
            have yvk : (vk != 0) = false := by simpa using hvk
            have Zvk := hid hvk
            clear hvk
            have e1 : B4 = false := by rw [← H4.out]; exact decide_eq_false (by rintro (⟨h, h'⟩ | ⟨h, h'⟩) <;> first | omega | (exact absurd h (by decide)) | (exact h' Za.out) | (exact h' Zb.out) | (exact h' Zname.out) | (exact h' Zvk.out))
            go_wp2_with (first | (go_at_call 33; (with_reducible refine (HA _).out.mono ?_); rintro x w2 ⟨rfl, rfl⟩) | (go_at_call 34; (with_reducible refine (HB _).out.mono ?_); rintro x w2 ⟨rfl, rfl⟩) | (go_at_call 35; (with_reducible refine (HN _).out.mono ?_); rintro x w2 ⟨rfl, rfl⟩) | (go_at_call 36; (with_reducible refine (HVV _).out.mono ?_); rintro x w2 ⟨rfl, rfl⟩))
            go_meet
            case rel => exact ⟨rfl, by rw [e1]⟩
          · have zvk : (vk == 0) = false := by simpa using hvk
            have yvk : (vk != 0) = true := by simpa using hvk
            have e1 : B4 = true := by rw [← H4.out]; exact decide_eq_true (.inr ⟨rfl, hvk⟩)
            go_wp2_with (first | (go_at_call 33; (with_reducible refine (HA _).out.mono ?_); rintro x w2 ⟨rfl, rfl⟩) | (go_at_call 34; (with_reducible refine (HB _).out.mono ?_); rintro x w2 ⟨rfl, rfl⟩) | (go_at_call 35; (with_reducible refine (HN _).out.mono ?_); rintro x w2 ⟨rfl, rfl⟩) | (go_at_call 36; (with_reducible refine (HVV _).out.mono ?_); rintro x w2 ⟨rfl, rfl⟩))
            go_meet
            case rel => exact ⟨rfl, by rw [e1]⟩
      · have zname : (strOf name).toList.isEmpty = false := by rw [strOf_list]; simpa using hname
        have e1 : B4 = true := by rw [← H4.out]; exact decide_eq_true (.inl ⟨rfl, hname⟩)
        go_wp2_with (first | (go_at_call 33; (with_reducible refine (HA _).out.mono ?_); rintro x w2 ⟨rfl, rfl⟩) | (go_at_call 34; (with_reducible refine (HB _).out.mono ?_); rintro x w2 ⟨rfl, rfl⟩) | (go_at_call 35; (with_reducible refine (HN _).out.mono ?_); rintro x w2 ⟨rfl, rfl⟩) | (go_at_call 36; (with_reducible refine (HVV _).out.mono ?_); rintro x w2 ⟨rfl, rfl⟩))
        go_meet
        case rel => exact ⟨rfl, by rw [e1]⟩
  case rest =>
  obtain ⟨rfl, rfl⟩ := hcut
  cases B4 with
  | true =>
    have hF : Hid ((⟨id, tm, k, a, b, name, text, v⟩ : EM).cchk = 8) := hid (by rw [HC3.out]; simp)
    go_wp2_with fail
    go_ret
    rw [hF.out]; exact ⟨rfl, HOB.out⟩
  | false =>
    have hF : Hid ((⟨id, tm, k, a, b, name, text, v⟩ : EM).cchk = v.chk) := hid (by rw [HC3.out]; simp)
    have HVC := hid (rfcheck_c (HV.out.same HOB.out) Hgv.out)
    go_wp2_with fail
    refine HVC.out.mono ?_
    rintro x w2 ⟨rfl, ho2⟩
    have HO2 := hid ho2
    clear ho2
    go_wp2_with fail
    go_ret
    rw [hF.out]; exact ⟨rfl, HOB.out.trans HO2.out (fun _ _ e => e)⟩
end
section
variable {w : World} {G : Nat → Prop} {es : List EM} {v : Value}
theorem cEnds_ge {k : Int} (h : 1 ≤ k ∧ k ≤ 6) : cEnds k = true ↔ 4 ≤ k := by
  rcases c_k6 h with rfl | rfl | rfl | rfl | rfl | rfl <;> decide
set_option maxRecDepth 100000 in
set_option maxHeartbeats 3200000 in
theorem r10all_c (hE : CmsV w G v es) (hG : ∀ k, G k → k < w.heap.size) (hg : ∀ e ∈ es, e.rg) (hl : es.length ≤ 9223372036854775807) :
    Calls Tryd.prog 14 #[v] w fun x w' => x = .returned (.int .i64 (cAll es)) ∧ Only (fun _ => False) w w' := by
  obtain ⟨ad, cap, g, o, rfl, hne, hel⟩ := hE
  have HN := hid hne; have HEL := hid hel; have HG := hid hG; have Hg := hid hg
  have HA : Hid (cAll es = if 256 < es.length then 2 else cAllL es) := hid rfl
  clear hne hel hG hg
  by_cases h256 : 256 < (es.length : Int)
  · have HF : Hid (cAll es = 2) := hid (by rw [HA.out, if_pos (by omega)])
    go_enter Tryd.func14, Tryd.ntmps14
    go_wp2_with fail
    go_ret
    rw [HF.out]; exact ⟨rfl, Only.refl _ _⟩
  have HF : Hid (cAll es = cAllL es) := hid (by rw [HA.out, if_neg (by omega)])
  clear HA
  go_enter Tryd.func14, Tryd.ntmps14
  go_wp2_with fail
  go_loopw [3] (fun i wr => ∃ (j : Nat), i = .int .i64 j ∧ j ≤ es.length ∧ cAllL es = cAllL (es.drop j) ∧ Only (fun _ => False) w wr) (fun i _ => es.length - (intOf i).toNat)
  case atStart => exact ⟨0, rfl, Nat.zero_le _, rfl, Only.refl _ _⟩
  case round =>
    obtain ⟨j, rfl, hj, hfj, ho⟩ := hrel
    have HO := hid ho; have HFJ := hid hfj
    have hszo := ho.size
    clear ho hfj
    by_cases hjl : j < es.length
    · have hji : (j : Int) < es.length := by omega
      obtain ⟨e, he⟩ : ∃ t, es[j]? = some t := ⟨_, List.getElem?_eq_getElem hjl⟩
      have hdrop : es.drop j = e :: es.drop (j + 1) := drop_getC he
      obtain ⟨rfl, hGg⟩ := HN.out (by rintro rfl; simp at hjl)
      obtain ⟨cs, hcs, hEe⟩ := HEL.out j e he
      have hrg := Hg.out e (List.mem_of_getElem? he)
      have hcw : ∀ i u, cs[i]? = some u → wr.cell? ⟨g, o + j * 9 + i, none⟩ = some u := fun i u hu =>
        (World.cell?_of_block (HO.out.block g (World.block_lt_of_cell? _ _ (hcs i u hu)) (fun e => e))).trans (hcs i u hu)
      have hEw := hEe.same HO.out
      obtain ⟨vk, vn, vs, va, vm, vc, rfl, hV⟩ := hEw.form
      have e0 := hcw 0 _ rfl
      have HCW := hid (hcw 0 _ rfl)
      rw [Nat.add_zero] at e0
      have e1 := hcw 1 _ rfl
      have e2 := hcw 2 _ rfl
      have e3 := hcw 3 _ rfl
      have e4 := hcw 4 _ rfl
      have e5 := hcw 5 _ rfl
      have e6 := hcw 6 _ rfl
      have e7 := hcw 7 _ rfl
      have e8 := hcw 8 _ rfl
      have HCK := hid (r10check_c hEw hrg)
      have HCS : Hid (cAllL es = if e.cchk ≠ 0 then e.cchk else if cEnds e.k = true ∧ es.drop (j + 1) ≠ [] then 7 else cAllL (es.drop (j + 1))) := hid (by rw [HFJ.out, hdrop, cAllL])
      obtain ⟨ck, hck⟩ : ∃ y, e.cchk = y := ⟨_, rfl⟩
      rw [hck] at HCK HCS
      have HKK := hid hck
      clear hcs hEe hcw hck hrg he hdrop hV hEw
      by_cases hc0 : ck = 0
      · subst hc0
        have hgk := (cchk_good HKK.out).k
        have hge := cEnds_ge hgk
        have HGE := hid hge
        go_wp2_with fail
        refine HCK.out.mono ?_
        rintro x w5 ⟨rfl, ho5⟩
        have f0 : w5.cell? ⟨g, o + j * 9, none⟩ = some (.int .i64 e.k) := (World.cell?_of_block (ho5.block g (World.block_lt_of_cell? _ _ HCW.out) (fun e => e))).trans HCW.out
        have hls : 0 < (es.drop (j + 1)).length ↔ (j : Int) < es.length - 1 := by rw [List.length_drop]; omega
        have hnil : es.drop (j + 1) ≠ [] ↔ (j : Int) < es.length - 1 := by rw [← hls, List.length_pos_iff]
        have HNIL := hid hnil
        have HO5 := hid (HO.out.trans ho5 (fun _ _ e => e))
        clear ho5 hls hnil HCK hge e0 e1 e2 e3 e4 e5 e6 e7 e8
        by_cases h4 : 4 ≤ e.k
        · by_cases hjn : (j : Int) < es.length - 1
          · have HF2 : Hid (cAllL es = 7) := hid (by rw [HCS.out, if_neg (by simp), if_pos ⟨HGE.out.2 h4, HNIL.out.2 hjn⟩])
            go_wp2_with fail
            go_ret
            rw [HF.out, HF2.out]; exact ⟨rfl, HO5.out⟩
          · have HF2 : Hid (cAllL es = cAllL (es.drop (j + 1))) := hid (by rw [HCS.out, if_neg (by simp), if_neg (fun h => hjn (HNIL.out.1 h.2))])
            go_wp2_with fail
            go_roundw
            case rel => exact ⟨j + 1, by go_num, by omega, HF2.out, HO5.out⟩
            case measure => simp [intOf]; omega
        · have HF2 : Hid (cAllL es = cAllL (es.drop (j + 1))) := hid (by rw [HCS.out, if_neg (by simp), if_neg (fun h => h4 (HGE.out.1 h.1))])
          go_wp2_with fail
          go_roundw
          case rel => exact ⟨j + 1, by go_num, by omega, HF2.out, HO5.out⟩
          case measure => simp [intOf]; omega
      · have hcb : (ck != 0) = true := by simpa using hc0
        have HF2 : Hid (cAllL es = ck) := hid (by rw [HCS.out, if_pos hc0])
        clear hc0
        go_wp2_with fail
        refine HCK.out.mono ?_
        rintro x w5 ⟨rfl, ho5⟩
        have HO5 := hid (HO.out.trans ho5 (fun _ _ e => e))
        clear ho5 HCK
        go_wp2_with fail
        go_ret
        rw [HF.out, HF2.out]; exact ⟨rfl, HO5.out⟩
    · have HF2 : Hid (cAllL es = 0) := hid (by rw [HFJ.out, List.drop_eq_nil_of_le (by omega), cAllL])
      have hjl2 : ¬ (j : Int) < es.length := by omega
      go_wp2_with fail
      go_ret
      rw [HF.out, HF2.out]; exact ⟨rfl, HO.out⟩
end
end Go.Proofs.YtihidpfkdpjdpaaDoor
namespace Go.Proofs.YtihidpfkdpjdpaaDoor
open Go.RowKit
section
variable {w : World} {G : Nat → Prop}
set_option maxRecDepth 100000 in
set_option maxHeartbeats 6400000 in
theorem r10line_c {e : EM} {cs : List Value} (hE : CAt w G e cs) (hg : e.rg) (hn : e.name.length ≤ 1000) (hv : e.v.pr.length ≤ 1000000) : Calls Tryd.prog 20 #[.agg cs.toArray] w fun x w' => x = .returned (.string (strOf e.cpr)) ∧ Only (fun _ => False) w w' := by
  obtain ⟨vk, vn, vs, va, vm, vc, rfl, hV⟩ := hE.form
  obtain ⟨gid, gtm, gk, ga, gb, gn, gt, gv⟩ := hg
  have HV := hid hV; have Hgv := hid gv
  have hpr : e.cpr = [64] ++ (Lib.itoa e.tm ++ ([32] ++ (cName e.k ++ (cFlds e.k).flatMap e.ft))) := rfl
  rw [cflds_split] at hpr
  have hftl := cft_len e hn hv ga gb
  have hnl : (cName e.k).length ≤ 100 := cName_len e.k
  have htl := itoa_len e.tm gtm.1 gtm.2
  have hfA : e.ft 65 = 32 :: Lib.itoa e.a := by simp [EM.ft]
  have hfB : e.ft 66 = 32 :: Lib.itoa e.b := by simp [EM.ft]
  have hfN : e.ft 78 = 32 :: quo e.name := by simp [EM.ft]
  have hfV : e.ft 86 = 32 :: e.v.pr := by simp [EM.ft]
  rw [hfA, hfB, hfN, hfV] at hpr
  obtain ⟨lA, lB, lN, lV⟩ := hftl
  have HNM := fun wc => hid (r10name_c (w := wc) e.k)
  have HA := fun wc => hid (r10A_c (w := wc) e.k)
  have HB := fun wc => hid (r10B_c (w := wc) e.k)
  have HN := fun wc => hid (r10N_c (w := wc) e.k)
  have HVV := fun wc => hid (r10V_c (w := wc) e.k)
  have HNT := fun wc => hid (rfnumber_c (w := wc) e.tm gtm.1 gtm.2)
  have HNA := fun wc => hid (rfnumber_c (w := wc) e.a ga.1 ga.2)
  have HNB := fun wc => hid (rfnumber_c (w := wc) e.b gb.1 gb.2)
  have HTN := fun wc => hid (rquote_c (w := wc) e.name (by omega))
  obtain ⟨epr, hepr⟩ : ∃ x, e.cpr = x := ⟨_, rfl⟩
  rw [hepr] at hpr ⊢
  obtain ⟨id, tm, k, a, b', name, text, v⟩ := e
  simp only at hpr HA HB HN HVV HNM HNT HNA HNB HTN HV Hgv htl hnl lA lB lN lV hv ⊢
  obtain ⟨mA, hmA⟩ : ∃ m : Bool, fA k = m := ⟨_, rfl⟩
  obtain ⟨mB, hmB⟩ : ∃ m : Bool, fB k = m := ⟨_, rfl⟩
  obtain ⟨mN, hmN⟩ : ∃ m : Bool, fN k = m := ⟨_, rfl⟩
  obtain ⟨mV, hmV⟩ : ∃ m : Bool, fV k = m := ⟨_, rfl⟩
  rw [hmA, hmB, hmN, hmV] at hpr
  simp only [hmA] at HA
  simp only [hmB] at HB
  simp only [hmN] at HN
  simp only [hmV] at HVV
  obtain ⟨zt, hzt⟩ : ∃ x, Lib.itoa tm = x := ⟨_, rfl⟩
  obtain ⟨za, hza⟩ : ∃ x, Lib.itoa a = x := ⟨_, rfl⟩
  obtain ⟨zb, hzb⟩ : ∃ x, Lib.itoa b' = x := ⟨_, rfl⟩
  obtain ⟨zn, hzn⟩ : ∃ x, quo name = x := ⟨_, rfl⟩
  obtain ⟨zv, hzv⟩ : ∃ x, v.pr = x := ⟨_, rfl⟩
  obtain ⟨nm, hnm⟩ : ∃ x, cName k = x := ⟨_, rfl⟩
  rw [hzt] at hpr htl
  rw [hza] at hpr lA
  rw [hzb] at hpr lB
  rw [hzn] at hpr lN
  rw [hzv] at hpr lV hv
  rw [hnm] at hpr hnl
  simp only [hzt] at HNT
  simp only [hza] at HNA
  simp only [hzb] at HNB
  simp only [hzn] at HTN
  simp only [hnm] at HNM
  have HZV := hid hzv
  obtain ⟨p2, hp2⟩ : ∃ x, ([64] : List UInt8) ++ zt = x := ⟨_, rfl⟩
  obtain ⟨p3, hp3⟩ : ∃ x, p2 ++ [32] = x := ⟨_, rfl⟩
  obtain ⟨p4, hp4⟩ : ∃ x, p3 ++ nm = x := ⟨_, rfl⟩
  have l2 : p2.length ≤ 80 := by rw [← hp2, List.length_append]; simp only [List.length_cons, List.length_nil]; omega
  have l3 : p3.length ≤ 81 := by rw [← hp3, List.length_append]; simp only [List.length_cons, List.length_nil]; omega
  have l4 : p4.length ≤ 181 := by rw [← hp4, List.length_append]; omega
  have cc2 : (⟨#[64]⟩ : ByteArray) ++ strOf zt = strOf p2 := by rw [← hp2]; exact strOf_app [64] _
  have cc3 : strOf p2 ++ (⟨#[32]⟩ : ByteArray) = strOf p3 := by rw [← hp3]; exact strOf_app _ [32]
  have cc4 : strOf p3 ++ strOf nm = strOf p4 := by rw [← hp4]; exact strOf_app _ _
  have hs0 : ∀ l : List UInt8, (strOf l).size = l.length := fun l => rfl
  have z2 : ¬ 9223372036854775807 < 1 + (strOf zt).size := by rw [hs0]; omega
  have z3 : ¬ 9223372036854775807 < (strOf p2).size + 1 := by rw [hs0]; omega
  have z4 : ¬ 9223372036854775807 < (strOf p3).size + (strOf nm).size := by rw [hs0, hs0]; omega
  have HS0 := hid hs0
  simp only [List.length_cons] at lA lB lN lV
  have HWR : Hid (epr = p4 ++ ((((if mA = true then 32 :: za else []) ++ (if mB = true then 32 :: zb else [])) ++ (if mN = true then 32 :: zn else [])) ++ (if mV = true then 32 :: zv else []))) := hid (by rw [hpr, ← hp4, ← hp3, ← hp2]; simp)
  have HBX := hid (blk_new w (.cells #[.int .i64 k, .int .i64 tm, .int .i64 a, .int .i64 b', .string (strOf name), .int .i64 vk, .int .i64 vn, .string (strOf vs), .slice va vm vc] 29))
  have HO0 := hid (only_new w (.cells #[.int .i64 k, .int .i64 tm, .int .i64 a, .int .i64 b', .string (strOf name), .int .i64 vk, .int .i64 vn, .string (strOf vs), .slice va vm vc] 29))
  clear hE hV gv hpr hmA hmB hmN hmV hfA hfB hfN hfV hzt hza hzb hzn hzv hp2 hp3 hp4 hs0 hepr hnm gid gtm gk ga gb gn gt
  obtain ⟨wb, hwb⟩ : ∃ wb, w.alloc (.cells #[.int .i64 k, .int .i64 tm, .int .i64 a, .int .i64 b', .string (strOf name), .int .i64 vk, .int .i64 vn, .string (strOf vs), .slice va vm vc] 29) = wb := ⟨_, rfl⟩
  rw [hwb] at HBX HO0
  have c0 : wb.cell? ⟨w.heap.size, 0, none⟩ = some (.int .i64 k) := cell_blk HBX.out 0
  have c1 : wb.cell? ⟨w.heap.size, 1, none⟩ = some (.int .i64 tm) := cell_blk HBX.out 1
  have hlc := blk_lt HBX.out
  go_enter Tryd.func20, Tryd.ntmps20
  go_upto_region 2 with fail
  clear hwb
  go_wp2_with fail
  refine (HNT _).out.mono ?_
  rintro x w2 ⟨rfl, ho2⟩
  have HO2 := hid ho2
  clear ho2
  go_wp2_with fail
  refine (HNM _).out.mono ?_
  rintro x w3 ⟨rfl, ho3⟩
  have HOC0 := hid (HO2.out.trans ho3 (fun _ _ e => e))
  clear ho3
  obtain ⟨q0, hq0⟩ : ∃ x, p4 ++ (if mA = true then 32 :: za else []) = x := ⟨_, rfl⟩
  have lq0 : q0.length ≤ 1000191 := by rw [← hq0, List.length_append]; split <;> first | (simp only [List.length_cons]; omega) | (simp only [List.length_nil]; omega)
  go_wp2_with fail
  refine (HA _).out.mono ?_
  rintro x wy ⟨rfl, rfl⟩
  go_upto_if 16 with fail
  go_cut [4] from 16 to 22 (fun s wx => s = .string (strOf q0) ∧ Only (fun _ => False) wb wx)
  case first =>
    cases mA with
    | true =>
      have hq : p4 ++ 32 :: za = q0 := by rw [← hq0, if_pos rfl]
      have cc0 : (⟨#[32]⟩ : ByteArray) ++ strOf za = strOf (32 :: za) := strOf_app [32] _
      have cc : strOf p4 ++ strOf (32 :: za) = strOf q0 := by rw [← hq]; exact strOf_app _ _
      have zz0 : ¬ 9223372036854775807 < 1 + (strOf za).size := by rw [HS0.out]; omega
      have zz : ¬ 9223372036854775807 < (strOf p4).size + (strOf (32 :: za)).size := by rw [HS0.out, HS0.out]; simp only [List.length_cons]; omega
      have hb := blk_only HBX.out HOC0.out (fun e => e)
      have e2 : w3.cell? ⟨w.heap.size, 2, none⟩ = some (.int .i64 a) := cell_blk hb 2
      have hlc := blk_lt hb
      clear hq hb hq0
      go_wp2_with fail
      refine (HNA _).out.mono ?_
      rintro x w5 ⟨rfl, ho5⟩
      have HO5 := hid (HOC0.out.trans ho5 (fun _ _ e => e))
      clear ho5
      go_wp2_with fail
      go_meet
      case rel => exact ⟨rfl, HO5.out⟩
    | false =>
      have hq : q0 = p4 := by rw [← hq0]; simp
      subst hq
      clear hq0
      go_wp2_with fail
      go_meet
      case rel => exact ⟨rfl, HOC0.out⟩
  case rest =>
  obtain ⟨rfl, hoc⟩ := hcut
  have HOC1 := hid hoc
  have HQ0 := hid hq0
  clear hoc hq0
  obtain ⟨q1, hq1⟩ : ∃ x, q0 ++ (if mB = true then 32 :: zb else []) = x := ⟨_, rfl⟩
  have lq1 : q1.length ≤ 2000201 := by rw [← hq1, List.length_append]; split <;> first | (simp only [List.length_cons]; omega) | (simp only [List.length_nil]; omega)
  go_wp2_with fail
  refine (HB _).out.mono ?_
  rintro x wy ⟨rfl, rfl⟩
  go_upto_if 24 with fail
  go_cut [4] from 24 to 30 (fun s wx => s = .string (strOf q1) ∧ Only (fun _ => False) wb wx)
  case first =>
    cases mB with
    | true =>
      have hq : q0 ++ 32 :: zb = q1 := by rw [← hq1, if_pos rfl]
      have cc0 : (⟨#[32]⟩ : ByteArray) ++ strOf zb = strOf (32 :: zb) := strOf_app [32] _
      have cc : strOf q0 ++ strOf (32 :: zb) = strOf q1 := by rw [← hq]; exact strOf_app _ _
      have zz0 : ¬ 9223372036854775807 < 1 + (strOf zb).size := by rw [HS0.out]; omega
      have zz : ¬ 9223372036854775807 < (strOf q0).size + (strOf (32 :: zb)).size := by rw [HS0.out, HS0.out]; simp only [List.length_cons]; omega
      have hb := blk_only HBX.out HOC1.out (fun e => e)
      have e3 : wc.cell? ⟨w.heap.size, 3, none⟩ = some (.int .i64 b') := cell_blk hb 3
      have hlc := blk_lt hb
      clear hq hb hq1
      go_wp2_with fail
      refine (HNB _).out.mono ?_
      rintro x w5 ⟨rfl, ho5⟩
      have HO5 := hid (HOC1.out.trans ho5 (fun _ _ e => e))
      clear ho5
      go_wp2_with fail
      go_meet
      case rel => exact ⟨rfl, HO5.out⟩
    | false =>
      have hq : q1 = q0 := by rw [← hq1]; simp
      subst hq
      clear hq1
      go_wp2_with fail
      go_meet
      case rel => exact ⟨rfl, HOC1.out⟩
  case rest =>
  obtain ⟨rfl, hoc⟩ := hcut
  have HOC2 := hid hoc
  have HQ1 := hid hq1
  clear hoc hq1
  obtain ⟨q2, hq2⟩ : ∃ x, q1 ++ (if mN = true then 32 :: zn else []) = x := ⟨_, rfl⟩
  have lq2 : q2.length ≤ 3000211 := by rw [← hq2, List.length_append]; split <;> first | (simp only [List.length_cons]; omega) | (simp only [List.length_nil]; omega)
  go_wp2_with fail
  refine (HN _).out.mono ?_
  rintro x wy ⟨rfl, rfl⟩
  go_upto_if 32 with fail
  go_cut [4] from 32 to 38 (fun s wx => s = .string (strOf q2) ∧ Only (fun _ => False) wb wx)
  case first =>
    cases mN with
    | true =>
      have hq : q1 ++ 32 :: zn = q2 := by rw [← hq2, if_pos rfl]
      have cc0 : (⟨#[32]⟩ : ByteArray) ++ strOf zn = strOf (32 :: zn) := strOf_app [32] _
      have cc : strOf q1 ++ strOf (32 :: zn) = strOf q2 := by rw [← hq]; exact strOf_app _ _
      have zz0 : ¬ 9223372036854775807 < 1 + (strOf zn).size := by rw [HS0.out]; omega
      have zz : ¬ 9223372036854775807 < (strOf q1).size + (strOf (32 :: zn)).size := by rw [HS0.out, HS0.out]; simp only [List.length_cons]; omega
      have hb := blk_only HBX.out HOC2.out (fun e => e)
      have e4 : wc.cell? ⟨w.heap.size, 4, none⟩ = some (.string (strOf name)) := cell_blk hb 4
      have hlc := blk_lt hb
      clear hq hb hq2
      go_wp2_with fail
      refine (HTN _).out.mono ?_
      rintro x w5 ⟨rfl, ho5⟩
      have HO5 := hid (HOC2.out.trans ho5 (fun _ _ e => e))
      clear ho5
      go_wp2_with fail
      go_meet
      case rel => exact ⟨rfl, HO5.out⟩
    | false =>
      have hq : q2 = q1 := by rw [← hq2]; simp
      subst hq
      clear hq2
      go_wp2_with fail
      go_meet
      case rel => exact ⟨rfl, HOC2.out⟩
  case rest =>
  obtain ⟨rfl, hoc⟩ := hcut
  have HOC3 := hid hoc
  have HQ2 := hid hq2
  clear hoc hq2
  obtain ⟨q3, hq3⟩ : ∃ x, q2 ++ (if mV = true then 32 :: zv else []) = x := ⟨_, rfl⟩
  have lq3 : q3.length ≤ 4000221 := by rw [← hq3, List.length_append]; split <;> first | (simp only [List.length_cons]; omega) | (simp only [List.length_nil]; omega)
  go_wp2_with fail
  refine (HVV _).out.mono ?_
  rintro x wy ⟨rfl, rfl⟩
  go_upto_if 40 with fail
  go_cut [4] from 40 to 46 (fun s wx => s = .string (strOf q3) ∧ Only (fun _ => False) wb wx)
  case first =>
    cases mV with
    | true =>
      have hq : q2 ++ 32 :: zv = q3 := by rw [← hq3, if_pos rfl]
      have cc0 : (⟨#[32]⟩ : ByteArray) ++ strOf zv = strOf (32 :: zv) := strOf_app [32] _
      have cc : strOf q2 ++ strOf (32 :: zv) = strOf q3 := by rw [← hq]; exact strOf_app _ _
      have zz0 : ¬ 9223372036854775807 < 1 + (strOf zv).size := by rw [HS0.out]; omega
      have zz : ¬ 9223372036854775807 < (strOf q2).size + (strOf (32 :: zv)).size := by rw [HS0.out, HS0.out]; simp only [List.length_cons]; omega
      have hb := blk_only HBX.out HOC3.out (fun e => e)
      have e5 : wc.cell? ⟨w.heap.size, 5, none⟩ = some (.int .i64 vk) := cell_blk hb 5
      have e6 : wc.cell? ⟨w.heap.size, 6, none⟩ = some (.int .i64 vn) := cell_blk hb 6
      have e7 : wc.cell? ⟨w.heap.size, 7, none⟩ = some (.string (strOf vs)) := cell_blk hb 7
      have e8 : wc.cell? ⟨w.heap.size, 8, none⟩ = some (.slice va vm vc) := cell_blk hb 8
      have HVB := hid (rprint_c (w := wc) (HV.out.same (HO0.out.trans HOC3.out (fun _ _ e => e))) Hgv.out (by rw [HZV.out]; omega))
      rw [HZV.out] at HVB
      have hlc := blk_lt hb
      clear hq hb hq3
      go_wp2_with fail
      refine HVB.out.mono ?_
      rintro x w5 ⟨rfl, ho5⟩
      have HO5 := hid (HOC3.out.trans ho5 (fun _ _ e => e))
      clear ho5
      go_wp2_with fail
      go_meet
      case rel => exact ⟨rfl, HO5.out⟩
    | false =>
      have hq : q3 = q2 := by rw [← hq3]; simp
      subst hq
      clear hq3
      go_wp2_with fail
      go_meet
      case rel => exact ⟨rfl, HOC3.out⟩
  case rest =>
  obtain ⟨rfl, hoc⟩ := hcut
  have HOC4 := hid hoc
  have HQ3 := hid hq3
  clear hoc hq3
  have HFIN : Hid (epr = q3) := hid (by rw [HWR.out, ← HQ3.out, ← HQ2.out, ← HQ1.out, ← HQ0.out]; simp)
  go_wp2_with fail
  go_ret
  rw [HFIN.out]; exact ⟨rfl, HO0.out.trans HOC4.out (fun _ _ e => e)⟩
end
end Go.Proofs.YtihidpfkdpjdpaaDoor
namespace Go.Proofs.YtihidpfkdpjdpaaDoor
open Go.RowKit
section
variable {w : World} {G : Nat → Prop}
set_option maxRecDepth 100000 in
set_option maxHeartbeats 6400000 in
theorem r10one_c {e : EM} {cs : List Value} (hE : CAt w G e cs) (hg : e.rg) (hgd : e.CGood) : Calls Tryd.prog 47 #[.agg cs.toArray] w fun x w' => x = .returned (.string (strOf e.cwr)) ∧ Only (fun _ => False) w w' := by
  obtain ⟨vk, vn, vs, va, vm, vc, rfl, hV⟩ := hE.form
  obtain ⟨gid, gtm, gk, ga, gb, gn, gt, gv⟩ := hg
  have HV := hid hV; have Hgv := hid gv
  have htm := hgd.tm
  have ha0 := hgd.a0
  have hb0 := hgd.b0
  have hnl := hgd.nL
  have hk := hgd.k
  obtain ⟨q9, hwk9, hvl⟩ := chk_walk hgd.v
  have hwr : e.cwr = UInt8.ofNat (e.k % 256).toNat :: (numB e.tm.toNat ++ (cFlds e.k).flatMap e.fb) := rfl
  rw [cflds_split] at hwr
  have HA := fun wc => hid (r10A_c (w := wc) e.k)
  have HB := fun wc => hid (r10B_c (w := wc) e.k)
  have HN := fun wc => hid (r10N_c (w := wc) e.k)
  have HVV := fun wc => hid (r10V_c (w := wc) e.k)
  obtain ⟨y, hy⟩ : ∃ y, (e.k % 256).toNat = y := ⟨_, rfl⟩
  have hwk : IntKind.u8.wrap e.k = (y : Int) := by rw [IntKind.wrap_u8]; omega
  have hyl : y < 256 := by omega
  rw [hy] at hwr
  obtain ⟨id, tm, k, a, b', name, text, v⟩ := e
  simp only at hwr HA HB HN HVV gtm gk ga gb gn HV Hgv htm ha0 hb0 hnl hvl hwk hk ⊢
  obtain ⟨mA, hmA⟩ : ∃ m : Bool, fA k = m := ⟨_, rfl⟩
  obtain ⟨mB, hmB⟩ : ∃ m : Bool, fB k = m := ⟨_, rfl⟩
  obtain ⟨mN, hmN⟩ : ∃ m : Bool, fN k = m := ⟨_, rfl⟩
  obtain ⟨mV, hmV⟩ : ∃ m : Bool, fV k = m := ⟨_, rfl⟩
  rw [hmA, hmB, hmN, hmV] at hwr
  simp only [hmA] at HA
  simp only [hmB] at HB
  simp only [hmN] at HN
  simp only [hmV] at HVV
  obtain ⟨tmn, rfl⟩ := Int.eq_ofNat_of_zero_le htm.1
  obtain ⟨an, rfl⟩ := Int.eq_ofNat_of_zero_le ha0
  obtain ⟨bn, rfl⟩ := Int.eq_ofNat_of_zero_le hb0
  simp only [Int.toNat_natCast] at hwr
  have hfA : (⟨id, tmn, k, an, bn, name, text, v⟩ : EM).fb 65 = numB an := by simp [EM.fb]
  have hfB : (⟨id, tmn, k, an, bn, name, text, v⟩ : EM).fb 66 = numB bn := by simp [EM.fb]
  have hfN : (⟨id, tmn, k, an, bn, name, text, v⟩ : EM).fb 78 = textB name := by simp [EM.fb]
  have hfV : (⟨id, tmn, k, an, bn, name, text, v⟩ : EM).fb 86 = v.wr := by simp [EM.fb]
  rw [hfA, hfB, hfN, hfV] at hwr
  have HNT := fun wc => hid (rfnum_c (w := wc) tmn (by omega))
  have HNA := fun wc => hid (rfnum_c (w := wc) an (by omega))
  have HNB := fun wc => hid (rfnum_c (w := wc) bn (by omega))
  have HTN := fun wc => hid (rftext_c (w := wc) name (by omega))
  have lt := numB_len tmn
  have la := numB_len an
  have lb := numB_len bn
  have ln : (textB name).length ≤ 100 := by unfold textB; rw [List.length_append]; have := numB_len name.length; omega
  obtain ⟨zt, hzt⟩ : ∃ x, numB tmn = x := ⟨_, rfl⟩
  obtain ⟨za, hza⟩ : ∃ x, numB an = x := ⟨_, rfl⟩
  obtain ⟨zb, hzb⟩ : ∃ x, numB bn = x := ⟨_, rfl⟩
  obtain ⟨zn, hzn⟩ : ∃ x, textB name = x := ⟨_, rfl⟩
  obtain ⟨zv, hzv⟩ : ∃ x, v.wr = x := ⟨_, rfl⟩
  rw [hzt] at lt hwr
  rw [hza] at la hwr
  rw [hzb] at lb hwr
  rw [hzn] at ln hwr
  rw [hzv] at hvl hwr
  simp only [hzt] at HNT
  simp only [hza] at HNA
  simp only [hzb] at HNB
  simp only [hzn] at HTN
  have HZV := hid hzv
  obtain ⟨p2, hp2⟩ : ∃ x, [UInt8.ofNat y] ++ zt = x := ⟨_, rfl⟩
  have l2 : p2.length ≤ 11 := by rw [← hp2, List.length_append]; simp only [List.length_cons, List.length_nil]; omega
  have cc1 : strOf [UInt8.ofNat y] ++ strOf zt = strOf p2 := by rw [← hp2]; exact strOf_app' _ _
  have hs0 : ∀ l : List UInt8, (strOf l).size = l.length := fun l => rfl
  have z1 : ¬ 9223372036854775807 < (strOf [UInt8.ofNat y]).size + (strOf zt).size := by rw [hs0, hs0]; simp; omega
  have HS0 := hid hs0
  have HWR : Hid ((⟨id, tmn, k, an, bn, name, text, v⟩ : EM).cwr = p2 ++ ((((if mA = true then za else []) ++ (if mB = true then zb else [])) ++ (if mN = true then zn else [])) ++ (if mV = true then zv else []))) := hid (by rw [hwr, ← hp2]; simp)
  have HBX := hid (blk_new w (.cells #[.int .i64 k, .int .i64 tmn, .int .i64 an, .int .i64 bn, .string (strOf name), .int .i64 vk, .int .i64 vn, .string (strOf vs), .slice va vm vc] 29))
  have HO0 := hid (only_new w (.cells #[.int .i64 k, .int .i64 tmn, .int .i64 an, .int .i64 bn, .string (strOf name), .int .i64 vk, .int .i64 vn, .string (strOf vs), .slice va vm vc] 29))
  clear hE hV gv hgd hwr hy hmA hmB hmN hmV hfA hfB hfN hfV hzt hza hzb hzn hzv hp2 hs0 gk gid gt hwk9
  obtain ⟨wb, hwb⟩ : ∃ wb, w.alloc (.cells #[.int .i64 k, .int .i64 tmn, .int .i64 an, .int .i64 bn, .string (strOf name), .int .i64 vk, .int .i64 vn, .string (strOf vs), .slice va vm vc] 29) = wb := ⟨_, rfl⟩
  rw [hwb] at HBX HO0
  have c0 : wb.cell? ⟨w.heap.size, 0, none⟩ = some (.int .i64 k) := cell_blk HBX.out 0
  have c1 : wb.cell? ⟨w.heap.size, 1, none⟩ = some (.int .i64 tmn) := cell_blk HBX.out 1
  have hlb := blk_lt HBX.out
  have hcvA : (convert 34 9 (.slice (some ⟨wb.heap.size, 0, none⟩) 1 1)).run Tryd.prog (wb.alloc (.cells #[.int .u8 y] 5)).drew = .ok (.string (strOf [UInt8.ofNat y])) (wb.alloc (.cells #[.int .u8 y] 5)).drew := conv_str (src1 (g := wb.heap.size) (w := (wb.alloc (.cells #[.int .u8 y] 5)).drew) (blk_new wb (.cells #[.int .u8 y] 5)) hyl)
  go_enter Tryd.func47, Tryd.ntmps47
  go_upto_region 2 with fail
  clear hwb
  have et : IntKind.u64.wrap ((tmn : Nat) : Int) = (tmn : Int) := IntWalk.u64_in _ (by omega)
  go_cut [4] from 7 to 15 (fun s wx => s = .string (strOf p2) ∧ Only (fun _ => False) wb wx)
  case first =>
   go_region_law (first
    | (refine step_of rfl (wp_callc (o := ⟨some 14, _, _, _, _, _⟩) (f := 46) (args := #[.int .u64 tmn]) (by kernel_rfl) ?_); refine (HNT _).out.mono ?_; rintro e w2 ⟨rfl, ho2⟩; refine ⟨_, rfl, ?_⟩; have HO2 := hid ho2; (first | have ho2' : Only (fun _ => False) wb w2 := ((Only.refl _ wb).drew).trans HO2.out (fun _ _ e => e) | have ho2' : Only (fun _ => False) wb w2 := (((only_new wb (.cells #[.int .u8 y] 5)).drew).trans HO2.out (fun _ _ e => e))); have HO2' := hid ho2'; clear ho2 ho2'; have hcvC : (convert 34 9 (.slice (some ⟨w2.heap.size, 0, none⟩) 1 1)).run Tryd.prog (w2.alloc (.cells #[.int .u8 y] 5)) = .ok (.string (strOf [UInt8.ofNat y])) (w2.alloc (.cells #[.int .u8 y] 5)) := conv_str (src1 (g := w2.heap.size) (blk_new w2 (.cells #[.int .u8 y] 5)) hyl); (try have hcvB : (convert 34 9 (.slice (some ⟨wb.heap.size, 0, none⟩) 1 1)).run Tryd.prog w2 = .ok (.string (strOf [UInt8.ofNat y])) w2 := conv_str (src1 (g := wb.heap.size) (w := w2) (blk_only (w := (wb.alloc (.cells #[.int .u8 y] 5)).drew) (blk_new wb (.cells #[.int .u8 y] 5)) HO2.out (fun e => e)) hyl))))
   all_goals
    go_wp2_with fail
    go_meet
    case rel => exact ⟨rfl, by first | exact HO2'.out | exact HO2'.out.trans (only_new w2 _) (fun _ _ e => e)⟩
  case rest =>
  obtain ⟨rfl, hoc⟩ := hcut
  have HOC0 := hid hoc
  clear hoc cc1 z1 c0 c1 et hcvA
  go_wp2_with fail
  refine (HA _).out.mono ?_
  rintro x wy ⟨rfl, rfl⟩
  obtain ⟨q0, hq0⟩ : ∃ x, p2 ++ (if mA = true then za else []) = x := ⟨_, rfl⟩
  have lq0 : q0.length ≤ 21 := by rw [← hq0, List.length_append]; split <;> first | omega | (simp only [List.length_nil]; omega)
  go_upto_if 17 with fail
  go_cut [4] from 17 to 23 (fun s wx => s = .string (strOf q0) ∧ Only (fun _ => False) wb wx)
  case first =>
    cases mA with
    | true =>
      have hq : p2 ++ za = q0 := by rw [← hq0, if_pos rfl]
      have cc : strOf p2 ++ strOf za = strOf q0 := by rw [← hq]; exact strOf_app' _ _
      have zz : ¬ 9223372036854775807 < (strOf p2).size + (strOf za).size := by rw [HS0.out, HS0.out]; omega
      have hb := blk_only HBX.out HOC0.out (fun e => e)
      have e2 : wc.cell? ⟨w.heap.size, 2, none⟩ = some (.int .i64 an) := cell_blk hb 2
      have hlc := blk_lt hb
      clear hq hb hq0
      go_wp2_with fail
      refine (HNA _).out.mono ?_
      rintro x w5 ⟨rfl, ho5⟩
      have HO5 := hid (HOC0.out.trans ho5 (fun _ _ e => e))
      clear ho5
      go_wp2_with fail
      go_meet
      case rel => exact ⟨rfl, HO5.out⟩
    | false =>
      have hq : q0 = p2 := by rw [← hq0]; simp
      subst hq
      clear hq0
      go_wp2_with fail
      go_meet
      case rel => exact ⟨rfl, HOC0.out⟩
  case rest =>
  obtain ⟨rfl, hoc⟩ := hcut
  have HOC1 := hid hoc
  have HQ0 := hid hq0
  clear hoc hq0
  go_wp2_with fail
  refine (HB _).out.mono ?_
  rintro x wy ⟨rfl, rfl⟩
  obtain ⟨q1, hq1⟩ : ∃ x, q0 ++ (if mB = true then zb else []) = x := ⟨_, rfl⟩
  have lq1 : q1.length ≤ 31 := by rw [← hq1, List.length_append]; split <;> first | omega | (simp only [List.length_nil]; omega)
  go_upto_if 25 with fail
  go_cut [4] from 25 to 31 (fun s wx => s = .string (strOf q1) ∧ Only (fun _ => False) wb wx)
  case first =>
    cases mB with
    | true =>
      have hq : q0 ++ zb = q1 := by rw [← hq1, if_pos rfl]
      have cc : strOf q0 ++ strOf zb = strOf q1 := by rw [← hq]; exact strOf_app' _ _
      have zz : ¬ 9223372036854775807 < (strOf q0).size + (strOf zb).size := by rw [HS0.out, HS0.out]; omega
      have hb := blk_only HBX.out HOC1.out (fun e => e)
      have e3 : wc.cell? ⟨w.heap.size, 3, none⟩ = some (.int .i64 bn) := cell_blk hb 3
      have hlc := blk_lt hb
      clear hq hb hq1
      go_wp2_with fail
      refine (HNB _).out.mono ?_
      rintro x w5 ⟨rfl, ho5⟩
      have HO5 := hid (HOC1.out.trans ho5 (fun _ _ e => e))
      clear ho5
      go_wp2_with fail
      go_meet
      case rel => exact ⟨rfl, HO5.out⟩
    | false =>
      have hq : q1 = q0 := by rw [← hq1]; simp
      subst hq
      clear hq1
      go_wp2_with fail
      go_meet
      case rel => exact ⟨rfl, HOC1.out⟩
  case rest =>
  obtain ⟨rfl, hoc⟩ := hcut
  have HOC2 := hid hoc
  have HQ1 := hid hq1
  clear hoc hq1
  go_wp2_with fail
  refine (HN _).out.mono ?_
  rintro x wy ⟨rfl, rfl⟩
  obtain ⟨q2, hq2⟩ : ∃ x, q1 ++ (if mN = true then zn else []) = x := ⟨_, rfl⟩
  have lq2 : q2.length ≤ 131 := by rw [← hq2, List.length_append]; split <;> first | omega | (simp only [List.length_nil]; omega)
  go_upto_if 33 with fail
  go_cut [4] from 33 to 38 (fun s wx => s = .string (strOf q2) ∧ Only (fun _ => False) wb wx)
  case first =>
    cases mN with
    | true =>
      have hq : q1 ++ zn = q2 := by rw [← hq2, if_pos rfl]
      have cc : strOf q1 ++ strOf zn = strOf q2 := by rw [← hq]; exact strOf_app' _ _
      have zz : ¬ 9223372036854775807 < (strOf q1).size + (strOf zn).size := by rw [HS0.out, HS0.out]; omega
      have hb := blk_only HBX.out HOC2.out (fun e => e)
      have e4 : wc.cell? ⟨w.heap.size, 4, none⟩ = some (.string (strOf name)) := cell_blk hb 4
      have hlc := blk_lt hb
      clear hq hb hq2
      go_wp2_with fail
      refine (HTN _).out.mono ?_
      rintro x w5 ⟨rfl, ho5⟩
      have HO5 := hid (HOC2.out.trans ho5 (fun _ _ e => e))
      clear ho5
      go_wp2_with fail
      go_meet
      case rel => exact ⟨rfl, HO5.out⟩
    | false =>
      have hq : q2 = q1 := by rw [← hq2]; simp
      subst hq
      clear hq2
      go_wp2_with fail
      go_meet
      case rel => exact ⟨rfl, HOC2.out⟩
  case rest =>
  obtain ⟨rfl, hoc⟩ := hcut
  have HOC3 := hid hoc
  have HQ2 := hid hq2
  clear hoc hq2
  go_wp2_with fail
  refine (HVV _).out.mono ?_
  rintro x wy ⟨rfl, rfl⟩
  obtain ⟨q3, hq3⟩ : ∃ x, q2 ++ (if mV = true then zv else []) = x := ⟨_, rfl⟩
  have lq3 : q3.length ≤ 643 := by rw [← hq3, List.length_append]; split <;> first | omega | (simp only [List.length_nil]; omega)
  go_upto_if 40 with fail
  go_cut [4] from 40 to 45 (fun s wx => s = .string (strOf q3) ∧ Only (fun _ => False) wb wx)
  case first =>
    cases mV with
    | true =>
      have hq : q2 ++ zv = q3 := by rw [← hq3, if_pos rfl]
      have cc : strOf q2 ++ strOf zv = strOf q3 := by rw [← hq]; exact strOf_app' _ _
      have zz : ¬ 9223372036854775807 < (strOf q2).size + (strOf zv).size := by rw [HS0.out, HS0.out]; omega
      have hb := blk_only HBX.out HOC3.out (fun e => e)
      have e5 : wc.cell? ⟨w.heap.size, 5, none⟩ = some (.int .i64 vk) := cell_blk hb 5
      have e6 : wc.cell? ⟨w.heap.size, 6, none⟩ = some (.int .i64 vn) := cell_blk hb 6
      have e7 : wc.cell? ⟨w.heap.size, 7, none⟩ = some (.string (strOf vs)) := cell_blk hb 7
      have e8 : wc.cell? ⟨w.heap.size, 8, none⟩ = some (.slice va vm vc) := cell_blk hb 8
      have HVB := hid (rfbytes_c (w := wc) (HV.out.same (HO0.out.trans HOC3.out (fun _ _ e => e))) Hgv.out (by rw [HZV.out]; omega))
      rw [HZV.out] at HVB
      have hlc := blk_lt hb
      clear hq hb hq3
      go_wp2_with fail
      refine HVB.out.mono ?_
      rintro x w5 ⟨rfl, ho5⟩
      have HO5 := hid (HOC3.out.trans ho5 (fun _ _ e => e))
      clear ho5
      go_wp2_with fail
      go_meet
      case rel => exact ⟨rfl, HO5.out⟩
    | false =>
      have hq : q3 = q2 := by rw [← hq3]; simp
      subst hq
      clear hq3
      go_wp2_with fail
      go_meet
      case rel => exact ⟨rfl, HOC3.out⟩
  case rest =>
  obtain ⟨rfl, hoc⟩ := hcut
  have HOC4 := hid hoc
  have HQ3 := hid hq3
  clear hoc hq3
  have HFIN : Hid ((⟨id, tmn, k, an, bn, name, text, v⟩ : EM).cwr = q3) := hid (by rw [HWR.out, ← HQ3.out, ← HQ2.out, ← HQ1.out, ← HQ0.out]; simp)
  go_wp2_with fail
  go_ret
  rw [HFIN.out]; exact ⟨rfl, HO0.out.trans HOC4.out (fun _ _ e => e)⟩
set_option maxRecDepth 100000 in
set_option maxHeartbeats 3200000 in
theorem r10bytes_c {es : List EM} {v : Value} (hE : CmsV w G v es) (hg : ∀ e ∈ es, e.rg ∧ e.isC) (ha : cAll es = 0) :
    Calls Tryd.prog 18 #[v] w fun x w' => x = .returned (.string (strOf (cwrL es))) ∧ Only (fun _ => False) w w' := by
  obtain ⟨ad, cap, g, o, rfl, hne, hel⟩ := hE
  have HN := hid hne; have HEL := hid hel; have Hg := hid hg
  obtain ⟨hl6, hgd⟩ := cgood_of ha
  have HGD := hid hgd
  have hfl := cfl_len (l := es) (fun e he => ⟨hgd e he, (hg e he).2⟩)
  have HNM := hid (rfnum_c (w := w) es.length (by omega))
  clear hne hel hg hgd ha
  go_enter Tryd.func18, Tryd.ntmps18
  go_wp2_with fail
  refine HNM.out.mono ?_
  rintro x w1 ⟨rfl, ho1⟩
  have HO1 := hid ho1
  clear ho1 HNM
  go_wp2_with fail
  go_loopw [4, 3] (fun i s wr => ∃ (j : Nat), i = .int .i64 j ∧ j ≤ es.length ∧ s = .string (strOf (numB es.length ++ (es.take j).flatMap EM.cwr)) ∧ Only (fun _ => False) w wr) (fun i _ _ => es.length - (intOf i).toNat)
  case atStart => exact ⟨0, rfl, Nat.zero_le _, by simp, HO1.out⟩
  case round =>
    obtain ⟨j, rfl, hj, rfl, ho⟩ := hrel
    have HO := hid ho
    clear ho
    by_cases hjl : j < es.length
    · have hji : (j : Int) < es.length := by omega
      obtain ⟨e, he⟩ : ∃ t, es[j]? = some t := ⟨_, List.getElem?_eq_getElem hjl⟩
      obtain ⟨rfl, hGg⟩ := HN.out (by rintro rfl; simp at hjl)
      obtain ⟨cs, hcs, hEe⟩ := HEL.out j e he
      have hrg := Hg.out e (List.mem_of_getElem? he)
      have hcw : ∀ i u, cs[i]? = some u → wr.cell? ⟨g, o + j * 9 + i, none⟩ = some u := fun i u hu =>
        (World.cell?_of_block (HO.out.block g (World.block_lt_of_cell? _ _ (hcs i u hu)) (fun e => e))).trans (hcs i u hu)
      have hEw := hEe.same HO.out
      obtain ⟨vk, vn, vs, va, vm, vc, rfl, hV⟩ := hEw.form
      have e0 := hcw 0 _ rfl
      rw [Nat.add_zero] at e0
      have e1 := hcw 1 _ rfl
      have e2 := hcw 2 _ rfl
      have e3 := hcw 3 _ rfl
      have e4 := hcw 4 _ rfl
      have e5 := hcw 5 _ rfl
      have e6 := hcw 6 _ rfl
      have e7 := hcw 7 _ rfl
      have e8 := hcw 8 _ rfl
      have hgde := HGD.out e (List.mem_of_getElem? he)
      have HCK := hid (r10one_c hEw hrg.1 hgde)
      have hwl := ccwr_len hgde hrg.2
      have hcl := flat_take1 (f := EM.cwr) he
      have hln := flat_le (f := EM.cwr) es j
      have hnb := numB_len es.length
      obtain ⟨q, hq⟩ : ∃ q, numB es.length ++ (es.take j).flatMap EM.cwr = q := ⟨_, rfl⟩
      obtain ⟨z, hz⟩ : ∃ q, e.cwr = q := ⟨_, rfl⟩
      have hnx : numB es.length ++ (es.take (j + 1)).flatMap EM.cwr = q ++ z := by rw [hcl, ← List.append_assoc, hq, hz]
      have hql : q.length ≤ 900000000 := by rw [← hq, List.length_append]; omega
      have cc : strOf q ++ strOf z = strOf (q ++ z) := strOf_app' _ _
      have hs0 : ∀ l : List UInt8, (strOf l).size = l.length := fun l => rfl
      rw [hz] at hwl HCK
      have zz : ¬ 9223372036854775807 < (strOf q).size + (strOf z).size := by rw [hs0, hs0]; omega
      have HNX := hid hnx
      rw [hq]
      clear hcs hEe hcw hrg he hV hEw hcl hq hz hnx hs0 hgde
      go_wp2_with fail
      refine HCK.out.mono ?_
      rintro x w5 ⟨rfl, ho5⟩
      have HO5 := hid (HO.out.trans ho5 (fun _ _ e => e))
      clear ho5 HCK
      go_wp2_with fail
      go_roundw
      case rel => exact ⟨j + 1, by go_num, by omega, by rw [HNX.out], HO5.out⟩
      case measure => simp [intOf]; omega
    · have hje : j = es.length := by omega
      subst hje
      have hq : numB es.length ++ (es.take es.length).flatMap EM.cwr = cwrL es := by rw [List.take_length]; rfl
      rw [hq]
      have hjl2 : ¬ (es.length : Int) < es.length := by omega
      clear hq
      go_wp2_with fail
      go_ret
      exact ⟨rfl, HO.out⟩
end
end Go.Proofs.YtihidpfkdpjdpaaDoor
