/- foliotref09.Check. -/
import Derived.Test.YtnoopajedgllhaaRefN
import Derived.Test.YtnoopajedgllhaaRf09A
import Derived.Test.YtnoopajedgllhaaRf03
import Derived.Deep.Cut
import Derived.Deep.CutRange
import Derived.Deep.CutBlock
namespace Go.Proofs.Ytnoopajedgllhaa
open Go.RowKit
theorem chk_re (P A B C R N V : Prop) [Decidable P] [Decidable A] [Decidable B] [Decidable C] [Decidable R] [Decidable N] [Decidable V] (x : Int) :
    (if P then 1 else if A ∨ B ∨ C then 1 else if R then 2 else if N then 8 else if V then 8 else x) = if P ∨ A ∨ B then 1 else if C then 1 else if R then 2 else if N ∨ V then 8 else x := by
  by_cases P <;> by_cases A <;> by_cases B <;> by_cases C <;> by_cases N <;> by_cases V <;> simp [*]
section
variable {w : World} {G : Nat → Prop} {e : EM} {cs : List Value}
set_option maxRecDepth 100000 in
set_option maxHeartbeats 3200000 in
theorem r9check_c (hE : EAt w G e cs) (hg : e.rg) : Calls Try.prog 20 #[.agg cs.toArray] w fun x w' => x = .returned (.int .i64 e.chk) ∧ Only (fun _ => False) w w' := by
  obtain ⟨vk, vn, vs, va, vm, vc, rfl, hV⟩ := hE.form
  have hvk := hV.k
  obtain ⟨gid, gtm, gk, ga, gb, gn, gt, gv⟩ := hg
  have HV := hid hV; have Hgv := hid gv
  have hre := chk_re (e.id < 1 ∨ 1048576 < e.id ∨ e.tm < 0 ∨ 4611686018427387903 < e.tm) (e.a < 0) (e.b < 0) ((65 ∉ evFlds e.k ∧ e.a ≠ 0) ∨ (66 ∉ evFlds e.k ∧ e.b ≠ 0)) (64 < e.name.length ∨ 128 < e.text.length) ((78 ∉ evFlds e.k ∧ e.name ≠ []) ∨ (84 ∉ evFlds e.k ∧ e.text ≠ [])) (86 ∉ evFlds e.k ∧ e.v.k ≠ 0) e.v.chk
  have HCK : Hid (e.chk = if evName e.k = [] then 9 else if (e.id < 1 ∨ 1048576 < e.id ∨ e.tm < 0 ∨ 4611686018427387903 < e.tm) ∨ e.a < 0 ∨ e.b < 0 then 1 else if (65 ∉ evFlds e.k ∧ e.a ≠ 0) ∨ (66 ∉ evFlds e.k ∧ e.b ≠ 0) then 1 else if 64 < e.name.length ∨ 128 < e.text.length then 2
    else if ((78 ∉ evFlds e.k ∧ e.name ≠ []) ∨ (84 ∉ evFlds e.k ∧ e.text ≠ [])) ∨ (86 ∉ evFlds e.k ∧ vk ≠ 0) then 8 else e.v.chk) := hid (by rw [← hvk, ← hre]; rfl)
  have HEN := fun w1 => hid (refname_c (w := w1) e.k)
  have HA := fun wc => hid (rA_c (w := wc) e.k)
  have HB := fun wc => hid (rB_c (w := wc) e.k)
  have HN := fun wc => hid (rN_c (w := wc) e.k)
  have HT := fun wc => hid (rT_c (w := wc) e.k)
  have HVV := fun wc => hid (rV_c (w := wc) e.k)
  obtain ⟨nm, hnm⟩ : ∃ x, evName e.k = x := ⟨_, rfl⟩
  obtain ⟨fl, hfl⟩ : ∃ x, evFlds e.k = x := ⟨_, rfl⟩
  rw [hnm, hfl] at HCK
  simp only [hnm] at HEN
  simp only [hfl] at HA HB HN HT HVV
  obtain ⟨mA, hmA⟩ : ∃ m : Bool, decide (65 ∈ fl) = m := ⟨_, rfl⟩
  obtain ⟨mB, hmB⟩ : ∃ m : Bool, decide (66 ∈ fl) = m := ⟨_, rfl⟩
  obtain ⟨mN, hmN⟩ : ∃ m : Bool, decide (78 ∈ fl) = m := ⟨_, rfl⟩
  obtain ⟨mT, hmT⟩ : ∃ m : Bool, decide (84 ∈ fl) = m := ⟨_, rfl⟩
  obtain ⟨mV, hmV⟩ : ∃ m : Bool, decide (86 ∈ fl) = m := ⟨_, rfl⟩
  simp only [hmA] at HA
  simp only [hmB] at HB
  simp only [hmN] at HN
  simp only [hmT] at HT
  simp only [hmV] at HVV
  have M65 := hid hmA; have M66 := hid hmB; have M78 := hid hmN; have M84 := hid hmT; have M86 := hid hmV
  clear hE hV hvk gv hnm hfl gk hre hmA hmB hmN hmT hmV
  obtain ⟨id, tm, k, a, b, name, text, v⟩ := e
  simp only at HCK HEN HA HB HN HT HVV gid gtm ga gb gn gt HV Hgv ⊢
  have hsn : (strOf name).size = name.length := rfl
  have hst : (strOf text).size = text.length := rfl
  have HB0 := hid (blk_new w (.cells #[.int .i64 id, .int .i64 tm, .int .i64 k, .int .i64 a, .int .i64 b, .string (strOf name), .string (strOf text), .int .i64 vk, .int .i64 vn, .string (strOf vs), .slice va vm vc] 44))
  have HO0 := hid (only_new w (.cells #[.int .i64 id, .int .i64 tm, .int .i64 k, .int .i64 a, .int .i64 b, .string (strOf name), .string (strOf text), .int .i64 vk, .int .i64 vn, .string (strOf vs), .slice va vm vc] 44))
  go_enter Try.func20, Try.ntmps20
  go_wp2_with fail
  refine (HEN _).out.mono ?_
  rintro x wb ⟨rfl, ho⟩
  clear HEN
  have hbb := blk_only HB0.out ho (fun e => e)
  have HOB := hid (HO0.out.trans ho (fun _ _ e => e))
  clear ho
  have b0 : wb.cell? ⟨w.heap.size, 0, none⟩ = some (.int .i64 id) := cell_blk hbb 0
  have b1 : wb.cell? ⟨w.heap.size, 1, none⟩ = some (.int .i64 tm) := cell_blk hbb 1
  have b3 : wb.cell? ⟨w.heap.size, 3, none⟩ = some (.int .i64 a) := cell_blk hbb 3
  have b4 : wb.cell? ⟨w.heap.size, 4, none⟩ = some (.int .i64 b) := cell_blk hbb 4
  have b5 : wb.cell? ⟨w.heap.size, 5, none⟩ = some (.string (strOf name)) := cell_blk hbb 5
  have b6 : wb.cell? ⟨w.heap.size, 6, none⟩ = some (.string (strOf text)) := cell_blk hbb 6
  have b7 : wb.cell? ⟨w.heap.size, 7, none⟩ = some (.int .i64 vk) := cell_blk hbb 7
  have b8 : wb.cell? ⟨w.heap.size, 8, none⟩ = some (.int .i64 vn) := cell_blk hbb 8
  have b9 : wb.cell? ⟨w.heap.size, 9, none⟩ = some (.string (strOf vs)) := cell_blk hbb 9
  have b10 : wb.cell? ⟨w.heap.size, 10, none⟩ = some (.slice va vm vc) := cell_blk hbb 10
  clear hbb
  by_cases hn0 : nm = []
  · have hF : Hid ((⟨id, tm, k, a, b, name, text, v⟩ : EM).chk = 9) := hid (by rw [HCK.out, if_pos hn0])
    subst hn0
    have hem : (strOf []).toList.isEmpty = true := by rw [strOf_list]; rfl
    have hem2 : (strOf []).toList = [] := strOf_list []
    go_wp2_with fail
    go_ret
    rw [hF.out]; exact ⟨rfl, HOB.out⟩
  have hne : (strOf nm).toList.isEmpty = false := by rw [strOf_list]; simpa using hn0
  have hne2 : ¬ (strOf nm).toList = [] := by rw [strOf_list]; exact hn0
  obtain ⟨B1, hB1⟩ : ∃ B : Bool, decide ((id < 1 ∨ 1048576 < id ∨ tm < 0 ∨ 4611686018427387903 < tm) ∨ a < 0 ∨ b < 0) = B := ⟨_, rfl⟩
  obtain ⟨B2, hB2⟩ : ∃ B : Bool, decide ((65 ∉ fl ∧ a ≠ 0) ∨ (66 ∉ fl ∧ b ≠ 0)) = B := ⟨_, rfl⟩
  obtain ⟨B3, hB3⟩ : ∃ B : Bool, decide (64 < name.length ∨ 128 < text.length) = B := ⟨_, rfl⟩
  obtain ⟨B4, hB4⟩ : ∃ B : Bool, decide (((78 ∉ fl ∧ name ≠ []) ∨ (84 ∉ fl ∧ text ≠ [])) ∨ (86 ∉ fl ∧ vk ≠ 0)) = B := ⟨_, rfl⟩
  have HC2 : Hid ((⟨id, tm, k, a, b, name, text, v⟩ : EM).chk = if B1 then 1 else if B2 then 1 else if B3 then 2 else if B4 then 8 else v.chk) := hid (by
    rw [HCK.out, if_neg hn0, ← hB1, ← hB2, ← hB3, ← hB4]; simp only [decide_eq_true_eq])
  have H1 := hid hB1; have H2 := hid hB2; have H3 := hid hB3; have H4 := hid hB4
  clear HCK hB1 hB2 hB3 hB4 hn0
  go_upto_region 4 with fail
  go_cut [38] from 11 to 38 (fun x wx => wb = wx ∧ x = .bool B1)
  case first =>
    by_cases h1 : id < 1
    · skip
      have e1 : B1 = true := by rw [← H1.out]; exact decide_eq_true (by omega)
      go_wp2_with fail
      go_meet
      case rel => exact ⟨rfl, by rw [e1]⟩
    · skip
      by_cases h2 : 1048576 < id
      · skip
        have e1 : B1 = true := by rw [← H1.out]; exact decide_eq_true (by omega)
        go_wp2_with fail
        go_meet
        case rel => exact ⟨rfl, by rw [e1]⟩
      · skip
        by_cases h3 : tm < 0
        · skip
          have e1 : B1 = true := by rw [← H1.out]; exact decide_eq_true (by omega)
          go_wp2_with fail
          go_meet
          case rel => exact ⟨rfl, by rw [e1]⟩
        · skip
          by_cases h4 : 4611686018427387903 < tm
          · skip
            have e1 : B1 = true := by rw [← H1.out]; exact decide_eq_true (by omega)
            go_wp2_with fail
            go_meet
            case rel => exact ⟨rfl, by rw [e1]⟩
          · skip
            by_cases h5 : a < 0
            · skip
              have e1 : B1 = true := by rw [← H1.out]; exact decide_eq_true (by omega)
              go_wp2_with fail
              go_meet
              case rel => exact ⟨rfl, by rw [e1]⟩
            · skip
              by_cases h6 : b < 0
              · skip
                have e1 : B1 = true := by rw [← H1.out]; exact decide_eq_true (by omega)
                go_wp2_with fail
                go_meet
                case rel => exact ⟨rfl, by rw [e1]⟩
              · skip
                have e1 : B1 = false := by rw [← H1.out]; exact decide_eq_false (by omega)
                go_wp2_with fail
                go_meet
                case rel => exact ⟨rfl, by rw [e1]⟩
  case rest =>
  obtain ⟨rfl, rfl⟩ := hcut
  cases B1 with
  | true =>
    have hF : Hid ((⟨id, tm, k, a, b, name, text, v⟩ : EM).chk = 1) := hid (by rw [HC2.out]; simp)
    go_wp2_with fail
    go_ret
    rw [hF.out]; exact ⟨rfl, HOB.out⟩
  | false =>
  go_upto_region 6 with fail
  go_cut [56] from 39 to 56 (fun x wx => wb = wx ∧ x = .bool B2)
  case first =>
    cases mA with
    | true =>
      have p65 : (65 : UInt8) ∈ fl := by simpa using M65.out
      cases mB with
      | true =>
        have p66 : (66 : UInt8) ∈ fl := by simpa using M66.out
        have e1 : B2 = false := by rw [← H2.out]; exact decide_eq_false (by rintro (⟨h, h'⟩ | ⟨h, h'⟩) <;> first | (exact absurd ‹_› h) | (exact h' Za.out) | (exact h' Zb.out) | (exact h' Zname.out) | (exact h' Ztext.out) | (exact h' Zvk.out))
        go_wp2_with (first | (go_at_call 53; (with_reducible refine (HA _).out.mono ?_); rintro x w2 ⟨rfl, rfl⟩) | (go_at_call 54; (with_reducible refine (HB _).out.mono ?_); rintro x w2 ⟨rfl, rfl⟩) | (go_at_call 55; (with_reducible refine (HN _).out.mono ?_); rintro x w2 ⟨rfl, rfl⟩) | (go_at_call 56; (with_reducible refine (HT _).out.mono ?_); rintro x w2 ⟨rfl, rfl⟩) | (go_at_call 57; (with_reducible refine (HVV _).out.mono ?_); rintro x w2 ⟨rfl, rfl⟩))
        go_meet
        case rel => exact ⟨rfl, by rw [e1]⟩
      | false =>
        have p66 : (66 : UInt8) ∉ fl := by simpa using M66.out
        by_cases hb : b = 0
        · have zb : (b == 0) = true := by simpa using hb
          have yb : (b != 0) = false := by simpa using hb
          have Zb := hid hb
          clear hb
          have e1 : B2 = false := by rw [← H2.out]; exact decide_eq_false (by rintro (⟨h, h'⟩ | ⟨h, h'⟩) <;> first | (exact absurd ‹_› h) | (exact h' Za.out) | (exact h' Zb.out) | (exact h' Zname.out) | (exact h' Ztext.out) | (exact h' Zvk.out))
          go_wp2_with (first | (go_at_call 53; (with_reducible refine (HA _).out.mono ?_); rintro x w2 ⟨rfl, rfl⟩) | (go_at_call 54; (with_reducible refine (HB _).out.mono ?_); rintro x w2 ⟨rfl, rfl⟩) | (go_at_call 55; (with_reducible refine (HN _).out.mono ?_); rintro x w2 ⟨rfl, rfl⟩) | (go_at_call 56; (with_reducible refine (HT _).out.mono ?_); rintro x w2 ⟨rfl, rfl⟩) | (go_at_call 57; (with_reducible refine (HVV _).out.mono ?_); rintro x w2 ⟨rfl, rfl⟩))
          go_meet
          case rel => exact ⟨rfl, by rw [e1]⟩
        · have zb : (b == 0) = false := by simpa using hb
          have yb : (b != 0) = true := by simpa using hb
          have e1 : B2 = true := by rw [← H2.out]; exact decide_eq_true (.inr ⟨p66, hb⟩)
          go_wp2_with (first | (go_at_call 53; (with_reducible refine (HA _).out.mono ?_); rintro x w2 ⟨rfl, rfl⟩) | (go_at_call 54; (with_reducible refine (HB _).out.mono ?_); rintro x w2 ⟨rfl, rfl⟩) | (go_at_call 55; (with_reducible refine (HN _).out.mono ?_); rintro x w2 ⟨rfl, rfl⟩) | (go_at_call 56; (with_reducible refine (HT _).out.mono ?_); rintro x w2 ⟨rfl, rfl⟩) | (go_at_call 57; (with_reducible refine (HVV _).out.mono ?_); rintro x w2 ⟨rfl, rfl⟩))
          go_meet
          case rel => exact ⟨rfl, by rw [e1]⟩
    | false =>
      have p65 : (65 : UInt8) ∉ fl := by simpa using M65.out
      by_cases ha : a = 0
      · have za : (a == 0) = true := by simpa using ha
        have ya : (a != 0) = false := by simpa using ha
        have Za := hid ha
        clear ha
        cases mB with
        | true =>
          have p66 : (66 : UInt8) ∈ fl := by simpa using M66.out
          have e1 : B2 = false := by rw [← H2.out]; exact decide_eq_false (by rintro (⟨h, h'⟩ | ⟨h, h'⟩) <;> first | (exact absurd ‹_› h) | (exact h' Za.out) | (exact h' Zb.out) | (exact h' Zname.out) | (exact h' Ztext.out) | (exact h' Zvk.out))
          go_wp2_with (first | (go_at_call 53; (with_reducible refine (HA _).out.mono ?_); rintro x w2 ⟨rfl, rfl⟩) | (go_at_call 54; (with_reducible refine (HB _).out.mono ?_); rintro x w2 ⟨rfl, rfl⟩) | (go_at_call 55; (with_reducible refine (HN _).out.mono ?_); rintro x w2 ⟨rfl, rfl⟩) | (go_at_call 56; (with_reducible refine (HT _).out.mono ?_); rintro x w2 ⟨rfl, rfl⟩) | (go_at_call 57; (with_reducible refine (HVV _).out.mono ?_); rintro x w2 ⟨rfl, rfl⟩))
          go_meet
          case rel => exact ⟨rfl, by rw [e1]⟩
        | false =>
          have p66 : (66 : UInt8) ∉ fl := by simpa using M66.out
          by_cases hb : b = 0
          · have zb : (b == 0) = true := by simpa using hb
            have yb : (b != 0) = false := by simpa using hb
            have Zb := hid hb
            clear hb
            have e1 : B2 = false := by rw [← H2.out]; exact decide_eq_false (by rintro (⟨h, h'⟩ | ⟨h, h'⟩) <;> first | (exact absurd ‹_› h) | (exact h' Za.out) | (exact h' Zb.out) | (exact h' Zname.out) | (exact h' Ztext.out) | (exact h' Zvk.out))
            go_wp2_with (first | (go_at_call 53; (with_reducible refine (HA _).out.mono ?_); rintro x w2 ⟨rfl, rfl⟩) | (go_at_call 54; (with_reducible refine (HB _).out.mono ?_); rintro x w2 ⟨rfl, rfl⟩) | (go_at_call 55; (with_reducible refine (HN _).out.mono ?_); rintro x w2 ⟨rfl, rfl⟩) | (go_at_call 56; (with_reducible refine (HT _).out.mono ?_); rintro x w2 ⟨rfl, rfl⟩) | (go_at_call 57; (with_reducible refine (HVV _).out.mono ?_); rintro x w2 ⟨rfl, rfl⟩))
            go_meet
            case rel => exact ⟨rfl, by rw [e1]⟩
          · have zb : (b == 0) = false := by simpa using hb
            have yb : (b != 0) = true := by simpa using hb
            have e1 : B2 = true := by rw [← H2.out]; exact decide_eq_true (.inr ⟨p66, hb⟩)
            go_wp2_with (first | (go_at_call 53; (with_reducible refine (HA _).out.mono ?_); rintro x w2 ⟨rfl, rfl⟩) | (go_at_call 54; (with_reducible refine (HB _).out.mono ?_); rintro x w2 ⟨rfl, rfl⟩) | (go_at_call 55; (with_reducible refine (HN _).out.mono ?_); rintro x w2 ⟨rfl, rfl⟩) | (go_at_call 56; (with_reducible refine (HT _).out.mono ?_); rintro x w2 ⟨rfl, rfl⟩) | (go_at_call 57; (with_reducible refine (HVV _).out.mono ?_); rintro x w2 ⟨rfl, rfl⟩))
            go_meet
            case rel => exact ⟨rfl, by rw [e1]⟩
      · have za : (a == 0) = false := by simpa using ha
        have ya : (a != 0) = true := by simpa using ha
        have e1 : B2 = true := by rw [← H2.out]; exact decide_eq_true (.inl ⟨p65, ha⟩)
        go_wp2_with (first | (go_at_call 53; (with_reducible refine (HA _).out.mono ?_); rintro x w2 ⟨rfl, rfl⟩) | (go_at_call 54; (with_reducible refine (HB _).out.mono ?_); rintro x w2 ⟨rfl, rfl⟩) | (go_at_call 55; (with_reducible refine (HN _).out.mono ?_); rintro x w2 ⟨rfl, rfl⟩) | (go_at_call 56; (with_reducible refine (HT _).out.mono ?_); rintro x w2 ⟨rfl, rfl⟩) | (go_at_call 57; (with_reducible refine (HVV _).out.mono ?_); rintro x w2 ⟨rfl, rfl⟩))
        go_meet
        case rel => exact ⟨rfl, by rw [e1]⟩
  case rest =>
  obtain ⟨rfl, rfl⟩ := hcut
  cases B2 with
  | true =>
    have hF : Hid ((⟨id, tm, k, a, b, name, text, v⟩ : EM).chk = 1) := hid (by rw [HC2.out]; simp)
    go_wp2_with fail
    go_ret
    rw [hF.out]; exact ⟨rfl, HOB.out⟩
  | false =>
  go_upto_region 8 with fail
  go_cut [66] from 57 to 66 (fun x wx => wb = wx ∧ x = .bool B3)
  case first =>
    by_cases h1 : 64 < (name.length : Int)
    · skip
      have e1 : B3 = true := by rw [← H3.out]; exact decide_eq_true (by omega)
      go_wp2_with fail
      go_meet
      case rel => exact ⟨rfl, by rw [e1]⟩
    · skip
      by_cases h2 : 128 < (text.length : Int)
      · skip
        have e1 : B3 = true := by rw [← H3.out]; exact decide_eq_true (by omega)
        go_wp2_with fail
        go_meet
        case rel => exact ⟨rfl, by rw [e1]⟩
      · skip
        have e1 : B3 = false := by rw [← H3.out]; exact decide_eq_false (by omega)
        go_wp2_with fail
        go_meet
        case rel => exact ⟨rfl, by rw [e1]⟩
  case rest =>
  obtain ⟨rfl, rfl⟩ := hcut
  cases B3 with
  | true =>
    have hF : Hid ((⟨id, tm, k, a, b, name, text, v⟩ : EM).chk = 2) := hid (by rw [HC2.out]; simp)
    go_wp2_with fail
    go_ret
    rw [hF.out]; exact ⟨rfl, HOB.out⟩
  | false =>
  go_upto_region 10 with fail
  go_cut [95] from 67 to 95 (fun x wx => wb = wx ∧ x = .bool B4)
  case first =>
    cases mN with
    | true =>
      have p78 : (78 : UInt8) ∈ fl := by simpa using M78.out
      cases mT with
      | true =>
        have p84 : (84 : UInt8) ∈ fl := by simpa using M84.out
        cases mV with
        | true =>
          have p86 : (86 : UInt8) ∈ fl := by simpa using M86.out
          have e1 : B4 = false := by rw [← H4.out]; exact decide_eq_false (by rintro ((⟨h, h'⟩ | ⟨h, h'⟩) | ⟨h, h'⟩) <;> first | (exact absurd ‹_› h) | (exact h' Za.out) | (exact h' Zb.out) | (exact h' Zname.out) | (exact h' Ztext.out) | (exact h' Zvk.out))
          go_wp2_with (first | (go_at_call 53; (with_reducible refine (HA _).out.mono ?_); rintro x w2 ⟨rfl, rfl⟩) | (go_at_call 54; (with_reducible refine (HB _).out.mono ?_); rintro x w2 ⟨rfl, rfl⟩) | (go_at_call 55; (with_reducible refine (HN _).out.mono ?_); rintro x w2 ⟨rfl, rfl⟩) | (go_at_call 56; (with_reducible refine (HT _).out.mono ?_); rintro x w2 ⟨rfl, rfl⟩) | (go_at_call 57; (with_reducible refine (HVV _).out.mono ?_); rintro x w2 ⟨rfl, rfl⟩))
          go_meet
          case rel => exact ⟨rfl, by rw [e1]⟩
        | false =>
          have p86 : (86 : UInt8) ∉ fl := by simpa using M86.out
          by_cases hvk : vk = 0
          · have zvk : (vk == 0) = true := by simpa using hvk
            have yvk : (vk != 0) = false := by simpa using hvk
            have Zvk := hid hvk
            clear hvk
            have e1 : B4 = false := by rw [← H4.out]; exact decide_eq_false (by rintro ((⟨h, h'⟩ | ⟨h, h'⟩) | ⟨h, h'⟩) <;> first | (exact absurd ‹_› h) | (exact h' Za.out) | (exact h' Zb.out) | (exact h' Zname.out) | (exact h' Ztext.out) | (exact h' Zvk.out))
            go_wp2_with (first | (go_at_call 53; (with_reducible refine (HA _).out.mono ?_); rintro x w2 ⟨rfl, rfl⟩) | (go_at_call 54; (with_reducible refine (HB _).out.mono ?_); rintro x w2 ⟨rfl, rfl⟩) | (go_at_call 55; (with_reducible refine (HN _).out.mono ?_); rintro x w2 ⟨rfl, rfl⟩) | (go_at_call 56; (with_reducible refine (HT _).out.mono ?_); rintro x w2 ⟨rfl, rfl⟩) | (go_at_call 57; (with_reducible refine (HVV _).out.mono ?_); rintro x w2 ⟨rfl, rfl⟩))
            go_meet
            case rel => exact ⟨rfl, by rw [e1]⟩
          · have zvk : (vk == 0) = false := by simpa using hvk
            have yvk : (vk != 0) = true := by simpa using hvk
            have e1 : B4 = true := by rw [← H4.out]; exact decide_eq_true (.inr ⟨p86, hvk⟩)
            go_wp2_with (first | (go_at_call 53; (with_reducible refine (HA _).out.mono ?_); rintro x w2 ⟨rfl, rfl⟩) | (go_at_call 54; (with_reducible refine (HB _).out.mono ?_); rintro x w2 ⟨rfl, rfl⟩) | (go_at_call 55; (with_reducible refine (HN _).out.mono ?_); rintro x w2 ⟨rfl, rfl⟩) | (go_at_call 56; (with_reducible refine (HT _).out.mono ?_); rintro x w2 ⟨rfl, rfl⟩) | (go_at_call 57; (with_reducible refine (HVV _).out.mono ?_); rintro x w2 ⟨rfl, rfl⟩))
            go_meet
            case rel => exact ⟨rfl, by rw [e1]⟩
      | false =>
        have p84 : (84 : UInt8) ∉ fl := by simpa using M84.out
        by_cases htext : text = []
        · have ztext : (strOf text).toList.isEmpty = true := by rw [strOf_list, htext]; rfl
          have Ztext := hid htext
          clear htext
          cases mV with
          | true =>
            have p86 : (86 : UInt8) ∈ fl := by simpa using M86.out
            have e1 : B4 = false := by rw [← H4.out]; exact decide_eq_false (by rintro ((⟨h, h'⟩ | ⟨h, h'⟩) | ⟨h, h'⟩) <;> first | (exact absurd ‹_› h) | (exact h' Za.out) | (exact h' Zb.out) | (exact h' Zname.out) | (exact h' Ztext.out) | (exact h' Zvk.out))
            go_wp2_with (first | (go_at_call 53; (with_reducible refine (HA _).out.mono ?_); rintro x w2 ⟨rfl, rfl⟩) | (go_at_call 54; (with_reducible refine (HB _).out.mono ?_); rintro x w2 ⟨rfl, rfl⟩) | (go_at_call 55; (with_reducible refine (HN _).out.mono ?_); rintro x w2 ⟨rfl, rfl⟩) | (go_at_call 56; (with_reducible refine (HT _).out.mono ?_); rintro x w2 ⟨rfl, rfl⟩) | (go_at_call 57; (with_reducible refine (HVV _).out.mono ?_); rintro x w2 ⟨rfl, rfl⟩))
            go_meet
            case rel => exact ⟨rfl, by rw [e1]⟩
          | false =>
            have p86 : (86 : UInt8) ∉ fl := by simpa using M86.out
            by_cases hvk : vk = 0
            · have zvk : (vk == 0) = true := by simpa using hvk
              have yvk : (vk != 0) = false := by simpa using hvk
              have Zvk := hid hvk
              clear hvk
              have e1 : B4 = false := by rw [← H4.out]; exact decide_eq_false (by rintro ((⟨h, h'⟩ | ⟨h, h'⟩) | ⟨h, h'⟩) <;> first | (exact absurd ‹_› h) | (exact h' Za.out) | (exact h' Zb.out) | (exact h' Zname.out) | (exact h' Ztext.out) | (exact h' Zvk.out))
              go_wp2_with (first | (go_at_call 53; (with_reducible refine (HA _).out.mono ?_); rintro x w2 ⟨rfl, rfl⟩) | (go_at_call 54; (with_reducible refine (HB _).out.mono ?_); rintro x w2 ⟨rfl, rfl⟩) | (go_at_call 55; (with_reducible refine (HN _).out.mono ?_); rintro x w2 ⟨rfl, rfl⟩) | (go_at_call 56; (with_reducible refine (HT _).out.mono ?_); rintro x w2 ⟨rfl, rfl⟩) | (go_at_call 57; (with_reducible refine (HVV _).out.mono ?_); rintro x w2 ⟨rfl, rfl⟩))
              go_meet
              case rel => exact ⟨rfl, by rw [e1]⟩
            · have zvk : (vk == 0) = false := by simpa using hvk
              have yvk : (vk != 0) = true := by simpa using hvk
              have e1 : B4 = true := by rw [← H4.out]; exact decide_eq_true (.inr ⟨p86, hvk⟩)
              go_wp2_with (first | (go_at_call 53; (with_reducible refine (HA _).out.mono ?_); rintro x w2 ⟨rfl, rfl⟩) | (go_at_call 54; (with_reducible refine (HB _).out.mono ?_); rintro x w2 ⟨rfl, rfl⟩) | (go_at_call 55; (with_reducible refine (HN _).out.mono ?_); rintro x w2 ⟨rfl, rfl⟩) | (go_at_call 56; (with_reducible refine (HT _).out.mono ?_); rintro x w2 ⟨rfl, rfl⟩) | (go_at_call 57; (with_reducible refine (HVV _).out.mono ?_); rintro x w2 ⟨rfl, rfl⟩))
              go_meet
              case rel => exact ⟨rfl, by rw [e1]⟩
        · have ztext : (strOf text).toList.isEmpty = false := by rw [strOf_list]; simpa using htext
          have e1 : B4 = true := by rw [← H4.out]; exact decide_eq_true (.inl (.inr ⟨p84, htext⟩))
          go_wp2_with (first | (go_at_call 53; (with_reducible refine (HA _).out.mono ?_); rintro x w2 ⟨rfl, rfl⟩) | (go_at_call 54; (with_reducible refine (HB _).out.mono ?_); rintro x w2 ⟨rfl, rfl⟩) | (go_at_call 55; (with_reducible refine (HN _).out.mono ?_); rintro x w2 ⟨rfl, rfl⟩) | (go_at_call 56; (with_reducible refine (HT _).out.mono ?_); rintro x w2 ⟨rfl, rfl⟩) | (go_at_call 57; (with_reducible refine (HVV _).out.mono ?_); rintro x w2 ⟨rfl, rfl⟩))
          go_meet
          case rel => exact ⟨rfl, by rw [e1]⟩
    | false =>
      have p78 : (78 : UInt8) ∉ fl := by simpa using M78.out
      by_cases hname : name = []
      · have zname : (strOf name).toList.isEmpty = true := by rw [strOf_list, hname]; rfl
        have Zname := hid hname
        clear hname
        cases mT with
        | true =>
          have p84 : (84 : UInt8) ∈ fl := by simpa using M84.out
          cases mV with
          | true =>
            have p86 : (86 : UInt8) ∈ fl := by simpa using M86.out
            have e1 : B4 = false := by rw [← H4.out]; exact decide_eq_false (by rintro ((⟨h, h'⟩ | ⟨h, h'⟩) | ⟨h, h'⟩) <;> first | (exact absurd ‹_› h) | (exact h' Za.out) | (exact h' Zb.out) | (exact h' Zname.out) | (exact h' Ztext.out) | (exact h' Zvk.out))
            go_wp2_with (first | (go_at_call 53; (with_reducible refine (HA _).out.mono ?_); rintro x w2 ⟨rfl, rfl⟩) | (go_at_call 54; (with_reducible refine (HB _).out.mono ?_); rintro x w2 ⟨rfl, rfl⟩) | (go_at_call 55; (with_reducible refine (HN _).out.mono ?_); rintro x w2 ⟨rfl, rfl⟩) | (go_at_call 56; (with_reducible refine (HT _).out.mono ?_); rintro x w2 ⟨rfl, rfl⟩) | (go_at_call 57; (with_reducible refine (HVV _).out.mono ?_); rintro x w2 ⟨rfl, rfl⟩))
            go_meet
            case rel => exact ⟨rfl, by rw [e1]⟩
          | false =>
            have p86 : (86 : UInt8) ∉ fl := by simpa using M86.out
            by_cases hvk : vk = 0
            · have zvk : (vk == 0) = true := by simpa using hvk
              have yvk : (vk != 0) = false := by simpa using hvk
              have Zvk := hid hvk
              clear hvk
              have e1 : B4 = false := by rw [← H4.out]; exact decide_eq_false (by rintro ((⟨h, h'⟩ | ⟨h, h'⟩) | ⟨h, h'⟩) <;> first | (exact absurd ‹_› h) | (exact h' Za.out) | (exact h' Zb.out) | (exact h' Zname.out) | (exact h' Ztext.out) | (exact h' Zvk.out))
              go_wp2_with (first | (go_at_call 53; (with_reducible refine (HA _).out.mono ?_); rintro x w2 ⟨rfl, rfl⟩) | (go_at_call 54; (with_reducible refine (HB _).out.mono ?_); rintro x w2 ⟨rfl, rfl⟩) | (go_at_call 55; (with_reducible refine (HN _).out.mono ?_); rintro x w2 ⟨rfl, rfl⟩) | (go_at_call 56; (with_reducible refine (HT _).out.mono ?_); rintro x w2 ⟨rfl, rfl⟩) | (go_at_call 57; (with_reducible refine (HVV _).out.mono ?_); rintro x w2 ⟨rfl, rfl⟩))
              go_meet
              case rel => exact ⟨rfl, by rw [e1]⟩
            · have zvk : (vk == 0) = false := by simpa using hvk
              have yvk : (vk != 0) = true := by simpa using hvk
              have e1 : B4 = true := by rw [← H4.out]; exact decide_eq_true (.inr ⟨p86, hvk⟩)
              go_wp2_with (first | (go_at_call 53; (with_reducible refine (HA _).out.mono ?_); rintro x w2 ⟨rfl, rfl⟩) | (go_at_call 54; (with_reducible refine (HB _).out.mono ?_); rintro x w2 ⟨rfl, rfl⟩) | (go_at_call 55; (with_reducible refine (HN _).out.mono ?_); rintro x w2 ⟨rfl, rfl⟩) | (go_at_call 56; (with_reducible refine (HT _).out.mono ?_); rintro x w2 ⟨rfl, rfl⟩) | (go_at_call 57; (with_reducible refine (HVV _).out.mono ?_); rintro x w2 ⟨rfl, rfl⟩))
              go_meet
              case rel => exact ⟨rfl, by rw [e1]⟩
        | false =>
          have p84 : (84 : UInt8) ∉ fl := by simpa using M84.out
          by_cases htext : text = []
          · have ztext : (strOf text).toList.isEmpty = true := by rw [strOf_list, htext]; rfl
            have Ztext := hid htext
            clear htext
            cases mV with
            | true =>
              have p86 : (86 : UInt8) ∈ fl := by simpa using M86.out
              have e1 : B4 = false := by rw [← H4.out]; exact decide_eq_false (by rintro ((⟨h, h'⟩ | ⟨h, h'⟩) | ⟨h, h'⟩) <;> first | (exact absurd ‹_› h) | (exact h' Za.out) | (exact h' Zb.out) | (exact h' Zname.out) | (exact h' Ztext.out) | (exact h' Zvk.out))
              go_wp2_with (first | (go_at_call 53; (with_reducible refine (HA _).out.mono ?_); rintro x w2 ⟨rfl, rfl⟩) | (go_at_call 54; (with_reducible refine (HB _).out.mono ?_); rintro x w2 ⟨rfl, rfl⟩) | (go_at_call 55; (with_reducible refine (HN _).out.mono ?_); rintro x w2 ⟨rfl, rfl⟩) | (go_at_call 56; (with_reducible refine (HT _).out.mono ?_); rintro x w2 ⟨rfl, rfl⟩) | (go_at_call 57; (with_reducible refine (HVV _).out.mono ?_); rintro x w2 ⟨rfl, rfl⟩))
              go_meet
              case rel => exact ⟨rfl, by rw [e1]⟩
            | false =>
              have p86 : (86 : UInt8) ∉ fl := by simpa using M86.out
              by_cases hvk : vk = 0
              · have zvk : (vk == 0) = true := by simpa using hvk
                have yvk : (vk != 0) = false := by simpa using hvk
                have Zvk := hid hvk
                clear hvk
                have e1 : B4 = false := by rw [← H4.out]; exact decide_eq_false (by rintro ((⟨h, h'⟩ | ⟨h, h'⟩) | ⟨h, h'⟩) <;> first | (exact absurd ‹_› h) | (exact h' Za.out) | (exact h' Zb.out) | (exact h' Zname.out) | (exact h' Ztext.out) | (exact h' Zvk.out))
                go_wp2_with (first | (go_at_call 53; (with_reducible refine (HA _).out.mono ?_); rintro x w2 ⟨rfl, rfl⟩) | (go_at_call 54; (with_reducible refine (HB _).out.mono ?_); rintro x w2 ⟨rfl, rfl⟩) | (go_at_call 55; (with_reducible refine (HN _).out.mono ?_); rintro x w2 ⟨rfl, rfl⟩) | (go_at_call 56; (with_reducible refine (HT _).out.mono ?_); rintro x w2 ⟨rfl, rfl⟩) | (go_at_call 57; (with_reducible refine (HVV _).out.mono ?_); rintro x w2 ⟨rfl, rfl⟩))
                go_meet
                case rel => exact ⟨rfl, by rw [e1]⟩
              · have zvk : (vk == 0) = false := by simpa using hvk
                have yvk : (vk != 0) = true := by simpa using hvk
                have e1 : B4 = true := by rw [← H4.out]; exact decide_eq_true (.inr ⟨p86, hvk⟩)
                go_wp2_with (first | (go_at_call 53; (with_reducible refine (HA _).out.mono ?_); rintro x w2 ⟨rfl, rfl⟩) | (go_at_call 54; (with_reducible refine (HB _).out.mono ?_); rintro x w2 ⟨rfl, rfl⟩) | (go_at_call 55; (with_reducible refine (HN _).out.mono ?_); rintro x w2 ⟨rfl, rfl⟩) | (go_at_call 56; (with_reducible refine (HT _).out.mono ?_); rintro x w2 ⟨rfl, rfl⟩) | (go_at_call 57; (with_reducible refine (HVV _).out.mono ?_); rintro x w2 ⟨rfl, rfl⟩))
                go_meet
                case rel => exact ⟨rfl, by rw [e1]⟩
          · have ztext : (strOf text).toList.isEmpty = false := by rw [strOf_list]; simpa using htext
            have e1 : B4 = true := by rw [← H4.out]; exact decide_eq_true (.inl (.inr ⟨p84, htext⟩))
            go_wp2_with (first | (go_at_call 53; (with_reducible refine (HA _).out.mono ?_); rintro x w2 ⟨rfl, rfl⟩) | (go_at_call 54; (with_reducible refine (HB _).out.mono ?_); rintro x w2 ⟨rfl, rfl⟩) | (go_at_call 55; (with_reducible refine (HN _).out.mono ?_); rintro x w2 ⟨rfl, rfl⟩) | (go_at_call 56; (with_reducible refine (HT _).out.mono ?_); rintro x w2 ⟨rfl, rfl⟩) | (go_at_call 57; (with_reducible refine (HVV _).out.mono ?_); rintro x w2 ⟨rfl, rfl⟩))
            go_meet
            case rel => exact ⟨rfl, by rw [e1]⟩
      · have zname : (strOf name).toList.isEmpty = false := by rw [strOf_list]; simpa using hname
        have e1 : B4 = true := by rw [← H4.out]; exact decide_eq_true (.inl (.inl ⟨p78, hname⟩))
        go_wp2_with (first | (go_at_call 53; (with_reducible refine (HA _).out.mono ?_); rintro x w2 ⟨rfl, rfl⟩) | (go_at_call 54; (with_reducible refine (HB _).out.mono ?_); rintro x w2 ⟨rfl, rfl⟩) | (go_at_call 55; (with_reducible refine (HN _).out.mono ?_); rintro x w2 ⟨rfl, rfl⟩) | (go_at_call 56; (with_reducible refine (HT _).out.mono ?_); rintro x w2 ⟨rfl, rfl⟩) | (go_at_call 57; (with_reducible refine (HVV _).out.mono ?_); rintro x w2 ⟨rfl, rfl⟩))
        go_meet
        case rel => exact ⟨rfl, by rw [e1]⟩
  case rest =>
  obtain ⟨rfl, rfl⟩ := hcut
  cases B4 with
  | true =>
    have hF : Hid ((⟨id, tm, k, a, b, name, text, v⟩ : EM).chk = 8) := hid (by rw [HC2.out]; simp)
    go_wp2_with fail
    go_ret
    rw [hF.out]; exact ⟨rfl, HOB.out⟩
  | false =>
    have hF : Hid ((⟨id, tm, k, a, b, name, text, v⟩ : EM).chk = v.chk) := hid (by rw [HC2.out]; simp)
    have HVC := hid (rfcheck_c (HV.out.same HOB.out) Hgv.out)
    go_wp2_with fail
    refine HVC.out.mono ?_
    rintro x w2 ⟨rfl, ho2⟩
    have HO2 := hid ho2
    clear ho2
    go_wp2_with fail
    go_ret
    rw [hF.out]; exact ⟨rfl, HOB.out.trans HO2.out (fun _ _ e => e)⟩
end
end Go.Proofs.Ytnoopajedgllhaa
