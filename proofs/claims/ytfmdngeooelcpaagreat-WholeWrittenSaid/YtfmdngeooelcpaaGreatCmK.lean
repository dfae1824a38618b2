/- command.Check. -/
import Derived.Test.YtfmdngeooelcpaaGreatCmA
import Derived.Test.YtfmdngeooelcpaaGreatValM
import Derived.Deep.Cut
import Derived.Deep.CutRange
import Derived.Deep.CutBlock
namespace Go.Proofs.YtfmdngeooelcpaaGreat
open Go.RowKit
theorem cchk_eq (e : EM) : e.cchk = if fK e.k = false then 9 else if e.tm < 0 ∨ 4611686018427387903 < e.tm ∨ e.a < 0 ∨ e.b < 0 ∨ (fA e.k = false ∧ e.a ≠ 0) ∨ (fB e.k = false ∧ e.b ≠ 0) then 1 else if 64 < e.name.length then 2
    else if (fN e.k = false ∧ e.name ≠ []) ∨ (fV e.k = false ∧ e.v.k ≠ 0) then 8 else e.v.chk := by
  unfold EM.cchk
  simp only [fK_name, fA_mem, fB_mem, fN_mem, fV_mem]
section
variable {w : World} {G : Nat → Prop} {e : EM} {cs : List Value}
set_option maxRecDepth 100000 in
set_option maxHeartbeats 3200000 in
theorem ccheck_c (hE : CAt w G e cs) (hG : ∀ k, G k → k < w.heap.size) (hg : e.rg) : Calls Tryz.prog 7 #[.agg cs.toArray] w fun x w' => x = .returned (.int .i64 e.cchk) ∧ Only (fun _ => False) w w' := by
  obtain ⟨vk, vn, vs, va, vm, vc, rfl, hV⟩ := hE.form
  have hvk := hV.k
  obtain ⟨gid, gtm, gk, ga, gb, gn, gt, gv⟩ := hg
  have HV := hid hV; have Hgv := hid gv; have HG := hid hG
  have HCK : Hid (e.cchk = if fK e.k = false then 9 else if e.tm < 0 ∨ 4611686018427387903 < e.tm ∨ e.a < 0 ∨ e.b < 0 ∨ (fA e.k = false ∧ e.a ≠ 0) ∨ (fB e.k = false ∧ e.b ≠ 0) then 1 else if 64 < e.name.length then 2
    else if (fN e.k = false ∧ e.name ≠ []) ∨ (fV e.k = false ∧ vk ≠ 0) then 8 else e.v.chk) := hid (by rw [← hvk]; exact cchk_eq e)
  have HFD := fun wc => hid (fields_c (w := wc) e.k)
  obtain ⟨id, tm, k, a, b, name, text, v⟩ := e
  simp only at HCK HFD gtm ga gb gn HV Hgv ⊢
  obtain ⟨mA, hmA⟩ : ∃ m : Bool, fA k = m := ⟨_, rfl⟩
  obtain ⟨mB, hmB⟩ : ∃ m : Bool, fB k = m := ⟨_, rfl⟩
  obtain ⟨mN, hmN⟩ : ∃ m : Bool, fN k = m := ⟨_, rfl⟩
  obtain ⟨mV, hmV⟩ : ∃ m : Bool, fV k = m := ⟨_, rfl⟩
  obtain ⟨mK, hmK⟩ : ∃ m : Bool, fK k = m := ⟨_, rfl⟩
  rw [hmA, hmB, hmN, hmV, hmK] at HCK
  simp only [hmA, hmB, hmN, hmV, hmK] at HFD
  clear hE hV hvk gv hG gk hmA hmB hmN hmV hmK
  have hsn : (strOf name).size = name.length := rfl
  have HB0 := hid (blk_new w (.cells #[.int .i64 k, .int .i64 tm, .int .i64 a, .int .i64 b, .string (strOf name), .int .i64 vk, .int .i64 vn, .string (strOf vs), .slice va vm vc] 38))
  have HO0 := hid (only_new w (.cells #[.int .i64 k, .int .i64 tm, .int .i64 a, .int .i64 b, .string (strOf name), .int .i64 vk, .int .i64 vn, .string (strOf vs), .slice va vm vc] 38))
  go_enter Tryz.func7, Tryz.ntmps7
  go_wp2_with fail
  refine (HFD _).out.mono ?_
  rintro x w1 ⟨rfl, ho⟩
  clear HFD
  have hb1 := blk_only HB0.out ho (fun e => e)
  have HO1 := hid (HO0.out.trans ho (fun _ _ e => e))
  clear ho
  have hw1 := blk_lt hb1
  cases mK with
  | false =>
    have hF : Hid ((⟨id, tm, k, a, b, name, text, v⟩ : EM).cchk = 9) := hid (by rw [HCK.out, if_pos rfl])
    go_wp2_with fail
    go_ret
    rw [hF.out]; exact ⟨rfl, HO1.out.trans (only_new _ _) (fun _ _ e => e)⟩
  | true =>
  obtain ⟨wb, hwb⟩ : ∃ wb, w1.alloc (.cells #[.bool mA, .bool mB, .bool mN, .bool mV] 93) = wb := ⟨_, rfl⟩
  have hbb : wb.heap[w.heap.size]? = some (.cells #[.int .i64 k, .int .i64 tm, .int .i64 a, .int .i64 b, .string (strOf name), .int .i64 vk, .int .i64 vn, .string (strOf vs), .slice va vm vc] 38 (0, 0)) := by rw [← hwb]; exact blk_alloc hb1
  have hff : wb.heap[w1.heap.size]? = some (.cells #[.bool mA, .bool mB, .bool mN, .bool mV] 93 (0, 0)) := by rw [← hwb]; exact blk_new w1 _
  have HOB : Hid (Only (fun _ => False) w wb) := hid (by rw [← hwb]; exact HO1.out.trans (only_new _ _) (fun _ _ e => e))
  have b0 : wb.cell? ⟨w.heap.size, 0, none⟩ = some (.int .i64 k) := cell_blk hbb 0
  have b1 : wb.cell? ⟨w.heap.size, 1, none⟩ = some (.int .i64 tm) := cell_blk hbb 1
  have b2 : wb.cell? ⟨w.heap.size, 2, none⟩ = some (.int .i64 a) := cell_blk hbb 2
  have b3 : wb.cell? ⟨w.heap.size, 3, none⟩ = some (.int .i64 b) := cell_blk hbb 3
  have b4 : wb.cell? ⟨w.heap.size, 4, none⟩ = some (.string (strOf name)) := cell_blk hbb 4
  have b5 : wb.cell? ⟨w.heap.size, 5, none⟩ = some (.int .i64 vk) := cell_blk hbb 5
  have b6 : wb.cell? ⟨w.heap.size, 6, none⟩ = some (.int .i64 vn) := cell_blk hbb 6
  have b7 : wb.cell? ⟨w.heap.size, 7, none⟩ = some (.string (strOf vs)) := cell_blk hbb 7
  have b8 : wb.cell? ⟨w.heap.size, 8, none⟩ = some (.slice va vm vc) := cell_blk hbb 8
  have g0 : wb.cell? ⟨w1.heap.size, 0, none⟩ = some (.bool mA) := cell_blk hff 0
  have g1 : wb.cell? ⟨w1.heap.size, 1, none⟩ = some (.bool mB) := cell_blk hff 1
  have g2 : wb.cell? ⟨w1.heap.size, 2, none⟩ = some (.bool mN) := cell_blk hff 2
  have g3 : wb.cell? ⟨w1.heap.size, 3, none⟩ = some (.bool mV) := cell_blk hff 3
  clear hb1
  obtain ⟨B1, hB1⟩ : ∃ B : Bool, decide (tm < 0 ∨ 4611686018427387903 < tm ∨ a < 0 ∨ b < 0 ∨ (mA = false ∧ a ≠ 0) ∨ (mB = false ∧ b ≠ 0)) = B := ⟨_, rfl⟩
  obtain ⟨B4, hB4⟩ : ∃ B : Bool, decide ((mN = false ∧ name ≠ []) ∨ (mV = false ∧ vk ≠ 0)) = B := ⟨_, rfl⟩
  have HC2 : Hid ((⟨id, tm, k, a, b, name, text, v⟩ : EM).cchk = if B1 then 1 else if 64 < name.length then 2 else if B4 then 8 else v.chk) := hid (by
    rw [HCK.out, if_neg (by decide), ← hB1, ← hB4]; simp only [decide_eq_true_eq])
  have H1 := hid hB1; have H4 := hid hB4
  clear HCK hB1 hB4 hbb hff
  go_upto_region 2 with fail
  clear hwb
  go_upto_region 4 with fail
  go_cut [14] from 14 to 52 (fun x wx => wb = wx ∧ x = .bool B1)
  case first =>
    by_cases h1 : tm < 0
    · skip
      have e1 : B1 = true := by rw [← H1.out]; exact decide_eq_true (by omega)
      go_wp2_with fail
      go_meet
      case rel => exact ⟨rfl, by rw [e1]⟩
    · skip
      by_cases h2 : 4611686018427387903 < tm
      · skip
        have e1 : B1 = true := by rw [← H1.out]; exact decide_eq_true (by omega)
        go_wp2_with fail
        go_meet
        case rel => exact ⟨rfl, by rw [e1]⟩
      · skip
        by_cases h3 : a < 0
        · skip
          have e1 : B1 = true := by rw [← H1.out]; exact decide_eq_true (by omega)
          go_wp2_with fail
          go_meet
          case rel => exact ⟨rfl, by rw [e1]⟩
        · skip
          by_cases h4 : b < 0
          · skip
            have e1 : B1 = true := by rw [← H1.out]; exact decide_eq_true (by omega)
            go_wp2_with fail
            go_meet
            case rel => exact ⟨rfl, by rw [e1]⟩
          · skip
            cases mA with
            | true =>
              cases mB with
              | true =>
                have e1 : B1 = false := by rw [← H1.out]; exact decide_eq_false (by rintro (h | h | h | h | ⟨h, h'⟩ | ⟨h, h'⟩) <;> first | omega | (exact absurd h (by decide)) | (exact h' Za.out) | (exact h' Zb.out) | (exact h' Zname.out) | (exact h' Zvk.out))
                go_wp2_with fail
                go_meet
                case rel => exact ⟨rfl, by rw [e1]⟩
              | false =>
                by_cases hb : b = 0
                · have zb : (b == 0) = true := by simpa using hb
                  have yb : (b != 0) = false := by simpa using hb
                  have Zb := hid hb
                  clear hb
                  have e1 : B1 = false := by rw [← H1.out]; exact decide_eq_false (by rintro (h | h | h | h | ⟨h, h'⟩ | ⟨h, h'⟩) <;> first | omega | (exact absurd h (by decide)) | (exact h' Za.out) | (exact h' Zb.out) | (exact h' Zname.out) | (exact h' Zvk.out))
                  go_wp2_with fail
                  go_meet
                  case rel => exact ⟨rfl, by rw [e1]⟩
                · have zb : (b == 0) = false := by simpa using hb
                  have yb : (b != 0) = true := by simpa using hb
                  have e1 : B1 = true := by rw [← H1.out]; exact decide_eq_true (.inr (.inr (.inr (.inr (.inr ⟨rfl, hb⟩)))))
                  go_wp2_with fail
                  go_meet
                  case rel => exact ⟨rfl, by rw [e1]⟩
            | false =>
              by_cases ha : a = 0
              · have za : (a == 0) = true := by simpa using ha
                have ya : (a != 0) = false := by simpa using ha
                have Za := hid ha
                clear ha
                cases mB with
                | true =>
                  have e1 : B1 = false := by rw [← H1.out]; exact decide_eq_false (by rintro (h | h | h | h | ⟨h, h'⟩ | ⟨h, h'⟩) <;> first | omega | (exact absurd h (by decide)) | (exact h' Za.out) | (exact h' Zb.out) | (exact h' Zname.out) | (exact h' Zvk.out))
                  go_wp2_with fail
                  go_meet
                  case rel => exact ⟨rfl, by rw [e1]⟩
                | false =>
                  by_cases hb : b = 0
                  · have zb : (b == 0) = true := by simpa using hb
                    have yb : (b != 0) = false := by simpa using hb
                    have Zb := hid hb
                    clear hb
                    have e1 : B1 = false := by rw [← H1.out]; exact decide_eq_false (by rintro (h | h | h | h | ⟨h, h'⟩ | ⟨h, h'⟩) <;> first | omega | (exact absurd h (by decide)) | (exact h' Za.out) | (exact h' Zb.out) | (exact h' Zname.out) | (exact h' Zvk.out))
                    go_wp2_with fail
                    go_meet
                    case rel => exact ⟨rfl, by rw [e1]⟩
                  · have zb : (b == 0) = false := by simpa using hb
                    have yb : (b != 0) = true := by simpa using hb
                    have e1 : B1 = true := by rw [← H1.out]; exact decide_eq_true (.inr (.inr (.inr (.inr (.inr ⟨rfl, hb⟩)))))
                    go_wp2_with fail
                    go_meet
                    case rel => exact ⟨rfl, by rw [e1]⟩
              · have za : (a == 0) = false := by simpa using ha
                have ya : (a != 0) = true := by simpa using ha
                have e1 : B1 = true := by rw [← H1.out]; exact decide_eq_true (.inr (.inr (.inr (.inr (.inl ⟨rfl, ha⟩)))))
                go_wp2_with fail
                go_meet
                case rel => exact ⟨rfl, by rw [e1]⟩
  case rest =>
  obtain ⟨rfl, rfl⟩ := hcut
  cases B1 with
  | true =>
    have hF : Hid ((⟨id, tm, k, a, b, name, text, v⟩ : EM).cchk = 1) := hid (by rw [HC2.out]; simp)
    go_wp2_with fail
    go_ret
    rw [hF.out]; exact ⟨rfl, HOB.out⟩
  | false =>
  by_cases hnl : 64 < (name.length : Int)
  · have hF : Hid ((⟨id, tm, k, a, b, name, text, v⟩ : EM).cchk = 2) := hid (by rw [HC2.out, if_neg (by decide), if_pos (by omega)])
    go_wp2_with fail
    go_ret
    rw [hF.out]; exact ⟨rfl, HOB.out⟩
  have HC3 : Hid ((⟨id, tm, k, a, b, name, text, v⟩ : EM).cchk = if B4 then 8 else v.chk) := hid (by rw [HC2.out, if_neg (by decide), if_neg (by omega)])
  clear HC2
  go_upto_region 8 with fail
  go_cut [58] from 58 to 77 (fun x wx => wb = wx ∧ x = .bool B4)
  case first =>
    cases mN with
    | true =>
      cases mV with
      | true =>
        have e1 : B4 = false := by rw [← H4.out]; exact decide_eq_false (by rintro (⟨h, h'⟩ | ⟨h, h'⟩) <;> first | omega | (exact absurd h (by decide)) | (exact h' Za.out) | (exact h' Zb.out) | (exact h' Zname.out) | (exact h' Zvk.out))
        go_wp2_with fail
        go_meet
        case rel => exact ⟨rfl, by rw [e1]⟩
      | false =>
        by_cases hvk : vk = 0
        · have zvk : (vk == 0) = true := by simpa using hvk
          have yvk : (vk != 0) = false := by simpa using hvk
          have Zvk := hid hvk
          clear hvk
          have e1 : B4 = false := by rw [← H4.out]; exact decide_eq_false (by rintro (⟨h, h'⟩ | ⟨h, h'⟩) <;> first | omega | (exact absurd h (by decide)) | (exact h' Za.out) | (exact h' Zb.out) | (exact h' Zname.out) | (exact h' Zvk.out))
          go_wp2_with fail
          go_meet
          case rel => exact ⟨rfl, by rw [e1]⟩
        · have zvk : (vk == 0) = false := by simpa using hvk
          have yvk : (vk != 0) = true := by simpa using hvk
          have e1 : B4 = true := by rw [← H4.out]; exact decide_eq_true (.inr ⟨rfl, hvk⟩)
          go_wp2_with fail
          go_meet
          case rel => exact ⟨rfl, by rw [e1]⟩
    | false =>
      by_cases hname : name = []
      · have zname : (strOf name).toList.isEmpty = true := by rw [strOf_list, hname]; rfl
        have Zname := hid hname
        clear hname
        cases mV with
        | true =>
          have e1 : B4 = false := by rw [← H4.out]; exact decide_eq_false (by rintro (⟨h, h'⟩ | ⟨h, h'⟩) <;> first | omega | (exact absurd h (by decide)) | (exact h' Za.out) | (exact h' Zb.out) | (exact h' Zname.out) | (exact h' Zvk.out))
          go_wp2_with fail
          go_meet
          case rel => exact ⟨rfl, by rw [e1]⟩
        | false =>
          by_cases hvk : vk = 0
          · have zvk : (vk == 0) = true := by simpa using hvk
            have yvk : (vk != 0) = false := by simpa using hvk
            have Zvk := hid hvk
            clear hvk
            have e1 : B4 = false := by rw [← H4.out]; exact decide_eq_false (by rintro (⟨h, h'⟩ | ⟨h, h'⟩) <;> first | omega | (exact absurd h (by decide)) | (exact h' Za.out) | (exact h' Zb.out) | (exact h' Zname.out) | (exact h' Zvk.out))
            go_wp2_with fail
            go_meet
            case rel => exact ⟨rfl, by rw [e1]⟩
          · have zvk : (vk == 0) = false := by simpa using hvk
            have yvk : (vk != 0) = true := by simpa using hvk
            have e1 : B4 = true := by rw [← H4.out]; exact decide_eq_true (.inr ⟨rfl, hvk⟩)
            go_wp2_with fail
            go_meet
            case rel => exact ⟨rfl, by rw [e1]⟩
      · have zname : (strOf name).toList.isEmpty = false := by rw [strOf_list]; simpa using hname
        have e1 : B4 = true := by rw [← H4.out]; exact decide_eq_true (.inl ⟨rfl, hname⟩)
        go_wp2_with fail
        go_meet
        case rel => exact ⟨rfl, by rw [e1]⟩
  case rest =>
  obtain ⟨rfl, rfl⟩ := hcut
  cases B4 with
  | true =>
    have hF : Hid ((⟨id, tm, k, a, b, name, text, v⟩ : EM).cchk = 8) := hid (by rw [HC3.out]; simp)
    go_wp2_with fail
    go_ret
    rw [hF.out]; exact ⟨rfl, HOB.out⟩
  | false =>
    have hF : Hid ((⟨id, tm, k, a, b, name, text, v⟩ : EM).cchk = v.chk) := hid (by rw [HC3.out]; simp)
    have HVC := hid (vcheck_c (HV.out.same HOB.out) (fun i hi => by have := HG.out i hi; have := HOB.out.size; omega) Hgv.out)
    go_wp2_with fail
    refine HVC.out.mono ?_
    rintro x w2 ⟨rfl, ho2⟩
    have HO2 := hid ho2
    clear ho2
    go_wp2_with fail
    go_ret
    rw [hF.out]; exact ⟨rfl, HOB.out.trans HO2.out (fun _ _ e => e)⟩
end
end Go.Proofs.YtfmdngeooelcpaaGreat
