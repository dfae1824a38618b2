/- How an event lies in memory; has, Closes, Outside, Check. -/
import Derived.Test.YtdjpapdkbglkmaaGreatDoorEvE
import Derived.Deep.Cut
import Derived.Deep.CutRange
import Derived.Deep.CutBlock
namespace Go.Proofs.YtdjpapdkbglkmaaGreatDoor
open Go.RowKit

/-- The cells of an event, but for its value's. -/
def EM.cells (e : EM) (vc : List Value) : List Value := [.int .i64 e.id, .int .i64 e.tm, .int .i64 e.k, .int .i64 e.a, .int .i64 e.b, .string (strOf e.name), .string (strOf e.text)] ++ vc
/-- Eleven cells read as an event. -/
def EAt (w : World) (G : Nat → Prop) (e : EM) (cs : List Value) : Prop := ∃ vc, cs = e.cells vc ∧ VAt w G e.v vc
section
variable {w w' : World} {G F : Nat → Prop} {e : EM} {cs : List Value}
theorem EAt.only (h : EAt w G e cs) (ho : Only F w w') (hd : ∀ k, G k → ¬ F k) : EAt w' G e cs := let ⟨vc, h1, h2⟩ := h; ⟨vc, h1, h2.only ho hd⟩
theorem EAt.same (h : EAt w G e cs) (ho : Only (fun _ => False) w w') : EAt w' G e cs := h.only ho (fun _ _ e => e)
theorem EAt.mono {G' : Nat → Prop} (h : EAt w G e cs) (hd : ∀ k, G k → G' k) : EAt w G' e cs := let ⟨vc, h1, h2⟩ := h; ⟨vc, h1, h2.mono hd⟩
theorem EAt.form (h : EAt w G e cs) : ∃ k n s a m c, cs = [.int .i64 e.id, .int .i64 e.tm, .int .i64 e.k, .int .i64 e.a, .int .i64 e.b, .string (strOf e.name), .string (strOf e.text), .int .i64 k, .int .i64 n, .string (strOf s), .slice a m c] ∧ VAt w G e.v [.int .i64 k, .int .i64 n, .string (strOf s), .slice a m c] := by
  obtain ⟨vc, h1, h2⟩ := h
  obtain ⟨k, n, s, a, m, c, rfl⟩ := h2.form
  exact ⟨k, n, s, a, m, c, h1, h2⟩
theorem EAt.len (h : EAt w G e cs) : cs.length = 11 := by obtain ⟨k, n, s, a, m, c, rfl, -⟩ := h.form; rfl
theorem EAt.one (h : EAt w G e cs) : ∀ u ∈ cs, u.oneCell' = true := by
  obtain ⟨k, n, s, a, m, c, rfl, -⟩ := h.form
  intro u hu
  simp only [List.mem_cons, List.not_mem_nil, or_false] at hu
  rcases hu with rfl | rfl | rfl | rfl | rfl | rfl | rfl | rfl | rfl | rfl | rfl <;> rfl
/-- The kind of a value stands in its first cell. -/
theorem VAt.k {k n : Int} {s : List UInt8} {a : Option Addr} {m c : Nat} {t : VT} (h : VAt w G t [.int .i64 k, .int .i64 n, .string (strOf s), .slice a m c]) : t.k = k := by
  obtain ⟨k', n', s', l'⟩ := t
  rw [VAt] at h
  obtain ⟨a', cap, g, o, h1, -⟩ := h
  simp at h1
  exact h1.1.symm
set_option maxRecDepth 100000 in
theorem has_c (l : List UInt8) (c : Nat) (bb : Bool) (hb : decide (UInt8.ofNat c ∈ l) = bb) : Calls Tryz.prog 38 #[.string (strOf l), .int .u8 c] w fun e w' => e = .returned (.bool bb) ∧ w = w' := by
  have HI := hid (Tryz.strings_IndexByte (strOf l) c w)
  rw [strOf_data] at HI
  have e1 : (c : Int).toNat.toUInt8 = UInt8.ofNat c := rfl
  rw [e1] at HI
  have hm := indexByte_mem (UInt8.ofNat c) l
  obtain ⟨x, hx⟩ : ∃ x, Lib.indexByte l (UInt8.ofNat c) = x := ⟨_, rfl⟩
  rw [hx] at HI hm
  have hxb : decide (0 ≤ x) = bb := by rw [← hb]; exact decide_eq_decide.2 (by rw [hm])
  clear hx hm hb e1
  have HB := hid hxb
  clear hxb
  go_enter Tryz.func38, Tryz.ntmps38
  go_wp2_with fail
  refine HI.out.mono ?_
  rintro e w1 ⟨rfl, rfl⟩
  go_wp2_with fail
  go_ret
  exact ⟨congrArg (fun q => Ending.returned (.bool q)) HB.out, rfl⟩
set_option maxRecDepth 100000 in
set_option maxHeartbeats 3200000 in
theorem echeck_c (hE : EAt w G e cs) (hG : ∀ k, G k → k < w.heap.size) (hg : e.rg) :
    Calls Tryz.prog 12 #[.agg cs.toArray] w fun x w' => x = .returned (.int .i64 e.chk) ∧ Only (fun _ => False) w w' := by
  obtain ⟨vk, vn, vs, va, vm, vc, rfl, hV⟩ := hE.form
  have hvk := hV.k
  obtain ⟨gid, gtm, gk, ga, gb, gn, gt, gv⟩ := hg
  have HV := hid hV; have HG := hid hG; have Hgv := hid gv
  have HEN := fun w1 => hid (entry_c (w := w1) e.k gk.1 gk.2)
  have HCK : Hid (e.chk = if evName e.k = [] then 9
    else if e.id < 1 ∨ 1048576 < e.id ∨ e.tm < 0 ∨ 4611686018427387903 < e.tm then 1
    else if e.a < 0 ∨ e.b < 0 ∨ (65 ∉ evFlds e.k ∧ e.a ≠ 0) ∨ (66 ∉ evFlds e.k ∧ e.b ≠ 0) then 1
    else if 64 < e.name.length ∨ 128 < e.text.length then 2
    else if (78 ∉ evFlds e.k ∧ e.name ≠ []) ∨ (84 ∉ evFlds e.k ∧ e.text ≠ []) then 8
    else if 86 ∉ evFlds e.k ∧ vk ≠ 0 then 8
    else e.v.chk) := hid (by unfold EM.chk; rw [hvk])
  obtain ⟨nm, hnm⟩ : ∃ x, evName e.k = x := ⟨_, rfl⟩
  obtain ⟨fl, hfl⟩ : ∃ x, evFlds e.k = x := ⟨_, rfl⟩
  rw [hnm, hfl] at HCK
  simp only [hnm, hfl] at HEN
  clear hE hV hvk hG gv hnm hfl gk
  obtain ⟨id, tm, k, a, b, name, text, v⟩ := e
  simp only at HCK HEN gid gtm ga gb gn gt HV Hgv ⊢
  have hsn : (strOf name).size = name.length := rfl
  have hst : (strOf text).size = text.length := rfl
  go_enter Tryz.func12, Tryz.ntmps12
  go_wp2_with fail
  refine (HEN _).out.mono ?_
  rintro x w1 ⟨rfl, n, rfl⟩
  clear HEN
  obtain ⟨wb, hwb⟩ : ∃ wb, ((w.alloc (.cells #[.int .i64 id, .int .i64 tm, .int .i64 k, .int .i64 a, .int .i64 b, .string (strOf name), .string (strOf text), .int .i64 vk, .int .i64 vn, .string (strOf vs), .slice va vm vc] 26)).drewN n) = wb := ⟨_, rfl⟩
  have hob : Only (fun _ => False) w wb := by rw [← hwb]; exact (only_new w _).trans (only_drewN _ n) (fun _ _ e => e)
  have hbb : wb.heap[w.heap.size]? = some (.cells #[.int .i64 id, .int .i64 tm, .int .i64 k, .int .i64 a, .int .i64 b, .string (strOf name), .string (strOf text), .int .i64 vk, .int .i64 vn, .string (strOf vs), .slice va vm vc] 26 (0, 0)) := by rw [← hwb]; exact blk_new w _
  rw [hwb]
  have b0 : wb.cell? ⟨w.heap.size, 0, none⟩ = some (.int .i64 id) := cell_blk hbb 0
  have b1 : wb.cell? ⟨w.heap.size, 1, none⟩ = some (.int .i64 tm) := cell_blk hbb 1
  have b3 : wb.cell? ⟨w.heap.size, 3, none⟩ = some (.int .i64 a) := cell_blk hbb 3
  have b4 : wb.cell? ⟨w.heap.size, 4, none⟩ = some (.int .i64 b) := cell_blk hbb 4
  have b5 : wb.cell? ⟨w.heap.size, 5, none⟩ = some (.string (strOf name)) := cell_blk hbb 5
  have b6 : wb.cell? ⟨w.heap.size, 6, none⟩ = some (.string (strOf text)) := cell_blk hbb 6
  have b7 : wb.cell? ⟨w.heap.size, 7, none⟩ = some (.int .i64 vk) := cell_blk hbb 7
  have b8 : wb.cell? ⟨w.heap.size, 8, none⟩ = some (.int .i64 vn) := cell_blk hbb 8
  have b9 : wb.cell? ⟨w.heap.size, 9, none⟩ = some (.string (strOf vs)) := cell_blk hbb 9
  have b10 : wb.cell? ⟨w.heap.size, 10, none⟩ = some (.slice va vm vc) := cell_blk hbb 10
  have HOB := hid hob
  clear hob hbb hwb
  by_cases hn0 : nm = []
  · have hF : Hid ((⟨id, tm, k, a, b, name, text, v⟩ : EM).chk = 9) := hid (by rw [HCK.out, if_pos hn0])
    subst hn0
    have hem : (strOf []).toList.isEmpty = true := by rw [strOf_list]; rfl
    go_wp2_with fail
    go_ret
    rw [hF.out]; exact ⟨rfl, HOB.out⟩
  have hne : (strOf nm).toList.isEmpty = false := by rw [strOf_list]; simpa using hn0
  obtain ⟨B1, hB1⟩ : ∃ B : Bool, decide (id < 1 ∨ 1048576 < id ∨ tm < 0 ∨ 4611686018427387903 < tm) = B := ⟨_, rfl⟩
  obtain ⟨B2, hB2⟩ : ∃ B : Bool, decide (a < 0 ∨ b < 0 ∨ (65 ∉ fl ∧ a ≠ 0) ∨ (66 ∉ fl ∧ b ≠ 0)) = B := ⟨_, rfl⟩
  obtain ⟨B3, hB3⟩ : ∃ B : Bool, decide (64 < name.length ∨ 128 < text.length) = B := ⟨_, rfl⟩
  obtain ⟨B4, hB4⟩ : ∃ B : Bool, decide ((78 ∉ fl ∧ name ≠ []) ∨ (84 ∉ fl ∧ text ≠ [])) = B := ⟨_, rfl⟩
  obtain ⟨B5, hB5⟩ : ∃ B : Bool, decide (86 ∉ fl ∧ vk ≠ 0) = B := ⟨_, rfl⟩
  have HC2 : Hid ((⟨id, tm, k, a, b, name, text, v⟩ : EM).chk = if B1 then 1 else if B2 then 1 else if B3 then 2 else if B4 then 8 else if B5 then 8 else v.chk) := hid (by
    rw [HCK.out, if_neg hn0, ← hB1, ← hB2, ← hB3, ← hB4, ← hB5]; simp only [decide_eq_true_eq])
  have H1 := hid hB1; have H2 := hid hB2; have H3 := hid hB3; have H4 := hid hB4; have H5 := hid hB5
  clear HCK hB1 hB2 hB3 hB4 hB5 hn0
  go_upto_region 4 with fail
  go_cut [14] from 14 to 32 (fun x wx => wb = wx ∧ x = .bool B1)
  case first =>
    by_cases h1 : id < 1
    · skip
      have e1 : B1 = true := by rw [← H1.out]; simp; omega
      go_wp2_with fail
      go_meet
      case rel => exact ⟨rfl, by rw [e1]⟩
    · skip
      by_cases h2 : 1048576 < id
      · skip
        have e1 : B1 = true := by rw [← H1.out]; simp; omega
        go_wp2_with fail
        go_meet
        case rel => exact ⟨rfl, by rw [e1]⟩
      · skip
        by_cases h3 : tm < 0
        · skip
          have e1 : B1 = true := by rw [← H1.out]; simp; omega
          go_wp2_with fail
          go_meet
          case rel => exact ⟨rfl, by rw [e1]⟩
        · skip
          by_cases h4 : 4611686018427387903 < tm
          · skip
            have e1 : B1 = true := by rw [← H1.out]; simp; omega
            go_wp2_with fail
            go_meet
            case rel => exact ⟨rfl, by rw [e1]⟩
          · skip
            have e1 : B1 = false := by rw [← H1.out]; simp; omega
            go_wp2_with fail
            go_meet
            case rel => exact ⟨rfl, by rw [e1]⟩
  case rest =>
  obtain ⟨rfl, rfl⟩ := hcut
  cases B1 with
  | true =>
    have hF : Hid ((⟨id, tm, k, a, b, name, text, v⟩ : EM).chk = 1) := hid (by rw [HC2.out]; simp)
    go_wp2_with fail
    go_ret
    rw [hF.out]; exact ⟨rfl, HOB.out⟩
  | false =>
  obtain ⟨mA, hmA⟩ : ∃ m : Bool, decide (UInt8.ofNat 65 ∈ fl) = m := ⟨_, rfl⟩
  obtain ⟨mB, hmB⟩ : ∃ m : Bool, decide (UInt8.ofNat 66 ∈ fl) = m := ⟨_, rfl⟩
  obtain ⟨mN, hmN⟩ : ∃ m : Bool, decide (UInt8.ofNat 78 ∈ fl) = m := ⟨_, rfl⟩
  obtain ⟨mT, hmT⟩ : ∃ m : Bool, decide (UInt8.ofNat 84 ∈ fl) = m := ⟨_, rfl⟩
  obtain ⟨mV, hmV⟩ : ∃ m : Bool, decide (UInt8.ofNat 86 ∈ fl) = m := ⟨_, rfl⟩
  have M65 := hid hmA; have M66 := hid hmB; have M78 := hid hmN; have M84 := hid hmT; have M86 := hid hmV
  have K65 : Hid (Calls Tryz.prog 38 #[.string (strOf fl), .int .u8 65] wb fun e w' => e = .returned (.bool mA) ∧ wb = w') := hid (has_c fl 65 mA hmA)
  have K66 : Hid (Calls Tryz.prog 38 #[.string (strOf fl), .int .u8 66] wb fun e w' => e = .returned (.bool mB) ∧ wb = w') := hid (has_c fl 66 mB hmB)
  have K78 : Hid (Calls Tryz.prog 38 #[.string (strOf fl), .int .u8 78] wb fun e w' => e = .returned (.bool mN) ∧ wb = w') := hid (has_c fl 78 mN hmN)
  have K84 : Hid (Calls Tryz.prog 38 #[.string (strOf fl), .int .u8 84] wb fun e w' => e = .returned (.bool mT) ∧ wb = w') := hid (has_c fl 84 mT hmT)
  have K86 : Hid (Calls Tryz.prog 38 #[.string (strOf fl), .int .u8 86] wb fun e w' => e = .returned (.bool mV) ∧ wb = w') := hid (has_c fl 86 mV hmV)
  clear hmA hmB hmN hmT hmV
  go_upto_region 6 with fail
  go_cut [33] from 33 to 61 (fun x wx => wb = wx ∧ x = .bool B2)
  case first =>
    by_cases h1 : a < 0
    · skip
      have e1 : B2 = true := by rw [← H2.out]; exact decide_eq_true (.inl h1)
      go_wp2_with fail
      go_meet
      case rel => exact ⟨rfl, by rw [e1]⟩
    · by_cases h2 : b < 0
      · skip
        have e1 : B2 = true := by rw [← H2.out]; exact decide_eq_true (.inr (.inl h2))
        go_wp2_with fail
        go_meet
        case rel => exact ⟨rfl, by rw [e1]⟩
      · skip
        cases mA with
        | true =>
          have p65 : (65 : UInt8) ∈ fl := by simpa using M65.out
          cases mB with
          | true =>
            have p66 : (66 : UInt8) ∈ fl := by simpa using M66.out
            have e1 : B2 = false := by rw [← H2.out]; exact decide_eq_false (by rintro (h | h | ⟨h, h'⟩ | ⟨h, h'⟩) <;> first | omega | (exact absurd ‹_› h) | (exact h' Za.out) | (exact h' Zb.out) | (exact h' Zname.out) | (exact h' Ztext.out))
            go_wp2_with (first | (go_at_call 38; (with_reducible refine K65.out.mono ?_); rintro x w2 ⟨rfl, rfl⟩) | (go_at_call 38; (with_reducible refine K66.out.mono ?_); rintro x w2 ⟨rfl, rfl⟩))
            go_meet
            case rel => exact ⟨rfl, by rw [e1]⟩
          | false =>
            have p66 : (66 : UInt8) ∉ fl := by simpa using M66.out
            by_cases hb : b = 0
            · have zb : (b == 0) = true := by simpa using hb
              have yb : (b != 0) = false := by simpa using hb
              have Zb := hid hb
              clear hb
              have e1 : B2 = false := by rw [← H2.out]; exact decide_eq_false (by rintro (h | h | ⟨h, h'⟩ | ⟨h, h'⟩) <;> first | omega | (exact absurd ‹_› h) | (exact h' Za.out) | (exact h' Zb.out) | (exact h' Zname.out) | (exact h' Ztext.out))
              go_wp2_with (first | (go_at_call 38; (with_reducible refine K65.out.mono ?_); rintro x w2 ⟨rfl, rfl⟩) | (go_at_call 38; (with_reducible refine K66.out.mono ?_); rintro x w2 ⟨rfl, rfl⟩))
              go_meet
              case rel => exact ⟨rfl, by rw [e1]⟩
            · have zb : (b == 0) = false := by simpa using hb
              have yb : (b != 0) = true := by simpa using hb
              have e1 : B2 = true := by rw [← H2.out]; exact decide_eq_true (.inr (.inr (.inr ⟨p66, hb⟩)))
              go_wp2_with (first | (go_at_call 38; (with_reducible refine K65.out.mono ?_); rintro x w2 ⟨rfl, rfl⟩) | (go_at_call 38; (with_reducible refine K66.out.mono ?_); rintro x w2 ⟨rfl, rfl⟩))
              go_meet
              case rel => exact ⟨rfl, by rw [e1]⟩
        | false =>
          have p65 : (65 : UInt8) ∉ fl := by simpa using M65.out
          by_cases ha : a = 0
          · have za : (a == 0) = true := by simpa using ha
            have ya : (a != 0) = false := by simpa using ha
            have Za := hid ha
            clear ha
            cases mB with
            | true =>
              have p66 : (66 : UInt8) ∈ fl := by simpa using M66.out
              have e1 : B2 = false := by rw [← H2.out]; exact decide_eq_false (by rintro (h | h | ⟨h, h'⟩ | ⟨h, h'⟩) <;> first | omega | (exact absurd ‹_› h) | (exact h' Za.out) | (exact h' Zb.out) | (exact h' Zname.out) | (exact h' Ztext.out))
              go_wp2_with (first | (go_at_call 38; (with_reducible refine K65.out.mono ?_); rintro x w2 ⟨rfl, rfl⟩) | (go_at_call 38; (with_reducible refine K66.out.mono ?_); rintro x w2 ⟨rfl, rfl⟩))
              go_meet
              case rel => exact ⟨rfl, by rw [e1]⟩
            | false =>
              have p66 : (66 : UInt8) ∉ fl := by simpa using M66.out
              by_cases hb : b = 0
              · have zb : (b == 0) = true := by simpa using hb
                have yb : (b != 0) = false := by simpa using hb
                have Zb := hid hb
                clear hb
                have e1 : B2 = false := by rw [← H2.out]; exact decide_eq_false (by rintro (h | h | ⟨h, h'⟩ | ⟨h, h'⟩) <;> first | omega | (exact absurd ‹_› h) | (exact h' Za.out) | (exact h' Zb.out) | (exact h' Zname.out) | (exact h' Ztext.out))
                go_wp2_with (first | (go_at_call 38; (with_reducible refine K65.out.mono ?_); rintro x w2 ⟨rfl, rfl⟩) | (go_at_call 38; (with_reducible refine K66.out.mono ?_); rintro x w2 ⟨rfl, rfl⟩))
                go_meet
                case rel => exact ⟨rfl, by rw [e1]⟩
              · have zb : (b == 0) = false := by simpa using hb
                have yb : (b != 0) = true := by simpa using hb
                have e1 : B2 = true := by rw [← H2.out]; exact decide_eq_true (.inr (.inr (.inr ⟨p66, hb⟩)))
                go_wp2_with (first | (go_at_call 38; (with_reducible refine K65.out.mono ?_); rintro x w2 ⟨rfl, rfl⟩) | (go_at_call 38; (with_reducible refine K66.out.mono ?_); rintro x w2 ⟨rfl, rfl⟩))
                go_meet
                case rel => exact ⟨rfl, by rw [e1]⟩
          · have za : (a == 0) = false := by simpa using ha
            have ya : (a != 0) = true := by simpa using ha
            have e1 : B2 = true := by rw [← H2.out]; exact decide_eq_true (.inr (.inr (.inl ⟨p65, ha⟩)))
            go_wp2_with (first | (go_at_call 38; (with_reducible refine K65.out.mono ?_); rintro x w2 ⟨rfl, rfl⟩) | (go_at_call 38; (with_reducible refine K66.out.mono ?_); rintro x w2 ⟨rfl, rfl⟩))
            go_meet
            case rel => exact ⟨rfl, by rw [e1]⟩
  case rest =>
  obtain ⟨rfl, rfl⟩ := hcut
  cases B2 with
  | true =>
    have hF : Hid ((⟨id, tm, k, a, b, name, text, v⟩ : EM).chk = 1) := hid (by rw [HC2.out]; simp)
    go_wp2_with fail
    go_ret
    rw [hF.out]; exact ⟨rfl, HOB.out⟩
  | false =>
  go_upto_region 8 with fail
  go_cut [62] from 62 to 72 (fun x wx => wb = wx ∧ x = .bool B3)
  case first =>
    by_cases h1 : 64 < (name.length : Int)
    · skip
      have e1 : B3 = true := by rw [← H3.out]; simp; omega
      go_wp2_with fail
      go_meet
      case rel => exact ⟨rfl, by rw [e1]⟩
    · skip
      by_cases h2 : 128 < (text.length : Int)
      · skip
        have e1 : B3 = true := by rw [← H3.out]; simp; omega
        go_wp2_with fail
        go_meet
        case rel => exact ⟨rfl, by rw [e1]⟩
      · skip
        have e1 : B3 = false := by rw [← H3.out]; simp; omega
        go_wp2_with fail
        go_meet
        case rel => exact ⟨rfl, by rw [e1]⟩
  case rest =>
  obtain ⟨rfl, rfl⟩ := hcut
  cases B3 with
  | true =>
    have hF : Hid ((⟨id, tm, k, a, b, name, text, v⟩ : EM).chk = 2) := hid (by rw [HC2.out]; simp)
    go_wp2_with fail
    go_ret
    rw [hF.out]; exact ⟨rfl, HOB.out⟩
  | false =>
  go_upto_region 10 with fail
  go_cut [73] from 73 to 91 (fun x wx => wb = wx ∧ x = .bool B4)
  case first =>
    cases mN with
    | true =>
      have p78 : (78 : UInt8) ∈ fl := by simpa using M78.out
      cases mT with
      | true =>
        have p84 : (84 : UInt8) ∈ fl := by simpa using M84.out
        have e1 : B4 = false := by rw [← H4.out]; exact decide_eq_false (by rintro (⟨h, h'⟩ | ⟨h, h'⟩) <;> first | (exact absurd ‹_› h) | (exact h' Za.out) | (exact h' Zb.out) | (exact h' Zname.out) | (exact h' Ztext.out))
        go_wp2_with (first | (go_at_call 38; (with_reducible refine K78.out.mono ?_); rintro x w2 ⟨rfl, rfl⟩) | (go_at_call 38; (with_reducible refine K84.out.mono ?_); rintro x w2 ⟨rfl, rfl⟩))
        go_meet
        case rel => exact ⟨rfl, by rw [e1]⟩
      | false =>
        have p84 : (84 : UInt8) ∉ fl := by simpa using M84.out
        by_cases htext : text = []
        · have ztext : (strOf text).toList.isEmpty = true := by rw [strOf_list, htext]; rfl
          have Ztext := hid htext
          clear htext
          have e1 : B4 = false := by rw [← H4.out]; exact decide_eq_false (by rintro (⟨h, h'⟩ | ⟨h, h'⟩) <;> first | (exact absurd ‹_› h) | (exact h' Za.out) | (exact h' Zb.out) | (exact h' Zname.out) | (exact h' Ztext.out))
          go_wp2_with (first | (go_at_call 38; (with_reducible refine K78.out.mono ?_); rintro x w2 ⟨rfl, rfl⟩) | (go_at_call 38; (with_reducible refine K84.out.mono ?_); rintro x w2 ⟨rfl, rfl⟩))
          go_meet
          case rel => exact ⟨rfl, by rw [e1]⟩
        · have ztext : (strOf text).toList.isEmpty = false := by rw [strOf_list]; simpa using htext
          have e1 : B4 = true := by rw [← H4.out]; exact decide_eq_true (.inr ⟨p84, htext⟩)
          go_wp2_with (first | (go_at_call 38; (with_reducible refine K78.out.mono ?_); rintro x w2 ⟨rfl, rfl⟩) | (go_at_call 38; (with_reducible refine K84.out.mono ?_); rintro x w2 ⟨rfl, rfl⟩))
          go_meet
          case rel => exact ⟨rfl, by rw [e1]⟩
    | false =>
      have p78 : (78 : UInt8) ∉ fl := by simpa using M78.out
      by_cases hname : name = []
      · have zname : (strOf name).toList.isEmpty = true := by rw [strOf_list, hname]; rfl
        have Zname := hid hname
        clear hname
        cases mT with
        | true =>
          have p84 : (84 : UInt8) ∈ fl := by simpa using M84.out
          have e1 : B4 = false := by rw [← H4.out]; exact decide_eq_false (by rintro (⟨h, h'⟩ | ⟨h, h'⟩) <;> first | (exact absurd ‹_› h) | (exact h' Za.out) | (exact h' Zb.out) | (exact h' Zname.out) | (exact h' Ztext.out))
          go_wp2_with (first | (go_at_call 38; (with_reducible refine K78.out.mono ?_); rintro x w2 ⟨rfl, rfl⟩) | (go_at_call 38; (with_reducible refine K84.out.mono ?_); rintro x w2 ⟨rfl, rfl⟩))
          go_meet
          case rel => exact ⟨rfl, by rw [e1]⟩
        | false =>
          have p84 : (84 : UInt8) ∉ fl := by simpa using M84.out
          by_cases htext : text = []
          · have ztext : (strOf text).toList.isEmpty = true := by rw [strOf_list, htext]; rfl
            have Ztext := hid htext
            clear htext
            have e1 : B4 = false := by rw [← H4.out]; exact decide_eq_false (by rintro (⟨h, h'⟩ | ⟨h, h'⟩) <;> first | (exact absurd ‹_› h) | (exact h' Za.out) | (exact h' Zb.out) | (exact h' Zname.out) | (exact h' Ztext.out))
            go_wp2_with (first | (go_at_call 38; (with_reducible refine K78.out.mono ?_); rintro x w2 ⟨rfl, rfl⟩) | (go_at_call 38; (with_reducible refine K84.out.mono ?_); rintro x w2 ⟨rfl, rfl⟩))
            go_meet
            case rel => exact ⟨rfl, by rw [e1]⟩
          · have ztext : (strOf text).toList.isEmpty = false := by rw [strOf_list]; simpa using htext
            have e1 : B4 = true := by rw [← H4.out]; exact decide_eq_true (.inr ⟨p84, htext⟩)
            go_wp2_with (first | (go_at_call 38; (with_reducible refine K78.out.mono ?_); rintro x w2 ⟨rfl, rfl⟩) | (go_at_call 38; (with_reducible refine K84.out.mono ?_); rintro x w2 ⟨rfl, rfl⟩))
            go_meet
            case rel => exact ⟨rfl, by rw [e1]⟩
      · have zname : (strOf name).toList.isEmpty = false := by rw [strOf_list]; simpa using hname
        have e1 : B4 = true := by rw [← H4.out]; exact decide_eq_true (.inl ⟨p78, hname⟩)
        go_wp2_with (first | (go_at_call 38; (with_reducible refine K78.out.mono ?_); rintro x w2 ⟨rfl, rfl⟩) | (go_at_call 38; (with_reducible refine K84.out.mono ?_); rintro x w2 ⟨rfl, rfl⟩))
        go_meet
        case rel => exact ⟨rfl, by rw [e1]⟩
  case rest =>
  obtain ⟨rfl, rfl⟩ := hcut
  cases B4 with
  | true =>
    have hF : Hid ((⟨id, tm, k, a, b, name, text, v⟩ : EM).chk = 8) := hid (by rw [HC2.out]; simp)
    go_wp2_with fail
    go_ret
    rw [hF.out]; exact ⟨rfl, HOB.out⟩
  | false =>
  go_upto_region 12 with fail
  go_cut [92] from 92 to 101 (fun x wx => wb = wx ∧ x = .bool B5)
  case first =>
    cases mV with
    | true =>
      have p86 : (86 : UInt8) ∈ fl := by simpa using M86.out
      have e1 : B5 = false := by rw [← H5.out]; exact decide_eq_false (fun h => h.1 p86)
      go_wp2_with (first | (go_at_call 38; (with_reducible refine K86.out.mono ?_); rintro x w2 ⟨rfl, rfl⟩))
      go_meet
      case rel => exact ⟨rfl, by rw [e1]⟩
    | false =>
      have p86 : (86 : UInt8) ∉ fl := by simpa using M86.out
      by_cases hvk : vk = 0
      · have zvk : (vk == 0) = true := by simpa using hvk
        have yvk : (vk != 0) = false := by simpa using hvk
        have Zvk := hid hvk
        clear hvk
        have e1 : B5 = false := by rw [← H5.out]; exact decide_eq_false (fun h => h.2 Zvk.out)
        go_wp2_with (first | (go_at_call 38; (with_reducible refine K86.out.mono ?_); rintro x w2 ⟨rfl, rfl⟩))
        go_meet
        case rel => exact ⟨rfl, by rw [e1]⟩
      · have zvk : (vk == 0) = false := by simpa using hvk
        have yvk : (vk != 0) = true := by simpa using hvk
        have e1 : B5 = true := by rw [← H5.out]; exact decide_eq_true ⟨p86, hvk⟩
        go_wp2_with (first | (go_at_call 38; (with_reducible refine K86.out.mono ?_); rintro x w2 ⟨rfl, rfl⟩))
        go_meet
        case rel => exact ⟨rfl, by rw [e1]⟩
  case rest =>
  obtain ⟨rfl, rfl⟩ := hcut
  cases B5 with
  | true =>
    have hF : Hid ((⟨id, tm, k, a, b, name, text, v⟩ : EM).chk = 8) := hid (by rw [HC2.out]; simp)
    go_wp2_with fail
    go_ret
    rw [hF.out]; exact ⟨rfl, HOB.out⟩
  | false =>
    have hF : Hid ((⟨id, tm, k, a, b, name, text, v⟩ : EM).chk = v.chk) := hid (by rw [HC2.out]; simp)
    have HVC := hid (vcheck_c (HV.out.same HOB.out) (fun i hi => by have := HG.out i hi; have := HOB.out.size; omega) Hgv.out)
    go_wp2_with fail
    refine HVC.out.mono ?_
    rintro x w2 ⟨rfl, ho2⟩
    have HO2 := hid ho2
    clear ho2
    go_wp2_with fail
    go_ret
    rw [hF.out]; exact ⟨rfl, HOB.out.trans HO2.out (fun _ _ e => e)⟩
end
end Go.Proofs.YtdjpapdkbglkmaaGreatDoor
