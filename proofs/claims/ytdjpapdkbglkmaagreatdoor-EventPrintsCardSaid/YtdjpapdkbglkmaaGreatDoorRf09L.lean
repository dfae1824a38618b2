/- foliotref09.Line. -/
import Derived.Test.YtdjpapdkbglkmaaGreatDoorRf09B
import Derived.Test.YtdjpapdkbglkmaaGreatDoorRefN
import Derived.Test.YtdjpapdkbglkmaaGreatDoorEvP
import Derived.Test.YtdjpapdkbglkmaaGreatDoorRf03P
namespace Go.Proofs.YtdjpapdkbglkmaaGreatDoor
open Go.RowKit
section
variable {w : World} {G : Nat → Prop}
set_option maxRecDepth 100000 in
set_option maxHeartbeats 3200000 in
theorem r9line_c {e : EM} {cs : List Value} (hE : EAt w G e cs) (hg : e.rg) (hn : e.name.length ≤ 1000) (ht : e.text.length ≤ 1000) (hv : e.v.pr.length ≤ 1000000) : Calls Tryz.prog 18 #[.agg cs.toArray] w fun x w' => x = .returned (.string (strOf e.pr)) ∧ Only (fun _ => False) w w' := by
  obtain ⟨vk, vn, vs, va, vm, vc, rfl, hV⟩ := hE.form
  obtain ⟨gid, gtm, gk, ga, gb, gn, gt, gv⟩ := hg
  have HV := hid hV; have Hgv := hid gv
  have hpr : e.pr = Lib.itoa e.id ++ ([32, 64] ++ (Lib.itoa e.tm ++ ([32] ++ (evName e.k ++ (evFlds e.k).flatMap e.ft)))) := rfl
  rw [flds_split] at hpr
  have hftl := ftF_len e hn ht hv ga gb
  have hnl : (evName e.k).length ≤ 100 := evName_len e.k
  have HA := fun wc => hid (rA_c (w := wc) e.k)
  have HB := fun wc => hid (rB_c (w := wc) e.k)
  have HN := fun wc => hid (rN_c (w := wc) e.k)
  have HT := fun wc => hid (rT_c (w := wc) e.k)
  have HVV := fun wc => hid (rV_c (w := wc) e.k)
  have HNM := fun wc => hid (refname_c (w := wc) e.k)
  obtain ⟨mA, hmA⟩ : ∃ m : Bool, decide (65 ∈ evFlds e.k) = m := ⟨_, rfl⟩
  obtain ⟨mB, hmB⟩ : ∃ m : Bool, decide (66 ∈ evFlds e.k) = m := ⟨_, rfl⟩
  obtain ⟨mN, hmN⟩ : ∃ m : Bool, decide (78 ∈ evFlds e.k) = m := ⟨_, rfl⟩
  obtain ⟨mT, hmT⟩ : ∃ m : Bool, decide (84 ∈ evFlds e.k) = m := ⟨_, rfl⟩
  obtain ⟨mV, hmV⟩ : ∃ m : Bool, decide (86 ∈ evFlds e.k) = m := ⟨_, rfl⟩
  rw [hmA, hmB, hmN, hmT, hmV] at hpr
  simp only [hmA] at HA
  simp only [hmB] at HB
  simp only [hmN] at HN
  simp only [hmT] at HT
  simp only [hmV] at HVV
  have hil := itoa_len e.id gid.1 gid.2
  have htl := itoa_len e.tm gtm.1 gtm.2
  have hfA : e.ft 65 = 32 :: Lib.itoa e.a := by simp [EM.ft]
  have hfB : e.ft 66 = 32 :: Lib.itoa e.b := by simp [EM.ft]
  have hfN : e.ft 78 = 32 :: quo e.name := by simp [EM.ft]
  have hfT : e.ft 84 = 32 :: quo e.text := by simp [EM.ft]
  have hfV : e.ft 86 = 32 :: e.v.pr := by simp [EM.ft]
  have lA := hftl 65
  have lB := hftl 66
  have lN := hftl 78
  have lT := hftl 84
  have lV := hftl 86
  rw [hfA] at lA hpr
  rw [hfB] at lB hpr
  rw [hfN] at lN hpr
  rw [hfT] at lT hpr
  rw [hfV] at lV hpr
  have HNI := fun wc => hid (number_c (w := wc) e.id gid.1 gid.2)
  have HNT := fun wc => hid (number_c (w := wc) e.tm gtm.1 gtm.2)
  have HNA := fun wc => hid (number_c (w := wc) e.a ga.1 ga.2)
  have HNB := fun wc => hid (number_c (w := wc) e.b gb.1 gb.2)
  have HTN := fun wc => hid (rquote_c (w := wc) e.name (by omega))
  have HTT := fun wc => hid (rquote_c (w := wc) e.text (by omega))
  obtain ⟨epr, hepr⟩ : ∃ x, e.pr = x := ⟨_, rfl⟩
  rw [hepr] at hpr ⊢
  obtain ⟨id, tm, k, a, b', name, text, v⟩ := e
  simp only at hpr HA HB HN HT HVV HNM HNI HNT HNA HNB HTN HTT HV Hgv hil htl hnl lA lB lN lT lV hv ⊢
  obtain ⟨zi, hzi⟩ : ∃ x, Lib.itoa id = x := ⟨_, rfl⟩
  obtain ⟨zt, hzt⟩ : ∃ x, Lib.itoa tm = x := ⟨_, rfl⟩
  obtain ⟨za, hza⟩ : ∃ x, Lib.itoa a = x := ⟨_, rfl⟩
  obtain ⟨zb, hzb⟩ : ∃ x, Lib.itoa b' = x := ⟨_, rfl⟩
  obtain ⟨zn, hzn⟩ : ∃ x, quo name = x := ⟨_, rfl⟩
  obtain ⟨zx, hzx⟩ : ∃ x, quo text = x := ⟨_, rfl⟩
  obtain ⟨zv, hzv⟩ : ∃ x, v.pr = x := ⟨_, rfl⟩
  obtain ⟨nm, hnm⟩ : ∃ x, evName k = x := ⟨_, rfl⟩
  rw [hzi] at hpr hil
  rw [hzt] at hpr htl
  rw [hza] at hpr lA
  rw [hzb] at hpr lB
  rw [hzn] at hpr lN
  rw [hzx] at hpr lT
  rw [hzv] at hpr lV hv
  rw [hnm] at hpr hnl
  simp only [hzi] at HNI
  simp only [hzt] at HNT
  simp only [hza] at HNA
  simp only [hzb] at HNB
  simp only [hzn] at HTN
  simp only [hzx] at HTT
  simp only [hnm] at HNM
  have HZV := hid hzv
  obtain ⟨p1, hp1⟩ : ∃ x, zi ++ [32, 64] = x := ⟨_, rfl⟩
  obtain ⟨p2, hp2⟩ : ∃ x, p1 ++ zt = x := ⟨_, rfl⟩
  obtain ⟨p3, hp3⟩ : ∃ x, p2 ++ [32] = x := ⟨_, rfl⟩
  obtain ⟨p4, hp4⟩ : ∃ x, p3 ++ nm = x := ⟨_, rfl⟩
  have l1 : p1.length ≤ 40 := by rw [← hp1, List.length_append]; simp only [List.length_cons, List.length_nil]; omega
  have l2 : p2.length ≤ 80 := by rw [← hp2, List.length_append]; omega
  have l3 : p3.length ≤ 81 := by rw [← hp3, List.length_append]; simp only [List.length_cons, List.length_nil]; omega
  have l4 : p4.length ≤ 181 := by rw [← hp4, List.length_append]; omega
  have cc1 : strOf zi ++ (⟨#[32, 64]⟩ : ByteArray) = strOf p1 := by rw [← hp1]; exact strOf_app _ [32, 64]
  have cc2 : strOf p1 ++ strOf zt = strOf p2 := by rw [← hp2]; exact strOf_app _ _
  have cc3 : strOf p2 ++ (⟨#[32]⟩ : ByteArray) = strOf p3 := by rw [← hp3]; exact strOf_app _ [32]
  have cc4 : strOf p3 ++ strOf nm = strOf p4 := by rw [← hp4]; exact strOf_app _ _
  have hs0 : ∀ l : List UInt8, (strOf l).size = l.length := fun l => rfl
  have z1 : ¬ 9223372036854775807 < (strOf zi).size + 2 := by rw [hs0]; omega
  have z2 : ¬ 9223372036854775807 < (strOf p1).size + (strOf zt).size := by rw [hs0, hs0]; omega
  have z3 : ¬ 9223372036854775807 < (strOf p2).size + 1 := by rw [hs0]; omega
  have z4 : ¬ 9223372036854775807 < (strOf p3).size + (strOf nm).size := by rw [hs0, hs0]; omega
  have HS0 := hid hs0
  simp only [List.length_cons] at lA lB lN lT lV
  have HWR : Hid (epr = p4 ++ (((((if mA = true then 32 :: za else []) ++ (if mB = true then 32 :: zb else [])) ++ (if mN = true then 32 :: zn else [])) ++ (if mT = true then 32 :: zx else [])) ++ (if mV = true then 32 :: zv else []))) := hid (by rw [hpr, ← hp4, ← hp3, ← hp2, ← hp1]; simp)
  have HBX := hid (blk_new w (.cells #[.int .i64 id, .int .i64 tm, .int .i64 k, .int .i64 a, .int .i64 b', .string (strOf name), .string (strOf text), .int .i64 vk, .int .i64 vn, .string (strOf vs), .slice va vm vc] 26))
  have HO0 := hid (only_new w (.cells #[.int .i64 id, .int .i64 tm, .int .i64 k, .int .i64 a, .int .i64 b', .string (strOf name), .string (strOf text), .int .i64 vk, .int .i64 vn, .string (strOf vs), .slice va vm vc] 26))
  clear hE hV gv hpr hmA hmB hmN hmT hmV hfA hfB hfN hfT hfV hzi hzt hza hzb hzn hzx hzv hp1 hp2 hp3 hp4 hs0 hepr hnm hftl gid gtm gk ga gb gn gt
  obtain ⟨wb, hwb⟩ : ∃ wb, w.alloc (.cells #[.int .i64 id, .int .i64 tm, .int .i64 k, .int .i64 a, .int .i64 b', .string (strOf name), .string (strOf text), .int .i64 vk, .int .i64 vn, .string (strOf vs), .slice va vm vc] 26) = wb := ⟨_, rfl⟩
  rw [hwb] at HBX HO0
  have c0 : wb.cell? ⟨w.heap.size, 0, none⟩ = some (.int .i64 id) := cell_blk HBX.out 0
  have c1 : wb.cell? ⟨w.heap.size, 1, none⟩ = some (.int .i64 tm) := cell_blk HBX.out 1
  have c2 : wb.cell? ⟨w.heap.size, 2, none⟩ = some (.int .i64 k) := cell_blk HBX.out 2
  have hlb := blk_lt HBX.out
  go_enter Tryz.func18, Tryz.ntmps18
  go_upto_region 2 with fail
  clear hwb
  go_cut [4] from 7 to 18 (fun s wx => s = .string (strOf p4) ∧ Only (fun _ => False) wb wx)
  case first =>
   go_region_law (first
    | (refine step_of rfl (wp_callc (o := ⟨some 9, _, _, _, _, _⟩) (f := 52) (args := #[.int .i64 id]) (by kernel_rfl) ?_); refine (HNI _).out.mono ?_; rintro e w2 ⟨rfl, ho2⟩; refine ⟨_, rfl, ?_⟩; have ho2' : Only (fun _ => False) wb w2 := ((Only.refl _ wb).drew).trans ho2 (fun _ _ e => e); have d1 : w2.cell? ⟨w.heap.size, 1, none⟩ = some (.int .i64 tm) := cell_blk (blk_only HBX.out ho2' (fun e => e)) 1; have hlb2 := blk_lt (blk_only HBX.out ho2' (fun e => e)); have HO2 := hid ho2'; clear ho2 ho2')
    | (refine step_of rfl (wp_callc (o := ⟨some 13, _, _, _, _, _⟩) (f := 52) (args := #[.int .i64 tm]) (by kernel_rfl) ?_); refine (HNT _).out.mono ?_; rintro e w3 ⟨rfl, ho3⟩; refine ⟨_, rfl, ?_⟩; have HO3 := hid (HO2.out.trans ho3 (fun _ _ e => e)); clear ho3)
    | (refine step_of rfl (wp_callc (o := ⟨some 17, _, _, _, _, _⟩) (f := 28) (args := #[.int .i64 k]) (by kernel_rfl) ?_); refine (HNM _).out.mono ?_; rintro e w4 ⟨rfl, ho4⟩; refine ⟨_, rfl, ?_⟩; have HO4 := hid (HO3.out.trans ho4 (fun _ _ e => e)); clear ho4))
   all_goals
    go_wp2_with fail
    go_meet
    case rel => exact ⟨rfl, HO4.out⟩
  case rest =>
  obtain ⟨rfl, hoc⟩ := hcut
  have HOC0 := hid hoc
  clear hoc cc1 cc2 cc3 cc4 z1 z2 z3 z4 c0 c1 c2 l1 l2 l3
  go_wp2_with fail
  refine (HA _).out.mono ?_
  rintro x wy ⟨rfl, rfl⟩
  obtain ⟨q0, hq0⟩ : ∃ x, p4 ++ (if mA = true then 32 :: za else []) = x := ⟨_, rfl⟩
  have lq0 : q0.length ≤ 1000191 := by rw [← hq0, List.length_append]; split <;> first | (simp only [List.length_cons]; omega) | (simp only [List.length_nil]; omega)
  go_upto_if 20 with fail
  go_cut [4] from 20 to 26 (fun s wx => s = .string (strOf q0) ∧ Only (fun _ => False) wb wx)
  case first =>
    cases mA with
    | true =>
      have hq : p4 ++ 32 :: za = q0 := by rw [← hq0, if_pos rfl]
      have cc0 : (⟨#[32]⟩ : ByteArray) ++ strOf za = strOf (32 :: za) := strOf_app [32] _
      have cc : strOf p4 ++ strOf (32 :: za) = strOf q0 := by rw [← hq]; exact strOf_app _ _
      have zz0 : ¬ 9223372036854775807 < 1 + (strOf za).size := by rw [HS0.out]; omega
      have zz : ¬ 9223372036854775807 < (strOf p4).size + (strOf (32 :: za)).size := by rw [HS0.out, HS0.out]; simp only [List.length_cons]; omega
      have hb := blk_only HBX.out HOC0.out (fun e => e)
      have e3 : wc.cell? ⟨w.heap.size, 3, none⟩ = some (.int .i64 a) := cell_blk hb 3
      have hlc := blk_lt hb
      clear hq hb hq0
      go_wp2_with fail
      refine (HNA _).out.mono ?_
      rintro x w5 ⟨rfl, ho5⟩
      have HO5 := hid (HOC0.out.trans ho5 (fun _ _ e => e))
      clear ho5
      go_wp2_with fail
      go_meet
      case rel => exact ⟨rfl, HO5.out⟩
    | false =>
      have hq : q0 = p4 := by rw [← hq0]; simp
      subst hq
      clear hq0
      go_wp2_with fail
      go_meet
      case rel => exact ⟨rfl, HOC0.out⟩
  case rest =>
  obtain ⟨rfl, hoc⟩ := hcut
  have HOC1 := hid hoc
  have HQ0 := hid hq0
  clear hoc hq0
  go_wp2_with fail
  refine (HB _).out.mono ?_
  rintro x wy ⟨rfl, rfl⟩
  obtain ⟨q1, hq1⟩ : ∃ x, q0 ++ (if mB = true then 32 :: zb else []) = x := ⟨_, rfl⟩
  have lq1 : q1.length ≤ 2000201 := by rw [← hq1, List.length_append]; split <;> first | (simp only [List.length_cons]; omega) | (simp only [List.length_nil]; omega)
  go_upto_if 28 with fail
  go_cut [4] from 28 to 34 (fun s wx => s = .string (strOf q1) ∧ Only (fun _ => False) wb wx)
  case first =>
    cases mB with
    | true =>
      have hq : q0 ++ 32 :: zb = q1 := by rw [← hq1, if_pos rfl]
      have cc0 : (⟨#[32]⟩ : ByteArray) ++ strOf zb = strOf (32 :: zb) := strOf_app [32] _
      have cc : strOf q0 ++ strOf (32 :: zb) = strOf q1 := by rw [← hq]; exact strOf_app _ _
      have zz0 : ¬ 9223372036854775807 < 1 + (strOf zb).size := by rw [HS0.out]; omega
      have zz : ¬ 9223372036854775807 < (strOf q0).size + (strOf (32 :: zb)).size := by rw [HS0.out, HS0.out]; simp only [List.length_cons]; omega
      have hb := blk_only HBX.out HOC1.out (fun e => e)
      have e4 : wc.cell? ⟨w.heap.size, 4, none⟩ = some (.int .i64 b') := cell_blk hb 4
      have hlc := blk_lt hb
      clear hq hb hq1
      go_wp2_with fail
      refine (HNB _).out.mono ?_
      rintro x w5 ⟨rfl, ho5⟩
      have HO5 := hid (HOC1.out.trans ho5 (fun _ _ e => e))
      clear ho5
      go_wp2_with fail
      go_meet
      case rel => exact ⟨rfl, HO5.out⟩
    | false =>
      have hq : q1 = q0 := by rw [← hq1]; simp
      subst hq
      clear hq1
      go_wp2_with fail
      go_meet
      case rel => exact ⟨rfl, HOC1.out⟩
  case rest =>
  obtain ⟨rfl, hoc⟩ := hcut
  have HOC2 := hid hoc
  have HQ1 := hid hq1
  clear hoc hq1
  go_wp2_with fail
  refine (HN _).out.mono ?_
  rintro x wy ⟨rfl, rfl⟩
  obtain ⟨q2, hq2⟩ : ∃ x, q1 ++ (if mN = true then 32 :: zn else []) = x := ⟨_, rfl⟩
  have lq2 : q2.length ≤ 3000211 := by rw [← hq2, List.length_append]; split <;> first | (simp only [List.length_cons]; omega) | (simp only [List.length_nil]; omega)
  go_upto_if 36 with fail
  go_cut [4] from 36 to 42 (fun s wx => s = .string (strOf q2) ∧ Only (fun _ => False) wb wx)
  case first =>
    cases mN with
    | true =>
      have hq : q1 ++ 32 :: zn = q2 := by rw [← hq2, if_pos rfl]
      have cc0 : (⟨#[32]⟩ : ByteArray) ++ strOf zn = strOf (32 :: zn) := strOf_app [32] _
      have cc : strOf q1 ++ strOf (32 :: zn) = strOf q2 := by rw [← hq]; exact strOf_app _ _
      have zz0 : ¬ 9223372036854775807 < 1 + (strOf zn).size := by rw [HS0.out]; omega
      have zz : ¬ 9223372036854775807 < (strOf q1).size + (strOf (32 :: zn)).size := by rw [HS0.out, HS0.out]; simp only [List.length_cons]; omega
      have hb := blk_only HBX.out HOC2.out (fun e => e)
      have e5 : wc.cell? ⟨w.heap.size, 5, none⟩ = some (.string (strOf name)) := cell_blk hb 5
      have hlc := blk_lt hb
      clear hq hb hq2
      go_wp2_with fail
      refine (HTN _).out.mono ?_
      rintro x w5 ⟨rfl, ho5⟩
      have HO5 := hid (HOC2.out.trans ho5 (fun _ _ e => e))
      clear ho5
      go_wp2_with fail
      go_meet
      case rel => exact ⟨rfl, HO5.out⟩
    | false =>
      have hq : q2 = q1 := by rw [← hq2]; simp
      subst hq
      clear hq2
      go_wp2_with fail
      go_meet
      case rel => exact ⟨rfl, HOC2.out⟩
  case rest =>
  obtain ⟨rfl, hoc⟩ := hcut
  have HOC3 := hid hoc
  have HQ2 := hid hq2
  clear hoc hq2
  go_wp2_with fail
  refine (HT _).out.mono ?_
  rintro x wy ⟨rfl, rfl⟩
  obtain ⟨q3, hq3⟩ : ∃ x, q2 ++ (if mT = true then 32 :: zx else []) = x := ⟨_, rfl⟩
  have lq3 : q3.length ≤ 4000221 := by rw [← hq3, List.length_append]; split <;> first | (simp only [List.length_cons]; omega) | (simp only [List.length_nil]; omega)
  go_upto_if 44 with fail
  go_cut [4] from 44 to 50 (fun s wx => s = .string (strOf q3) ∧ Only (fun _ => False) wb wx)
  case first =>
    cases mT with
    | true =>
      have hq : q2 ++ 32 :: zx = q3 := by rw [← hq3, if_pos rfl]
      have cc0 : (⟨#[32]⟩ : ByteArray) ++ strOf zx = strOf (32 :: zx) := strOf_app [32] _
      have cc : strOf q2 ++ strOf (32 :: zx) = strOf q3 := by rw [← hq]; exact strOf_app _ _
      have zz0 : ¬ 9223372036854775807 < 1 + (strOf zx).size := by rw [HS0.out]; omega
      have zz : ¬ 9223372036854775807 < (strOf q2).size + (strOf (32 :: zx)).size := by rw [HS0.out, HS0.out]; simp only [List.length_cons]; omega
      have hb := blk_only HBX.out HOC3.out (fun e => e)
      have e6 : wc.cell? ⟨w.heap.size, 6, none⟩ = some (.string (strOf text)) := cell_blk hb 6
      have hlc := blk_lt hb
      clear hq hb hq3
      go_wp2_with fail
      refine (HTT _).out.mono ?_
      rintro x w5 ⟨rfl, ho5⟩
      have HO5 := hid (HOC3.out.trans ho5 (fun _ _ e => e))
      clear ho5
      go_wp2_with fail
      go_meet
      case rel => exact ⟨rfl, HO5.out⟩
    | false =>
      have hq : q3 = q2 := by rw [← hq3]; simp
      subst hq
      clear hq3
      go_wp2_with fail
      go_meet
      case rel => exact ⟨rfl, HOC3.out⟩
  case rest =>
  obtain ⟨rfl, hoc⟩ := hcut
  have HOC4 := hid hoc
  have HQ3 := hid hq3
  clear hoc hq3
  go_wp2_with fail
  refine (HVV _).out.mono ?_
  rintro x wy ⟨rfl, rfl⟩
  obtain ⟨q4, hq4⟩ : ∃ x, q3 ++ (if mV = true then 32 :: zv else []) = x := ⟨_, rfl⟩
  have lq4 : q4.length ≤ 5000231 := by rw [← hq4, List.length_append]; split <;> first | (simp only [List.length_cons]; omega) | (simp only [List.length_nil]; omega)
  go_upto_if 52 with fail
  go_cut [4] from 52 to 58 (fun s wx => s = .string (strOf q4) ∧ Only (fun _ => False) wb wx)
  case first =>
    cases mV with
    | true =>
      have hq : q3 ++ 32 :: zv = q4 := by rw [← hq4, if_pos rfl]
      have cc0 : (⟨#[32]⟩ : ByteArray) ++ strOf zv = strOf (32 :: zv) := strOf_app [32] _
      have cc : strOf q3 ++ strOf (32 :: zv) = strOf q4 := by rw [← hq]; exact strOf_app _ _
      have zz0 : ¬ 9223372036854775807 < 1 + (strOf zv).size := by rw [HS0.out]; omega
      have zz : ¬ 9223372036854775807 < (strOf q3).size + (strOf (32 :: zv)).size := by rw [HS0.out, HS0.out]; simp only [List.length_cons]; omega
      have hb := blk_only HBX.out HOC4.out (fun e => e)
      have e7 : wc.cell? ⟨w.heap.size, 7, none⟩ = some (.int .i64 vk) := cell_blk hb 7
      have e8 : wc.cell? ⟨w.heap.size, 8, none⟩ = some (.int .i64 vn) := cell_blk hb 8
      have e9 : wc.cell? ⟨w.heap.size, 9, none⟩ = some (.string (strOf vs)) := cell_blk hb 9
      have e10 : wc.cell? ⟨w.heap.size, 10, none⟩ = some (.slice va vm vc) := cell_blk hb 10
      have HVB := hid (rprint_c (w := wc) (HV.out.same (HO0.out.trans HOC4.out (fun _ _ e => e))) Hgv.out (by rw [HZV.out]; omega))
      rw [HZV.out] at HVB
      have hlc := blk_lt hb
      clear hq hb hq4
      go_wp2_with fail
      refine HVB.out.mono ?_
      rintro x w5 ⟨rfl, ho5⟩
      have HO5 := hid (HOC4.out.trans ho5 (fun _ _ e => e))
      clear ho5
      go_wp2_with fail
      go_meet
      case rel => exact ⟨rfl, HO5.out⟩
    | false =>
      have hq : q4 = q3 := by rw [← hq4]; simp
      subst hq
      clear hq4
      go_wp2_with fail
      go_meet
      case rel => exact ⟨rfl, HOC4.out⟩
  case rest =>
  obtain ⟨rfl, hoc⟩ := hcut
  have HOC5 := hid hoc
  have HQ4 := hid hq4
  clear hoc hq4
  have HE := hid (show epr = q4 by rw [HWR.out, ← HQ4.out, ← HQ3.out, ← HQ2.out, ← HQ1.out, ← HQ0.out]; simp only [List.append_assoc])
  go_wp2_with fail
  go_ret
  rw [HE.out]; exact ⟨rfl, HO0.out.trans HOC5.out (fun _ _ e => e)⟩
end
end Go.Proofs.YtdjpapdkbglkmaaGreatDoor
