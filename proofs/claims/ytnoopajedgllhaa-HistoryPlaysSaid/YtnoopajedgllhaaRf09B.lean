/- foliotref09.Bytes. -/
import Derived.Test.YtnoopajedgllhaaRf09A
import Derived.Test.YtnoopajedgllhaaRf03
import Derived.Test.YtnoopajedgllhaaEvD
namespace Go.Proofs.Ytnoopajedgllhaa
open Go.RowKit
theorem flds_split {β : Type} (f : UInt8 → List β) (k : Int) : (evFlds k).flatMap f = (((((if decide (65 ∈ evFlds k) = true then f 65 else []) ++ (if decide (66 ∈ evFlds k) = true then f 66 else [])) ++ (if decide (78 ∈ evFlds k) = true then f 78 else [])) ++ (if decide (84 ∈ evFlds k) = true then f 84 else [])) ++ (if decide (86 ∈ evFlds k) = true then f 86 else [])) := by
  by_cases h : 1 ≤ k ∧ k ≤ 21
  · obtain ⟨h1, h2⟩ := h
    obtain ⟨n, rfl⟩ := Int.eq_ofNat_of_zero_le (by omega : 0 ≤ k)
    have : n = 1 ∨ n = 2 ∨ n = 3 ∨ n = 4 ∨ n = 5 ∨ n = 6 ∨ n = 7 ∨ n = 8 ∨ n = 9 ∨ n = 10 ∨ n = 11 ∨ n = 12 ∨ n = 13 ∨ n = 14 ∨ n = 15 ∨ n = 16 ∨ n = 17 ∨ n = 18 ∨ n = 19 ∨ n = 20 ∨ n = 21 := by omega
    rcases this with rfl|rfl|rfl|rfl|rfl|rfl|rfl|rfl|rfl|rfl|rfl|rfl|rfl|rfl|rfl|rfl|rfl|rfl|rfl|rfl|rfl <;> simp [evFlds, evTab]
  · have : evFlds k = [] := by unfold evFlds; rw [if_neg h]
    rw [this]; simp
section
variable {w : World} {G : Nat → Prop}
set_option maxRecDepth 100000 in
set_option maxHeartbeats 3200000 in
theorem r9bytes_c {e : EM} {cs : List Value} (hE : EAt w G e cs) (hg : e.rg) (hgd : e.Good) : Calls Try.prog 45 #[.agg cs.toArray] w fun x w' => x = .returned (.string (strOf e.wr)) ∧ Only (fun _ => False) w w' := by
  obtain ⟨vk, vn, vs, va, vm, vc, rfl, hV⟩ := hE.form
  obtain ⟨gid, gtm, gk, ga, gb, gn, gt, gv⟩ := hg
  have HV := hid hV; have Hgv := hid gv
  have hk := hgd.k
  have hid' := hgd.id
  have htm := hgd.tm
  have ha0 := hgd.a0
  have hb0 := hgd.b0
  have hnl := hgd.nL
  have htl := hgd.tL
  obtain ⟨q9, hwk9, hvl⟩ := chk_walk hgd.v
  have hwr : e.wr = UInt8.ofNat (e.k % 256).toNat :: (numB e.id.toNat ++ (numB e.tm.toNat ++ (evFlds e.k).flatMap e.fb)) := rfl
  rw [flds_split] at hwr
  have HA := fun wc => hid (rA_c (w := wc) e.k)
  have HB := fun wc => hid (rB_c (w := wc) e.k)
  have HN := fun wc => hid (rN_c (w := wc) e.k)
  have HT := fun wc => hid (rT_c (w := wc) e.k)
  have HVV := fun wc => hid (rV_c (w := wc) e.k)
  obtain ⟨y, hy⟩ : ∃ y, (e.k % 256).toNat = y := ⟨_, rfl⟩
  have hwk : IntKind.u8.wrap e.k = (y : Int) := by rw [IntKind.wrap_u8]; omega
  have hyl : y < 256 := by omega
  rw [hy] at hwr
  obtain ⟨mA, hmA⟩ : ∃ m : Bool, decide (65 ∈ evFlds e.k) = m := ⟨_, rfl⟩
  obtain ⟨mB, hmB⟩ : ∃ m : Bool, decide (66 ∈ evFlds e.k) = m := ⟨_, rfl⟩
  obtain ⟨mN, hmN⟩ : ∃ m : Bool, decide (78 ∈ evFlds e.k) = m := ⟨_, rfl⟩
  obtain ⟨mT, hmT⟩ : ∃ m : Bool, decide (84 ∈ evFlds e.k) = m := ⟨_, rfl⟩
  obtain ⟨mV, hmV⟩ : ∃ m : Bool, decide (86 ∈ evFlds e.k) = m := ⟨_, rfl⟩
  rw [hmA, hmB, hmN, hmT, hmV] at hwr
  simp only [hmA] at HA
  simp only [hmB] at HB
  simp only [hmN] at HN
  simp only [hmT] at HT
  simp only [hmV] at HVV
  obtain ⟨id, tm, k, a, b', name, text, v⟩ := e
  simp only at hwr HA HB HN HT HVV gid gtm gk ga gb gn gt HV Hgv hk hid' htm ha0 hb0 hnl htl hvl hwk ⊢
  obtain ⟨idn, rfl⟩ := Int.eq_ofNat_of_zero_le (by omega : 0 ≤ id)
  obtain ⟨tmn, rfl⟩ := Int.eq_ofNat_of_zero_le (by omega : 0 ≤ tm)
  obtain ⟨an, rfl⟩ := Int.eq_ofNat_of_zero_le ha0
  obtain ⟨bn, rfl⟩ := Int.eq_ofNat_of_zero_le hb0
  simp only [Int.toNat_natCast] at hwr
  have hfA : (⟨idn, tmn, k, an, bn, name, text, v⟩ : EM).fb 65 = numB an := by simp [EM.fb]
  have hfB : (⟨idn, tmn, k, an, bn, name, text, v⟩ : EM).fb 66 = numB bn := by simp [EM.fb]
  have hfN : (⟨idn, tmn, k, an, bn, name, text, v⟩ : EM).fb 78 = textB name := by simp [EM.fb]
  have hfT : (⟨idn, tmn, k, an, bn, name, text, v⟩ : EM).fb 84 = textB text := by simp [EM.fb]
  have hfV : (⟨idn, tmn, k, an, bn, name, text, v⟩ : EM).fb 86 = v.wr := by simp [EM.fb]
  rw [hfA, hfB, hfN, hfT, hfV] at hwr
  have HNI := fun wc => hid (rfnum_c (w := wc) idn (by omega))
  have HNT := fun wc => hid (rfnum_c (w := wc) tmn (by omega))
  have HNA := fun wc => hid (rfnum_c (w := wc) an (by omega))
  have HNB := fun wc => hid (rfnum_c (w := wc) bn (by omega))
  have HTN := fun wc => hid (rftext_c (w := wc) name (by omega))
  have HTT := fun wc => hid (rftext_c (w := wc) text (by omega))
  have li := numB_len idn
  have lt := numB_len tmn
  have la := numB_len an
  have lb := numB_len bn
  have ln : (textB name).length ≤ 100 := by unfold textB; rw [List.length_append]; have := numB_len name.length; omega
  have lx : (textB text).length ≤ 200 := by unfold textB; rw [List.length_append]; have := numB_len text.length; omega
  obtain ⟨zi, hzi⟩ : ∃ x, numB idn = x := ⟨_, rfl⟩
  obtain ⟨zt, hzt⟩ : ∃ x, numB tmn = x := ⟨_, rfl⟩
  obtain ⟨za, hza⟩ : ∃ x, numB an = x := ⟨_, rfl⟩
  obtain ⟨zb, hzb⟩ : ∃ x, numB bn = x := ⟨_, rfl⟩
  obtain ⟨zn, hzn⟩ : ∃ x, textB name = x := ⟨_, rfl⟩
  obtain ⟨zx, hzx⟩ : ∃ x, textB text = x := ⟨_, rfl⟩
  obtain ⟨zv, hzv⟩ : ∃ x, v.wr = x := ⟨_, rfl⟩
  rw [hzi] at li hwr
  rw [hzt] at lt hwr
  rw [hza] at la hwr
  rw [hzb] at lb hwr
  rw [hzn] at ln hwr
  rw [hzx] at lx hwr
  rw [hzv] at hvl hwr
  simp only [hzi] at HNI
  simp only [hzt] at HNT
  simp only [hza] at HNA
  simp only [hzb] at HNB
  simp only [hzn] at HTN
  simp only [hzx] at HTT
  have HZV := hid hzv
  obtain ⟨p2, hp2⟩ : ∃ x, [UInt8.ofNat y] ++ zi = x := ⟨_, rfl⟩
  obtain ⟨p3, hp3⟩ : ∃ x, p2 ++ zt = x := ⟨_, rfl⟩
  have l2 : p2.length ≤ 11 := by rw [← hp2, List.length_append]; simp only [List.length_cons, List.length_nil]; omega
  have l3 : p3.length ≤ 21 := by rw [← hp3, List.length_append]; omega
  have cc1 : strOf [UInt8.ofNat y] ++ strOf zi = strOf p2 := by rw [← hp2]; exact strOf_app' _ _
  have cc2 : strOf p2 ++ strOf zt = strOf p3 := by rw [← hp3]; exact strOf_app' _ _
  have hs0 : ∀ l : List UInt8, (strOf l).size = l.length := fun l => rfl
  have z1 : ¬ 9223372036854775807 < (strOf [UInt8.ofNat y]).size + (strOf zi).size := by rw [hs0, hs0]; simp; omega
  have z2 : ¬ 9223372036854775807 < (strOf p2).size + (strOf zt).size := by rw [hs0, hs0]; omega
  have HS0 := hid hs0
  have HWR : Hid ((⟨idn, tmn, k, an, bn, name, text, v⟩ : EM).wr = p3 ++ (((((if mA = true then za else []) ++ (if mB = true then zb else [])) ++ (if mN = true then zn else [])) ++ (if mT = true then zx else [])) ++ (if mV = true then zv else []))) := hid (by rw [hwr, ← hp3, ← hp2]; simp)
  have HBX := hid (blk_new w (.cells #[.int .i64 idn, .int .i64 tmn, .int .i64 k, .int .i64 an, .int .i64 bn, .string (strOf name), .string (strOf text), .int .i64 vk, .int .i64 vn, .string (strOf vs), .slice va vm vc] 44))
  have HO0 := hid (only_new w (.cells #[.int .i64 idn, .int .i64 tmn, .int .i64 k, .int .i64 an, .int .i64 bn, .string (strOf name), .string (strOf text), .int .i64 vk, .int .i64 vn, .string (strOf vs), .slice va vm vc] 44))
  clear hE hV gv hgd hwr hy hmA hmB hmN hmT hmV hfA hfB hfN hfT hfV hzi hzt hza hzb hzn hzx hzv hp2 hp3 hs0 gk
  obtain ⟨wb, hwb⟩ : ∃ wb, w.alloc (.cells #[.int .i64 idn, .int .i64 tmn, .int .i64 k, .int .i64 an, .int .i64 bn, .string (strOf name), .string (strOf text), .int .i64 vk, .int .i64 vn, .string (strOf vs), .slice va vm vc] 44) = wb := ⟨_, rfl⟩
  rw [hwb] at HBX HO0
  have c0 : wb.cell? ⟨w.heap.size, 0, none⟩ = some (.int .i64 idn) := cell_blk HBX.out 0
  have c1 : wb.cell? ⟨w.heap.size, 1, none⟩ = some (.int .i64 tmn) := cell_blk HBX.out 1
  have c2 : wb.cell? ⟨w.heap.size, 2, none⟩ = some (.int .i64 k) := cell_blk HBX.out 2
  have hlb := blk_lt HBX.out
  have hcvA : (convert 72 9 (.slice (some ⟨wb.heap.size, 0, none⟩) 1 1)).run Try.prog (wb.alloc (.cells #[.int .u8 y] 5)).drew = .ok (.string (strOf [UInt8.ofNat y])) (wb.alloc (.cells #[.int .u8 y] 5)).drew := conv_str (src1 (g := wb.heap.size) (w := (wb.alloc (.cells #[.int .u8 y] 5)).drew) (blk_new wb (.cells #[.int .u8 y] 5)) hyl)
  go_enter Try.func45, Try.ntmps45
  go_upto_region 2 with fail
  clear hwb
  have ei : IntKind.u64.wrap ((idn : Nat) : Int) = (idn : Int) := IntWalk.u64_in _ (by omega)
  have et : IntKind.u64.wrap ((tmn : Nat) : Int) = (tmn : Int) := IntWalk.u64_in _ (by omega)
  go_cut [4] from 7 to 20 (fun s wx => s = .string (strOf p3) ∧ Only (fun _ => False) wb wx)
  case first =>
   go_region_law (first
    | (refine step_of rfl (wp_callc (o := ⟨some 14, _, _, _, _, _⟩) (f := 27) (args := #[.int .u64 idn]) (by kernel_rfl) ?_); refine (HNI _).out.mono ?_; rintro e w2 ⟨rfl, ho2⟩; refine ⟨_, rfl, ?_⟩; have HO2 := hid ho2; (first | have ho2' : Only (fun _ => False) wb w2 := ((Only.refl _ wb).drew).trans HO2.out (fun _ _ e => e) | have ho2' : Only (fun _ => False) wb w2 := (((only_new wb (.cells #[.int .u8 y] 5)).drew).trans HO2.out (fun _ _ e => e))); have d1 : w2.cell? ⟨w.heap.size, 1, none⟩ = some (.int .i64 tmn) := cell_blk (blk_only HBX.out ho2' (fun e => e)) 1; have hlb2 := blk_lt (blk_only HBX.out ho2' (fun e => e)); have HO2' := hid ho2'; clear ho2 ho2'; have hcvC : (convert 72 9 (.slice (some ⟨w2.heap.size, 0, none⟩) 1 1)).run Try.prog (w2.alloc (.cells #[.int .u8 y] 5)) = .ok (.string (strOf [UInt8.ofNat y])) (w2.alloc (.cells #[.int .u8 y] 5)) := conv_str (src1 (g := w2.heap.size) (blk_new w2 (.cells #[.int .u8 y] 5)) hyl); (try have hcvB : (convert 72 9 (.slice (some ⟨wb.heap.size, 0, none⟩) 1 1)).run Try.prog w2 = .ok (.string (strOf [UInt8.ofNat y])) w2 := conv_str (src1 (g := wb.heap.size) (w := w2) (blk_only (w := (wb.alloc (.cells #[.int .u8 y] 5)).drew) (blk_new wb (.cells #[.int .u8 y] 5)) HO2.out (fun e => e)) hyl)))
    | (refine step_of rfl (wp_callc (o := ⟨some 19, _, _, _, _, _⟩) (f := 27) (args := #[.int .u64 tmn]) (by kernel_rfl) ?_); refine (HNT _).out.mono ?_; rintro e w3 ⟨rfl, ho3⟩; refine ⟨_, rfl, ?_⟩; have HO3 := hid ho3; clear ho3; have hcvF : (convert 72 9 (.slice (some ⟨w3.heap.size, 0, none⟩) 1 1)).run Try.prog (w3.alloc (.cells #[.int .u8 y] 5)) = .ok (.string (strOf [UInt8.ofNat y])) (w3.alloc (.cells #[.int .u8 y] 5)) := conv_str (src1 (g := w3.heap.size) (blk_new w3 (.cells #[.int .u8 y] 5)) hyl); (try have hcvD : (convert 72 9 (.slice (some ⟨wb.heap.size, 0, none⟩) 1 1)).run Try.prog w3 = .ok (.string (strOf [UInt8.ofNat y])) w3 := conv_str (src1 (g := wb.heap.size) (w := w3) (blk_only (w := w2) (blk_only (w := (wb.alloc (.cells #[.int .u8 y] 5)).drew) (blk_new wb (.cells #[.int .u8 y] 5)) HO2.out (fun e => e)) HO3.out (fun e => e)) hyl)); (try have hcvE : (convert 72 9 (.slice (some ⟨w2.heap.size, 0, none⟩) 1 1)).run Try.prog w3 = .ok (.string (strOf [UInt8.ofNat y])) w3 := conv_str (src1 (g := w2.heap.size) (w := w3) (blk_only (w := w2.alloc (.cells #[.int .u8 y] 5)) (blk_new w2 (.cells #[.int .u8 y] 5)) HO3.out (fun e => e)) hyl))))
   all_goals
    go_wp2_with fail
    go_meet
    case rel => exact ⟨rfl, by first | exact HO2'.out.trans HO3.out (fun _ _ e => e) | exact (HO2'.out.trans HO3.out (fun _ _ e => e)).trans (only_new w3 _) (fun _ _ e => e) | exact HO2'.out.trans ((only_new w2 _).trans HO3.out (fun _ _ e => e)) (fun _ _ e => e)⟩
  case rest =>
  obtain ⟨rfl, hoc⟩ := hcut
  have HOC0 := hid hoc
  clear hoc cc1 cc2 z1 z2 c0 c1 c2 ei et hcvA l2
  go_wp2_with fail
  refine (HA _).out.mono ?_
  rintro x wy ⟨rfl, rfl⟩
  obtain ⟨q0, hq0⟩ : ∃ x, p3 ++ (if mA = true then za else []) = x := ⟨_, rfl⟩
  have lq0 : q0.length ≤ 31 := by rw [← hq0, List.length_append]; split <;> first | omega | (simp only [List.length_nil]; omega)
  go_upto_if 22 with fail
  go_cut [4] from 22 to 28 (fun s wx => s = .string (strOf q0) ∧ Only (fun _ => False) wb wx)
  case first =>
    cases mA with
    | true =>
      have hq : p3 ++ za = q0 := by rw [← hq0, if_pos rfl]
      have cc : strOf p3 ++ strOf za = strOf q0 := by rw [← hq]; exact strOf_app' _ _
      have zz : ¬ 9223372036854775807 < (strOf p3).size + (strOf za).size := by rw [HS0.out, HS0.out]; omega
      have hb := blk_only HBX.out HOC0.out (fun e => e)
      have e3 : wc.cell? ⟨w.heap.size, 3, none⟩ = some (.int .i64 an) := cell_blk hb 3
      have hlc := blk_lt hb
      clear hq hb hq0
      go_wp2_with fail
      refine (HNA _).out.mono ?_
      rintro x w5 ⟨rfl, ho5⟩
      have HO5 := hid (HOC0.out.trans ho5 (fun _ _ e => e))
      clear ho5
      go_wp2_with fail
      go_meet
      case rel => exact ⟨rfl, HO5.out⟩
    | false =>
      have hq : q0 = p3 := by rw [← hq0]; simp
      subst hq
      clear hq0
      go_wp2_with fail
      go_meet
      case rel => exact ⟨rfl, HOC0.out⟩
  case rest =>
  obtain ⟨rfl, hoc⟩ := hcut
  have HOC1 := hid hoc
  have HQ0 := hid hq0
  clear hoc hq0
  go_wp2_with fail
  refine (HB _).out.mono ?_
  rintro x wy ⟨rfl, rfl⟩
  obtain ⟨q1, hq1⟩ : ∃ x, q0 ++ (if mB = true then zb else []) = x := ⟨_, rfl⟩
  have lq1 : q1.length ≤ 41 := by rw [← hq1, List.length_append]; split <;> first | omega | (simp only [List.length_nil]; omega)
  go_upto_if 30 with fail
  go_cut [4] from 30 to 36 (fun s wx => s = .string (strOf q1) ∧ Only (fun _ => False) wb wx)
  case first =>
    cases mB with
    | true =>
      have hq : q0 ++ zb = q1 := by rw [← hq1, if_pos rfl]
      have cc : strOf q0 ++ strOf zb = strOf q1 := by rw [← hq]; exact strOf_app' _ _
      have zz : ¬ 9223372036854775807 < (strOf q0).size + (strOf zb).size := by rw [HS0.out, HS0.out]; omega
      have hb := blk_only HBX.out HOC1.out (fun e => e)
      have e4 : wc.cell? ⟨w.heap.size, 4, none⟩ = some (.int .i64 bn) := cell_blk hb 4
      have hlc := blk_lt hb
      clear hq hb hq1
      go_wp2_with fail
      refine (HNB _).out.mono ?_
      rintro x w5 ⟨rfl, ho5⟩
      have HO5 := hid (HOC1.out.trans ho5 (fun _ _ e => e))
      clear ho5
      go_wp2_with fail
      go_meet
      case rel => exact ⟨rfl, HO5.out⟩
    | false =>
      have hq : q1 = q0 := by rw [← hq1]; simp
      subst hq
      clear hq1
      go_wp2_with fail
      go_meet
      case rel => exact ⟨rfl, HOC1.out⟩
  case rest =>
  obtain ⟨rfl, hoc⟩ := hcut
  have HOC2 := hid hoc
  have HQ1 := hid hq1
  clear hoc hq1
  go_wp2_with fail
  refine (HN _).out.mono ?_
  rintro x wy ⟨rfl, rfl⟩
  obtain ⟨q2, hq2⟩ : ∃ x, q1 ++ (if mN = true then zn else []) = x := ⟨_, rfl⟩
  have lq2 : q2.length ≤ 141 := by rw [← hq2, List.length_append]; split <;> first | omega | (simp only [List.length_nil]; omega)
  go_upto_if 38 with fail
  go_cut [4] from 38 to 43 (fun s wx => s = .string (strOf q2) ∧ Only (fun _ => False) wb wx)
  case first =>
    cases mN with
    | true =>
      have hq : q1 ++ zn = q2 := by rw [← hq2, if_pos rfl]
      have cc : strOf q1 ++ strOf zn = strOf q2 := by rw [← hq]; exact strOf_app' _ _
      have zz : ¬ 9223372036854775807 < (strOf q1).size + (strOf zn).size := by rw [HS0.out, HS0.out]; omega
      have hb := blk_only HBX.out HOC2.out (fun e => e)
      have e5 : wc.cell? ⟨w.heap.size, 5, none⟩ = some (.string (strOf name)) := cell_blk hb 5
      have hlc := blk_lt hb
      clear hq hb hq2
      go_wp2_with fail
      refine (HTN _).out.mono ?_
      rintro x w5 ⟨rfl, ho5⟩
      have HO5 := hid (HOC2.out.trans ho5 (fun _ _ e => e))
      clear ho5
      go_wp2_with fail
      go_meet
      case rel => exact ⟨rfl, HO5.out⟩
    | false =>
      have hq : q2 = q1 := by rw [← hq2]; simp
      subst hq
      clear hq2
      go_wp2_with fail
      go_meet
      case rel => exact ⟨rfl, HOC2.out⟩
  case rest =>
  obtain ⟨rfl, hoc⟩ := hcut
  have HOC3 := hid hoc
  have HQ2 := hid hq2
  clear hoc hq2
  go_wp2_with fail
  refine (HT _).out.mono ?_
  rintro x wy ⟨rfl, rfl⟩
  obtain ⟨q3, hq3⟩ : ∃ x, q2 ++ (if mT = true then zx else []) = x := ⟨_, rfl⟩
  have lq3 : q3.length ≤ 341 := by rw [← hq3, List.length_append]; split <;> first | omega | (simp only [List.length_nil]; omega)
  go_upto_if 45 with fail
  go_cut [4] from 45 to 50 (fun s wx => s = .string (strOf q3) ∧ Only (fun _ => False) wb wx)
  case first =>
    cases mT with
    | true =>
      have hq : q2 ++ zx = q3 := by rw [← hq3, if_pos rfl]
      have cc : strOf q2 ++ strOf zx = strOf q3 := by rw [← hq]; exact strOf_app' _ _
      have zz : ¬ 9223372036854775807 < (strOf q2).size + (strOf zx).size := by rw [HS0.out, HS0.out]; omega
      have hb := blk_only HBX.out HOC3.out (fun e => e)
      have e6 : wc.cell? ⟨w.heap.size, 6, none⟩ = some (.string (strOf text)) := cell_blk hb 6
      have hlc := blk_lt hb
      clear hq hb hq3
      go_wp2_with fail
      refine (HTT _).out.mono ?_
      rintro x w5 ⟨rfl, ho5⟩
      have HO5 := hid (HOC3.out.trans ho5 (fun _ _ e => e))
      clear ho5
      go_wp2_with fail
      go_meet
      case rel => exact ⟨rfl, HO5.out⟩
    | false =>
      have hq : q3 = q2 := by rw [← hq3]; simp
      subst hq
      clear hq3
      go_wp2_with fail
      go_meet
      case rel => exact ⟨rfl, HOC3.out⟩
  case rest =>
  obtain ⟨rfl, hoc⟩ := hcut
  have HOC4 := hid hoc
  have HQ3 := hid hq3
  clear hoc hq3
  go_wp2_with fail
  refine (HVV _).out.mono ?_
  rintro x wy ⟨rfl, rfl⟩
  obtain ⟨q4, hq4⟩ : ∃ x, q3 ++ (if mV = true then zv else []) = x := ⟨_, rfl⟩
  have lq4 : q4.length ≤ 853 := by rw [← hq4, List.length_append]; split <;> first | omega | (simp only [List.length_nil]; omega)
  go_upto_if 52 with fail
  go_cut [4] from 52 to 57 (fun s wx => s = .string (strOf q4) ∧ Only (fun _ => False) wb wx)
  case first =>
    cases mV with
    | true =>
      have hq : q3 ++ zv = q4 := by rw [← hq4, if_pos rfl]
      have cc : strOf q3 ++ strOf zv = strOf q4 := by rw [← hq]; exact strOf_app' _ _
      have zz : ¬ 9223372036854775807 < (strOf q3).size + (strOf zv).size := by rw [HS0.out, HS0.out]; omega
      have hb := blk_only HBX.out HOC4.out (fun e => e)
      have e7 : wc.cell? ⟨w.heap.size, 7, none⟩ = some (.int .i64 vk) := cell_blk hb 7
      have e8 : wc.cell? ⟨w.heap.size, 8, none⟩ = some (.int .i64 vn) := cell_blk hb 8
      have e9 : wc.cell? ⟨w.heap.size, 9, none⟩ = some (.string (strOf vs)) := cell_blk hb 9
      have e10 : wc.cell? ⟨w.heap.size, 10, none⟩ = some (.slice va vm vc) := cell_blk hb 10
      have HVB := hid (rfbytes_c (w := wc) (HV.out.same (HO0.out.trans HOC4.out (fun _ _ e => e))) Hgv.out (by rw [HZV.out]; omega))
      rw [HZV.out] at HVB
      have hlc := blk_lt hb
      clear hq hb hq4
      go_wp2_with fail
      refine HVB.out.mono ?_
      rintro x w5 ⟨rfl, ho5⟩
      have HO5 := hid (HOC4.out.trans ho5 (fun _ _ e => e))
      clear ho5
      go_wp2_with fail
      go_meet
      case rel => exact ⟨rfl, HO5.out⟩
    | false =>
      have hq : q4 = q3 := by rw [← hq4]; simp
      subst hq
      clear hq4
      go_wp2_with fail
      go_meet
      case rel => exact ⟨rfl, HOC4.out⟩
  case rest =>
  obtain ⟨rfl, hoc⟩ := hcut
  have HOC5 := hid hoc
  have HQ4 := hid hq4
  clear hoc hq4
  have HE := hid (show (⟨idn, tmn, k, an, bn, name, text, v⟩ : EM).wr = q4 by rw [HWR.out, ← HQ4.out, ← HQ3.out, ← HQ2.out, ← HQ1.out, ← HQ0.out]; simp only [List.append_assoc])
  go_wp2_with fail
  go_ret
  rw [HE.out]; exact ⟨rfl, HO0.out.trans HOC5.out (fun _ _ e => e)⟩
end
end Go.Proofs.Ytnoopajedgllhaa
