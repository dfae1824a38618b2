/- foliot/command.Print. -/
import Derived.Test.YtihidpfkdpjdpaaGreatDoorCmG
import Derived.Test.YtihidpfkdpjdpaaGreatDoorValQ
import Derived.Test.YtihidpfkdpjdpaaGreatDoorCmV
import Derived.Deep.RegionHeld3
namespace Go.Proofs.YtihidpfkdpjdpaaGreatDoor
open Go.RowKit
theorem cft_len (e : EM) (hn : e.name.length ≤ 1000) (hv : e.v.pr.length ≤ 1000000) (ha : -9223372036854775808 ≤ e.a ∧ e.a ≤ 9223372036854775807) (hb : -9223372036854775808 ≤ e.b ∧ e.b ≤ 9223372036854775807) : (32 :: Lib.itoa e.a).length ≤ 1000010 ∧ (32 :: Lib.itoa e.b).length ≤ 1000010 ∧ (32 :: quo e.name).length ≤ 1000010 ∧ (32 :: e.v.pr).length ≤ 1000010 := by
  have h1 := itoa_len e.a ha.1 ha.2
  have h2 := itoa_len e.b hb.1 hb.2
  have h3 := quo_len e.name
  simp only [List.length_cons]
  omega
theorem cName_len (k : Int) : (cName k).length ≤ 100 := by
  rcases c_k7 k with rfl | rfl | rfl | rfl | rfl | rfl | h
  all_goals try decide
  unfold cName; rw [if_neg h]; simp
theorem cflds_split {β : Type} (f : UInt8 → List β) (k : Int) : (cFlds k).flatMap f = (((if fA k = true then f 65 else []) ++ (if fB k = true then f 66 else [])) ++ (if fN k = true then f 78 else [])) ++ (if fV k = true then f 86 else []) := by
  rw [flds_of]
  cases fA k <;> cases fB k <;> cases fN k <;> cases fV k <;> simp
section
variable {w : World} {G : Nat → Prop}
set_option maxRecDepth 100000 in
set_option maxHeartbeats 6400000 in
theorem cprint_c {e : EM} {cs : List Value} (hE : CAt w G e cs) (hG : ∀ k, G k → k < w.heap.size) (hg : e.rg) (hT : Tab w) (hn : e.name.length ≤ 1000) (hv : e.v.pr.length ≤ 1000000) : Calls Tryz.prog 20 #[.agg cs.toArray] w fun x w' => x = .returned (.string (strOf e.cpr)) ∧ Only (fun _ => False) w w' := by
  obtain ⟨vk, vn, vs, va, vm, vc, rfl, hV⟩ := hE.form
  obtain ⟨gid, gtm, gk, ga, gb, gn, gt, gv⟩ := hg
  have HV := hid hV; have Hgv := hid gv
  have HTB := hid hT; have HGG := hid hG
  have hpr : e.cpr = [64] ++ (Lib.itoa e.tm ++ ([32] ++ (cName e.k ++ (cFlds e.k).flatMap e.ft))) := rfl
  rw [cflds_split] at hpr
  have hftl := cft_len e hn hv ga gb
  have hnl : (cName e.k).length ≤ 100 := cName_len e.k
  have htl := itoa_len e.tm gtm.1 gtm.2
  have hfA : e.ft 65 = 32 :: Lib.itoa e.a := by simp [EM.ft]
  have hfB : e.ft 66 = 32 :: Lib.itoa e.b := by simp [EM.ft]
  have hfN : e.ft 78 = 32 :: quo e.name := by simp [EM.ft]
  have hfV : e.ft 86 = 32 :: e.v.pr := by simp [EM.ft]
  rw [hfA, hfB, hfN, hfV] at hpr
  obtain ⟨lA, lB, lN, lV⟩ := hftl
  have HNM := fun wc => hid (cmname_c (w := wc) e.k)
  have HFD := fun wc => hid (fields_c (w := wc) e.k)
  have HNT := fun wc (h : Only (fun _ => False) w wc) => hid (fmt_c (w := wc) e.tm gtm.1 gtm.2 (hT.only h))
  have HNA := fun wc (h : Only (fun _ => False) w wc) => hid (fmt_c (w := wc) e.a ga.1 ga.2 (hT.only h))
  have HNB := fun wc (h : Only (fun _ => False) w wc) => hid (fmt_c (w := wc) e.b gb.1 gb.2 (hT.only h))
  have HTN := fun wc => hid (quote_c (w := wc) e.name (by omega))
  obtain ⟨epr, hepr⟩ : ∃ x, e.cpr = x := ⟨_, rfl⟩
  rw [hepr] at hpr ⊢
  obtain ⟨id, tm, k, a, b', name, text, v⟩ := e
  simp only at hpr HFD HNM HNT HNA HNB HTN HV Hgv htl hnl lA lB lN lV hv ⊢
  obtain ⟨mA, hmA⟩ : ∃ m : Bool, fA k = m := ⟨_, rfl⟩
  obtain ⟨mB, hmB⟩ : ∃ m : Bool, fB k = m := ⟨_, rfl⟩
  obtain ⟨mN, hmN⟩ : ∃ m : Bool, fN k = m := ⟨_, rfl⟩
  obtain ⟨mV, hmV⟩ : ∃ m : Bool, fV k = m := ⟨_, rfl⟩
  rw [hmA, hmB, hmN, hmV] at hpr
  obtain ⟨mK, hmK⟩ : ∃ m : Bool, fK k = m := ⟨_, rfl⟩
  simp only [hmA, hmB, hmN, hmV, hmK] at HFD
  obtain ⟨zt, hzt⟩ : ∃ x, Lib.itoa tm = x := ⟨_, rfl⟩
  obtain ⟨za, hza⟩ : ∃ x, Lib.itoa a = x := ⟨_, rfl⟩
  obtain ⟨zb, hzb⟩ : ∃ x, Lib.itoa b' = x := ⟨_, rfl⟩
  obtain ⟨zn, hzn⟩ : ∃ x, quo name = x := ⟨_, rfl⟩
  obtain ⟨zv, hzv⟩ : ∃ x, v.pr = x := ⟨_, rfl⟩
  obtain ⟨nm, hnm⟩ : ∃ x, cName k = x := ⟨_, rfl⟩
  rw [hzt] at hpr htl
  rw [hza] at hpr lA
  rw [hzb] at hpr lB
  rw [hzn] at hpr lN
  rw [hzv] at hpr lV hv
  rw [hnm] at hpr hnl
  simp only [hzt] at HNT
  simp only [hza] at HNA
  simp only [hzb] at HNB
  simp only [hzn] at HTN
  simp only [hnm] at HNM
  have HZV := hid hzv
  obtain ⟨p2, hp2⟩ : ∃ x, ([64] : List UInt8) ++ zt = x := ⟨_, rfl⟩
  obtain ⟨p3, hp3⟩ : ∃ x, p2 ++ [32] = x := ⟨_, rfl⟩
  obtain ⟨p4, hp4⟩ : ∃ x, p3 ++ nm = x := ⟨_, rfl⟩
  have l2 : p2.length ≤ 80 := by rw [← hp2, List.length_append]; simp only [List.length_cons, List.length_nil]; omega
  have l3 : p3.length ≤ 81 := by rw [← hp3, List.length_append]; simp only [List.length_cons, List.length_nil]; omega
  have l4 : p4.length ≤ 181 := by rw [← hp4, List.length_append]; omega
  have cc2 : (⟨#[64]⟩ : ByteArray) ++ strOf zt = strOf p2 := by rw [← hp2]; exact strOf_app [64] _
  have cc3 : strOf p2 ++ (⟨#[32]⟩ : ByteArray) = strOf p3 := by rw [← hp3]; exact strOf_app _ [32]
  have cc4 : strOf p3 ++ strOf nm = strOf p4 := by rw [← hp4]; exact strOf_app _ _
  have hs0 : ∀ l : List UInt8, (strOf l).size = l.length := fun l => rfl
  have z2 : ¬ 9223372036854775807 < 1 + (strOf zt).size := by rw [hs0]; omega
  have z3 : ¬ 9223372036854775807 < (strOf p2).size + 1 := by rw [hs0]; omega
  have z4 : ¬ 9223372036854775807 < (strOf p3).size + (strOf nm).size := by rw [hs0, hs0]; omega
  have HS0 := hid hs0
  simp only [List.length_cons] at lA lB lN lV
  have HWR : Hid (epr = p4 ++ ((((if mA = true then 32 :: za else []) ++ (if mB = true then 32 :: zb else [])) ++ (if mN = true then 32 :: zn else [])) ++ (if mV = true then 32 :: zv else []))) := hid (by rw [hpr, ← hp4, ← hp3, ← hp2]; simp)
  have HBX := hid (blk_new w (.cells #[.int .i64 k, .int .i64 tm, .int .i64 a, .int .i64 b', .string (strOf name), .int .i64 vk, .int .i64 vn, .string (strOf vs), .slice va vm vc] 26))
  have HO0 := hid (only_new w (.cells #[.int .i64 k, .int .i64 tm, .int .i64 a, .int .i64 b', .string (strOf name), .int .i64 vk, .int .i64 vn, .string (strOf vs), .slice va vm vc] 26))
  clear hE hV gv hpr hmA hmB hmN hmV hmK hfA hfB hfN hfV hzt hza hzb hzn hzv hp2 hp3 hp4 hs0 hepr hnm gid gtm gk ga gb gn gt hT hG
  go_enter Tryz.func20, Tryz.ntmps20
  go_wp2_with fail
  refine (HFD _).out.mono ?_
  rintro x w1 ⟨rfl, ho⟩
  clear HFD
  have hb1 := blk_only HBX.out ho (fun e => e)
  have HO1 := hid (HO0.out.trans ho (fun _ _ e => e))
  have hs1 := HO1.out.size
  obtain ⟨wb, hwb⟩ : ∃ wb, w1.alloc (.cells #[.bool mA, .bool mB, .bool mN, .bool mV] 72) = wb := ⟨_, rfl⟩
  have HBC : Hid (wb.heap[w.heap.size]? = some (.cells #[.int .i64 k, .int .i64 tm, .int .i64 a, .int .i64 b', .string (strOf name), .int .i64 vk, .int .i64 vn, .string (strOf vs), .slice va vm vc] 26 (0, 0))) := hid (by rw [← hwb]; exact blk_alloc hb1)
  have HBF : Hid (wb.heap[w1.heap.size]? = some (.cells #[.bool mA, .bool mB, .bool mN, .bool mV] 72 (0, 0))) := hid (by rw [← hwb]; exact blk_new w1 _)
  have HOB : Hid (Only (fun _ => False) w wb) := hid (by rw [← hwb]; exact HO1.out.trans (only_new _ _) (fun _ _ e => e))
  have c0 : wb.cell? ⟨w.heap.size, 0, none⟩ = some (.int .i64 k) := cell_blk HBC.out 0
  have c1 : wb.cell? ⟨w.heap.size, 1, none⟩ = some (.int .i64 tm) := cell_blk HBC.out 1
  have hlc := blk_lt HBC.out
  have hlf := blk_lt HBF.out
  have HNT0 := hid (HNT wb.drew (HOB.out.drew)).out
  clear ho hb1 HNT
  go_upto_region 2 with fail
  clear hwb
  go_cut [5] from 12 to 20 (fun s wx => s = .string (strOf p4) ∧ Only (fun _ => False) wb wx)
  case first =>
    go_region_held3 (fun W => W.cell? ⟨w.heap.size, 0, none⟩ = some (.int .i64 k) ∧ W.cell? ⟨w.heap.size, 1, none⟩ = some (.int .i64 tm))
      (first | with_reducible exact HSK.out | go_keep | simp)
      (first
        | (go_at_call 50; (with_reducible refine HNT0.out.mono ?_); rintro x w2 ⟨rfl, ho2⟩; have ho2' : Only (fun _ => False) wb w2 := ((Only.refl _ wb).drew).trans ho2 (fun _ _ e => e); have HSK : Hid (w2.cell? ⟨w.heap.size, 0, none⟩ = some (.int .i64 k) ∧ w2.cell? ⟨w.heap.size, 1, none⟩ = some (.int .i64 tm)) := hid ⟨cell_blk (blk_only HBC.out ho2' (fun e => e)) 0, cell_blk (blk_only HBC.out ho2' (fun e => e)) 1⟩; have HO2 := hid ho2'; clear ho2 ho2')
        | (go_at_call 21; (with_reducible refine (HNM _).out.mono ?_); rintro x w3 ⟨rfl, rfl⟩))
    all_goals
      go_wp2_with fail
      go_meet
      case rel => exact ⟨rfl, HO2.out⟩
  case rest =>
  obtain ⟨rfl, hoc⟩ := hcut
  have HOC0 := hid hoc
  clear hoc cc2 cc3 cc4 z2 z3 z4 c0 c1 l2 l3 HNT0
  have hbf0 := blk_only HBF.out HOC0.out (fun e => e)
  have g0 : wc.cell? ⟨w1.heap.size, 0, none⟩ = some (.bool mA) := cell_blk hbf0 0
  have g1 : wc.cell? ⟨w1.heap.size, 1, none⟩ = some (.bool mB) := cell_blk hbf0 1
  have g2 : wc.cell? ⟨w1.heap.size, 2, none⟩ = some (.bool mN) := cell_blk hbf0 2
  have g3 : wc.cell? ⟨w1.heap.size, 3, none⟩ = some (.bool mV) := cell_blk hbf0 3
  have hlf0 := blk_lt hbf0
  clear hbf0
  obtain ⟨q0, hq0⟩ : ∃ x, p4 ++ (if mA = true then 32 :: za else []) = x := ⟨_, rfl⟩
  have lq0 : q0.length ≤ 1000191 := by rw [← hq0, List.length_append]; split <;> first | (simp only [List.length_cons]; omega) | (simp only [List.length_nil]; omega)
  go_upto_if 22 with fail
  go_cut [5] from 22 to 28 (fun s wx => s = .string (strOf q0) ∧ Only (fun _ => False) wb wx)
  case first =>
    cases mA with
    | true =>
      have hq : p4 ++ 32 :: za = q0 := by rw [← hq0, if_pos rfl]
      have cc0 : (⟨#[32]⟩ : ByteArray) ++ strOf za = strOf (32 :: za) := strOf_app [32] _
      have cc : strOf p4 ++ strOf (32 :: za) = strOf q0 := by rw [← hq]; exact strOf_app _ _
      have zz0 : ¬ 9223372036854775807 < 1 + (strOf za).size := by rw [HS0.out]; omega
      have zz : ¬ 9223372036854775807 < (strOf p4).size + (strOf (32 :: za)).size := by rw [HS0.out, HS0.out]; simp only [List.length_cons]; omega
      have hb := blk_only HBC.out HOC0.out (fun e => e)
      have e2 : wc.cell? ⟨w.heap.size, 2, none⟩ = some (.int .i64 a) := cell_blk hb 2
      have HNX := hid (HNA wc (HOB.out.trans HOC0.out (fun _ _ e => e))).out
      have hlc := blk_lt hb
      clear hq hb hq0
      go_wp2_with fail
      refine HNX.out.mono ?_
      rintro x w5 ⟨rfl, ho5⟩
      have HO5 := hid (HOC0.out.trans ho5 (fun _ _ e => e))
      clear ho5
      go_wp2_with fail
      go_meet
      case rel => exact ⟨rfl, HO5.out⟩
    | false =>
      have hq : q0 = p4 := by rw [← hq0]; simp
      subst hq
      clear hq0
      go_wp2_with fail
      go_meet
      case rel => exact ⟨rfl, HOC0.out⟩
  case rest =>
  obtain ⟨rfl, hoc⟩ := hcut
  have HOC1 := hid hoc
  have HQ0 := hid hq0
  clear hoc hq0 g0 g1 g2 g3 hlf0
  have hbf1 := blk_only HBF.out HOC1.out (fun e => e)
  have g0 : wc.cell? ⟨w1.heap.size, 0, none⟩ = some (.bool mA) := cell_blk hbf1 0
  have g1 : wc.cell? ⟨w1.heap.size, 1, none⟩ = some (.bool mB) := cell_blk hbf1 1
  have g2 : wc.cell? ⟨w1.heap.size, 2, none⟩ = some (.bool mN) := cell_blk hbf1 2
  have g3 : wc.cell? ⟨w1.heap.size, 3, none⟩ = some (.bool mV) := cell_blk hbf1 3
  have hlf1 := blk_lt hbf1
  clear hbf1
  obtain ⟨q1, hq1⟩ : ∃ x, q0 ++ (if mB = true then 32 :: zb else []) = x := ⟨_, rfl⟩
  have lq1 : q1.length ≤ 2000201 := by rw [← hq1, List.length_append]; split <;> first | (simp only [List.length_cons]; omega) | (simp only [List.length_nil]; omega)
  go_upto_if 30 with fail
  go_cut [5] from 30 to 36 (fun s wx => s = .string (strOf q1) ∧ Only (fun _ => False) wb wx)
  case first =>
    cases mB with
    | true =>
      have hq : q0 ++ 32 :: zb = q1 := by rw [← hq1, if_pos rfl]
      have cc0 : (⟨#[32]⟩ : ByteArray) ++ strOf zb = strOf (32 :: zb) := strOf_app [32] _
      have cc : strOf q0 ++ strOf (32 :: zb) = strOf q1 := by rw [← hq]; exact strOf_app _ _
      have zz0 : ¬ 9223372036854775807 < 1 + (strOf zb).size := by rw [HS0.out]; omega
      have zz : ¬ 9223372036854775807 < (strOf q0).size + (strOf (32 :: zb)).size := by rw [HS0.out, HS0.out]; simp only [List.length_cons]; omega
      have hb := blk_only HBC.out HOC1.out (fun e => e)
      have e3 : wc.cell? ⟨w.heap.size, 3, none⟩ = some (.int .i64 b') := cell_blk hb 3
      have HNX := hid (HNB wc (HOB.out.trans HOC1.out (fun _ _ e => e))).out
      have hlc := blk_lt hb
      clear hq hb hq1
      go_wp2_with fail
      refine HNX.out.mono ?_
      rintro x w5 ⟨rfl, ho5⟩
      have HO5 := hid (HOC1.out.trans ho5 (fun _ _ e => e))
      clear ho5
      go_wp2_with fail
      go_meet
      case rel => exact ⟨rfl, HO5.out⟩
    | false =>
      have hq : q1 = q0 := by rw [← hq1]; simp
      subst hq
      clear hq1
      go_wp2_with fail
      go_meet
      case rel => exact ⟨rfl, HOC1.out⟩
  case rest =>
  obtain ⟨rfl, hoc⟩ := hcut
  have HOC2 := hid hoc
  have HQ1 := hid hq1
  clear hoc hq1 g0 g1 g2 g3 hlf1
  have hbf2 := blk_only HBF.out HOC2.out (fun e => e)
  have g0 : wc.cell? ⟨w1.heap.size, 0, none⟩ = some (.bool mA) := cell_blk hbf2 0
  have g1 : wc.cell? ⟨w1.heap.size, 1, none⟩ = some (.bool mB) := cell_blk hbf2 1
  have g2 : wc.cell? ⟨w1.heap.size, 2, none⟩ = some (.bool mN) := cell_blk hbf2 2
  have g3 : wc.cell? ⟨w1.heap.size, 3, none⟩ = some (.bool mV) := cell_blk hbf2 3
  have hlf2 := blk_lt hbf2
  clear hbf2
  obtain ⟨q2, hq2⟩ : ∃ x, q1 ++ (if mN = true then 32 :: zn else []) = x := ⟨_, rfl⟩
  have lq2 : q2.length ≤ 3000211 := by rw [← hq2, List.length_append]; split <;> first | (simp only [List.length_cons]; omega) | (simp only [List.length_nil]; omega)
  go_upto_if 38 with fail
  go_cut [5] from 38 to 44 (fun s wx => s = .string (strOf q2) ∧ Only (fun _ => False) wb wx)
  case first =>
    cases mN with
    | true =>
      have hq : q1 ++ 32 :: zn = q2 := by rw [← hq2, if_pos rfl]
      have cc0 : (⟨#[32]⟩ : ByteArray) ++ strOf zn = strOf (32 :: zn) := strOf_app [32] _
      have cc : strOf q1 ++ strOf (32 :: zn) = strOf q2 := by rw [← hq]; exact strOf_app _ _
      have zz0 : ¬ 9223372036854775807 < 1 + (strOf zn).size := by rw [HS0.out]; omega
      have zz : ¬ 9223372036854775807 < (strOf q1).size + (strOf (32 :: zn)).size := by rw [HS0.out, HS0.out]; simp only [List.length_cons]; omega
      have hb := blk_only HBC.out HOC2.out (fun e => e)
      have e4 : wc.cell? ⟨w.heap.size, 4, none⟩ = some (.string (strOf name)) := cell_blk hb 4
      have hlc := blk_lt hb
      clear hq hb hq2
      go_wp2_with fail
      refine (HTN _).out.mono ?_
      rintro x w5 ⟨rfl, ho5⟩
      have HO5 := hid (HOC2.out.trans ho5 (fun _ _ e => e))
      clear ho5
      go_wp2_with fail
      go_meet
      case rel => exact ⟨rfl, HO5.out⟩
    | false =>
      have hq : q2 = q1 := by rw [← hq2]; simp
      subst hq
      clear hq2
      go_wp2_with fail
      go_meet
      case rel => exact ⟨rfl, HOC2.out⟩
  case rest =>
  obtain ⟨rfl, hoc⟩ := hcut
  have HOC3 := hid hoc
  have HQ2 := hid hq2
  clear hoc hq2 g0 g1 g2 g3 hlf2
  have hbf3 := blk_only HBF.out HOC3.out (fun e => e)
  have g0 : wc.cell? ⟨w1.heap.size, 0, none⟩ = some (.bool mA) := cell_blk hbf3 0
  have g1 : wc.cell? ⟨w1.heap.size, 1, none⟩ = some (.bool mB) := cell_blk hbf3 1
  have g2 : wc.cell? ⟨w1.heap.size, 2, none⟩ = some (.bool mN) := cell_blk hbf3 2
  have g3 : wc.cell? ⟨w1.heap.size, 3, none⟩ = some (.bool mV) := cell_blk hbf3 3
  have hlf3 := blk_lt hbf3
  clear hbf3
  obtain ⟨q3, hq3⟩ : ∃ x, q2 ++ (if mV = true then 32 :: zv else []) = x := ⟨_, rfl⟩
  have lq3 : q3.length ≤ 4000221 := by rw [← hq3, List.length_append]; split <;> first | (simp only [List.length_cons]; omega) | (simp only [List.length_nil]; omega)
  go_upto_if 46 with fail
  go_cut [5] from 46 to 52 (fun s wx => s = .string (strOf q3) ∧ Only (fun _ => False) wb wx)
  case first =>
    cases mV with
    | true =>
      have hq : q2 ++ 32 :: zv = q3 := by rw [← hq3, if_pos rfl]
      have cc0 : (⟨#[32]⟩ : ByteArray) ++ strOf zv = strOf (32 :: zv) := strOf_app [32] _
      have cc : strOf q2 ++ strOf (32 :: zv) = strOf q3 := by rw [← hq]; exact strOf_app _ _
      have zz0 : ¬ 9223372036854775807 < 1 + (strOf zv).size := by rw [HS0.out]; omega
      have zz : ¬ 9223372036854775807 < (strOf q2).size + (strOf (32 :: zv)).size := by rw [HS0.out, HS0.out]; simp only [List.length_cons]; omega
      have hb := blk_only HBC.out HOC3.out (fun e => e)
      have e5 : wc.cell? ⟨w.heap.size, 5, none⟩ = some (.int .i64 vk) := cell_blk hb 5
      have e6 : wc.cell? ⟨w.heap.size, 6, none⟩ = some (.int .i64 vn) := cell_blk hb 6
      have e7 : wc.cell? ⟨w.heap.size, 7, none⟩ = some (.string (strOf vs)) := cell_blk hb 7
      have e8 : wc.cell? ⟨w.heap.size, 8, none⟩ = some (.slice va vm vc) := cell_blk hb 8
      have HVB := hid (vprint_c (w := wc) (HV.out.same (HOB.out.trans HOC3.out (fun _ _ e => e))) (fun i hi => by have := HGG.out i hi; have := (HOB.out.trans HOC3.out (fun _ _ e => e)).size; omega) Hgv.out (HTB.out.only (HOB.out.trans HOC3.out (fun _ _ e => e))) (by rw [HZV.out]; omega))
      rw [HZV.out] at HVB
      have hlc := blk_lt hb
      clear hq hb hq3
      go_wp2_with fail
      refine HVB.out.mono ?_
      rintro x w5 ⟨rfl, ho5⟩
      have HO5 := hid (HOC3.out.trans ho5 (fun _ _ e => e))
      clear ho5
      go_wp2_with fail
      go_meet
      case rel => exact ⟨rfl, HO5.out⟩
    | false =>
      have hq : q3 = q2 := by rw [← hq3]; simp
      subst hq
      clear hq3
      go_wp2_with fail
      go_meet
      case rel => exact ⟨rfl, HOC3.out⟩
  case rest =>
  obtain ⟨rfl, hoc⟩ := hcut
  have HOC4 := hid hoc
  have HQ3 := hid hq3
  clear hoc hq3 g0 g1 g2 g3 hlf3
  have HFIN : Hid (epr = q3) := hid (by rw [HWR.out, ← HQ3.out, ← HQ2.out, ← HQ1.out, ← HQ0.out]; simp)
  go_wp2_with fail
  go_ret
  rw [HFIN.out]; exact ⟨rfl, HOB.out.trans HOC4.out (fun _ _ e => e)⟩
end
end Go.Proofs.YtihidpfkdpjdpaaGreatDoor
