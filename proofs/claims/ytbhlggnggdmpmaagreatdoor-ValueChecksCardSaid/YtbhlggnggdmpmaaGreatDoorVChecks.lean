/- ValueChecks's walk. -/
import Derived.Test.YtbhlggnggdmpmaaGreatDoorVFits
import Derived.Test.YtbhlggnggdmpmaaGreatDoorVDecs
import Derived.Test.YtbhlggnggdmpmaaGreatDoorVSmall
import Derived.Test.YtbhlggnggdmpmaaGreatDoorRf03S
import Derived.Test.YtbhlggnggdmpmaaGreatDoorValC
namespace Go.Proofs.YtbhlggnggdmpmaaGreatDoor
open Go.RowKit

theorem step_ofg {P : Program} {ops : Array Oper} {o : Oper} {a : Act} {w : World} {Q : Exit → Act → World → Prop} {K : Act → World → Prop} {E : Prop} (hg : Region.wanted o (yielded ops a.tmps) = true) (h : o.wp P a w K Q) : if Region.wanted o (yielded ops a.tmps) = true then o.wp P a w K Q else E := by
  rw [if_pos hg]; exact h
theorem chk_kd2 {t : VT} (h : t.chk = 0) : t.kd ∧ t.cl.kd := by
  have go : ∀ t : VT, t.chk = 0 → t.kd := fun t h => by
    unfold VT.chk at h
    by_cases h1 : (t.walk 0 0 0).2 = 0
    · exact walk_kd t 0 0 _ (Prod.ext rfl h1)
    · rw [if_pos h1] at h; exact absurd h h1
  exact ⟨go t h, go t.cl (by rw [cl_chk]; exact h)⟩
theorem chk_parts {t : VT} (h : t.chk = 0) : (t.walk 0 0 0).1 = t.parts := by
  unfold VT.chk at h
  by_cases h1 : (t.walk 0 0 0).2 = 0
  · exact (walk_parts t 0 0 _ (Prod.ext rfl h1)).trans (Nat.zero_add _)
  · rw [if_pos h1] at h; exact absurd h h1
mutual
theorem fitc_sz : ∀ (t : VT) (d : Nat) (x : Int), (t.fit d x).1 = true → (t.sz : Int) = x - (t.fit d x).2
  | .mk k n s l, d, x, h => by
    rw [VT.fit] at h ⊢
    rw [VT.sz]
    by_cases g : x - 1 < 0 ∨ 12 < d ∨ 1100 < s.length
    · rw [if_pos g] at h; simp at h
    · rw [if_neg g] at h ⊢
      have := fitcL_sz l (d + 1) (x - 1) h
      omega
theorem fitcL_sz : ∀ (l : List VT) (d : Nat) (x : Int), (VT.fitL d x l).1 = true → (VT.szL l : Int) = x - (VT.fitL d x l).2
  | [], d, x, h => by rw [VT.fitL, VT.szL]; simp
  | t :: ts, d, x, h => by
    rw [VT.fitL] at h ⊢
    rw [VT.szL]
    by_cases g : (t.fit d x).1 = true
    · rw [if_pos g] at h ⊢
      have h1 := fitc_sz t d x g
      have h2 := fitcL_sz ts d _ h
      omega
    · rw [if_neg g] at h; simp at h
end
theorem smV_sz : ∀ (ts : List VT) (x : Int), 0 ≤ x → smV ts x = true → ∀ t ∈ ts, (t.sz : Int) ≤ x
  | [], _, _, _, _, h => by simp at h
  | a :: ts, x, hx, h, t, ht => by
    rw [smV] at h
    by_cases g2 : (a.fit 0 x).1 = true
    · rw [if_pos g2] at h
      have hr := fit_rng a 0 x hx
      have h3 := hr.2.2 g2
      rcases List.mem_cons.1 ht with rfl | he'
      · have := fitc_sz t 0 x g2; omega
      · have := smV_sz ts _ h3 h t he'; omega
    · rw [if_neg g2] at h; simp at h
section
variable {w : World}
set_option maxRecDepth 100000 in
set_option maxHeartbeats 3200000 in
theorem vchecks_c (hT : Tab w) (hR : Ers w) {t : VT} {G : Nat → Prop} {cs : List Value} (hV : VAt w G t cs) (hG : ∀ k, G k → k < w.heap.size) (hg : t.rg) : Calls Tryz.prog 3 #[.agg cs.toArray] w fun x w' => x = .returned (.bool true) ∧ Only (fun _ => False) w w' := by
  obtain ⟨k, n, s, a, m, c, rfl⟩ := hV.form
  have ho0 := only_new w (.cells #[.int .i64 k, .int .i64 n, .string (strOf s), .slice a m c] 24)
  have HTL := hid (holds_c (hT.only ho0) (hR.same ho0))
  have HT := hid hT; have HR := hid hR; have HV := hid hV; have HG := hid hG; have Hg := hid hg
  have HB0 := hid (blk_new w (.cells #[.int .i64 k, .int .i64 n, .string (strOf s), .slice a m c] 24))
  have HO0 := hid ho0
  clear hT hR hV hG hg ho0
  go_enter Tryz.func3, Tryz.ntmps3
  go_wp2_with fail
  refine HTL.out.mono ?_
  rintro x w1 ⟨rfl, ho1⟩
  have HB1 := hid (blk_only HB0.out ho1 (fun e => e))
  have HO1 := hid (HO0.out.trans ho1 (fun _ _ e => e))
  clear ho1 HTL
  have HSM := hid (fits_c (w := w1.alloc (.cells #[.int .i64 k, .int .i64 n, .string (strOf s), .slice a m c] 24)) (VsV.one (w := w1.alloc (.cells #[.int .i64 k, .int .i64 n, .string (strOf s), .slice a m c] 24)) (blk_new w1 _) (HV.out.same (HO1.out.trans (only_new w1 _) (fun _ _ e => e)))) (fun k hk => by have := HO1.out.size; rcases hk with rfl | hk; simp; have := HG.out k hk; simp; omega) (fun e' he' => by rw [List.mem_singleton.1 he']; exact Hg.out) (by simp))
  have b0 : w1.cell? ⟨w.heap.size, 0, none⟩ = some (.int .i64 k) := cell_blk HB1.out 0
  have b1 : w1.cell? ⟨w.heap.size, 1, none⟩ = some (.int .i64 n) := cell_blk HB1.out 1
  have b2 : w1.cell? ⟨w.heap.size, 2, none⟩ = some (.string (strOf s)) := cell_blk HB1.out 2
  have b3 : w1.cell? ⟨w.heap.size, 3, none⟩ = some (.slice a m c) := cell_blk HB1.out 3
  have hlw1 : w.heap.size < w1.heap.size := blk_lt HB1.out
  obtain ⟨sm, hsm⟩ : ∃ b, smV [t] 400 = b := ⟨_, rfl⟩
  rw [hsm] at HSM
  cases sm with
  | false =>
    go_wp2_with fail
    refine HSM.out.mono ?_
    rintro x w2 ⟨rfl, ho2⟩
    have HO2 := hid (HO1.out.trans ((only_new w1 _).trans ho2 (fun _ _ e => e)) (fun _ _ e => e))
    clear ho2
    go_wp2_with fail
    go_ret
    exact ⟨rfl, HO2.out⟩
  | true =>
  have HSZ := hid (smV_sz [t] 400 (by omega) hsm t (by simp))
  clear hsm
  go_wp2_with fail
  refine HSM.out.mono ?_
  rintro x w2 ⟨rfl, ho2⟩
  have ho12 := (only_new w1 (.cells #[.int .i64 k, .int .i64 n, .string (strOf s), .slice a m c] 24)).trans ho2 (fun _ _ e => e)
  have HB2 := hid (blk_only HB1.out ho12 (fun e => e))
  have HO2 := hid (HO1.out.trans ho12 (fun _ _ e => e))
  clear ho2 ho12 HSM b0 b1 b2 b3 hlw1
  have b0 : w2.cell? ⟨w.heap.size, 0, none⟩ = some (.int .i64 k) := cell_blk HB2.out 0
  have b1 : w2.cell? ⟨w.heap.size, 1, none⟩ = some (.int .i64 n) := cell_blk HB2.out 1
  have b2 : w2.cell? ⟨w.heap.size, 2, none⟩ = some (.string (strOf s)) := cell_blk HB2.out 2
  have b3 : w2.cell? ⟨w.heap.size, 3, none⟩ = some (.slice a m c) := cell_blk HB2.out 3
  have hlw2 : w.heap.size < w2.heap.size := blk_lt HB2.out
  have HRC := hid (rfcheck_c (HV.out.same HO2.out) Hg.out)
  have hdn := fun h : t.chk = 0 => vd_enc h Hg.out
  have hpt := fun h : t.chk = 0 => chk_parts h
  have hwl := fun h : t.chk = 0 => (chk_walk h).choose_spec.2
  obtain ⟨ck, hck⟩ : ∃ y, t.chk = y := ⟨_, rfl⟩
  obtain ⟨pk, hpk⟩ : ∃ y, (t.walk 0 0 0).1 = y := ⟨_, rfl⟩
  rw [hck, hpk] at HRC
  rw [hck] at hdn hpt hwl
  rw [hpk] at hpt
  have HCK := hid hck; have HDN := hid hdn; have HPT := hid hpt; have HWL := hid hwl
  clear hck hpk hdn hpt hwl
  go_wp2_with fail
  refine HRC.out.mono ?_
  rintro x w3 ⟨rfl, ho3⟩
  have HB3 := hid (blk_only HB2.out ho3 (fun e => e))
  have HO3 := hid (HO2.out.trans ho3 (fun _ _ e => e))
  have HEN := hid (vencode_c (HV.out.same HO3.out) (fun i hi => by have := HG.out i hi; have := HO3.out.size; omega) Hg.out)
  clear ho3 HRC b0 b1 b2 b3 hlw2
  have b0 : w3.cell? ⟨w.heap.size, 0, none⟩ = some (.int .i64 k) := cell_blk HB3.out 0
  have b1 : w3.cell? ⟨w.heap.size, 1, none⟩ = some (.int .i64 n) := cell_blk HB3.out 1
  have b2 : w3.cell? ⟨w.heap.size, 2, none⟩ = some (.string (strOf s)) := cell_blk HB3.out 2
  have b3 : w3.cell? ⟨w.heap.size, 3, none⟩ = some (.slice a m c) := cell_blk HB3.out 3
  have hlw3 : w.heap.size < w3.heap.size := blk_lt HB3.out
  go_wp2_with fail
  refine HEN.out.mono ?_
  rintro x w4 ⟨v4, rfl, hv4⟩
  rw [HCK.out] at hv4 ⊢
  have ho4 : Only (fun _ => False) w3 w4 := by obtain ⟨-, -, -, -, -, h⟩ := hv4; exact h
  have HB4 := hid (blk_only HB3.out ho4 (fun e => e))
  have HO4 := hid (HO3.out.trans ho4 (fun _ _ e => e))
  have HVK := hid (vcheck_c (HV.out.same HO4.out) (fun i hi => by have := HG.out i hi; have := HO4.out.size; omega) Hg.out)
  rw [HCK.out] at HVK
  clear ho4 HEN b0 b1 b2 b3 hlw3
  have b0 : w4.cell? ⟨w.heap.size, 0, none⟩ = some (.int .i64 k) := cell_blk HB4.out 0
  have b1 : w4.cell? ⟨w.heap.size, 1, none⟩ = some (.int .i64 n) := cell_blk HB4.out 1
  have b2 : w4.cell? ⟨w.heap.size, 2, none⟩ = some (.string (strOf s)) := cell_blk HB4.out 2
  have b3 : w4.cell? ⟨w.heap.size, 3, none⟩ = some (.slice a m c) := cell_blk HB4.out 3
  have hlw4 : w.heap.size < w4.heap.size := blk_lt HB4.out
  have hcc : (ck != ck) = false := by simp
  by_cases hc0 : ck = 0
  case neg =>
    rw [if_neg hc0] at hv4
    obtain ⟨ao, cp, rfl, hgr, -, -⟩ := hv4
    have hcb : (ck != 0) = true := by simpa using hc0
    clear hgr hc0
    go_wp2_with fail
    refine HVK.out.mono ?_
    rintro x w5 ⟨rfl, ho5⟩
    have HO5 := hid (HO4.out.trans ho5 (fun _ _ e => e))
    clear ho5 HVK
    go_wp2_with fail
    go_ret
    exact ⟨rfl, HO5.out⟩
  subst hc0
  rw [if_pos rfl] at hv4
  obtain ⟨ao, cp, rfl, hgr, -, -⟩ := hv4
  have hwl := HWL.out rfl
  have hdn := HDN.out rfl
  have HPK := hid (HPT.out rfl)
  obtain ⟨wr, hwr⟩ : ∃ x, t.wr = x := ⟨_, rfl⟩
  rw [hwr] at hwl hdn hgr ⊢
  have HWR := hid hwr; have HDD := hid hdn
  have HS4 := hid hgr.src
  clear hwr hdn hgr HWL HDN HPT
  go_wp2_with fail
  refine HVK.out.mono ?_
  rintro x w5 ⟨rfl, ho5⟩
  have HB5 := hid (blk_only HB4.out ho5 (fun e => e))
  have HO5 := hid (HO4.out.trans ho5 (fun _ _ e => e))
  have HS5 := hid (HS4.out.same ho5)
  have HDE := hid (vdecode_c HS5.out (by omega))
  clear ho5 HVK b0 b1 b2 b3 hlw4
  go_wp2_with fail
  refine HDE.out.mono ?_
  rintro x w6 ⟨cs6, rfl, hv6, ho6⟩
  rw [HDD.out] at hv6 ⊢
  obtain ⟨k6, n6, s6, a6, m6, c6, rfl⟩ := hv6.form
  have hn := (only_new w6 (.cells #[.int .i64 k6, .int .i64 n6, .string (strOf s6), .slice a6 m6 c6] 24)).drew
  have HOB : Hid (Only (fun _ => False) w ((w6.alloc (.cells #[.int .i64 k6, .int .i64 n6, .string (strOf s6), .slice a6 m6 c6] 24)).drew)) := hid ((HO5.out.trans ho6 (fun _ _ e => e)).trans hn (fun _ _ e => e))
  have HXB := hid (fun (wx : World) (h : Only (fun _ => False) ((w6.alloc (.cells #[.int .i64 k6, .int .i64 n6, .string (strOf s6), .slice a6 m6 c6] 24)).drew) wx) => blk_only (blk_only HB5.out (ho6.trans hn (fun _ _ e => e)) (fun e => e)) h (fun e => e))
  have HXU := hid (fun (wx : World) (h : Only (fun _ => False) ((w6.alloc (.cells #[.int .i64 k6, .int .i64 n6, .string (strOf s6), .slice a6 m6 c6] 24)).drew) wx) => blk_only (w := ((w6.alloc (.cells #[.int .i64 k6, .int .i64 n6, .string (strOf s6), .slice a6 m6 c6] 24)).drew)) (blk_new w6 (.cells #[.int .i64 k6, .int .i64 n6, .string (strOf s6), .slice a6 m6 c6] 24)) h (fun e => e))
  have HU := hid (fun (wx : World) (h : Only (fun _ => False) ((w6.alloc (.cells #[.int .i64 k6, .int .i64 n6, .string (strOf s6), .slice a6 m6 c6] 24)).drew) wx) => (hv6.same hn).same h)
  have HSB := hid (fun (wx : World) (h : Only (fun _ => False) ((w6.alloc (.cells #[.int .i64 k6, .int .i64 n6, .string (strOf s6), .slice a6 m6 c6] 24)).drew) wx) => ((HS5.out.same ho6).same hn).same h)
  have hcv := conv_str (HSB.out ((w6.alloc (.cells #[.int .i64 k6, .int .i64 n6, .string (strOf s6), .slice a6 m6 c6] 24)).drew) (Only.refl _ _))
  have hcs : ((strOf wr).toList == (strOf wr).toList) = true := by simp
  have HKD := hid (chk_kd2 HCK.out)
  have hz0 : t.cl.cmp t = 0 := cmp_cl t
  have HZ0 := hid hz0
  have HZ1 : Hid (t.cl.rc t = 0) := hid ((rc_zero _ _).2 hz0)
  clear hv6 ho6 hn HDE hz0
  have b0 : ((w6.alloc (.cells #[.int .i64 k6, .int .i64 n6, .string (strOf s6), .slice a6 m6 c6] 24)).drew).cell? ⟨w.heap.size, 0, none⟩ = some (.int .i64 k) := cell_blk (HXB.out ((w6.alloc (.cells #[.int .i64 k6, .int .i64 n6, .string (strOf s6), .slice a6 m6 c6] 24)).drew) (Only.refl _ _)) 0
  have b1 : ((w6.alloc (.cells #[.int .i64 k6, .int .i64 n6, .string (strOf s6), .slice a6 m6 c6] 24)).drew).cell? ⟨w.heap.size, 1, none⟩ = some (.int .i64 n) := cell_blk (HXB.out ((w6.alloc (.cells #[.int .i64 k6, .int .i64 n6, .string (strOf s6), .slice a6 m6 c6] 24)).drew) (Only.refl _ _)) 1
  have b2 : ((w6.alloc (.cells #[.int .i64 k6, .int .i64 n6, .string (strOf s6), .slice a6 m6 c6] 24)).drew).cell? ⟨w.heap.size, 2, none⟩ = some (.string (strOf s)) := cell_blk (HXB.out ((w6.alloc (.cells #[.int .i64 k6, .int .i64 n6, .string (strOf s6), .slice a6 m6 c6] 24)).drew) (Only.refl _ _)) 2
  have b3 : ((w6.alloc (.cells #[.int .i64 k6, .int .i64 n6, .string (strOf s6), .slice a6 m6 c6] 24)).drew).cell? ⟨w.heap.size, 3, none⟩ = some (.slice a m c) := cell_blk (HXB.out ((w6.alloc (.cells #[.int .i64 k6, .int .i64 n6, .string (strOf s6), .slice a6 m6 c6] 24)).drew) (Only.refl _ _)) 3
  have hlb : w.heap.size < ((w6.alloc (.cells #[.int .i64 k6, .int .i64 n6, .string (strOf s6), .slice a6 m6 c6] 24)).drew).heap.size := blk_lt (HXB.out ((w6.alloc (.cells #[.int .i64 k6, .int .i64 n6, .string (strOf s6), .slice a6 m6 c6] 24)).drew) (Only.refl _ _))
  have u0 : ((w6.alloc (.cells #[.int .i64 k6, .int .i64 n6, .string (strOf s6), .slice a6 m6 c6] 24)).drew).cell? ⟨w6.heap.size, 0, none⟩ = some (.int .i64 k6) := cell_blk (HXU.out ((w6.alloc (.cells #[.int .i64 k6, .int .i64 n6, .string (strOf s6), .slice a6 m6 c6] 24)).drew) (Only.refl _ _)) 0
  have u1 : ((w6.alloc (.cells #[.int .i64 k6, .int .i64 n6, .string (strOf s6), .slice a6 m6 c6] 24)).drew).cell? ⟨w6.heap.size, 1, none⟩ = some (.int .i64 n6) := cell_blk (HXU.out ((w6.alloc (.cells #[.int .i64 k6, .int .i64 n6, .string (strOf s6), .slice a6 m6 c6] 24)).drew) (Only.refl _ _)) 1
  have u2 : ((w6.alloc (.cells #[.int .i64 k6, .int .i64 n6, .string (strOf s6), .slice a6 m6 c6] 24)).drew).cell? ⟨w6.heap.size, 2, none⟩ = some (.string (strOf s6)) := cell_blk (HXU.out ((w6.alloc (.cells #[.int .i64 k6, .int .i64 n6, .string (strOf s6), .slice a6 m6 c6] 24)).drew) (Only.refl _ _)) 2
  have u3 : ((w6.alloc (.cells #[.int .i64 k6, .int .i64 n6, .string (strOf s6), .slice a6 m6 c6] 24)).drew).cell? ⟨w6.heap.size, 3, none⟩ = some (.slice a6 m6 c6) := cell_blk (HXU.out ((w6.alloc (.cells #[.int .i64 k6, .int .i64 n6, .string (strOf s6), .slice a6 m6 c6] 24)).drew) (Only.refl _ _)) 3
  have hlu : w6.heap.size < ((w6.alloc (.cells #[.int .i64 k6, .int .i64 n6, .string (strOf s6), .slice a6 m6 c6] 24)).drew).heap.size := blk_lt (HXU.out ((w6.alloc (.cells #[.int .i64 k6, .int .i64 n6, .string (strOf s6), .slice a6 m6 c6] 24)).drew) (Only.refl _ _))
  have HC1 := hid (fun (wx : World) (h : Only (fun _ => False) w wx) => rfbytes_c (HV.out.same h) Hg.out (by rw [HWR.out]; omega))
  have HC2 := hid (fun (wx : World) (h : Only (fun _ => False) w wx) (h' : Only (fun _ => False) ((w6.alloc (.cells #[.int .i64 k6, .int .i64 n6, .string (strOf s6), .slice a6 m6 c6] 24)).drew) wx) => vsame_c (HU.out _ h') (HV.out.same h) (cl_rg _ Hg.out) Hg.out)
  have HC3 := hid (fun (wx : World) (h : Only (fun _ => False) w wx) (h' : Only (fun _ => False) ((w6.alloc (.cells #[.int .i64 k6, .int .i64 n6, .string (strOf s6), .slice a6 m6 c6] 24)).drew) wx) => rcmpC t.cl.sz t.cl t (Nat.le_refl _) wx _ _ _ _ (HU.out _ h') (HV.out.same h) (cl_rg _ Hg.out) Hg.out HKD.out.2 HKD.out.1)
  have HC4 := hid (fun (wx : World) (h : Only (fun _ => False) w wx) => partsC t.sz t (Nat.le_refl _) wx _ _ (HV.out.same h) (by have := HSZ.out; omega))
  have HC5 := hid (fun (wx : World) (h : Only (fun _ => False) w wx) => cloneC t.sz t (Nat.le_refl _) wx _ _ (HV.out.same h) (fun i hi => by have := HG.out i hi; have := h.size; omega) Hg.out (by have := HSZ.out; omega))
  simp only [HWR.out] at HC1
  simp only [HZ0.out] at HC2
  simp only [HZ1.out] at HC3
  simp only [← HPK.out] at HC4
  go_wp2_with fail
  go_region_law (first
    | (refine step_of rfl (wp_callc (o := ⟨some 47, _, _, _, _, _⟩) (f := 16) (args := #[.agg #[.int .i64 k, .int .i64 n, .string (strOf s), .slice a m c]]) (by kernel_rfl) ?_); refine (HC1.out _ HOB.out).mono ?_; rintro x w7 ⟨rfl, ho7⟩; refine ⟨_, rfl, ?_⟩; have HA7 := hid ((Only.refl (fun _ => False) ((w6.alloc (.cells #[.int .i64 k6, .int .i64 n6, .string (strOf s6), .slice a6 m6 c6] 24)).drew)).trans ho7 (fun _ _ e => e)); have HO7 := hid (HOB.out.trans HA7.out (fun _ _ e => e)); have hcv7 := conv_str (HSB.out w7 HA7.out); clear b0 b1 b2 b3 hlb u0 u1 u2 u3 hlu; have b0 : w7.cell? ⟨w.heap.size, 0, none⟩ = some (.int .i64 k) := cell_blk (HXB.out w7 HA7.out) 0; have b1 : w7.cell? ⟨w.heap.size, 1, none⟩ = some (.int .i64 n) := cell_blk (HXB.out w7 HA7.out) 1; have b2 : w7.cell? ⟨w.heap.size, 2, none⟩ = some (.string (strOf s)) := cell_blk (HXB.out w7 HA7.out) 2; have b3 : w7.cell? ⟨w.heap.size, 3, none⟩ = some (.slice a m c) := cell_blk (HXB.out w7 HA7.out) 3; have hlb : w.heap.size < w7.heap.size := blk_lt (HXB.out w7 HA7.out); have u0 : w7.cell? ⟨w6.heap.size, 0, none⟩ = some (.int .i64 k6) := cell_blk (HXU.out w7 HA7.out) 0; have u1 : w7.cell? ⟨w6.heap.size, 1, none⟩ = some (.int .i64 n6) := cell_blk (HXU.out w7 HA7.out) 1; have u2 : w7.cell? ⟨w6.heap.size, 2, none⟩ = some (.string (strOf s6)) := cell_blk (HXU.out w7 HA7.out) 2; have u3 : w7.cell? ⟨w6.heap.size, 3, none⟩ = some (.slice a6 m6 c6) := cell_blk (HXU.out w7 HA7.out) 3; have hlu : w6.heap.size < w7.heap.size := blk_lt (HXU.out w7 HA7.out))
    | (refine step_ofg (by kernel_rfl) (wp_callc (o := ⟨some 56, _, _, _, _, _⟩) (f := 17) (args := #[.agg #[.int .i64 k6, .int .i64 n6, .string (strOf s6), .slice a6 m6 c6], .agg #[.int .i64 k, .int .i64 n, .string (strOf s), .slice a m c]]) (by kernel_rfl) ?_); refine (HC2.out _ HO7.out HA7.out).mono ?_; rintro x w8 ⟨rfl, ho8⟩; refine ⟨_, rfl, ?_⟩; have HA8 := hid (HA7.out.trans ho8 (fun _ _ e => e)); have HO8 := hid (HOB.out.trans HA8.out (fun _ _ e => e)); clear b0 b1 b2 b3 hlb u0 u1 u2 u3 hlu; have b0 : w8.cell? ⟨w.heap.size, 0, none⟩ = some (.int .i64 k) := cell_blk (HXB.out w8 HA8.out) 0; have b1 : w8.cell? ⟨w.heap.size, 1, none⟩ = some (.int .i64 n) := cell_blk (HXB.out w8 HA8.out) 1; have b2 : w8.cell? ⟨w.heap.size, 2, none⟩ = some (.string (strOf s)) := cell_blk (HXB.out w8 HA8.out) 2; have b3 : w8.cell? ⟨w.heap.size, 3, none⟩ = some (.slice a m c) := cell_blk (HXB.out w8 HA8.out) 3; have hlb : w.heap.size < w8.heap.size := blk_lt (HXB.out w8 HA8.out); have u0 : w8.cell? ⟨w6.heap.size, 0, none⟩ = some (.int .i64 k6) := cell_blk (HXU.out w8 HA8.out) 0; have u1 : w8.cell? ⟨w6.heap.size, 1, none⟩ = some (.int .i64 n6) := cell_blk (HXU.out w8 HA8.out) 1; have u2 : w8.cell? ⟨w6.heap.size, 2, none⟩ = some (.string (strOf s6)) := cell_blk (HXU.out w8 HA8.out) 2; have u3 : w8.cell? ⟨w6.heap.size, 3, none⟩ = some (.slice a6 m6 c6) := cell_blk (HXU.out w8 HA8.out) 3; have hlu : w6.heap.size < w8.heap.size := blk_lt (HXU.out w8 HA8.out))
    | (refine step_ofg (by kernel_rfl) (wp_callc (o := ⟨some 61, _, _, _, _, _⟩) (f := 18) (args := #[.agg #[.int .i64 k6, .int .i64 n6, .string (strOf s6), .slice a6 m6 c6], .agg #[.int .i64 k, .int .i64 n, .string (strOf s), .slice a m c]]) (by kernel_rfl) ?_); refine (HC3.out _ HO8.out HA8.out).mono ?_; rintro x w9 ⟨rfl, ho9⟩; refine ⟨_, rfl, ?_⟩; have HA9 := hid (HA8.out.trans ho9 (fun _ _ e => e)); have HO9 := hid (HOB.out.trans HA9.out (fun _ _ e => e)); clear b0 b1 b2 b3 hlb u0 u1 u2 u3 hlu; have b0 : w9.cell? ⟨w.heap.size, 0, none⟩ = some (.int .i64 k) := cell_blk (HXB.out w9 HA9.out) 0; have b1 : w9.cell? ⟨w.heap.size, 1, none⟩ = some (.int .i64 n) := cell_blk (HXB.out w9 HA9.out) 1; have b2 : w9.cell? ⟨w.heap.size, 2, none⟩ = some (.string (strOf s)) := cell_blk (HXB.out w9 HA9.out) 2; have b3 : w9.cell? ⟨w.heap.size, 3, none⟩ = some (.slice a m c) := cell_blk (HXB.out w9 HA9.out) 3; have hlb : w.heap.size < w9.heap.size := blk_lt (HXB.out w9 HA9.out); have u0 : w9.cell? ⟨w6.heap.size, 0, none⟩ = some (.int .i64 k6) := cell_blk (HXU.out w9 HA9.out) 0; have u1 : w9.cell? ⟨w6.heap.size, 1, none⟩ = some (.int .i64 n6) := cell_blk (HXU.out w9 HA9.out) 1; have u2 : w9.cell? ⟨w6.heap.size, 2, none⟩ = some (.string (strOf s6)) := cell_blk (HXU.out w9 HA9.out) 2; have u3 : w9.cell? ⟨w6.heap.size, 3, none⟩ = some (.slice a6 m6 c6) := cell_blk (HXU.out w9 HA9.out) 3; have hlu : w6.heap.size < w9.heap.size := blk_lt (HXU.out w9 HA9.out))
    | (refine step_ofg (by kernel_rfl) (wp_callc (o := ⟨some 66, _, _, _, _, _⟩) (f := 19) (args := #[.agg #[.int .i64 k, .int .i64 n, .string (strOf s), .slice a m c]]) (by kernel_rfl) ?_); refine (HC4.out _ HO9.out).mono ?_; rintro x w10 ⟨rfl, ho10⟩; refine ⟨_, rfl, ?_⟩; have HA10 := hid (HA9.out.trans ho10 (fun _ _ e => e)); have HO10 := hid (HOB.out.trans HA10.out (fun _ _ e => e)); clear b0 b1 b2 b3 hlb u0 u1 u2 u3 hlu; have b0 : w10.cell? ⟨w.heap.size, 0, none⟩ = some (.int .i64 k) := cell_blk (HXB.out w10 HA10.out) 0; have b1 : w10.cell? ⟨w.heap.size, 1, none⟩ = some (.int .i64 n) := cell_blk (HXB.out w10 HA10.out) 1; have b2 : w10.cell? ⟨w.heap.size, 2, none⟩ = some (.string (strOf s)) := cell_blk (HXB.out w10 HA10.out) 2; have b3 : w10.cell? ⟨w.heap.size, 3, none⟩ = some (.slice a m c) := cell_blk (HXB.out w10 HA10.out) 3; have hlb : w.heap.size < w10.heap.size := blk_lt (HXB.out w10 HA10.out); have u0 : w10.cell? ⟨w6.heap.size, 0, none⟩ = some (.int .i64 k6) := cell_blk (HXU.out w10 HA10.out) 0; have u1 : w10.cell? ⟨w6.heap.size, 1, none⟩ = some (.int .i64 n6) := cell_blk (HXU.out w10 HA10.out) 1; have u2 : w10.cell? ⟨w6.heap.size, 2, none⟩ = some (.string (strOf s6)) := cell_blk (HXU.out w10 HA10.out) 2; have u3 : w10.cell? ⟨w6.heap.size, 3, none⟩ = some (.slice a6 m6 c6) := cell_blk (HXU.out w10 HA10.out) 3; have hlu : w6.heap.size < w10.heap.size := blk_lt (HXU.out w10 HA10.out))
    | (refine step_ofg (by kernel_rfl) (wp_callc (o := ⟨some 72, _, _, _, _, _⟩) (f := 20) (args := #[.agg #[.int .i64 k, .int .i64 n, .string (strOf s), .slice a m c]]) (by kernel_rfl) ?_); refine (HC5.out _ HO10.out).mono ?_; rintro x w11 ⟨cs11, rfl, hv11, ho11, -⟩; refine ⟨_, rfl, ?_⟩; have HA11 := hid (HA10.out.trans ho11 (fun _ _ e => e)); have HO11 := hid (HOB.out.trans HA11.out (fun _ _ e => e)); obtain ⟨k11, n11, s11, a11, m11, c11, rfl⟩ := hv11.form; have HV11 := hid (vsame_c hv11 (HV.out.same HO11.out) (cl_rg _ Hg.out) Hg.out); rw [HZ0.out] at HV11; clear hv11; clear b0 b1 b2 b3 hlb u0 u1 u2 u3 hlu; have b0 : w11.cell? ⟨w.heap.size, 0, none⟩ = some (.int .i64 k) := cell_blk (HXB.out w11 HA11.out) 0; have b1 : w11.cell? ⟨w.heap.size, 1, none⟩ = some (.int .i64 n) := cell_blk (HXB.out w11 HA11.out) 1; have b2 : w11.cell? ⟨w.heap.size, 2, none⟩ = some (.string (strOf s)) := cell_blk (HXB.out w11 HA11.out) 2; have b3 : w11.cell? ⟨w.heap.size, 3, none⟩ = some (.slice a m c) := cell_blk (HXB.out w11 HA11.out) 3; have hlb : w.heap.size < w11.heap.size := blk_lt (HXB.out w11 HA11.out); have u0 : w11.cell? ⟨w6.heap.size, 0, none⟩ = some (.int .i64 k6) := cell_blk (HXU.out w11 HA11.out) 0; have u1 : w11.cell? ⟨w6.heap.size, 1, none⟩ = some (.int .i64 n6) := cell_blk (HXU.out w11 HA11.out) 1; have u2 : w11.cell? ⟨w6.heap.size, 2, none⟩ = some (.string (strOf s6)) := cell_blk (HXU.out w11 HA11.out) 2; have u3 : w11.cell? ⟨w6.heap.size, 3, none⟩ = some (.slice a6 m6 c6) := cell_blk (HXU.out w11 HA11.out) 3; have hlu : w6.heap.size < w11.heap.size := blk_lt (HXU.out w11 HA11.out))
    | (refine step_ofg (by kernel_rfl) (wp_callc (o := ⟨some 74, _, _, _, _, _⟩) (f := 17) (args := #[.agg #[.int .i64 k11, .int .i64 n11, .string (strOf s11), .slice a11 m11 c11], .agg #[.int .i64 k, .int .i64 n, .string (strOf s), .slice a m c]]) (by kernel_rfl) ?_); refine HV11.out.mono ?_; rintro x w12 ⟨rfl, ho12⟩; refine ⟨_, rfl, ?_⟩; have HO12 := hid (HO11.out.trans ho12 (fun _ _ e => e)); clear ho12))
  all_goals
    go_wp2_with fail
    go_ret
    exact ⟨rfl, HO12.out⟩
end
end Go.Proofs.YtbhlggnggdmpmaaGreatDoor
