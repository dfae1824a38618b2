/- ValueTrue's walk. -/
import Derived.Test.YtbhlggnggdmpmaaGreatDoorVFits
import Derived.Test.YtbhlggnggdmpmaaGreatDoorVDecs
import Derived.Test.YtbhlggnggdmpmaaGreatDoorVSmall
import Derived.Test.YtbhlggnggdmpmaaGreatDoorRf03P
import Derived.Test.YtbhlggnggdmpmaaGreatDoorPrB
import Derived.Deep.Cut
import Derived.Deep.CutRange
namespace Go.Proofs.YtbhlggnggdmpmaaGreatDoor
open Go.RowKit

mutual
theorem fit_sz : ∀ (t : VT) (d : Nat) (x : Int), (t.fit d x).1 = true → (t.sz : Int) = x - (t.fit d x).2
  | .mk k n s l, d, x, h => by
    rw [VT.fit] at h ⊢
    rw [VT.sz]
    by_cases g : x - 1 < 0 ∨ 12 < d ∨ 1100 < s.length
    · rw [if_pos g] at h; simp at h
    · rw [if_neg g] at h ⊢
      have := fitL_sz l (d + 1) (x - 1) h
      omega
theorem fitL_sz : ∀ (l : List VT) (d : Nat) (x : Int), (VT.fitL d x l).1 = true → (VT.szL l : Int) = x - (VT.fitL d x l).2
  | [], d, x, h => by rw [VT.fitL, VT.szL]; simp
  | t :: ts, d, x, h => by
    rw [VT.fitL] at h ⊢
    rw [VT.szL]
    by_cases g : (t.fit d x).1 = true
    · rw [if_pos g] at h ⊢
      have h1 := fit_sz t d x g
      have h2 := fitL_sz ts d _ h
      omega
    · rw [if_neg g] at h; simp at h
end
theorem smV_sz : ∀ (ts : List VT) (x : Int), 0 ≤ x → smV ts x = true → ∀ t ∈ ts, (t.sz : Int) ≤ x
  | [], _, _, _, _, h => by simp at h
  | a :: ts, x, hx, h, t, ht => by
    rw [smV] at h
    by_cases g2 : (a.fit 0 x).1 = true
    · rw [if_pos g2] at h
      have hr := fit_rng a 0 x hx
      have h3 := hr.2.2 g2
      rcases List.mem_cons.1 ht with rfl | he'
      · have := fit_sz t 0 x g2; omega
      · have := smV_sz ts _ h3 h t he'; omega
    · rw [if_neg g2] at h; simp at h
mutual
theorem cl_sz2 : ∀ t : VT, t.cl.sz ≤ t.sz
  | .mk k n s l => by
    rw [VT.cl, VT.sz, VT.sz]
    split
    · have := clL_sz2 l; omega
    · rw [VT.szL]; omega
theorem clL_sz2 : ∀ l : List VT, VT.szL (VT.clL l) ≤ VT.szL l
  | [] => by rw [VT.clL]; omega
  | t :: ts => by rw [VT.clL, VT.szL, VT.szL]; have := cl_sz2 t; have := clL_sz2 ts; omega
end
/-- A made value's list may be overwritten: where its cells lie. -/
theorem own_list {w w6 : World} {k n : Int} {s : List UInt8} {a : Option Addr} {m c : Nat} {t : VT} (hU : VAt w6 (New w w6) t [.int .i64 k, .int .i64 n, .string (strOf s), .slice a m c]) (hsl : Soft w w6 [.int .i64 k, .int .i64 n, .string (strOf s), .slice a m c]) (hz : t.sz ≤ 1000000) :
    m ≤ 1000000 ∧ ∃ q o, (0 < m → ∃ arr T, a = some ⟨q, o, none⟩ ∧ w6.heap[q]? = some (.cells arr T (0, 0)) ∧ o + 4 * m ≤ arr.size ∧ w.heap.size ≤ q ∧ q < w6.heap.size) := by
  obtain ⟨xk, xn, xs, l⟩ := t
  rw [VAt] at hU
  obtain ⟨a', cp, q, o, heq, hne, hls⟩ := hU
  simp only [List.cons.injEq, Value.slice.injEq, and_true] at heq
  obtain ⟨-, -, -, rfl, rfl, rfl⟩ := heq
  rw [VT.sz] at hz
  have hl := szL_len l
  refine ⟨by omega, q, o, fun h => ?_⟩
  have hn : l ≠ [] := by rintro rfl; simp at h
  obtain ⟨hua, hq⟩ := hne hn
  rw [hua] at hsl
  obtain ⟨h1, arr, T, h4⟩ := hsl q o l.length c (by simp)
  refine ⟨arr, T, hua, h4, ?_, h1.1, h1.2⟩
  obtain ⟨t, ht⟩ : ∃ t, l[l.length - 1]? = some t := ⟨_, List.getElem?_eq_getElem (by omega)⟩
  obtain ⟨cs', hc1, hc2⟩ := hls.get ht
  obtain ⟨zk, zn, zs, za, zm, zc, rfl⟩ := hc2.form
  have h5 := hc1 3 _ rfl
  rw [cell_blk h4] at h5
  have := (Array.getElem?_eq_some_iff.1 h5).1
  omega
section
variable {w : World}
theorem step_ofg {P : Program} {ops : Array Oper} {o : Oper} {a : Act} {w : World} {Q : Exit → Act → World → Prop} {K : Act → World → Prop} {E : Prop} (hg : Region.wanted o (yielded ops a.tmps) = true) (h : o.wp P a w K Q) : if Region.wanted o (yielded ops a.tmps) = true then o.wp P a w K Q else E := by
  rw [if_pos hg]; exact h
set_option maxRecDepth 100000 in
theorem vtext_c (l : List UInt8) : Calls Tryz.prog 28 #[.string (strOf l)] w fun x w' => x = .returned (.agg #[.int .i64 2, .int .i64 0, .string (strOf l), .slice none 0 0]) ∧ Only (fun _ => False) w w' := text_c l
set_option maxRecDepth 100000 in
set_option maxHeartbeats 3200000 in
theorem vtrue_c (hT : Tab w) (hR : Ers w) {t : VT} {G : Nat → Prop} {cs : List Value} (hV : VAt w G t cs) (hG : ∀ k, G k → k < w.heap.size) (hg : t.rg) : Calls Tryz.prog 8 #[.agg cs.toArray] w fun x w' => x = .returned (.bool true) ∧ Only (fun _ => False) w w' := by
  obtain ⟨k, n, s, a, m, c, rfl⟩ := hV.form
  have ho0 := only_new w (.cells #[.int .i64 k, .int .i64 n, .string (strOf s), .slice a m c] 24)
  have HTL := hid (holds_c (hT.only ho0) (hR.same ho0))
  have HT := hid hT; have HR := hid hR; have HV := hid hV; have HG := hid hG; have Hg := hid hg
  have HB0 := hid (blk_new w (.cells #[.int .i64 k, .int .i64 n, .string (strOf s), .slice a m c] 24))
  have HO0 := hid ho0
  clear hT hR hV hG hg ho0
  go_enter Tryz.func8, Tryz.ntmps8
  go_wp2_with fail
  refine HTL.out.mono ?_
  rintro x w1 ⟨rfl, ho1⟩
  have HB1 := hid (blk_only HB0.out ho1 (fun e => e))
  have HO1 := hid (HO0.out.trans ho1 (fun _ _ e => e))
  clear ho1 HTL
  have HSM := hid (fits_c (w := w1.alloc (.cells #[.int .i64 k, .int .i64 n, .string (strOf s), .slice a m c] 24)) (VsV.one (w := w1.alloc (.cells #[.int .i64 k, .int .i64 n, .string (strOf s), .slice a m c] 24)) (blk_new w1 _) (HV.out.same (HO1.out.trans (only_new w1 _) (fun _ _ e => e)))) (fun k hk => by have := HO1.out.size; rcases hk with rfl | hk; simp; have := HG.out k hk; simp; omega) (fun e' he' => by rw [List.mem_singleton.1 he']; exact Hg.out) (by simp))
  have b0 : w1.cell? ⟨w.heap.size, 0, none⟩ = some (.int .i64 k) := cell_blk HB1.out 0
  have b1 : w1.cell? ⟨w.heap.size, 1, none⟩ = some (.int .i64 n) := cell_blk HB1.out 1
  have b2 : w1.cell? ⟨w.heap.size, 2, none⟩ = some (.string (strOf s)) := cell_blk HB1.out 2
  have b3 : w1.cell? ⟨w.heap.size, 3, none⟩ = some (.slice a m c) := cell_blk HB1.out 3
  have hlw1 : w.heap.size < w1.heap.size := blk_lt HB1.out
  obtain ⟨sm, hsm⟩ : ∃ b, smV [t] 400 = b := ⟨_, rfl⟩
  rw [hsm] at HSM
  cases sm with
  | false =>
    go_wp2_with fail
    refine HSM.out.mono ?_
    rintro x w2 ⟨rfl, ho2⟩
    have HO2 := hid (HO1.out.trans ((only_new w1 _).trans ho2 (fun _ _ e => e)) (fun _ _ e => e))
    clear ho2
    go_wp2_with fail
    go_ret
    exact ⟨rfl, HO2.out⟩
  | true =>
  have HSZ := hid (smV_sz [t] 400 (by omega) hsm t (by simp))
  clear hsm
  go_wp2_with fail
  refine HSM.out.mono ?_
  rintro x w2 ⟨rfl, ho2⟩
  have ho12 := (only_new w1 (.cells #[.int .i64 k, .int .i64 n, .string (strOf s), .slice a m c] 24)).trans ho2 (fun _ _ e => e)
  have HB2 := hid (blk_only HB1.out ho12 (fun e => e))
  have HO2 := hid (HO1.out.trans ho12 (fun _ _ e => e))
  have HGD := hid (good_c (HV.out.same HO2.out) Hg.out)
  obtain ⟨ck, hck⟩ : ∃ y, t.chk = y := ⟨_, rfl⟩
  rw [hck] at HGD
  have HCK := hid hck
  clear ho2 ho12 HSM hck b0 b1 b2 b3 hlw1
  have b0 : w2.cell? ⟨w.heap.size, 0, none⟩ = some (.int .i64 k) := cell_blk HB2.out 0
  have b1 : w2.cell? ⟨w.heap.size, 1, none⟩ = some (.int .i64 n) := cell_blk HB2.out 1
  have b2 : w2.cell? ⟨w.heap.size, 2, none⟩ = some (.string (strOf s)) := cell_blk HB2.out 2
  have b3 : w2.cell? ⟨w.heap.size, 3, none⟩ = some (.slice a m c) := cell_blk HB2.out 3
  have hlw2 : w.heap.size < w2.heap.size := blk_lt HB2.out
  by_cases hc0 : ck = 0
  case neg =>
    have hcb : (ck == 0) = false := by simpa using hc0
    rw [hcb] at HGD
    clear hc0
    go_wp2_with fail
    refine HGD.out.mono ?_
    rintro x w3 ⟨rfl, ho3⟩
    have HO3 := hid (HO2.out.trans ho3 (fun _ _ e => e))
    clear ho3
    go_wp2_with fail
    go_ret
    exact ⟨rfl, HO3.out⟩
  subst hc0
  rw [show ((0 : Int) == 0) = true from rfl] at HGD
  go_wp2_with fail
  refine HGD.out.mono ?_
  rintro x w3 ⟨rfl, ho3⟩
  have HB3 := hid (blk_only HB2.out ho3 (fun e => e))
  have HO3 := hid (HO2.out.trans ho3 (fun _ _ e => e))
  clear ho3 HGD b0 b1 b2 b3 hlw2
  have b0 : w3.cell? ⟨w.heap.size, 0, none⟩ = some (.int .i64 k) := cell_blk HB3.out 0
  have b1 : w3.cell? ⟨w.heap.size, 1, none⟩ = some (.int .i64 n) := cell_blk HB3.out 1
  have b2 : w3.cell? ⟨w.heap.size, 2, none⟩ = some (.string (strOf s)) := cell_blk HB3.out 2
  have b3 : w3.cell? ⟨w.heap.size, 3, none⟩ = some (.slice a m c) := cell_blk HB3.out 3
  have hlw3 : w.heap.size < w3.heap.size := blk_lt HB3.out
  have hpm := pr_max HCK.out Hg.out
  have HPM := hid hpm
  have HWN : Hid (t.tru = t.tru) := hid rfl
  have htt : ∃ (l : List VT) (g o : Nat), t = .mk k n s l ∧ m = l.length ∧ (l ≠ [] → a = some ⟨g, o, none⟩ ∧ G g) ∧ VLs w G l g o ∧ VT.rgL l ∧ VT.szL l ≤ 400 := by
    have h := HV.out
    have hr := Hg.out
    have hz := HSZ.out
    obtain ⟨xk, xn, xs, l⟩ := t
    rw [VAt] at h
    rw [VT.rg] at hr
    rw [VT.sz] at hz
    obtain ⟨a', cp, q, o, heq, hne, hls⟩ := h
    simp only [List.cons.injEq, Value.int.injEq, true_and, Value.string.injEq, Value.slice.injEq, and_true] at heq
    obtain ⟨rfl, rfl, hs, rfl, rfl, rfl⟩ := heq
    exact ⟨l, q, o, by rw [strOf_inj hs], rfl, hne, hls, hr.2.2.2.2.2.2, by omega⟩
  obtain ⟨l0, g0, o0, htl, hml, hne0, hls0, hrg0, hsz0⟩ := htt
  have HL0 := hid hml; have HNE0 := hid hne0; have HLS0 := hid hls0; have HRG0 := hid hrg0; have HSZ0 := hid hsz0
  have HTU : Hid (t.tru = if k = 1 then decide (n ≠ 0) else if k = 2 then decide (s ≠ []) else if k = 3 then decide (m ≠ 0) else false) := hid (by
    rw [htl, hml]
    show (if k = 1 then decide (n ≠ 0) else if k = 2 then decide (s ≠ []) else if k = 3 then decide (l0 ≠ []) else false) = _
    have e : decide (l0 ≠ []) = decide (l0.length ≠ 0) := by rw [decide_eq_decide]; cases l0 <;> simp
    rw [e])
  obtain ⟨tb, htb⟩ : ∃ b, t.tru = b := ⟨_, rfl⟩
  rw [htb] at HTU
  have HTB := hid htb
  clear hpm htl hml htb hne0 hls0 hrg0 hsz0
  go_upto_region 5 with fail
  go_cut [3] from 19 to 48 (fun x wx => w3 = wx ∧ x = .bool tb)
  case first =>
    by_cases h1 : k = 1
    · subst h1
      by_cases h : n = 0
      · have hb : (n != 0) = false := by simpa using h
        have HF : Hid (tb = false) := hid (by rw [HTU.out]; simp [h])
        clear h
        go_wp2_with fail
        go_meet
        case rel => exact ⟨rfl, by rw [HF.out]⟩
      · have hb : (n != 0) = true := by simpa using h
        have HF : Hid (tb = true) := hid (by rw [HTU.out]; simp [h])
        clear h
        go_wp2_with fail
        go_meet
        case rel => exact ⟨rfl, by rw [HF.out]⟩
    have k1 : (k == 1) = false := by simpa using h1
    by_cases h2 : k = 2
    · subst h2
      obtain ⟨sl, hsl⟩ : ∃ z, (strOf s).size = z := ⟨_, rfl⟩
      have hsl2 : s.length = sl := hsl
      by_cases h : (0 : Int) < sl
      · skip
        have HF : Hid (tb = true) := hid (by rw [HTU.out]; have : s ≠ [] := by rintro rfl; simp at hsl2; omega
                                             simp [this])
        clear hsl2
        go_wp2_with fail
        go_meet
        case rel => exact ⟨rfl, by rw [HF.out]; first | done | (simp only [Value.bool.injEq, decide_eq_true_eq]; omega)⟩
      · skip
        have HF : Hid (tb = false) := hid (by rw [HTU.out]; have : s = [] := List.eq_nil_of_length_eq_zero (by omega)
                                              simp [this])
        clear hsl2
        go_wp2_with fail
        go_meet
        case rel => exact ⟨rfl, by rw [HF.out]; first | done | (simp only [Value.bool.injEq, decide_eq_false_iff_not]; omega)⟩
    have k2 : (k == 2) = false := by simpa using h2
    by_cases h3 : k = 3
    · subst h3
      by_cases h : (0 : Int) < m
      · have HF : Hid (tb = true) := hid (by rw [HTU.out]; have : m ≠ 0 := by omega
                                             simp [this])
        go_wp2_with fail
        go_meet
        case rel => exact ⟨rfl, by rw [HF.out]; first | done | (simp only [Value.bool.injEq, decide_eq_true_eq]; omega)⟩
      · have HF : Hid (tb = false) := hid (by rw [HTU.out]; have : m = 0 := by omega
                                              simp [this])
        go_wp2_with fail
        go_meet
        case rel => exact ⟨rfl, by rw [HF.out]; first | done | (simp only [Value.bool.injEq, decide_eq_false_iff_not]; omega)⟩
    have k3 : (k == 3) = false := by simpa using h3
    have HF : Hid (tb = false) := hid (by rw [HTU.out]; simp [h1, h2, h3])
    clear h1 h2 h3
    go_wp2_with fail
    go_meet
    case rel => exact ⟨rfl, by rw [HF.out]⟩
  case rest =>
  obtain ⟨rfl, rfl⟩ := hcut
  have HCL := hid (cloneC _ t (Nat.le_refl _) w3 G _ (HV.out.same HO3.out) (fun i hi => by have := HG.out i hi; have := HO3.out.size; omega) Hg.out (by have := HSZ.out; omega))
  go_wp2_with fail
  refine HCL.out.mono ?_
  rintro x w4 ⟨cs4, rfl, hv4, ho4, hs4⟩
  obtain ⟨k4, n4, s4, a4, m4, c4, rfl⟩ := hv4.form
  obtain ⟨hml4, q4, o4, hqb4⟩ := own_list hv4 hs4 (by have := cl_sz2 t; have := HSZ.out; omega)
  have HQB4 := hid hqb4
  have HO4 := hid (HO3.out.trans ho4 (fun _ _ e => e))
  have HBP4 := hid (blk_only HB3.out ho4 (fun e => e))

  go_wp2_with fail
  go_loopw [54] (fun i wr => ∃ j : Nat, i = .int .i64 j ∧ j ≤ m4 ∧ Only (fun k => 0 < m4 ∧ k = q4) (w4.alloc (.cells #[.int .i64 k4, .int .i64 n4, .string (strOf s4), .slice a4 m4 c4] 24)) wr ∧ ∀ arr T, (w4.alloc (.cells #[.int .i64 k4, .int .i64 n4, .string (strOf s4), .slice a4 m4 c4] 24)).heap[q4]? = some (.cells arr T (0, 0)) → 0 < m4 → ∃ arr', wr.heap[q4]? = some (.cells arr' T (0, 0)) ∧ arr'.size = arr.size) (fun i _ => m4 - (intOf i).toNat)
  case atStart => exact ⟨0, rfl, Nat.zero_le _, Only.refl _ _, fun arr T h _ => ⟨arr, h, rfl⟩⟩
  case round =>
    obtain ⟨j, rfl, hj, ho, harr⟩ := hrel
    by_cases hjl : j < m4
    · have hji : (j : Int) < m4 := by omega
      have hmp : 0 < m4 := by omega
      obtain ⟨arr, T, haa, hb6, hsz, hq1, hq2⟩ := HQB4.out hmp
      have hb6 : (w4.alloc (.cells #[.int .i64 k4, .int .i64 n4, .string (strOf s4), .slice a4 m4 c4] 24)).heap[q4]? = some (.cells arr T (0, 0)) := blk_alloc hb6
      obtain ⟨arr', hb', hs'⟩ := harr arr T hb6 hmp
      have k10 : wr.cell? ⟨w4.heap.size, 3, none⟩ = some (.slice (some ⟨q4, o4, none⟩) m4 c4) := by
        rw [← haa]
        exact (World.cell?_of_block (ho.block (w4.heap.size) (by simp) (fun e => by have := e.2; omega))).trans (cell_blk (blk_new w4 (.cells #[.int .i64 k4, .int .i64 n4, .string (strOf s4), .slice a4 m4 c4] 24)) 3)
      clear haa
      have hux : ∀ i, i < 4 → ∃ u, wr.cell? ⟨q4, o4 + j * 4 + i, none⟩ = some u := fun i hi => by
        refine ⟨arr'[o4 + j * 4 + i]'(by omega), ?_⟩
        rw [cell_blk hb', Array.getElem?_eq_getElem (by omega)]
      obtain ⟨u0, hu0⟩ := hux 0 (by omega)
      obtain ⟨u1, hu1⟩ := hux 1 (by omega)
      obtain ⟨u2, hu2⟩ := hux 2 (by omega)
      obtain ⟨u3, hu3⟩ := hux 3 (by omega)
      have HOF := hid (vtext_c (w := wr.drew) [111, 116, 104, 101, 114])
      have hql := blk_lt hb'
      have hog : w4.heap.size < wr.heap.size := by have := ho.size; simp at this; omega
      have HOR := hid ho; have HARR := hid harr; have HBR := hid hb'; have HS' := hid hs'; have HB6Q := hid hb6
      have hdr := (Only.refl (fun _ => False) wr).drew
      have HDR := hid hdr
      have HU0 := hid hu0; have HU1 := hid hu1; have HU2 := hid hu2; have HU3 := hid hu3; have HKR := hid k10
      clear ho harr hb' hs' hb6 hux hdr hu0 hu1 hu2 hu3
      go_wp2_with fail
      go_region_law (first
        | (refine step_of rfl (wp_callc (o := ⟨some 60, _, _, _, _, _⟩) (f := 28) (args := #[.string (strOf [111, 116, 104, 101, 114])]) (by kernel_rfl) ?_); refine HOF.out.mono ?_; rintro x w9 ⟨rfl, ho9⟩; refine ⟨_, rfl, ?_⟩; have ho9' := HDR.out.trans ho9 (fun _ _ e => e); have hb9 := blk_only HBR.out ho9' (fun e => e); have s10 : w9.cell? ⟨w4.heap.size, 3, none⟩ = some (.slice (some ⟨q4, o4, none⟩) m4 c4) := (World.cell?_of_block (ho9'.block (w4.heap.size) hog (fun e => e))).trans HKR.out; have t0 : w9.cell? ⟨q4, o4 + j * 4, none⟩ = some u0 := (World.cell?_of_block (ho9'.block q4 hql (fun e => e))).trans HU0.out; have t1 : w9.cell? ⟨q4, o4 + j * 4 + 1, none⟩ = some u1 := (World.cell?_of_block (ho9'.block q4 hql (fun e => e))).trans HU1.out; have t2 : w9.cell? ⟨q4, o4 + j * 4 + 2, none⟩ = some u2 := (World.cell?_of_block (ho9'.block q4 hql (fun e => e))).trans HU2.out; have t3 : w9.cell? ⟨q4, o4 + j * 4 + 3, none⟩ = some u3 := (World.cell?_of_block (ho9'.block q4 hql (fun e => e))).trans HU3.out; have z9 := frozen_blk hb9; have hql9 := blk_lt hb9; have HB9 := hid hb9; have HO9 := hid ho9'; clear ho9 ho9' hb9))
      all_goals
        go_wp2_with fail
        go_roundw
        case rel =>
          have hbs := blk_set (blk_set (blk_set (blk_set HB9.out (o4 + j * 4) (.int .i64 2)) (o4 + j * 4 + 1) (.int .i64 0)) (o4 + j * 4 + 2) (.string (strOf [111, 116, 104, 101, 114]))) (o4 + j * 4 + 3) (.slice none 0 0)
          refine ⟨j + 1, by go_num, by omega, HOR.out.trans ((HO9.out.mono (fun _ _ e => e.elim)).trans (((((only_set (w := w9) q4 (o4 + j * 4) (.int .i64 2)).trans (only_set q4 (o4 + j * 4 + 1) (.int .i64 0)) (fun _ _ e => e)).trans (only_set q4 (o4 + j * 4 + 2) (.string (strOf [111, 116, 104, 101, 114]))) (fun _ _ e => e)).trans (only_set q4 (o4 + j * 4 + 3) (.slice none 0 0)) (fun _ _ e => e)).mono (fun k _ e => ⟨hmp, e⟩)) (fun _ _ e => e)) (fun _ _ e => e), fun arr2 T2 h2 _ => ?_⟩
          rw [HB6Q.out] at h2
          simp only [Option.some.injEq, Obj.cells.injEq, and_true] at h2
          obtain ⟨e1, e2⟩ := h2
          rw [← e1, ← e2]
          exact ⟨_, hbs, by simp [HS'.out]⟩
        case measure => simp [intOf]; omega
    · have hjl2 : ¬ (j : Int) < m4 := by omega
      have hqw : ∀ (k : Nat), 0 < m4 ∧ k = q4 → w.heap.size < k ∧ w3.heap.size ≤ k := fun k e => by
        obtain ⟨arr, T, -, -, -, h1, -⟩ := HQB4.out e.1
        have := e.2; have := blk_lt HB3.out; omega
      have HO5 := hid ((HO4.out.trans (only_new w4 (.cells #[.int .i64 k4, .int .i64 n4, .string (strOf s4), .slice a4 m4 c4] 24)) (fun _ _ e => e)).trans ho (fun i hi e => by have := hqw i e; omega))
      have HB5 := hid (blk_only (blk_only HBP4.out (only_new w4 (.cells #[.int .i64 k4, .int .i64 n4, .string (strOf s4), .slice a4 m4 c4] 24)) (fun e => e)) ho (fun e => by have := hqw _ e; omega))
      clear ho harr hqw
      obtain ⟨wz, hwz⟩ : ∃ wz, wz = wr := ⟨_, rfl⟩
      subst hwz
      have hll := HL0.out
      have HVL := hid (vlist_c (w := wz) (l := l0) (a := a) (cap := c) (g := g0) (o := o0) (G := G) HNE0.out (by
        by_cases hn : l0 = []
        · rw [hn, VLs]; trivial
        · exact HLS0.out.only HO5.out (fun _ _ e => e) (HNE0.out hn).2) (fun i hi => by have := HG.out i hi; have := HO5.out.size; omega) HRG0.out (by have := szL_len l0; have := HSZ0.out; omega) (by have := HSZ0.out; omega))
      rw [← hll] at HVL
      clear hll
      have b0 : wz.cell? ⟨w.heap.size, 0, none⟩ = some (.int .i64 k) := cell_blk HB5.out 0
      have b1 : wz.cell? ⟨w.heap.size, 1, none⟩ = some (.int .i64 n) := cell_blk HB5.out 1
      have b2 : wz.cell? ⟨w.heap.size, 2, none⟩ = some (.string (strOf s)) := cell_blk HB5.out 2
      have b3 : wz.cell? ⟨w.heap.size, 3, none⟩ = some (.slice a m c) := cell_blk HB5.out 3
      have hlz : w.heap.size < wz.heap.size := blk_lt HB5.out
      go_wp2_with fail
      refine HVL.out.mono ?_
      rintro x w6 ⟨cs6, rfl, hv6, ho6, hs6⟩
      obtain ⟨k6, n6, s6, a6, m6, c6, rfl⟩ := hv6.form
      obtain ⟨hml6, q6, o6, hqb6⟩ := own_list hv6 hs6 (by rw [VT.sz]; have := clL_sz2 l0; have := HSZ0.out; omega)
      have HQB6 := hid hqb6
      have HO6 := hid (HO5.out.trans ho6 (fun _ _ e => e))
      have HBP6 := hid (blk_only HB5.out ho6 (fun e => e))
      clear hv6 ho6 hs6 hqb6 HVL b0 b1 b2 b3 hlz
      go_wp2_with fail
      go_loopw [69] (fun i wr => ∃ j : Nat, i = .int .i64 j ∧ j ≤ m6 ∧ Only (fun k => 0 < m6 ∧ k = q6) (w6.alloc (.cells #[.int .i64 k6, .int .i64 n6, .string (strOf s6), .slice a6 m6 c6] 24)) wr ∧ ∀ arr T, (w6.alloc (.cells #[.int .i64 k6, .int .i64 n6, .string (strOf s6), .slice a6 m6 c6] 24)).heap[q6]? = some (.cells arr T (0, 0)) → 0 < m6 → ∃ arr', wr.heap[q6]? = some (.cells arr' T (0, 0)) ∧ arr'.size = arr.size) (fun i _ => m6 - (intOf i).toNat)
      case atStart => exact ⟨0, rfl, Nat.zero_le _, Only.refl _ _, fun arr T h _ => ⟨arr, h, rfl⟩⟩
      case round =>
        obtain ⟨j, rfl, hj, ho, harr⟩ := hrel
        by_cases hjl : j < m6
        · have hji : (j : Int) < m6 := by omega
          have hmp : 0 < m6 := by omega
          obtain ⟨arr, T, haa, hb6, hsz, hq1, hq2⟩ := HQB6.out hmp
          have hb6 : (w6.alloc (.cells #[.int .i64 k6, .int .i64 n6, .string (strOf s6), .slice a6 m6 c6] 24)).heap[q6]? = some (.cells arr T (0, 0)) := blk_alloc hb6
          obtain ⟨arr', hb', hs'⟩ := harr arr T hb6 hmp
          have k10 : wr.cell? ⟨w6.heap.size, 3, none⟩ = some (.slice (some ⟨q6, o6, none⟩) m6 c6) := by
            rw [← haa]
            exact (World.cell?_of_block (ho.block (w6.heap.size) (by simp) (fun e => by have := e.2; omega))).trans (cell_blk (blk_new w6 (.cells #[.int .i64 k6, .int .i64 n6, .string (strOf s6), .slice a6 m6 c6] 24)) 3)
          clear haa
          have hux : ∀ i, i < 4 → ∃ u, wr.cell? ⟨q6, o6 + j * 4 + i, none⟩ = some u := fun i hi => by
            refine ⟨arr'[o6 + j * 4 + i]'(by omega), ?_⟩
            rw [cell_blk hb', Array.getElem?_eq_getElem (by omega)]
          obtain ⟨u0, hu0⟩ := hux 0 (by omega)
          obtain ⟨u1, hu1⟩ := hux 1 (by omega)
          obtain ⟨u2, hu2⟩ := hux 2 (by omega)
          obtain ⟨u3, hu3⟩ := hux 3 (by omega)
          have HOF := hid (of_c (w := wr.drew) 7)
          have hql := blk_lt hb'
          have hog : w6.heap.size < wr.heap.size := by have := ho.size; simp at this; omega
          have HOR := hid ho; have HARR := hid harr; have HBR := hid hb'; have HS' := hid hs'; have HB6Q := hid hb6
          have hdr := (Only.refl (fun _ => False) wr).drew
          have HDR := hid hdr
          have HU0 := hid hu0; have HU1 := hid hu1; have HU2 := hid hu2; have HU3 := hid hu3; have HKR := hid k10
          clear ho harr hb' hs' hb6 hux hdr hu0 hu1 hu2 hu3
          go_wp2_with fail
          go_region_law (first
            | (refine step_of rfl (wp_callc (o := ⟨some 75, _, _, _, _, _⟩) (f := 30) (args := #[.int .i64 7]) (by kernel_rfl) ?_); refine HOF.out.mono ?_; rintro x w9 ⟨rfl, ho9⟩; refine ⟨_, rfl, ?_⟩; have ho9' := HDR.out.trans ho9 (fun _ _ e => e); have hb9 := blk_only HBR.out ho9' (fun e => e); have s10 : w9.cell? ⟨w6.heap.size, 3, none⟩ = some (.slice (some ⟨q6, o6, none⟩) m6 c6) := (World.cell?_of_block (ho9'.block (w6.heap.size) hog (fun e => e))).trans HKR.out; have t0 : w9.cell? ⟨q6, o6 + j * 4, none⟩ = some u0 := (World.cell?_of_block (ho9'.block q6 hql (fun e => e))).trans HU0.out; have t1 : w9.cell? ⟨q6, o6 + j * 4 + 1, none⟩ = some u1 := (World.cell?_of_block (ho9'.block q6 hql (fun e => e))).trans HU1.out; have t2 : w9.cell? ⟨q6, o6 + j * 4 + 2, none⟩ = some u2 := (World.cell?_of_block (ho9'.block q6 hql (fun e => e))).trans HU2.out; have t3 : w9.cell? ⟨q6, o6 + j * 4 + 3, none⟩ = some u3 := (World.cell?_of_block (ho9'.block q6 hql (fun e => e))).trans HU3.out; have z9 := frozen_blk hb9; have hql9 := blk_lt hb9; have HB9 := hid hb9; have HO9 := hid ho9'; clear ho9 ho9' hb9))
          all_goals
            go_wp2_with fail
            go_roundw
            case rel =>
              have hbs := blk_set (blk_set (blk_set (blk_set HB9.out (o6 + j * 4) (.int .i64 1)) (o6 + j * 4 + 1) (.int .i64 7)) (o6 + j * 4 + 2) (.string ⟨#[]⟩)) (o6 + j * 4 + 3) (.slice none 0 0)
              refine ⟨j + 1, by go_num, by omega, HOR.out.trans ((HO9.out.mono (fun _ _ e => e.elim)).trans (((((only_set (w := w9) q6 (o6 + j * 4) (.int .i64 1)).trans (only_set q6 (o6 + j * 4 + 1) (.int .i64 7)) (fun _ _ e => e)).trans (only_set q6 (o6 + j * 4 + 2) (.string ⟨#[]⟩)) (fun _ _ e => e)).trans (only_set q6 (o6 + j * 4 + 3) (.slice none 0 0)) (fun _ _ e => e)).mono (fun k _ e => ⟨hmp, e⟩)) (fun _ _ e => e)) (fun _ _ e => e), fun arr2 T2 h2 _ => ?_⟩
              rw [HB6Q.out] at h2
              simp only [Option.some.injEq, Obj.cells.injEq, and_true] at h2
              obtain ⟨e1, e2⟩ := h2
              rw [← e1, ← e2]
              exact ⟨_, hbs, by simp [HS'.out]⟩
            case measure => simp [intOf]; omega
        · have hjl2 : ¬ (j : Int) < m6 := by omega
          have hqw : ∀ (k : Nat), 0 < m6 ∧ k = q6 → w.heap.size < k ∧ wz.heap.size ≤ k := fun k e => by
            obtain ⟨arr, T, -, -, -, h1, -⟩ := HQB6.out e.1
            have := e.2; have := blk_lt HB5.out; omega
          have HO7 := hid ((HO6.out.trans (only_new w6 (.cells #[.int .i64 k6, .int .i64 n6, .string (strOf s6), .slice a6 m6 c6] 24)) (fun _ _ e => e)).trans ho (fun i hi e => by have := hqw i e; omega))
          have HB7 := hid (blk_only (blk_only HBP6.out (only_new w6 (.cells #[.int .i64 k6, .int .i64 n6, .string (strOf s6), .slice a6 m6 c6] 24)) (fun e => e)) ho (fun e => by have := hqw _ e; omega))
          clear ho harr hqw
          have HTR := hid (fun (wx : World) (h : Only (fun _ => False) w wx) => true_c (HV.out.same h))
          have HPR := hid (fun (wx : World) (h : Only (fun _ => False) w wx) => vprint_c (w := wx) (HV.out.same h) (fun i hi => by have := HG.out i hi; have := h.size; omega) Hg.out (HT.out.only h) (by have := HPM.out; omega))
          have HRP := hid (fun (wx : World) (h : Only (fun _ => False) w wx) => rprint_c (w := wx) (HV.out.same h) Hg.out (by have := HPM.out; omega))
          simp only [HTB.out] at HTR
          obtain ⟨pr, hpr⟩ : ∃ p, t.pr = p := ⟨_, rfl⟩
          simp only [hpr] at HPR HRP
          have hcs : ((strOf pr).toList == (strOf pr).toList) = true := by simp
          have hbb : (tb == tb) = true := by simp
          clear hpr
          have b0 : wr.cell? ⟨w.heap.size, 0, none⟩ = some (.int .i64 k) := cell_blk HB7.out 0
          have b1 : wr.cell? ⟨w.heap.size, 1, none⟩ = some (.int .i64 n) := cell_blk HB7.out 1
          have b2 : wr.cell? ⟨w.heap.size, 2, none⟩ = some (.string (strOf s)) := cell_blk HB7.out 2
          have b3 : wr.cell? ⟨w.heap.size, 3, none⟩ = some (.slice a m c) := cell_blk HB7.out 3
          have hlb : w.heap.size < wr.heap.size := blk_lt HB7.out
          go_wp2_with fail
          go_region_law (first
            | (refine step_of rfl (wp_callc (o := ⟨some 79, _, _, _, _, _⟩) (f := 31) (args := #[.agg #[.int .i64 k, .int .i64 n, .string (strOf s), .slice a m c]]) (by kernel_rfl) ?_); refine (HTR.out _ (HO7.out.trans (Only.refl (fun _ => False) wr).drew (fun _ _ e => e))).mono ?_; rintro x w10 ⟨rfl, ho10⟩; refine ⟨_, rfl, ?_⟩; have HO10 := hid ((HO7.out.trans (Only.refl (fun _ => False) wr).drew (fun _ _ e => e)).trans ho10 (fun _ _ e => e)); have HB10 := hid (blk_only (w := wr.drew) HB7.out ho10 (fun e => e)); clear ho10 b0 b1 b2 b3 hlb; have b0 : w10.cell? ⟨w.heap.size, 0, none⟩ = some (.int .i64 k) := cell_blk HB10.out 0; have b1 : w10.cell? ⟨w.heap.size, 1, none⟩ = some (.int .i64 n) := cell_blk HB10.out 1; have b2 : w10.cell? ⟨w.heap.size, 2, none⟩ = some (.string (strOf s)) := cell_blk HB10.out 2; have b3 : w10.cell? ⟨w.heap.size, 3, none⟩ = some (.slice a m c) := cell_blk HB10.out 3; have hlb : w.heap.size < w10.heap.size := blk_lt HB10.out)
            | (refine step_ofg (by kernel_rfl) (wp_callc (o := ⟨some 84, _, _, _, _, _⟩) (f := 23) (args := #[.agg #[.int .i64 k, .int .i64 n, .string (strOf s), .slice a m c]]) (by kernel_rfl) ?_); refine (HPR.out _ HO10.out).mono ?_; rintro x w11 ⟨rfl, ho11⟩; refine ⟨_, rfl, ?_⟩; have HO11 := hid (HO10.out.trans ho11 (fun _ _ e => e)); have HB11 := hid (blk_only HB10.out ho11 (fun e => e)); clear ho11 b0 b1 b2 b3 hlb; have b0 : w11.cell? ⟨w.heap.size, 0, none⟩ = some (.int .i64 k) := cell_blk HB11.out 0; have b1 : w11.cell? ⟨w.heap.size, 1, none⟩ = some (.int .i64 n) := cell_blk HB11.out 1; have b2 : w11.cell? ⟨w.heap.size, 2, none⟩ = some (.string (strOf s)) := cell_blk HB11.out 2; have b3 : w11.cell? ⟨w.heap.size, 3, none⟩ = some (.slice a m c) := cell_blk HB11.out 3; have hlb : w.heap.size < w11.heap.size := blk_lt HB11.out)
            | (refine step_ofg (by kernel_rfl) (wp_callc (o := ⟨some 86, _, _, _, _, _⟩) (f := 25) (args := #[.agg #[.int .i64 k, .int .i64 n, .string (strOf s), .slice a m c]]) (by kernel_rfl) ?_); refine (HRP.out _ HO11.out).mono ?_; rintro x w12 ⟨rfl, ho12⟩; refine ⟨_, rfl, ?_⟩; have HO12 := hid (HO11.out.trans ho12 (fun _ _ e => e)); clear ho12))
          all_goals
            go_wp2_with fail
            go_ret
            exact ⟨rfl, HO12.out⟩
end
end Go.Proofs.YtbhlggnggdmpmaaGreatDoor
