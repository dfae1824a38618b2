/- CommandOwn's walk. -/
import Derived.Test.YtihidpfkdpjdpaaDoorWants
import Derived.Test.YtihidpfkdpjdpaaDoorRf10
import Derived.Test.YtihidpfkdpjdpaaDoorPrB
import Derived.Test.YtihidpfkdpjdpaaDoorOpenC
namespace Go.Proofs.YtihidpfkdpjdpaaDoor
open Go.RowKit
mutual
theorem cl_sz2 : ∀ t : VT, t.cl.sz ≤ t.sz
  | .mk k n s l => by
    rw [VT.cl, VT.sz, VT.sz]
    split
    · have := clL_sz2 l; omega
    · rw [VT.szL]; omega
theorem clL_sz2 : ∀ l : List VT, VT.szL (VT.clL l) ≤ VT.szL l
  | [] => by rw [VT.clL]; omega
  | t :: ts => by rw [VT.clL, VT.szL, VT.szL]; have := cl_sz2 t; have := clL_sz2 ts; omega
end
mutual
theorem fit_sz : ∀ (t : VT) (d : Nat) (x : Int), (t.fit d x).1 = true → (t.sz : Int) = x - (t.fit d x).2
  | .mk k n s l, d, x, h => by
    rw [VT.fit] at h ⊢
    rw [VT.sz]
    by_cases g : x - 1 < 0 ∨ 12 < d ∨ 1100 < s.length
    · rw [if_pos g] at h; simp at h
    · rw [if_neg g] at h ⊢
      have := fitL_sz l (d + 1) (x - 1) h
      omega
theorem fitL_sz : ∀ (l : List VT) (d : Nat) (x : Int), (VT.fitL d x l).1 = true → (VT.szL l : Int) = x - (VT.fitL d x l).2
  | [], d, x, h => by rw [VT.fitL, VT.szL]; simp
  | t :: ts, d, x, h => by
    rw [VT.fitL] at h ⊢
    rw [VT.szL]
    by_cases g : (t.fit d x).1 = true
    · rw [if_pos g] at h ⊢
      have h1 := fit_sz t d x g
      have h2 := fitL_sz ts d _ h
      omega
    · rw [if_neg g] at h; simp at h
end
theorem smC1_sz {c : EM} (h : smC [c] 400 = true) : c.v.sz ≤ 400 := by
  unfold smC at h
  by_cases g : 200 < c.name.length
  · rw [if_pos g] at h; simp at h
  rw [if_neg g] at h
  by_cases g2 : (c.v.fit 0 400).1 = true
  · have h1 := fit_sz c.v 0 400 g2
    have h2 := (fit_rng c.v 0 400 (by omega)).2.2 g2
    omega
  · rw [if_neg g2] at h; simp at h
theorem cev_sz (c : EM) : c.cev.v.sz ≤ c.v.sz := by
  have h0 : VT.nil.sz ≤ c.v.sz := by have := sz_pos c.v; unfold VT.nil; rw [VT.sz, VT.szL]; omega
  unfold EM.cev
  repeat' split
  all_goals first | exact h0 | exact cl_sz2 _
section
variable {w : World}
set_option maxRecDepth 100000 in
theorem of_c (n : Int) : Calls Tryd.prog 28 #[.int .i64 n] w fun x w' => x = .returned (.agg #[.int .i64 1, .int .i64 n, .string ⟨#[]⟩, .slice none 0 0]) ∧ Only (fun _ => False) w w' := by
  go_enter Tryd.func28, Tryd.ntmps28
  go_wp2_with fail
  refine bodyPost_ret (results_cell_row rfl _ _ w.heap.size 27 #[.int .i64 1, .int .i64 n, .string ⟨#[]⟩, .slice none 0 0] (0, 0) _ rfl (by simpa using blk_new w (.cells #[.int .i64 1, .int .i64 n, .string ⟨#[]⟩, .slice none 0 0] 27)) Tryd.underlying27 rfl info_val) rfl ⟨rfl, only_new w _⟩
set_option maxRecDepth 100000 in
set_option maxHeartbeats 3200000 in
theorem cown_c (hT : Tab w) {c : EM} {cs : List Value} {G : Nat → Prop} (hA : CAt w G c cs) (hG : ∀ k, G k → k < w.heap.size) (ga : c.rg) (ca : c.isC) :
    Calls Tryd.prog 9 #[.agg cs.toArray] w fun x w' => x = .returned (.bool true) ∧ Only (fun _ => False) w w' := by
  obtain ⟨vk, vn, vs, va, vm, vc, rfl, -⟩ := hA.form
  have ho0 := only_new w (.cells #[.int .i64 c.k, .int .i64 c.tm, .int .i64 c.a, .int .i64 c.b, .string (strOf c.name), .int .i64 vk, .int .i64 vn, .string (strOf vs), .slice va vm vc] 29)
  have HTL := hid (wants_c (hT.only ho0))
  have HT := hid hT; have HA := hid hA; have HGG := hid hG; have HGA := hid ga; have HCA := hid ca
  have HBA0 := hid (blk_new w (.cells #[.int .i64 c.k, .int .i64 c.tm, .int .i64 c.a, .int .i64 c.b, .string (strOf c.name), .int .i64 vk, .int .i64 vn, .string (strOf vs), .slice va vm vc] 29)); have HO0 := hid ho0
  clear hT hA hG ga ca ho0
  go_enter Tryd.func9, Tryd.ntmps9
  go_wp2_with fail
  refine HTL.out.mono ?_
  rintro x w1 ⟨rfl, ho1⟩
  have HBA1 := hid (blk_only HBA0.out ho1 (fun e => e))
  have HO1 := hid (HO0.out.trans ho1 (fun _ _ e => e))
  clear ho1 HTL
  have c0 : w1.cell? ⟨w.heap.size, 0, none⟩ = some (.int .i64 c.k) := cell_blk HBA1.out 0
  have c1 : w1.cell? ⟨w.heap.size, 1, none⟩ = some (.int .i64 c.tm) := cell_blk HBA1.out 1
  have c2 : w1.cell? ⟨w.heap.size, 2, none⟩ = some (.int .i64 c.a) := cell_blk HBA1.out 2
  have c3 : w1.cell? ⟨w.heap.size, 3, none⟩ = some (.int .i64 c.b) := cell_blk HBA1.out 3
  have c4 : w1.cell? ⟨w.heap.size, 4, none⟩ = some (.string (strOf c.name)) := cell_blk HBA1.out 4
  have c5 : w1.cell? ⟨w.heap.size, 5, none⟩ = some (.int .i64 vk) := cell_blk HBA1.out 5
  have c6 : w1.cell? ⟨w.heap.size, 6, none⟩ = some (.int .i64 vn) := cell_blk HBA1.out 6
  have c7 : w1.cell? ⟨w.heap.size, 7, none⟩ = some (.string (strOf vs)) := cell_blk HBA1.out 7
  have c8 : w1.cell? ⟨w.heap.size, 8, none⟩ = some (.slice va vm vc) := cell_blk HBA1.out 8
  have hlw := blk_lt HBA1.out
  have hal := only_new w1 (.cells #[.int .i64 c.k, .int .i64 c.tm, .int .i64 c.a, .int .i64 c.b, .string (strOf c.name), .int .i64 vk, .int .i64 vn, .string (strOf vs), .slice va vm vc] 29)
  have HSM := hid (small_c (w := w1.alloc (.cells #[.int .i64 c.k, .int .i64 c.tm, .int .i64 c.a, .int .i64 c.b, .string (strOf c.name), .int .i64 vk, .int .i64 vn, .string (strOf vs), .slice va vm vc] 29)) (CmsV.one (w := w1.alloc (.cells #[.int .i64 c.k, .int .i64 c.tm, .int .i64 c.a, .int .i64 c.b, .string (strOf c.name), .int .i64 vk, .int .i64 vn, .string (strOf vs), .slice va vm vc] 29)) (cs := [.int .i64 c.k, .int .i64 c.tm, .int .i64 c.a, .int .i64 c.b, .string (strOf c.name), .int .i64 vk, .int .i64 vn, .string (strOf vs), .slice va vm vc]) (blk_new w1 _) (HA.out.same (HO1.out.trans hal (fun _ _ e => e)))) (fun k hk => by have := HO1.out.size; rcases hk with rfl | hk; simp; have := HGG.out k hk; simp; omega) (fun e' he' => by rw [List.mem_singleton.1 he']; exact HGA.out.2.2.2.2.2.2.2) (by simp))
  have HAL := hid hal
  have hsz := smC1_sz (c := c)
  obtain ⟨sm, hsm⟩ : ∃ x, smC [c] 400 = x := ⟨_, rfl⟩
  have hs1 := HO1.out.size
  rw [hsm] at HSM hsz
  clear hsm hal
  cases sm with
  | false =>
    go_wp2_with fail
    refine HSM.out.mono ?_
    rintro x w2 ⟨rfl, ho2⟩
    have HO2 := hid (HO1.out.trans (HAL.out.trans ho2 (fun _ _ e => e)) (fun _ _ e => e))
    clear ho2
    go_wp2_with fail
    go_ret
    exact ⟨rfl, HO2.out⟩
  | true =>
  have HSZ := hid (hsz rfl)
  clear hsz
  go_wp2_with fail
  refine HSM.out.mono ?_
  rintro x w2 ⟨rfl, ho2⟩
  have ho12 := HAL.out.trans ho2 (fun _ _ e => e)
  have HBA2 := hid (blk_only HBA1.out ho12 (fun e => e))
  have HO2 := hid (HO1.out.trans ho12 (fun _ _ e => e))
  have HCK := hid (r10check_c (HA.out.same HO2.out) HGA.out)
  obtain ⟨ka, hka⟩ : ∃ x, c.cchk = x := ⟨_, rfl⟩
  rw [hka] at HCK
  have HKA := hid hka
  clear ho2 ho12 HSM HAL hka
  clear c0 c1 c2 c3 c4 c5 c6 c7 c8 hlw
  have c0 : w2.cell? ⟨w.heap.size, 0, none⟩ = some (.int .i64 c.k) := cell_blk HBA2.out 0
  have c1 : w2.cell? ⟨w.heap.size, 1, none⟩ = some (.int .i64 c.tm) := cell_blk HBA2.out 1
  have c2 : w2.cell? ⟨w.heap.size, 2, none⟩ = some (.int .i64 c.a) := cell_blk HBA2.out 2
  have c3 : w2.cell? ⟨w.heap.size, 3, none⟩ = some (.int .i64 c.b) := cell_blk HBA2.out 3
  have c4 : w2.cell? ⟨w.heap.size, 4, none⟩ = some (.string (strOf c.name)) := cell_blk HBA2.out 4
  have c5 : w2.cell? ⟨w.heap.size, 5, none⟩ = some (.int .i64 vk) := cell_blk HBA2.out 5
  have c6 : w2.cell? ⟨w.heap.size, 6, none⟩ = some (.int .i64 vn) := cell_blk HBA2.out 6
  have c7 : w2.cell? ⟨w.heap.size, 7, none⟩ = some (.string (strOf vs)) := cell_blk HBA2.out 7
  have c8 : w2.cell? ⟨w.heap.size, 8, none⟩ = some (.slice va vm vc) := cell_blk HBA2.out 8
  have hlw := blk_lt HBA2.out
  by_cases h1 : ka = 0
  case neg =>
    have hkb : (ka != 0) = true := by simpa using h1
    go_wp2_with fail
    refine HCK.out.mono ?_
    rintro x w3 ⟨rfl, ho3⟩
    have HO3 := hid (HO2.out.trans ho3 (fun _ _ e => e))
    clear ho3
    go_wp2_with fail
    go_ret
    exact ⟨rfl, HO3.out⟩
  subst h1
  go_wp2_with fail
  refine HCK.out.mono ?_
  rintro x w3 ⟨rfl, ho3⟩
  have HBA3 := hid (blk_only HBA2.out ho3 (fun e => e))
  have HO3 := hid (HO2.out.trans ho3 (fun _ _ e => e))
  have hga := cchk_good HKA.out
  have hna := hga.nL
  have hpa := pr_max hga.v HGA.out.2.2.2.2.2.2.2
  have HPR : Hid (∀ W, Only (fun _ => False) w W → Calls Tryd.prog 21 #[.agg (List.toArray [.int .i64 c.k, .int .i64 c.tm, .int .i64 c.a, .int .i64 c.b, .string (strOf c.name), .int .i64 vk, .int .i64 vn, .string (strOf vs), .slice va vm vc])] W fun x w' => x = .returned (.string (strOf c.cpr)) ∧ Only (fun _ => False) W w') := hid (fun W h => cprint_c (w := W) (HA.out.same h) (fun i hi => by have := HGG.out i hi; have := h.size; omega) HGA.out (HT.out.only h) (by omega) hpa)
  obtain ⟨pa, hpae⟩ : ∃ x, c.cpr = x := ⟨_, rfl⟩
  rw [hpae] at HPR
  have qa : ((strOf pa).toList == (strOf pa).toList) = true := by simp
  have HP3 := hid (HPR.out w3 HO3.out)
  clear ho3 HCK hpae hga hna hpa
  clear c0 c1 c2 c3 c4 c5 c6 c7 c8 hlw
  have c0 : w3.cell? ⟨w.heap.size, 0, none⟩ = some (.int .i64 c.k) := cell_blk HBA3.out 0
  have c1 : w3.cell? ⟨w.heap.size, 1, none⟩ = some (.int .i64 c.tm) := cell_blk HBA3.out 1
  have c2 : w3.cell? ⟨w.heap.size, 2, none⟩ = some (.int .i64 c.a) := cell_blk HBA3.out 2
  have c3 : w3.cell? ⟨w.heap.size, 3, none⟩ = some (.int .i64 c.b) := cell_blk HBA3.out 3
  have c4 : w3.cell? ⟨w.heap.size, 4, none⟩ = some (.string (strOf c.name)) := cell_blk HBA3.out 4
  have c5 : w3.cell? ⟨w.heap.size, 5, none⟩ = some (.int .i64 vk) := cell_blk HBA3.out 5
  have c6 : w3.cell? ⟨w.heap.size, 6, none⟩ = some (.int .i64 vn) := cell_blk HBA3.out 6
  have c7 : w3.cell? ⟨w.heap.size, 7, none⟩ = some (.string (strOf vs)) := cell_blk HBA3.out 7
  have c8 : w3.cell? ⟨w.heap.size, 8, none⟩ = some (.slice va vm vc) := cell_blk HBA3.out 8
  have hlw := blk_lt HBA3.out
  go_wp2_with fail
  refine HP3.out.mono ?_
  rintro x w4 ⟨rfl, ho4⟩
  have HBA4 := hid (blk_only HBA3.out ho4 (fun e => e))
  have HO4 := hid (HO3.out.trans ho4 (fun _ _ e => e))
  have HEV := hid (cevent_c (HA.out.same HO4.out) (fun i hi => by have := HGG.out i hi; have := HO4.out.size; omega) HGA.out (by have := HSZ.out; omega))
  have HVZ : Hid (c.cev.v.sz ≤ 400) := hid (Nat.le_trans (cev_sz c) HSZ.out)
  obtain ⟨ce, hce⟩ : ∃ x, c.cev = x := ⟨_, rfl⟩
  rw [hce] at HEV HVZ
  clear ho4 HP3 hce
  clear c0 c1 c2 c3 c4 c5 c6 c7 c8 hlw
  have c0 : w4.cell? ⟨w.heap.size, 0, none⟩ = some (.int .i64 c.k) := cell_blk HBA4.out 0
  have c1 : w4.cell? ⟨w.heap.size, 1, none⟩ = some (.int .i64 c.tm) := cell_blk HBA4.out 1
  have c2 : w4.cell? ⟨w.heap.size, 2, none⟩ = some (.int .i64 c.a) := cell_blk HBA4.out 2
  have c3 : w4.cell? ⟨w.heap.size, 3, none⟩ = some (.int .i64 c.b) := cell_blk HBA4.out 3
  have c4 : w4.cell? ⟨w.heap.size, 4, none⟩ = some (.string (strOf c.name)) := cell_blk HBA4.out 4
  have c5 : w4.cell? ⟨w.heap.size, 5, none⟩ = some (.int .i64 vk) := cell_blk HBA4.out 5
  have c6 : w4.cell? ⟨w.heap.size, 6, none⟩ = some (.int .i64 vn) := cell_blk HBA4.out 6
  have c7 : w4.cell? ⟨w.heap.size, 7, none⟩ = some (.string (strOf vs)) := cell_blk HBA4.out 7
  have c8 : w4.cell? ⟨w.heap.size, 8, none⟩ = some (.slice va vm vc) := cell_blk HBA4.out 8
  have hlw := blk_lt HBA4.out
  have hs4 := HO4.out.size
  go_wp2_with fail
  refine HEV.out.mono ?_
  rintro x w5 ⟨ds, rfl, hev, ho5, hsl⟩
  obtain ⟨uk, un, us, ua, um, uc, rfl, hU⟩ := hev.form
  have ho55 := ho5.trans (only_new w5 (.cells #[.int .i64 ce.id, .int .i64 ce.tm, .int .i64 ce.k, .int .i64 ce.a, .int .i64 ce.b, .string (strOf ce.name), .string (strOf ce.text), .int .i64 uk, .int .i64 un, .string (strOf us), .slice ua um uc] 47)) (fun _ _ e => e)
  have hs5 := ho5.size
  rcases hxv : ce.v with ⟨xk, xn, xsx, l⟩
  rw [hxv, VAt] at hU
  obtain ⟨a, cp, q, o, heq, hne, hls⟩ := hU
  have heq' : ua = a ∧ um = l.length ∧ uc = cp := by simpa using (congrArg (fun l => l.getD 3 (.bool true)) heq)
  obtain ⟨rfl, rfl, rfl⟩ := heq'
  have hlg : l.length ≤ 1000000 := by
    have h1 := HVZ.out
    rw [hxv, VT.sz] at h1
    have := szL_len l
    omega
  have hqb : l ≠ [] → ∃ arr T, ua = some ⟨q, o, none⟩ ∧ (w5.alloc (.cells #[.int .i64 ce.id, .int .i64 ce.tm, .int .i64 ce.k, .int .i64 ce.a, .int .i64 ce.b, .string (strOf ce.name), .string (strOf ce.text), .int .i64 uk, .int .i64 un, .string (strOf us), .slice ua l.length uc] 47)).heap[q]? = some (.cells arr T (0, 0)) ∧ o + 4 * l.length ≤ arr.size ∧ w.heap.size < q ∧ q < w5.heap.size := fun h => by
    obtain ⟨hua, hq1, hq2⟩ := hne h
    rw [hua] at hsl
    obtain ⟨-, arr, T, h4⟩ := hsl q o l.length uc (by simp)
    refine ⟨arr, T, hua, blk_alloc h4, ?_, by have := blk_lt HBA4.out; omega, hq2⟩
    obtain ⟨t, ht⟩ : ∃ t, l[l.length - 1]? = some t := ⟨_, List.getElem?_eq_getElem (by have := List.length_pos_iff.2 h; omega)⟩
    obtain ⟨cs', hc1, hc2⟩ := hls.get ht
    obtain ⟨zk, zn, zs, za, zm, zc, rfl⟩ := hc2.form
    have h5 := hc1 3 _ rfl
    rw [cell_blk h4] at h5
    have := (Array.getElem?_eq_some_iff.1 h5).1
    have := List.length_pos_iff.2 h
    omega
  have HQB := hid hqb
  have HO5 := hid (HO4.out.trans ho55 (fun _ _ e => e))
  have HBA5 := hid (blk_only HBA4.out ho55 (fun e => e))
  have hnx : (w5.alloc (.cells #[.int .i64 ce.id, .int .i64 ce.tm, .int .i64 ce.k, .int .i64 ce.a, .int .i64 ce.b, .string (strOf ce.name), .string (strOf ce.text), .int .i64 uk, .int .i64 un, .string (strOf us), .slice ua l.length uc] 47)).heap[w5.heap.size]? = some (.cells #[.int .i64 ce.id, .int .i64 ce.tm, .int .i64 ce.k, .int .i64 ce.a, .int .i64 ce.b, .string (strOf ce.name), .string (strOf ce.text), .int .i64 uk, .int .i64 un, .string (strOf us), .slice ua l.length uc] 47 (0, 0)) := blk_new w5 _
  have HNX := hid hnx
  clear ho5 ho55 hsl hev heq hne hls hqb HEV hnx hxv
  clear c0 c1 c2 c3 c4 c5 c6 c7 c8 hlw
  go_wp2_with fail
  obtain ⟨wA, hwA⟩ : ∃ x, w5.alloc (.cells #[.int .i64 ce.id, .int .i64 ce.tm, .int .i64 ce.k, .int .i64 ce.a, .int .i64 ce.b, .string (strOf ce.name), .string (strOf ce.text), .int .i64 uk, .int .i64 un, .string (strOf us), .slice ua l.length uc] 47) = x := ⟨_, rfl⟩
  rw [hwA] at HQB HO5 HBA5 HNX
  try rw [hwA]
  have hsA : w5.heap.size < wA.heap.size := blk_lt HNX.out
  clear hwA
  go_loopw [25] (fun i wr => ∃ j : Nat, i = .int .i64 j ∧ j ≤ l.length ∧ Only (fun k => l ≠ [] ∧ k = q) wA wr ∧ ∀ arr T, wA.heap[q]? = some (.cells arr T (0, 0)) → l ≠ [] → ∃ arr', wr.heap[q]? = some (.cells arr' T (0, 0)) ∧ arr'.size = arr.size) (fun i _ => l.length - (intOf i).toNat)
  case atStart => exact ⟨0, rfl, Nat.zero_le _, Only.refl _ _, fun arr T h _ => ⟨arr, h, rfl⟩⟩
  case round =>
    obtain ⟨j, rfl, hj, ho, harr⟩ := hrel
    by_cases hjl : j < l.length
    · have hji : (j : Int) < l.length := by omega
      have hln : l ≠ [] := by intro h; rw [h] at hjl; simp at hjl
      obtain ⟨arr, T, rfl, hb6, hsz, hq1, hq3⟩ := HQB.out hln
      obtain ⟨arr', hb', hs'⟩ := harr arr T hb6 hln
      have k10 : wr.cell? ⟨w5.heap.size, 10, none⟩ = some (.slice (some ⟨q, o, none⟩) l.length uc) := cell_blk (blk_only HNX.out ho (fun e => by have := e.2; omega)) 10
      have hux : ∀ i, i < 4 → ∃ u, wr.cell? ⟨q, o + j * 4 + i, none⟩ = some u := fun i hi => by
        refine ⟨arr'[o + j * 4 + i]'(by omega), ?_⟩
        rw [cell_blk hb', Array.getElem?_eq_getElem (by omega)]
      obtain ⟨u0, hu0⟩ := hux 0 (by omega)
      obtain ⟨u1, hu1⟩ := hux 1 (by omega)
      obtain ⟨u2, hu2⟩ := hux 2 (by omega)
      obtain ⟨u3, hu3⟩ := hux 3 (by omega)
      have HOF := hid (of_c (w := wr.drew) 9)
      have hql := blk_lt hb'
      have hog : w5.heap.size < wr.heap.size := by have := ho.size; omega
      have HOR := hid ho; have HARR := hid harr; have HBR := hid hb'; have HS' := hid hs'; have HB6Q := hid hb6
      have hdr := (Only.refl (fun _ => False) wr).drew
      have HDR := hid hdr
      have HU0 := hid hu0; have HU1 := hid hu1; have HU2 := hid hu2; have HU3 := hid hu3; have HKR := hid k10
      clear ho harr hb' hs' hb6 hux hdr hu0 hu1 hu2 hu3
      go_wp2_with fail
      go_region_law (first
        | (refine step_of rfl (wp_callc (o := ⟨some 32, _, _, _, _, _⟩) (f := 28) (args := #[.int .i64 9]) (by kernel_rfl) ?_); refine HOF.out.mono ?_; rintro x w9 ⟨rfl, ho9⟩; refine ⟨_, rfl, ?_⟩; have ho9' := HDR.out.trans ho9 (fun _ _ e => e); have hb9 := blk_only HBR.out ho9' (fun e => e); have s10 : w9.cell? ⟨w5.heap.size, 10, none⟩ = some (.slice (some ⟨q, o, none⟩) l.length uc) := (World.cell?_of_block (ho9'.block w5.heap.size hog (fun e => e))).trans HKR.out; have t0 : w9.cell? ⟨q, o + j * 4, none⟩ = some u0 := (World.cell?_of_block (ho9'.block q hql (fun e => e))).trans HU0.out; have t1 : w9.cell? ⟨q, o + j * 4 + 1, none⟩ = some u1 := (World.cell?_of_block (ho9'.block q hql (fun e => e))).trans HU1.out; have t2 : w9.cell? ⟨q, o + j * 4 + 2, none⟩ = some u2 := (World.cell?_of_block (ho9'.block q hql (fun e => e))).trans HU2.out; have t3 : w9.cell? ⟨q, o + j * 4 + 3, none⟩ = some u3 := (World.cell?_of_block (ho9'.block q hql (fun e => e))).trans HU3.out; have z9 := frozen_blk hb9; have hql9 := blk_lt hb9; have HB9 := hid hb9; have HO9 := hid ho9'; clear ho9 ho9' hb9))
      all_goals
        go_wp2_with fail
        go_roundw
        case rel =>
          have hbs := blk_set (blk_set (blk_set (blk_set HB9.out (o + j * 4) (.int .i64 1)) (o + j * 4 + 1) (.int .i64 9)) (o + j * 4 + 2) (.string ⟨#[]⟩)) (o + j * 4 + 3) (.slice none 0 0)
          refine ⟨j + 1, by go_num, by omega, HOR.out.trans ((HO9.out.mono (fun _ _ e => e.elim)).trans (((((only_set (w := w9) q (o + j * 4) (.int .i64 1)).trans (only_set q (o + j * 4 + 1) (.int .i64 9)) (fun _ _ e => e)).trans (only_set q (o + j * 4 + 2) (.string ⟨#[]⟩)) (fun _ _ e => e)).trans (only_set q (o + j * 4 + 3) (.slice none 0 0)) (fun _ _ e => e)).mono (fun k _ e => ⟨hln, e⟩)) (fun _ _ e => e)) (fun _ _ e => e), fun arr2 T2 h2 _ => ?_⟩
          rw [HB6Q.out] at h2
          simp only [Option.some.injEq, Obj.cells.injEq, and_true] at h2
          obtain ⟨e1, e2⟩ := h2
          rw [← e1, ← e2]
          exact ⟨_, hbs, by simp [HS'.out]⟩
        case measure => simp [intOf]; omega
    · have hjl2 : ¬ (j : Int) < l.length := by omega
      have hqw : ∀ (k : Nat), l ≠ [] ∧ k = q → w.heap.size < k := fun k e => by
        obtain ⟨arr, T, -, -, -, h1, -⟩ := HQB.out e.1
        have := e.2; omega
      have HO9 := hid (HO5.out.trans ho (fun i hi e => by have := hqw i e; omega))
      have HB9 := hid (blk_only HBA5.out ho (fun e => by have := hqw _ e; omega))
      have HPL := hid (HPR.out wr HO9.out)
      clear ho harr hqw
      have c0 : wr.cell? ⟨w.heap.size, 0, none⟩ = some (.int .i64 c.k) := cell_blk HB9.out 0
      have c1 : wr.cell? ⟨w.heap.size, 1, none⟩ = some (.int .i64 c.tm) := cell_blk HB9.out 1
      have c2 : wr.cell? ⟨w.heap.size, 2, none⟩ = some (.int .i64 c.a) := cell_blk HB9.out 2
      have c3 : wr.cell? ⟨w.heap.size, 3, none⟩ = some (.int .i64 c.b) := cell_blk HB9.out 3
      have c4 : wr.cell? ⟨w.heap.size, 4, none⟩ = some (.string (strOf c.name)) := cell_blk HB9.out 4
      have c5 : wr.cell? ⟨w.heap.size, 5, none⟩ = some (.int .i64 vk) := cell_blk HB9.out 5
      have c6 : wr.cell? ⟨w.heap.size, 6, none⟩ = some (.int .i64 vn) := cell_blk HB9.out 6
      have c7 : wr.cell? ⟨w.heap.size, 7, none⟩ = some (.string (strOf vs)) := cell_blk HB9.out 7
      have c8 : wr.cell? ⟨w.heap.size, 8, none⟩ = some (.slice va vm vc) := cell_blk HB9.out 8
      have hlw := blk_lt HB9.out
      go_wp2_with fail
      refine HPL.out.mono ?_
      rintro x w10 ⟨rfl, ho10⟩
      have HO10 := hid (HO9.out.trans ho10 (fun _ _ e => e))
      clear ho10 HPL
      go_wp2_with fail
      go_ret
      exact ⟨rfl, HO10.out⟩
end
end Go.Proofs.YtihidpfkdpjdpaaDoor
