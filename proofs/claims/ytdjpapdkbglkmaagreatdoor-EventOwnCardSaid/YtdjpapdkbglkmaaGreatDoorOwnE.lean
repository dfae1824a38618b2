/- EventOwn's walk. -/
import Derived.Test.YtdjpapdkbglkmaaGreatDoorErase
import Derived.Test.YtdjpapdkbglkmaaGreatDoorTells
import Derived.Test.YtdjpapdkbglkmaaGreatDoorFits
import Derived.Test.YtdjpapdkbglkmaaGreatDoorPrB
import Derived.Test.YtdjpapdkbglkmaaGreatDoorEvP
import Derived.Test.YtdjpapdkbglkmaaGreatDoorRf09C
import Derived.Test.YtdjpapdkbglkmaaGreatDoorOpenV
namespace Go.Proofs.YtdjpapdkbglkmaaGreatDoor
open Go.RowKit

mutual
theorem cl_sz2 : ∀ t : VT, t.cl.sz ≤ t.sz
  | .mk k n s l => by
    rw [VT.cl, VT.sz, VT.sz]
    split
    · have := clL_sz2 l; omega
    · rw [VT.szL]; omega
theorem clL_sz2 : ∀ l : List VT, VT.szL (VT.clL l) ≤ VT.szL l
  | [] => by rw [VT.clL]; omega
  | t :: ts => by rw [VT.clL, VT.szL, VT.szL]; have := cl_sz2 t; have := clL_sz2 ts; omega
end
section
variable {w : World}
set_option maxRecDepth 100000 in
theorem of_c (n : Int) : Calls Tryz.prog 21 #[.int .i64 n] w fun x w' => x = .returned (.agg #[.int .i64 1, .int .i64 n, .string ⟨#[]⟩, .slice none 0 0]) ∧ Only (fun _ => False) w w' := by
  go_enter Tryz.func21, Tryz.ntmps21
  go_wp2_with fail
  refine bodyPost_ret (results_cell_row rfl _ _ w.heap.size 24 #[.int .i64 1, .int .i64 n, .string ⟨#[]⟩, .slice none 0 0] (0, 0) _ rfl (by simpa using blk_new w (.cells #[.int .i64 1, .int .i64 n, .string ⟨#[]⟩, .slice none 0 0] 24)) Tryz.underlying24 rfl info_val) rfl ⟨rfl, only_new w _⟩
set_option maxRecDepth 100000 in
set_option maxHeartbeats 3200000 in
theorem eown_c (hT : Tab w) {e : EM} {cs : List Value} {G : Nat → Prop} (hE : EAt w G e cs) (hG : ∀ k, G k → k < w.heap.size) (hg : e.rg) : Calls Tryz.prog 6 #[.agg cs.toArray] w fun x w' => x = .returned (.bool true) ∧ Only (fun _ => False) w w' := by
  obtain ⟨vk, vn, vs, va, vm, vc, rfl, hV⟩ := hE.form
  have HE := hid hE; have HGl := hid hG; have Hg := hid hg; have HTb := hid hT
  have hO0 := only_new w (.cells #[.int .i64 e.id, .int .i64 e.tm, .int .i64 e.k, .int .i64 e.a, .int .i64 e.b, .string (strOf e.name), .string (strOf e.text), .int .i64 vk, .int .i64 vn, .string (strOf vs), .slice va vm vc] 26)
  have HTL := hid (tells_c (hT.only hO0))
  have HB0 := hid (blk_new w (.cells #[.int .i64 e.id, .int .i64 e.tm, .int .i64 e.k, .int .i64 e.a, .int .i64 e.b, .string (strOf e.name), .string (strOf e.text), .int .i64 vk, .int .i64 vn, .string (strOf vs), .slice va vm vc] 26))
  have HO0 := hid hO0
  clear hT hE hV hG hg hO0
  go_enter Tryz.func6, Tryz.ntmps6
  go_wp2_with fail
  refine HTL.out.mono ?_
  rintro x w1 ⟨rfl, ho1⟩
  have HB1 := hid (blk_only HB0.out ho1 (fun e => e))
  have HO1 := hid (HO0.out.trans ho1 (fun _ _ e => e))
  clear ho1 HTL
  have HSM := hid (small_c (w := w1.alloc (.cells #[.int .i64 e.id, .int .i64 e.tm, .int .i64 e.k, .int .i64 e.a, .int .i64 e.b, .string (strOf e.name), .string (strOf e.text), .int .i64 vk, .int .i64 vn, .string (strOf vs), .slice va vm vc] 26)) (EvsV.one (w := w1.alloc (.cells #[.int .i64 e.id, .int .i64 e.tm, .int .i64 e.k, .int .i64 e.a, .int .i64 e.b, .string (strOf e.name), .string (strOf e.text), .int .i64 vk, .int .i64 vn, .string (strOf vs), .slice va vm vc] 26)) (blk_new w1 _) (HE.out.same (HO1.out.trans (only_new w1 _) (fun _ _ e => e)))) (fun k hk => by have := HO1.out.size; rcases hk with rfl | hk; simp; have := HGl.out k hk; simp; omega) (fun e' he' => by rw [List.mem_singleton.1 he']; exact Hg.out.2.2.2.2.2.2.2) (by simp))
  skip
  have c0 : w1.cell? ⟨w.heap.size, 0, none⟩ = some (.int .i64 e.id) := cell_blk HB1.out 0
  have c1 : w1.cell? ⟨w.heap.size, 1, none⟩ = some (.int .i64 e.tm) := cell_blk HB1.out 1
  have c2 : w1.cell? ⟨w.heap.size, 2, none⟩ = some (.int .i64 e.k) := cell_blk HB1.out 2
  have c3 : w1.cell? ⟨w.heap.size, 3, none⟩ = some (.int .i64 e.a) := cell_blk HB1.out 3
  have c4 : w1.cell? ⟨w.heap.size, 4, none⟩ = some (.int .i64 e.b) := cell_blk HB1.out 4
  have c5 : w1.cell? ⟨w.heap.size, 5, none⟩ = some (.string (strOf e.name)) := cell_blk HB1.out 5
  have c6 : w1.cell? ⟨w.heap.size, 6, none⟩ = some (.string (strOf e.text)) := cell_blk HB1.out 6
  have c7 : w1.cell? ⟨w.heap.size, 7, none⟩ = some (.int .i64 vk) := cell_blk HB1.out 7
  have c8 : w1.cell? ⟨w.heap.size, 8, none⟩ = some (.int .i64 vn) := cell_blk HB1.out 8
  have c9 : w1.cell? ⟨w.heap.size, 9, none⟩ = some (.string (strOf vs)) := cell_blk HB1.out 9
  have c10 : w1.cell? ⟨w.heap.size, 10, none⟩ = some (.slice va vm vc) := cell_blk HB1.out 10
  have hlw1 : w.heap.size < w1.heap.size := blk_lt HB1.out
  obtain ⟨sm, hsm⟩ : ∃ b, smB [e] 400 = b := ⟨_, rfl⟩
  rw [hsm] at HSM
  cases sm with
  | false =>
    go_wp2_with fail
    refine HSM.out.mono ?_
    rintro x w2 ⟨rfl, ho2⟩
    have HO2 := hid (HO1.out.trans ((only_new w1 _).trans ho2 (fun _ _ e => e)) (fun _ _ e => e))
    clear ho2
    go_wp2_with fail
    go_ret
    exact ⟨rfl, HO2.out⟩
  | true =>
  have HSZ := hid (smB_sz [e] 400 (by omega) hsm e (by simp))
  clear hsm
  go_wp2_with fail
  refine HSM.out.mono ?_
  rintro x w2 ⟨rfl, ho2⟩
  have ho12 := (only_new w1 (.cells #[.int .i64 e.id, .int .i64 e.tm, .int .i64 e.k, .int .i64 e.a, .int .i64 e.b, .string (strOf e.name), .string (strOf e.text), .int .i64 vk, .int .i64 vn, .string (strOf vs), .slice va vm vc] 26)).trans ho2 (fun _ _ e => e)
  have HB2 := hid (blk_only HB1.out ho12 (fun e => e))
  have HO2 := hid (HO1.out.trans ho12 (fun _ _ e => e))
  have HRC := hid (r9check_c (HE.out.same HO2.out) Hg.out)
  obtain ⟨ck, hck⟩ : ∃ y, e.chk = y := ⟨_, rfl⟩
  rw [hck] at HRC
  have HCK := hid hck
  clear ho2 ho12 HSM hck
  clear c0 c1 c2 c3 c4 c5 c6 c7 c8 c9 c10
  have c0 : w2.cell? ⟨w.heap.size, 0, none⟩ = some (.int .i64 e.id) := cell_blk HB2.out 0
  have c1 : w2.cell? ⟨w.heap.size, 1, none⟩ = some (.int .i64 e.tm) := cell_blk HB2.out 1
  have c2 : w2.cell? ⟨w.heap.size, 2, none⟩ = some (.int .i64 e.k) := cell_blk HB2.out 2
  have c3 : w2.cell? ⟨w.heap.size, 3, none⟩ = some (.int .i64 e.a) := cell_blk HB2.out 3
  have c4 : w2.cell? ⟨w.heap.size, 4, none⟩ = some (.int .i64 e.b) := cell_blk HB2.out 4
  have c5 : w2.cell? ⟨w.heap.size, 5, none⟩ = some (.string (strOf e.name)) := cell_blk HB2.out 5
  have c6 : w2.cell? ⟨w.heap.size, 6, none⟩ = some (.string (strOf e.text)) := cell_blk HB2.out 6
  have c7 : w2.cell? ⟨w.heap.size, 7, none⟩ = some (.int .i64 vk) := cell_blk HB2.out 7
  have c8 : w2.cell? ⟨w.heap.size, 8, none⟩ = some (.int .i64 vn) := cell_blk HB2.out 8
  have c9 : w2.cell? ⟨w.heap.size, 9, none⟩ = some (.string (strOf vs)) := cell_blk HB2.out 9
  have c10 : w2.cell? ⟨w.heap.size, 10, none⟩ = some (.slice va vm vc) := cell_blk HB2.out 10
  have hlw2 : w.heap.size < w2.heap.size := blk_lt HB2.out
  by_cases hc0 : ck = 0
  case neg =>
    have hcb : (ck != 0) = true := by simpa using hc0
    clear hc0
    go_wp2_with fail
    refine HRC.out.mono ?_
    rintro x w3 ⟨rfl, ho3⟩
    have HO3 := hid (HO2.out.trans ho3 (fun _ _ e => e))
    clear ho3 HRC
    go_wp2_with fail
    go_ret
    exact ⟨rfl, HO3.out⟩
  subst hc0
  go_wp2_with fail
  refine HRC.out.mono ?_
  rintro x w3 ⟨rfl, ho3⟩
  have HB3 := hid (blk_only HB2.out ho3 (fun e => e))
  have HO3 := hid (HO2.out.trans ho3 (fun _ _ e => e))
  have HTK := hid (task_c (HE.out.same HO3.out))
  have HGD := hid (chk_good HCK.out)
  clear ho3 HRC
  obtain ⟨tb, htb⟩ : ∃ y, taskB e.k = y := ⟨_, rfl⟩
  rw [htb] at HTK
  clear c0 c1 c2 c3 c4 c5 c6 c7 c8 c9 c10
  have c0 : w3.cell? ⟨w.heap.size, 0, none⟩ = some (.int .i64 e.id) := cell_blk HB3.out 0
  have c1 : w3.cell? ⟨w.heap.size, 1, none⟩ = some (.int .i64 e.tm) := cell_blk HB3.out 1
  have c2 : w3.cell? ⟨w.heap.size, 2, none⟩ = some (.int .i64 e.k) := cell_blk HB3.out 2
  have c3 : w3.cell? ⟨w.heap.size, 3, none⟩ = some (.int .i64 e.a) := cell_blk HB3.out 3
  have c4 : w3.cell? ⟨w.heap.size, 4, none⟩ = some (.int .i64 e.b) := cell_blk HB3.out 4
  have c5 : w3.cell? ⟨w.heap.size, 5, none⟩ = some (.string (strOf e.name)) := cell_blk HB3.out 5
  have c6 : w3.cell? ⟨w.heap.size, 6, none⟩ = some (.string (strOf e.text)) := cell_blk HB3.out 6
  have c7 : w3.cell? ⟨w.heap.size, 7, none⟩ = some (.int .i64 vk) := cell_blk HB3.out 7
  have c8 : w3.cell? ⟨w.heap.size, 8, none⟩ = some (.int .i64 vn) := cell_blk HB3.out 8
  have c9 : w3.cell? ⟨w.heap.size, 9, none⟩ = some (.string (strOf vs)) := cell_blk HB3.out 9
  have c10 : w3.cell? ⟨w.heap.size, 10, none⟩ = some (.slice va vm vc) := cell_blk HB3.out 10
  have hlw3 : w.heap.size < w3.heap.size := blk_lt HB3.out
  cases tb with
  | true =>
    clear htb
    go_wp2_with fail
    refine HTK.out.mono ?_
    rintro x w4 ⟨rfl, ho4⟩
    have HO4 := hid (HO3.out.trans ho4 (fun _ _ e => e))
    clear ho4 HTK
    go_wp2_with fail
    go_ret
    exact ⟨rfl, HO4.out⟩
  | false =>
  have HER : Hid (ers 0 [e] = [e.anew 1]) := hid (by rw [ers, if_neg (by rw [htb]; simp), ers]; rfl)
  clear htb
  go_wp2_with fail
  refine HTK.out.mono ?_
  rintro x w4 ⟨rfl, ho4⟩
  have HB4 := hid (blk_only HB3.out ho4 (fun e => e))
  have HO4 := hid (HO3.out.trans ho4 (fun _ _ e => e))
  have HPR := fun w5 (h5 : Only (fun _ => False) w w5) => hid (eprint_c (w := w5) (HE.out.same h5) (fun k hk => by have := HGl.out k hk; have := h5.size; omega) Hg.out (HTb.out.only h5) (by have := HGD.out.nL; omega) (by have := HGD.out.tL; omega) (pr_max HGD.out.v Hg.out.2.2.2.2.2.2.2))
  have HPA := HPR w4 HO4.out
  clear ho4 HTK
  clear c0 c1 c2 c3 c4 c5 c6 c7 c8 c9 c10
  have c0 : w4.cell? ⟨w.heap.size, 0, none⟩ = some (.int .i64 e.id) := cell_blk HB4.out 0
  have c1 : w4.cell? ⟨w.heap.size, 1, none⟩ = some (.int .i64 e.tm) := cell_blk HB4.out 1
  have c2 : w4.cell? ⟨w.heap.size, 2, none⟩ = some (.int .i64 e.k) := cell_blk HB4.out 2
  have c3 : w4.cell? ⟨w.heap.size, 3, none⟩ = some (.int .i64 e.a) := cell_blk HB4.out 3
  have c4 : w4.cell? ⟨w.heap.size, 4, none⟩ = some (.int .i64 e.b) := cell_blk HB4.out 4
  have c5 : w4.cell? ⟨w.heap.size, 5, none⟩ = some (.string (strOf e.name)) := cell_blk HB4.out 5
  have c6 : w4.cell? ⟨w.heap.size, 6, none⟩ = some (.string (strOf e.text)) := cell_blk HB4.out 6
  have c7 : w4.cell? ⟨w.heap.size, 7, none⟩ = some (.int .i64 vk) := cell_blk HB4.out 7
  have c8 : w4.cell? ⟨w.heap.size, 8, none⟩ = some (.int .i64 vn) := cell_blk HB4.out 8
  have c9 : w4.cell? ⟨w.heap.size, 9, none⟩ = some (.string (strOf vs)) := cell_blk HB4.out 9
  have c10 : w4.cell? ⟨w.heap.size, 10, none⟩ = some (.slice va vm vc) := cell_blk HB4.out 10
  have hlw4 : w.heap.size < w4.heap.size := blk_lt HB4.out
  go_wp2_with fail
  refine HPA.out.mono ?_
  rintro x w5 ⟨rfl, ho5⟩
  have HB5 := hid (blk_only HB4.out ho5 (fun e => e))
  have HO5 := hid (HO4.out.trans ho5 (fun _ _ e => e))
  have HEV : Hid (EvsV (w5.alloc (.cells #[.int .i64 e.id, .int .i64 e.tm, .int .i64 e.k, .int .i64 e.a, .int .i64 e.b, .string (strOf e.name), .string (strOf e.text), .int .i64 vk, .int .i64 vn, .string (strOf vs), .slice va vm vc] 26)) (fun k => k = w5.heap.size ∨ G k) (.slice (some ⟨w5.heap.size, 0, none⟩) 1 1) [e]) := hid (EvsV.one (blk_new w5 _) (HE.out.same (HO5.out.trans (only_new w5 _) (fun _ _ e => e))))
  have HES := hid (erase_s HEV.out (fun k hk => by have := HO5.out.size; rcases hk with rfl | hk; simp; have := HGl.out k hk; simp; omega) (fun e' he' => by rw [List.mem_singleton.1 he']; exact Hg.out.2.2.2.2.2.2.2) (fun e' he' => by rw [List.mem_singleton.1 he']; have := HSZ.out; omega) (by simp))
  rw [HER.out] at HES
  clear ho5 HPA
  clear c0 c1 c2 c3 c4 c5 c6 c7 c8 c9 c10
  have c0 : w5.cell? ⟨w.heap.size, 0, none⟩ = some (.int .i64 e.id) := cell_blk HB5.out 0
  have c1 : w5.cell? ⟨w.heap.size, 1, none⟩ = some (.int .i64 e.tm) := cell_blk HB5.out 1
  have c2 : w5.cell? ⟨w.heap.size, 2, none⟩ = some (.int .i64 e.k) := cell_blk HB5.out 2
  have c3 : w5.cell? ⟨w.heap.size, 3, none⟩ = some (.int .i64 e.a) := cell_blk HB5.out 3
  have c4 : w5.cell? ⟨w.heap.size, 4, none⟩ = some (.int .i64 e.b) := cell_blk HB5.out 4
  have c5 : w5.cell? ⟨w.heap.size, 5, none⟩ = some (.string (strOf e.name)) := cell_blk HB5.out 5
  have c6 : w5.cell? ⟨w.heap.size, 6, none⟩ = some (.string (strOf e.text)) := cell_blk HB5.out 6
  have c7 : w5.cell? ⟨w.heap.size, 7, none⟩ = some (.int .i64 vk) := cell_blk HB5.out 7
  have c8 : w5.cell? ⟨w.heap.size, 8, none⟩ = some (.int .i64 vn) := cell_blk HB5.out 8
  have c9 : w5.cell? ⟨w.heap.size, 9, none⟩ = some (.string (strOf vs)) := cell_blk HB5.out 9
  have c10 : w5.cell? ⟨w.heap.size, 10, none⟩ = some (.slice va vm vc) := cell_blk HB5.out 10
  have hlw5 : w.heap.size < w5.heap.size := blk_lt HB5.out
  go_wp2_with fail
  refine HES.out.mono ?_
  rintro x w6 ⟨ad, n, cap, xs, rfl, rfl, hgr, had, hxs, hsl, ho6⟩
  have ho56 := (only_new w5 (.cells #[.int .i64 e.id, .int .i64 e.tm, .int .i64 e.k, .int .i64 e.a, .int .i64 e.b, .string (strOf e.name), .string (strOf e.text), .int .i64 vk, .int .i64 vn, .string (strOf vs), .slice va vm vc] 26)).trans ho6 (fun _ _ e => e)
  have HB6 := hid (blk_only HB5.out ho56 (fun e => e))
  have HO6 := hid (HO5.out.trans ho56 (fun _ _ e => e))
  obtain ⟨xc, ys, rfl, hEx, rfl⟩ := hxs
  obtain ⟨og, rfl, hcells⟩ := hgr.cells (by simp)
  obtain ⟨uk, un, us, ua, um, uc, rfl, hU⟩ := hEx.form
  have hol := hgr.lt rfl
  have hon := had og rfl
  rw [List.append_nil] at hcells hsl
  rw [World.size_alloc] at hon
  have k10 : w6.cell? ⟨og, 10, none⟩ = some (.slice ua um uc) := hcells 10 _ rfl
  have HK10 := hid k10
  rcases hxv : (e.anew 1).v with ⟨xk, xn, xsx, l⟩
  rw [hxv, VAt] at hU
  obtain ⟨a, cp, q, o, heq, hne, hls⟩ := hU
  have heq' : ua = a ∧ um = l.length ∧ uc = cp := by simpa using (congrArg (fun l => l.getD 3 (.bool true)) heq)
  obtain ⟨rfl, rfl, rfl⟩ := heq'
  have hsz6 := HO6.out.size
  have hsz6' := ho6.size
  rw [World.size_alloc] at hsz6'
  have hlg : l.length ≤ 1000000 := by
    have h1 := HSZ.out
    have h2 : (e.anew 1).v.sz ≤ e.v.sz := cl_sz2 _
    rw [hxv, VT.sz] at h2
    have := szL_len l
    omega
  have hqb : l ≠ [] → ∃ arr T, ua = some ⟨q, o, none⟩ ∧ w6.heap[q]? = some (.cells arr T (0, 0)) ∧ o + 4 * l.length ≤ arr.size ∧ w.heap.size ≤ q ∧ q ≠ w.heap.size ∧ q ≠ og := fun h => by
    obtain ⟨hua, hq1, hq2, hq3⟩ := hne h
    rw [hua] at hsl
    obtain ⟨h1, h2, h3, arr, T, h4⟩ := hsl q o l.length uc (by simp)
    rw [World.size_alloc] at h1
    have hwl := blk_lt HB5.out
    refine ⟨arr, T, hua, h4, ?_, by have := HO5.out.size; omega, by omega, fun e => h3 (by rw [e])⟩
    obtain ⟨t, ht⟩ : ∃ t, l[l.length - 1]? = some t := ⟨_, List.getElem?_eq_getElem (by have := List.length_pos_iff.2 h; omega)⟩
    obtain ⟨cs', hc1, hc2⟩ := hls.get ht
    obtain ⟨zk, zn, zs, za, zm, zc, rfl⟩ := hc2.form
    have h5 := hc1 3 _ rfl
    rw [cell_blk h4] at h5
    have := (Array.getElem?_eq_some_iff.1 h5).1
    have := List.length_pos_iff.2 h
    omega
  have HQB := hid hqb
  have HPZ := hid HPR
  clear ho6 ho56 hgr had hsl hEx hcells heq hne hls hqb HES HPR
  skip
  go_wp2_with fail
  go_loopw [35] (fun i wr => ∃ j : Nat, i = .int .i64 j ∧ j ≤ l.length ∧ Only (fun k => l ≠ [] ∧ k = q) w6 wr ∧ ∀ arr T, w6.heap[q]? = some (.cells arr T (0, 0)) → l ≠ [] → ∃ arr', wr.heap[q]? = some (.cells arr' T (0, 0)) ∧ arr'.size = arr.size) (fun i _ => l.length - (intOf i).toNat)
  case atStart => exact ⟨0, rfl, Nat.zero_le _, Only.refl _ _, fun arr T h _ => ⟨arr, h, rfl⟩⟩
  case round =>
    obtain ⟨j, rfl, hj, ho, harr⟩ := hrel
    by_cases hjl : j < l.length
    · have hji : (j : Int) < l.length := by omega
      have hln : l ≠ [] := by intro h; rw [h] at hjl; simp at hjl
      obtain ⟨arr, T, rfl, hb6, hsz, hq1, hq2, hq3⟩ := HQB.out hln
      obtain ⟨arr', hb', hs'⟩ := harr arr T hb6 hln
      have k10 : wr.cell? ⟨og, 10, none⟩ = some (.slice (some ⟨q, o, none⟩) l.length uc) := (World.cell?_of_block (ho.block og hol (fun e => hq3 e.2.symm))).trans HK10.out
      have hux : ∀ i, i < 4 → ∃ u, wr.cell? ⟨q, o + j * 4 + i, none⟩ = some u := fun i hi => by
        refine ⟨arr'[o + j * 4 + i]'(by omega), ?_⟩
        rw [cell_blk hb', Array.getElem?_eq_getElem (by omega)]
      obtain ⟨u0, hu0⟩ := hux 0 (by omega)
      obtain ⟨u1, hu1⟩ := hux 1 (by omega)
      obtain ⟨u2, hu2⟩ := hux 2 (by omega)
      obtain ⟨u3, hu3⟩ := hux 3 (by omega)
      have HOF := hid (of_c (w := wr.drew) 9)
      have hql := blk_lt hb'
      have hog : og < wr.heap.size := by have := ho.size; omega
      have HOR := hid ho; have HARR := hid harr; have HBR := hid hb'; have HS' := hid hs'; have HB6Q := hid hb6
      have hdr := (Only.refl (fun _ => False) wr).drew
      have HDR := hid hdr
      have HU0 := hid hu0; have HU1 := hid hu1; have HU2 := hid hu2; have HU3 := hid hu3; have HKR := hid k10
      clear ho harr hb' hs' hb6 hux hdr hu0 hu1 hu2 hu3
      go_wp2_with fail
      go_region_law (first
        | (refine step_of rfl (wp_callc (o := ⟨some 44, _, _, _, _, _⟩) (f := 21) (args := #[.int .i64 9]) (by kernel_rfl) ?_); refine HOF.out.mono ?_; rintro x w9 ⟨rfl, ho9⟩; refine ⟨_, rfl, ?_⟩; have ho9' := HDR.out.trans ho9 (fun _ _ e => e); have hb9 := blk_only HBR.out ho9' (fun e => e); have s10 : w9.cell? ⟨og, 10, none⟩ = some (.slice (some ⟨q, o, none⟩) l.length uc) := (World.cell?_of_block (ho9'.block og hog (fun e => e))).trans HKR.out; have t0 : w9.cell? ⟨q, o + j * 4, none⟩ = some u0 := (World.cell?_of_block (ho9'.block q hql (fun e => e))).trans HU0.out; have t1 : w9.cell? ⟨q, o + j * 4 + 1, none⟩ = some u1 := (World.cell?_of_block (ho9'.block q hql (fun e => e))).trans HU1.out; have t2 : w9.cell? ⟨q, o + j * 4 + 2, none⟩ = some u2 := (World.cell?_of_block (ho9'.block q hql (fun e => e))).trans HU2.out; have t3 : w9.cell? ⟨q, o + j * 4 + 3, none⟩ = some u3 := (World.cell?_of_block (ho9'.block q hql (fun e => e))).trans HU3.out; have z9 := frozen_blk hb9; have hql9 := blk_lt hb9; have HB9 := hid hb9; have HO9 := hid ho9'; clear ho9 ho9' hb9))
      all_goals
        go_wp2_with fail
        go_roundw
        case rel =>
          have hbs := blk_set (blk_set (blk_set (blk_set HB9.out (o + j * 4) (.int .i64 1)) (o + j * 4 + 1) (.int .i64 9)) (o + j * 4 + 2) (.string ⟨#[]⟩)) (o + j * 4 + 3) (.slice none 0 0)
          refine ⟨j + 1, by go_num, by omega, HOR.out.trans ((HO9.out.mono (fun _ _ e => e.elim)).trans (((((only_set (w := w9) q (o + j * 4) (.int .i64 1)).trans (only_set q (o + j * 4 + 1) (.int .i64 9)) (fun _ _ e => e)).trans (only_set q (o + j * 4 + 2) (.string ⟨#[]⟩)) (fun _ _ e => e)).trans (only_set q (o + j * 4 + 3) (.slice none 0 0)) (fun _ _ e => e)).mono (fun k _ e => ⟨hln, e⟩)) (fun _ _ e => e)) (fun _ _ e => e), fun arr2 T2 h2 _ => ?_⟩
          rw [HB6Q.out] at h2
          simp only [Option.some.injEq, Obj.cells.injEq, and_true] at h2
          obtain ⟨e1, e2⟩ := h2
          rw [← e1, ← e2]
          exact ⟨_, hbs, by simp [HS'.out]⟩
        case measure => simp [intOf]; omega
    · have hjl2 : ¬ (j : Int) < l.length := by omega
      have hqw : ∀ (k : Nat), l ≠ [] ∧ k = q → w.heap.size < k := fun k e => by
        obtain ⟨arr, T, -, -, -, h1, h2, -⟩ := HQB.out e.1
        have := e.2; omega
      have HO9 := hid (HO6.out.trans ho (fun i hi e => by have := hqw i e; omega))
      have HB9 := hid (blk_only HB6.out ho (fun e => by have := hqw _ e; omega))
      have HPL := HPZ.out wr HO9.out
      clear ho harr hqw
      skip
      have c0 : wr.cell? ⟨w.heap.size, 0, none⟩ = some (.int .i64 e.id) := cell_blk HB9.out 0
      have c1 : wr.cell? ⟨w.heap.size, 1, none⟩ = some (.int .i64 e.tm) := cell_blk HB9.out 1
      have c2 : wr.cell? ⟨w.heap.size, 2, none⟩ = some (.int .i64 e.k) := cell_blk HB9.out 2
      have c3 : wr.cell? ⟨w.heap.size, 3, none⟩ = some (.int .i64 e.a) := cell_blk HB9.out 3
      have c4 : wr.cell? ⟨w.heap.size, 4, none⟩ = some (.int .i64 e.b) := cell_blk HB9.out 4
      have c5 : wr.cell? ⟨w.heap.size, 5, none⟩ = some (.string (strOf e.name)) := cell_blk HB9.out 5
      have c6 : wr.cell? ⟨w.heap.size, 6, none⟩ = some (.string (strOf e.text)) := cell_blk HB9.out 6
      have c7 : wr.cell? ⟨w.heap.size, 7, none⟩ = some (.int .i64 vk) := cell_blk HB9.out 7
      have c8 : wr.cell? ⟨w.heap.size, 8, none⟩ = some (.int .i64 vn) := cell_blk HB9.out 8
      have c9 : wr.cell? ⟨w.heap.size, 9, none⟩ = some (.string (strOf vs)) := cell_blk HB9.out 9
      have c10 : wr.cell? ⟨w.heap.size, 10, none⟩ = some (.slice va vm vc) := cell_blk HB9.out 10
      have hlw1 : w.heap.size < wr.heap.size := blk_lt HB9.out
      go_wp2_with fail
      refine HPL.out.mono ?_
      rintro x w10 ⟨rfl, ho10⟩
      have HO10 := hid (HO9.out.trans ho10 (fun _ _ e => e))
      clear ho10 HPL
      have hrf : ((strOf e.pr).toList == (strOf e.pr).toList) = true := by simp
      go_wp2_with fail
      go_ret
      exact ⟨rfl, HO10.out⟩
end
end Go.Proofs.YtdjpapdkbglkmaaGreatDoor

