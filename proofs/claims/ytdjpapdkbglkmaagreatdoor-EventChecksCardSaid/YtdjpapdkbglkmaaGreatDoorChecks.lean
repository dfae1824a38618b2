/- EventChecks's walk. -/
import Derived.Test.YtdjpapdkbglkmaaGreatDoorTells
import Derived.Test.YtdjpapdkbglkmaaGreatDoorFits
import Derived.Test.YtdjpapdkbglkmaaGreatDoorRf09B
import Derived.Test.YtdjpapdkbglkmaaGreatDoorRf09C
import Derived.Test.YtdjpapdkbglkmaaGreatDoorRf09S
import Derived.Test.YtdjpapdkbglkmaaGreatDoorOpenV
namespace Go.Proofs.YtdjpapdkbglkmaaGreatDoor
open Go.RowKit

theorem step_ofg {P : Program} {ops : Array Oper} {o : Oper} {a : Act} {w : World} {Q : Exit → Act → World → Prop} {K : Act → World → Prop} {E : Prop} (hg : Region.wanted o (yielded ops a.tmps) = true) (h : o.wp P a w K Q) : if Region.wanted o (yielded ops a.tmps) = true then o.wp P a w K Q else E := by
  rw [if_pos hg]; exact h
theorem chk_kd {t : VT} (h : t.chk = 0) : t.kd ∧ t.cl.kd := by
  have go : ∀ t : VT, t.chk = 0 → t.kd := fun t h => by
    unfold VT.chk at h
    by_cases h1 : (t.walk 0 0 0).2 = 0
    · exact walk_kd t 0 0 _ (Prod.ext rfl h1)
    · rw [if_pos h1] at h; exact absurd h h1
  exact ⟨go t h, go t.cl (by rw [cl_chk]; exact h)⟩
theorem same_cl (e : EM) : e.same e.cl = true := (same_iff _ _).2 (by show (⟨e.id, e.tm, e.k, e.a, e.b, e.name, e.text, e.v.cl⟩ : EM) = ⟨e.id, e.tm, e.k, e.a, e.b, e.name, e.text, e.v.cl.cl⟩; rw [cl_cl])
section
variable {w : World}
set_option maxRecDepth 100000 in
set_option maxHeartbeats 3200000 in
theorem checks_c (hT : Tab w) {e : EM} {cs : List Value} {G : Nat → Prop} (hE : EAt w G e cs) (hG : ∀ k, G k → k < w.heap.size) (hg : e.rg) : Calls Tryz.prog 3 #[.agg cs.toArray] w fun x w' => x = .returned (.bool true) ∧ Only (fun _ => False) w w' := by
  obtain ⟨vk, vn, vs, va, vm, vc, rfl, hV⟩ := hE.form
  have HE := hid hE; have HGl := hid hG; have Hg := hid hg
  have hO0 := only_new w (.cells #[.int .i64 e.id, .int .i64 e.tm, .int .i64 e.k, .int .i64 e.a, .int .i64 e.b, .string (strOf e.name), .string (strOf e.text), .int .i64 vk, .int .i64 vn, .string (strOf vs), .slice va vm vc] 26)
  have HTL := hid (tells_c (hT.only hO0))
  have HB0 := hid (blk_new w (.cells #[.int .i64 e.id, .int .i64 e.tm, .int .i64 e.k, .int .i64 e.a, .int .i64 e.b, .string (strOf e.name), .string (strOf e.text), .int .i64 vk, .int .i64 vn, .string (strOf vs), .slice va vm vc] 26))
  have HO0 := hid hO0
  clear hT hE hV hG hg hO0
  go_enter Tryz.func3, Tryz.ntmps3
  go_wp2_with fail
  refine HTL.out.mono ?_
  rintro x w1 ⟨rfl, ho1⟩
  have HB1 := hid (blk_only HB0.out ho1 (fun e => e))
  have HO1 := hid (HO0.out.trans ho1 (fun _ _ e => e))
  clear ho1 HTL
  have HSM := hid (small_c (w := w1.alloc (.cells #[.int .i64 e.id, .int .i64 e.tm, .int .i64 e.k, .int .i64 e.a, .int .i64 e.b, .string (strOf e.name), .string (strOf e.text), .int .i64 vk, .int .i64 vn, .string (strOf vs), .slice va vm vc] 26)) (EvsV.one (w := w1.alloc (.cells #[.int .i64 e.id, .int .i64 e.tm, .int .i64 e.k, .int .i64 e.a, .int .i64 e.b, .string (strOf e.name), .string (strOf e.text), .int .i64 vk, .int .i64 vn, .string (strOf vs), .slice va vm vc] 26)) (blk_new w1 _) (HE.out.same (HO1.out.trans (only_new w1 _) (fun _ _ e => e)))) (fun k hk => by have := HO1.out.size; rcases hk with rfl | hk; simp; have := HGl.out k hk; simp; omega) (fun e' he' => by simp only [List.mem_singleton] at he'; subst he'; obtain ⟨-, -, -, -, -, -, -, gv⟩ := Hg.out; exact gv) (by simp))
  skip
  have c0 : w1.cell? ⟨w.heap.size, 0, none⟩ = some (.int .i64 e.id) := cell_blk HB1.out 0
  have c1 : w1.cell? ⟨w.heap.size, 1, none⟩ = some (.int .i64 e.tm) := cell_blk HB1.out 1
  have c2 : w1.cell? ⟨w.heap.size, 2, none⟩ = some (.int .i64 e.k) := cell_blk HB1.out 2
  have c3 : w1.cell? ⟨w.heap.size, 3, none⟩ = some (.int .i64 e.a) := cell_blk HB1.out 3
  have c4 : w1.cell? ⟨w.heap.size, 4, none⟩ = some (.int .i64 e.b) := cell_blk HB1.out 4
  have c5 : w1.cell? ⟨w.heap.size, 5, none⟩ = some (.string (strOf e.name)) := cell_blk HB1.out 5
  have c6 : w1.cell? ⟨w.heap.size, 6, none⟩ = some (.string (strOf e.text)) := cell_blk HB1.out 6
  have c7 : w1.cell? ⟨w.heap.size, 7, none⟩ = some (.int .i64 vk) := cell_blk HB1.out 7
  have c8 : w1.cell? ⟨w.heap.size, 8, none⟩ = some (.int .i64 vn) := cell_blk HB1.out 8
  have c9 : w1.cell? ⟨w.heap.size, 9, none⟩ = some (.string (strOf vs)) := cell_blk HB1.out 9
  have c10 : w1.cell? ⟨w.heap.size, 10, none⟩ = some (.slice va vm vc) := cell_blk HB1.out 10
  have hlw1 : w.heap.size < w1.heap.size := blk_lt HB1.out
  obtain ⟨sm, hsm⟩ : ∃ b, smB [e] 400 = b := ⟨_, rfl⟩
  rw [hsm] at HSM
  clear hsm
  cases sm with
  | false =>
    go_wp2_with fail
    refine HSM.out.mono ?_
    rintro x w2 ⟨rfl, ho2⟩
    have HO2 := hid (HO1.out.trans ((only_new w1 _).trans ho2 (fun _ _ e => e)) (fun _ _ e => e))
    clear ho2
    go_wp2_with fail
    go_ret
    exact ⟨rfl, HO2.out⟩
  | true =>
  go_wp2_with fail
  refine HSM.out.mono ?_
  rintro x w2 ⟨rfl, ho2⟩
  have ho12 := (only_new w1 (.cells #[.int .i64 e.id, .int .i64 e.tm, .int .i64 e.k, .int .i64 e.a, .int .i64 e.b, .string (strOf e.name), .string (strOf e.text), .int .i64 vk, .int .i64 vn, .string (strOf vs), .slice va vm vc] 26)).trans ho2 (fun _ _ e => e)
  have HB2 := hid (blk_only HB1.out ho12 (fun e => e))
  have HO2 := hid (HO1.out.trans ho12 (fun _ _ e => e))
  have HRC := hid (r9check_c (HE.out.same HO2.out) Hg.out)
  have HEN := fun w3 h3 => hid (encode_c (HE.out.same (HO2.out.trans h3 (fun _ _ e => e))) (fun k hk => by have := HGl.out k hk; have := HO2.out.size; have := h3.size; omega) Hg.out (w := w3))
  have HCH := fun w3 h3 => hid (echeck_c (HE.out.same (HO2.out.trans h3 (fun _ _ e => e))) (fun k hk => by have := HGl.out k hk; have := HO2.out.size; have := h3.size; omega) Hg.out (w := w3))
  obtain ⟨ck, hck⟩ : ∃ y, e.chk = y := ⟨_, rfl⟩
  rw [hck] at HRC
  simp only [hck] at HCH
  have HCK := hid hck
  clear ho2 ho12 HSM hck
  clear c0 c1 c2 c3 c4 c5 c6 c7 c8 c9 c10
  have c0 : w2.cell? ⟨w.heap.size, 0, none⟩ = some (.int .i64 e.id) := cell_blk HB2.out 0
  have c1 : w2.cell? ⟨w.heap.size, 1, none⟩ = some (.int .i64 e.tm) := cell_blk HB2.out 1
  have c2 : w2.cell? ⟨w.heap.size, 2, none⟩ = some (.int .i64 e.k) := cell_blk HB2.out 2
  have c3 : w2.cell? ⟨w.heap.size, 3, none⟩ = some (.int .i64 e.a) := cell_blk HB2.out 3
  have c4 : w2.cell? ⟨w.heap.size, 4, none⟩ = some (.int .i64 e.b) := cell_blk HB2.out 4
  have c5 : w2.cell? ⟨w.heap.size, 5, none⟩ = some (.string (strOf e.name)) := cell_blk HB2.out 5
  have c6 : w2.cell? ⟨w.heap.size, 6, none⟩ = some (.string (strOf e.text)) := cell_blk HB2.out 6
  have c7 : w2.cell? ⟨w.heap.size, 7, none⟩ = some (.int .i64 vk) := cell_blk HB2.out 7
  have c8 : w2.cell? ⟨w.heap.size, 8, none⟩ = some (.int .i64 vn) := cell_blk HB2.out 8
  have c9 : w2.cell? ⟨w.heap.size, 9, none⟩ = some (.string (strOf vs)) := cell_blk HB2.out 9
  have c10 : w2.cell? ⟨w.heap.size, 10, none⟩ = some (.slice va vm vc) := cell_blk HB2.out 10
  have hlw2 : w.heap.size < w2.heap.size := blk_lt HB2.out
  go_wp2_with fail
  refine HRC.out.mono ?_
  rintro x w3 ⟨rfl, ho3⟩
  have HB3 := hid (blk_only HB2.out ho3 (fun e => e))
  have HO3 := hid (HO2.out.trans ho3 (fun _ _ e => e))
  have HO23 := hid ho3
  have HE3 := hid (HEN w3 ho3).out
  clear ho3 HRC HEN
  clear c0 c1 c2 c3 c4 c5 c6 c7 c8 c9 c10
  have c0 : w3.cell? ⟨w.heap.size, 0, none⟩ = some (.int .i64 e.id) := cell_blk HB3.out 0
  have c1 : w3.cell? ⟨w.heap.size, 1, none⟩ = some (.int .i64 e.tm) := cell_blk HB3.out 1
  have c2 : w3.cell? ⟨w.heap.size, 2, none⟩ = some (.int .i64 e.k) := cell_blk HB3.out 2
  have c3 : w3.cell? ⟨w.heap.size, 3, none⟩ = some (.int .i64 e.a) := cell_blk HB3.out 3
  have c4 : w3.cell? ⟨w.heap.size, 4, none⟩ = some (.int .i64 e.b) := cell_blk HB3.out 4
  have c5 : w3.cell? ⟨w.heap.size, 5, none⟩ = some (.string (strOf e.name)) := cell_blk HB3.out 5
  have c6 : w3.cell? ⟨w.heap.size, 6, none⟩ = some (.string (strOf e.text)) := cell_blk HB3.out 6
  have c7 : w3.cell? ⟨w.heap.size, 7, none⟩ = some (.int .i64 vk) := cell_blk HB3.out 7
  have c8 : w3.cell? ⟨w.heap.size, 8, none⟩ = some (.int .i64 vn) := cell_blk HB3.out 8
  have c9 : w3.cell? ⟨w.heap.size, 9, none⟩ = some (.string (strOf vs)) := cell_blk HB3.out 9
  have c10 : w3.cell? ⟨w.heap.size, 10, none⟩ = some (.slice va vm vc) := cell_blk HB3.out 10
  have hlw3 : w.heap.size < w3.heap.size := blk_lt HB3.out
  go_wp2_with fail
  refine HE3.out.mono ?_
  rintro x w4 ⟨v4, rfl, hv4⟩
  rw [HCK.out] at hv4 ⊢
  by_cases hc0 : ck = 0
  · subst hc0
    rw [if_pos rfl] at hv4
    have hgd := chk_good HCK.out
    have hwl := ewr_len hgd
    have hde := dec_enc hgd Hg.out
    have HGD := hid hgd
    obtain ⟨wr, hwr⟩ : ∃ x, e.wr = x := ⟨_, rfl⟩
    rw [hwr] at hwl hv4 hde
    obtain ⟨ao, cp, rfl, hgr, -, ho4⟩ := hv4
    have HWR := hid hwr
    have HS4 := hid hgr.src
    have HB4 := hid (blk_only HB3.out ho4 (fun e => e))
    have HO4 := hid (HO3.out.trans ho4 (fun _ _ e => e))
    have HCH4 := hid (HCH w4 (HO23.out.trans ho4 (fun _ _ e => e))).out
    clear hgr ho4 HE3 HCH hgd hwr
    clear c0 c1 c2 c3 c4 c5 c6 c7 c8 c9 c10
    have c0 : w4.cell? ⟨w.heap.size, 0, none⟩ = some (.int .i64 e.id) := cell_blk HB4.out 0
    have c1 : w4.cell? ⟨w.heap.size, 1, none⟩ = some (.int .i64 e.tm) := cell_blk HB4.out 1
    have c2 : w4.cell? ⟨w.heap.size, 2, none⟩ = some (.int .i64 e.k) := cell_blk HB4.out 2
    have c3 : w4.cell? ⟨w.heap.size, 3, none⟩ = some (.int .i64 e.a) := cell_blk HB4.out 3
    have c4 : w4.cell? ⟨w.heap.size, 4, none⟩ = some (.int .i64 e.b) := cell_blk HB4.out 4
    have c5 : w4.cell? ⟨w.heap.size, 5, none⟩ = some (.string (strOf e.name)) := cell_blk HB4.out 5
    have c6 : w4.cell? ⟨w.heap.size, 6, none⟩ = some (.string (strOf e.text)) := cell_blk HB4.out 6
    have c7 : w4.cell? ⟨w.heap.size, 7, none⟩ = some (.int .i64 vk) := cell_blk HB4.out 7
    have c8 : w4.cell? ⟨w.heap.size, 8, none⟩ = some (.int .i64 vn) := cell_blk HB4.out 8
    have c9 : w4.cell? ⟨w.heap.size, 9, none⟩ = some (.string (strOf vs)) := cell_blk HB4.out 9
    have c10 : w4.cell? ⟨w.heap.size, 10, none⟩ = some (.slice va vm vc) := cell_blk HB4.out 10
    have hlw5 : w.heap.size < w4.heap.size := blk_lt HB4.out
    go_wp2_with fail
    refine HCH4.out.mono ?_
    rintro x w5 ⟨rfl, ho5⟩
    have HB5 := hid (blk_only HB4.out ho5 (fun e => e))
    have HO5 := hid (HO4.out.trans ho5 (fun _ _ e => e))
    have HS5 := hid (HS4.out.same ho5)
    have HD := hid (decode_c HS5.out (by omega))
    have HDE := hid hde
    clear ho5 HCH4 hde c0 c1 c2 c3 c4 c5 c6 c7 c8 c9 c10
    go_wp2_with fail
    refine HD.out.mono ?_
    rintro x w6 ⟨cs6, rfl, hev6, ho6⟩
    rw [HDE.out] at hev6 ⊢
    simp only at hev6 ⊢
    obtain ⟨uk, un, us, ua, um, uc, rfl, -⟩ := hev6.form
    have hal := only_new w6 (.cells #[.int .i64 e.cl.id, .int .i64 e.cl.tm, .int .i64 e.cl.k, .int .i64 e.cl.a, .int .i64 e.cl.b, .string (strOf e.cl.name), .string (strOf e.cl.text), .int .i64 uk, .int .i64 un, .string (strOf us), .slice ua um uc] 26)
    have HEV := hid (hev6.same hal.drew)
    have HO6 := hid ((HO5.out.trans ho6 (fun _ _ e => e)).trans hal.drew (fun _ _ e => e))
    have hs6 := HS5.out.same (ho6.trans hal.drew (fun _ _ e => e))
    have hcv := conv_str hs6
    have HS6 := hid hs6
    have hb6 : ((w6.alloc (.cells #[.int .i64 e.cl.id, .int .i64 e.cl.tm, .int .i64 e.cl.k, .int .i64 e.cl.a, .int .i64 e.cl.b, .string (strOf e.cl.name), .string (strOf e.cl.text), .int .i64 uk, .int .i64 un, .string (strOf us), .slice ua um uc] 26)).drew).heap[w.heap.size]? = _ := blk_only HB5.out (ho6.trans hal.drew (fun _ _ e => e)) (fun e => e)
    have hu6 : ((w6.alloc (.cells #[.int .i64 e.cl.id, .int .i64 e.cl.tm, .int .i64 e.cl.k, .int .i64 e.cl.a, .int .i64 e.cl.b, .string (strOf e.cl.name), .string (strOf e.cl.text), .int .i64 uk, .int .i64 un, .string (strOf us), .slice ua um uc] 26)).drew).heap[w6.heap.size]? = some (.cells #[.int .i64 e.cl.id, .int .i64 e.cl.tm, .int .i64 e.cl.k, .int .i64 e.cl.a, .int .i64 e.cl.b, .string (strOf e.cl.name), .string (strOf e.cl.text), .int .i64 uk, .int .i64 un, .string (strOf us), .slice ua um uc] 26 (0, 0)) := blk_new w6 _
    have HB6 := hid hb6; have HU6 := hid hu6
    have HBY := hid (r9bytes_c (w := (w6.alloc (.cells #[.int .i64 e.cl.id, .int .i64 e.cl.tm, .int .i64 e.cl.k, .int .i64 e.cl.a, .int .i64 e.cl.b, .string (strOf e.cl.name), .string (strOf e.cl.text), .int .i64 uk, .int .i64 un, .string (strOf us), .slice ua um uc] 26)).drew) (HE.out.same HO6.out) Hg.out HGD.out)
    rw [HWR.out] at HBY
    have hck := chk_kd HGD.out.v
    have HKD := hid hck
    have HVG := hid (show e.v.rg from Hg.out.2.2.2.2.2.2.2)
    have HVC := hid (show e.cl.v.rg from cl_rg _ Hg.out.2.2.2.2.2.2.2)
    have HSA := hid (same_cl e)
    have u0 : ((w6.alloc (.cells #[.int .i64 e.cl.id, .int .i64 e.cl.tm, .int .i64 e.cl.k, .int .i64 e.cl.a, .int .i64 e.cl.b, .string (strOf e.cl.name), .string (strOf e.cl.text), .int .i64 uk, .int .i64 un, .string (strOf us), .slice ua um uc] 26)).drew).cell? ⟨w6.heap.size, 0, none⟩ = some (.int .i64 e.cl.id) := cell_blk HU6.out 0
    have u1 : ((w6.alloc (.cells #[.int .i64 e.cl.id, .int .i64 e.cl.tm, .int .i64 e.cl.k, .int .i64 e.cl.a, .int .i64 e.cl.b, .string (strOf e.cl.name), .string (strOf e.cl.text), .int .i64 uk, .int .i64 un, .string (strOf us), .slice ua um uc] 26)).drew).cell? ⟨w6.heap.size, 1, none⟩ = some (.int .i64 e.cl.tm) := cell_blk HU6.out 1
    have u2 : ((w6.alloc (.cells #[.int .i64 e.cl.id, .int .i64 e.cl.tm, .int .i64 e.cl.k, .int .i64 e.cl.a, .int .i64 e.cl.b, .string (strOf e.cl.name), .string (strOf e.cl.text), .int .i64 uk, .int .i64 un, .string (strOf us), .slice ua um uc] 26)).drew).cell? ⟨w6.heap.size, 2, none⟩ = some (.int .i64 e.cl.k) := cell_blk HU6.out 2
    have u3 : ((w6.alloc (.cells #[.int .i64 e.cl.id, .int .i64 e.cl.tm, .int .i64 e.cl.k, .int .i64 e.cl.a, .int .i64 e.cl.b, .string (strOf e.cl.name), .string (strOf e.cl.text), .int .i64 uk, .int .i64 un, .string (strOf us), .slice ua um uc] 26)).drew).cell? ⟨w6.heap.size, 3, none⟩ = some (.int .i64 e.cl.a) := cell_blk HU6.out 3
    have u4 : ((w6.alloc (.cells #[.int .i64 e.cl.id, .int .i64 e.cl.tm, .int .i64 e.cl.k, .int .i64 e.cl.a, .int .i64 e.cl.b, .string (strOf e.cl.name), .string (strOf e.cl.text), .int .i64 uk, .int .i64 un, .string (strOf us), .slice ua um uc] 26)).drew).cell? ⟨w6.heap.size, 4, none⟩ = some (.int .i64 e.cl.b) := cell_blk HU6.out 4
    have u5 : ((w6.alloc (.cells #[.int .i64 e.cl.id, .int .i64 e.cl.tm, .int .i64 e.cl.k, .int .i64 e.cl.a, .int .i64 e.cl.b, .string (strOf e.cl.name), .string (strOf e.cl.text), .int .i64 uk, .int .i64 un, .string (strOf us), .slice ua um uc] 26)).drew).cell? ⟨w6.heap.size, 5, none⟩ = some (.string (strOf e.cl.name)) := cell_blk HU6.out 5
    have u6 : ((w6.alloc (.cells #[.int .i64 e.cl.id, .int .i64 e.cl.tm, .int .i64 e.cl.k, .int .i64 e.cl.a, .int .i64 e.cl.b, .string (strOf e.cl.name), .string (strOf e.cl.text), .int .i64 uk, .int .i64 un, .string (strOf us), .slice ua um uc] 26)).drew).cell? ⟨w6.heap.size, 6, none⟩ = some (.string (strOf e.cl.text)) := cell_blk HU6.out 6
    have u7 : ((w6.alloc (.cells #[.int .i64 e.cl.id, .int .i64 e.cl.tm, .int .i64 e.cl.k, .int .i64 e.cl.a, .int .i64 e.cl.b, .string (strOf e.cl.name), .string (strOf e.cl.text), .int .i64 uk, .int .i64 un, .string (strOf us), .slice ua um uc] 26)).drew).cell? ⟨w6.heap.size, 7, none⟩ = some (.int .i64 uk) := cell_blk HU6.out 7
    have u8 : ((w6.alloc (.cells #[.int .i64 e.cl.id, .int .i64 e.cl.tm, .int .i64 e.cl.k, .int .i64 e.cl.a, .int .i64 e.cl.b, .string (strOf e.cl.name), .string (strOf e.cl.text), .int .i64 uk, .int .i64 un, .string (strOf us), .slice ua um uc] 26)).drew).cell? ⟨w6.heap.size, 8, none⟩ = some (.int .i64 un) := cell_blk HU6.out 8
    have u9 : ((w6.alloc (.cells #[.int .i64 e.cl.id, .int .i64 e.cl.tm, .int .i64 e.cl.k, .int .i64 e.cl.a, .int .i64 e.cl.b, .string (strOf e.cl.name), .string (strOf e.cl.text), .int .i64 uk, .int .i64 un, .string (strOf us), .slice ua um uc] 26)).drew).cell? ⟨w6.heap.size, 9, none⟩ = some (.string (strOf us)) := cell_blk HU6.out 9
    have u10 : ((w6.alloc (.cells #[.int .i64 e.cl.id, .int .i64 e.cl.tm, .int .i64 e.cl.k, .int .i64 e.cl.a, .int .i64 e.cl.b, .string (strOf e.cl.name), .string (strOf e.cl.text), .int .i64 uk, .int .i64 un, .string (strOf us), .slice ua um uc] 26)).drew).cell? ⟨w6.heap.size, 10, none⟩ = some (.slice ua um uc) := cell_blk HU6.out 10
    have hlx1 : w6.heap.size < ((w6.alloc (.cells #[.int .i64 e.cl.id, .int .i64 e.cl.tm, .int .i64 e.cl.k, .int .i64 e.cl.a, .int .i64 e.cl.b, .string (strOf e.cl.name), .string (strOf e.cl.text), .int .i64 uk, .int .i64 un, .string (strOf us), .slice ua um uc] 26)).drew).heap.size := blk_lt HU6.out
    have c0 : ((w6.alloc (.cells #[.int .i64 e.cl.id, .int .i64 e.cl.tm, .int .i64 e.cl.k, .int .i64 e.cl.a, .int .i64 e.cl.b, .string (strOf e.cl.name), .string (strOf e.cl.text), .int .i64 uk, .int .i64 un, .string (strOf us), .slice ua um uc] 26)).drew).cell? ⟨w.heap.size, 0, none⟩ = some (.int .i64 e.id) := cell_blk HB6.out 0
    have c1 : ((w6.alloc (.cells #[.int .i64 e.cl.id, .int .i64 e.cl.tm, .int .i64 e.cl.k, .int .i64 e.cl.a, .int .i64 e.cl.b, .string (strOf e.cl.name), .string (strOf e.cl.text), .int .i64 uk, .int .i64 un, .string (strOf us), .slice ua um uc] 26)).drew).cell? ⟨w.heap.size, 1, none⟩ = some (.int .i64 e.tm) := cell_blk HB6.out 1
    have c2 : ((w6.alloc (.cells #[.int .i64 e.cl.id, .int .i64 e.cl.tm, .int .i64 e.cl.k, .int .i64 e.cl.a, .int .i64 e.cl.b, .string (strOf e.cl.name), .string (strOf e.cl.text), .int .i64 uk, .int .i64 un, .string (strOf us), .slice ua um uc] 26)).drew).cell? ⟨w.heap.size, 2, none⟩ = some (.int .i64 e.k) := cell_blk HB6.out 2
    have c3 : ((w6.alloc (.cells #[.int .i64 e.cl.id, .int .i64 e.cl.tm, .int .i64 e.cl.k, .int .i64 e.cl.a, .int .i64 e.cl.b, .string (strOf e.cl.name), .string (strOf e.cl.text), .int .i64 uk, .int .i64 un, .string (strOf us), .slice ua um uc] 26)).drew).cell? ⟨w.heap.size, 3, none⟩ = some (.int .i64 e.a) := cell_blk HB6.out 3
    have c4 : ((w6.alloc (.cells #[.int .i64 e.cl.id, .int .i64 e.cl.tm, .int .i64 e.cl.k, .int .i64 e.cl.a, .int .i64 e.cl.b, .string (strOf e.cl.name), .string (strOf e.cl.text), .int .i64 uk, .int .i64 un, .string (strOf us), .slice ua um uc] 26)).drew).cell? ⟨w.heap.size, 4, none⟩ = some (.int .i64 e.b) := cell_blk HB6.out 4
    have c5 : ((w6.alloc (.cells #[.int .i64 e.cl.id, .int .i64 e.cl.tm, .int .i64 e.cl.k, .int .i64 e.cl.a, .int .i64 e.cl.b, .string (strOf e.cl.name), .string (strOf e.cl.text), .int .i64 uk, .int .i64 un, .string (strOf us), .slice ua um uc] 26)).drew).cell? ⟨w.heap.size, 5, none⟩ = some (.string (strOf e.name)) := cell_blk HB6.out 5
    have c6 : ((w6.alloc (.cells #[.int .i64 e.cl.id, .int .i64 e.cl.tm, .int .i64 e.cl.k, .int .i64 e.cl.a, .int .i64 e.cl.b, .string (strOf e.cl.name), .string (strOf e.cl.text), .int .i64 uk, .int .i64 un, .string (strOf us), .slice ua um uc] 26)).drew).cell? ⟨w.heap.size, 6, none⟩ = some (.string (strOf e.text)) := cell_blk HB6.out 6
    have c7 : ((w6.alloc (.cells #[.int .i64 e.cl.id, .int .i64 e.cl.tm, .int .i64 e.cl.k, .int .i64 e.cl.a, .int .i64 e.cl.b, .string (strOf e.cl.name), .string (strOf e.cl.text), .int .i64 uk, .int .i64 un, .string (strOf us), .slice ua um uc] 26)).drew).cell? ⟨w.heap.size, 7, none⟩ = some (.int .i64 vk) := cell_blk HB6.out 7
    have c8 : ((w6.alloc (.cells #[.int .i64 e.cl.id, .int .i64 e.cl.tm, .int .i64 e.cl.k, .int .i64 e.cl.a, .int .i64 e.cl.b, .string (strOf e.cl.name), .string (strOf e.cl.text), .int .i64 uk, .int .i64 un, .string (strOf us), .slice ua um uc] 26)).drew).cell? ⟨w.heap.size, 8, none⟩ = some (.int .i64 vn) := cell_blk HB6.out 8
    have c9 : ((w6.alloc (.cells #[.int .i64 e.cl.id, .int .i64 e.cl.tm, .int .i64 e.cl.k, .int .i64 e.cl.a, .int .i64 e.cl.b, .string (strOf e.cl.name), .string (strOf e.cl.text), .int .i64 uk, .int .i64 un, .string (strOf us), .slice ua um uc] 26)).drew).cell? ⟨w.heap.size, 9, none⟩ = some (.string (strOf vs)) := cell_blk HB6.out 9
    have c10 : ((w6.alloc (.cells #[.int .i64 e.cl.id, .int .i64 e.cl.tm, .int .i64 e.cl.k, .int .i64 e.cl.a, .int .i64 e.cl.b, .string (strOf e.cl.name), .string (strOf e.cl.text), .int .i64 uk, .int .i64 un, .string (strOf us), .slice ua um uc] 26)).drew).cell? ⟨w.heap.size, 10, none⟩ = some (.slice va vm vc) := cell_blk HB6.out 10
    have hlx2 : w.heap.size < ((w6.alloc (.cells #[.int .i64 e.cl.id, .int .i64 e.cl.tm, .int .i64 e.cl.k, .int .i64 e.cl.a, .int .i64 e.cl.b, .string (strOf e.cl.name), .string (strOf e.cl.text), .int .i64 uk, .int .i64 un, .string (strOf us), .slice ua um uc] 26)).drew).heap.size := blk_lt HB6.out
    have qq : ((strOf wr).toList == (strOf wr).toList) = true := by simp
    clear hev6 ho6 hal hs6 hb6 hu6 HD hck
    go_wp2_with fail
    go_region_law (first
      | (refine step_of rfl (wp_callc (o := ⟨some 43, _, _, _, _, _⟩) (f := 14) (args := #[.agg #[.int .i64 e.id, .int .i64 e.tm, .int .i64 e.k, .int .i64 e.a, .int .i64 e.b, .string (strOf e.name), .string (strOf e.text), .int .i64 vk, .int .i64 vn, .string (strOf vs), .slice va vm vc]]) (by kernel_rfl) ?_); refine HBY.out.mono ?_; rintro x w7 ⟨rfl, ho7⟩; refine ⟨_, rfl, ?_⟩; (have hcv7 := conv_str (HS6.out.same ho7)); have hb7 := blk_only HB6.out ho7 (fun e => e); have hu7 := blk_only HU6.out ho7 (fun e => e); have c0 : w7.cell? ⟨w.heap.size, 0, none⟩ = some (.int .i64 e.id) := cell_blk hb7 0; have c1 : w7.cell? ⟨w.heap.size, 1, none⟩ = some (.int .i64 e.tm) := cell_blk hb7 1; have c2 : w7.cell? ⟨w.heap.size, 2, none⟩ = some (.int .i64 e.k) := cell_blk hb7 2; have c3 : w7.cell? ⟨w.heap.size, 3, none⟩ = some (.int .i64 e.a) := cell_blk hb7 3; have c4 : w7.cell? ⟨w.heap.size, 4, none⟩ = some (.int .i64 e.b) := cell_blk hb7 4; have c5 : w7.cell? ⟨w.heap.size, 5, none⟩ = some (.string (strOf e.name)) := cell_blk hb7 5; have c6 : w7.cell? ⟨w.heap.size, 6, none⟩ = some (.string (strOf e.text)) := cell_blk hb7 6; have c7 : w7.cell? ⟨w.heap.size, 7, none⟩ = some (.int .i64 vk) := cell_blk hb7 7; have c8 : w7.cell? ⟨w.heap.size, 8, none⟩ = some (.int .i64 vn) := cell_blk hb7 8; have c9 : w7.cell? ⟨w.heap.size, 9, none⟩ = some (.string (strOf vs)) := cell_blk hb7 9; have c10 : w7.cell? ⟨w.heap.size, 10, none⟩ = some (.slice va vm vc) := cell_blk hb7 10; have hlx4 : w.heap.size < w7.heap.size := blk_lt hb7;  have p0 : w7.cell? ⟨w6.heap.size, 0, none⟩ = some (.int .i64 e.cl.id) := cell_blk hu7 0; have p1 : w7.cell? ⟨w6.heap.size, 1, none⟩ = some (.int .i64 e.cl.tm) := cell_blk hu7 1; have p2 : w7.cell? ⟨w6.heap.size, 2, none⟩ = some (.int .i64 e.cl.k) := cell_blk hu7 2; have p3 : w7.cell? ⟨w6.heap.size, 3, none⟩ = some (.int .i64 e.cl.a) := cell_blk hu7 3; have p4 : w7.cell? ⟨w6.heap.size, 4, none⟩ = some (.int .i64 e.cl.b) := cell_blk hu7 4; have p5 : w7.cell? ⟨w6.heap.size, 5, none⟩ = some (.string (strOf e.cl.name)) := cell_blk hu7 5; have p6 : w7.cell? ⟨w6.heap.size, 6, none⟩ = some (.string (strOf e.cl.text)) := cell_blk hu7 6; have p7 : w7.cell? ⟨w6.heap.size, 7, none⟩ = some (.int .i64 uk) := cell_blk hu7 7; have p8 : w7.cell? ⟨w6.heap.size, 8, none⟩ = some (.int .i64 un) := cell_blk hu7 8; have p9 : w7.cell? ⟨w6.heap.size, 9, none⟩ = some (.string (strOf us)) := cell_blk hu7 9; have p10 : w7.cell? ⟨w6.heap.size, 10, none⟩ = some (.slice ua um uc) := cell_blk hu7 10; have hlx3 : w6.heap.size < w7.heap.size := blk_lt hu7;  have HO7 := hid ho7; clear hb7 hu7 ho7)
      | (refine step_ofg (by kernel_rfl) (wp_callc (o := ⟨some 52, _, _, _, _, _⟩) (f := 15) (args := #[.agg #[.int .i64 e.id, .int .i64 e.tm, .int .i64 e.k, .int .i64 e.a, .int .i64 e.b, .string (strOf e.name), .string (strOf e.text), .int .i64 vk, .int .i64 vn, .string (strOf vs), .slice va vm vc], .agg #[.int .i64 e.cl.id, .int .i64 e.cl.tm, .int .i64 e.cl.k, .int .i64 e.cl.a, .int .i64 e.cl.b, .string (strOf e.cl.name), .string (strOf e.cl.text), .int .i64 uk, .int .i64 un, .string (strOf us), .slice ua um uc]]) (by kernel_rfl) ?_); refine (esame_c (e := e) (f := e.cl) (HE.out.same (HO6.out.trans HO7.out (fun _ _ e => e))) (HEV.out.same HO7.out) HVG.out HVC.out).mono ?_; rintro x w8 ⟨rfl, ho8⟩; rw [HSA.out]; refine ⟨_, rfl, ?_⟩; have hb8 := blk_only (blk_only HB6.out HO7.out (fun e => e)) ho8 (fun e => e); have hu8 := blk_only (blk_only HU6.out HO7.out (fun e => e)) ho8 (fun e => e); have c0 : w8.cell? ⟨w.heap.size, 0, none⟩ = some (.int .i64 e.id) := cell_blk hb8 0; have c1 : w8.cell? ⟨w.heap.size, 1, none⟩ = some (.int .i64 e.tm) := cell_blk hb8 1; have c2 : w8.cell? ⟨w.heap.size, 2, none⟩ = some (.int .i64 e.k) := cell_blk hb8 2; have c3 : w8.cell? ⟨w.heap.size, 3, none⟩ = some (.int .i64 e.a) := cell_blk hb8 3; have c4 : w8.cell? ⟨w.heap.size, 4, none⟩ = some (.int .i64 e.b) := cell_blk hb8 4; have c5 : w8.cell? ⟨w.heap.size, 5, none⟩ = some (.string (strOf e.name)) := cell_blk hb8 5; have c6 : w8.cell? ⟨w.heap.size, 6, none⟩ = some (.string (strOf e.text)) := cell_blk hb8 6; have c7 : w8.cell? ⟨w.heap.size, 7, none⟩ = some (.int .i64 vk) := cell_blk hb8 7; have c8 : w8.cell? ⟨w.heap.size, 8, none⟩ = some (.int .i64 vn) := cell_blk hb8 8; have c9 : w8.cell? ⟨w.heap.size, 9, none⟩ = some (.string (strOf vs)) := cell_blk hb8 9; have c10 : w8.cell? ⟨w.heap.size, 10, none⟩ = some (.slice va vm vc) := cell_blk hb8 10; have hlx6 : w.heap.size < w8.heap.size := blk_lt hb8;  have p0 : w8.cell? ⟨w6.heap.size, 0, none⟩ = some (.int .i64 e.cl.id) := cell_blk hu8 0; have p1 : w8.cell? ⟨w6.heap.size, 1, none⟩ = some (.int .i64 e.cl.tm) := cell_blk hu8 1; have p2 : w8.cell? ⟨w6.heap.size, 2, none⟩ = some (.int .i64 e.cl.k) := cell_blk hu8 2; have p3 : w8.cell? ⟨w6.heap.size, 3, none⟩ = some (.int .i64 e.cl.a) := cell_blk hu8 3; have p4 : w8.cell? ⟨w6.heap.size, 4, none⟩ = some (.int .i64 e.cl.b) := cell_blk hu8 4; have p5 : w8.cell? ⟨w6.heap.size, 5, none⟩ = some (.string (strOf e.cl.name)) := cell_blk hu8 5; have p6 : w8.cell? ⟨w6.heap.size, 6, none⟩ = some (.string (strOf e.cl.text)) := cell_blk hu8 6; have p7 : w8.cell? ⟨w6.heap.size, 7, none⟩ = some (.int .i64 uk) := cell_blk hu8 7; have p8 : w8.cell? ⟨w6.heap.size, 8, none⟩ = some (.int .i64 un) := cell_blk hu8 8; have p9 : w8.cell? ⟨w6.heap.size, 9, none⟩ = some (.string (strOf us)) := cell_blk hu8 9; have p10 : w8.cell? ⟨w6.heap.size, 10, none⟩ = some (.slice ua um uc) := cell_blk hu8 10; have hlx5 : w6.heap.size < w8.heap.size := blk_lt hu8;  have HO8 := hid ho8; clear hb8 hu8 ho8)
      | (refine step_ofg (by kernel_rfl) (wp_callc (o := ⟨some 57, _, _, _, _, _⟩) (f := 16) (args := #[.agg #[.int .i64 e.id, .int .i64 e.tm, .int .i64 e.k, .int .i64 e.a, .int .i64 e.b, .string (strOf e.name), .string (strOf e.text), .int .i64 vk, .int .i64 vn, .string (strOf vs), .slice va vm vc], .agg #[.int .i64 e.cl.id, .int .i64 e.cl.tm, .int .i64 e.cl.k, .int .i64 e.cl.a, .int .i64 e.cl.b, .string (strOf e.cl.name), .string (strOf e.cl.text), .int .i64 uk, .int .i64 un, .string (strOf us), .slice ua um uc]]) (by kernel_rfl) ?_); refine (r9same_c (e := e) (f := e.cl) (HE.out.same ((HO6.out.trans HO7.out (fun _ _ e => e)).trans HO8.out (fun _ _ e => e))) ((HEV.out.same HO7.out).same HO8.out) HVG.out HVC.out HKD.out.1 HKD.out.2).mono ?_; rintro x w9 ⟨rfl, ho9⟩; rw [HSA.out]; refine ⟨_, rfl, ?_⟩; have HO9 := hid ho9; clear ho9))
    all_goals
      go_wp2_with fail
      go_ret
      exact ⟨rfl, ((HO6.out.trans HO7.out (fun _ _ e => e)).trans HO8.out (fun _ _ e => e)).trans HO9.out (fun _ _ e => e)⟩
  · have hcb : (ck != 0) = true := by simpa using hc0
    rw [if_neg hc0] at hv4
    obtain ⟨ao, cp, rfl, hgr, -, ho4⟩ := hv4
    have HB4 := hid (blk_only HB3.out ho4 (fun e => e))
    have HO4 := hid (HO3.out.trans ho4 (fun _ _ e => e))
    have HCH4 := hid (HCH w4 (HO23.out.trans ho4 (fun _ _ e => e))).out
    have hcc : (ck != ck) = false := by simp
    clear hgr ho4 HE3 HCH hc0
    clear c0 c1 c2 c3 c4 c5 c6 c7 c8 c9 c10
    have c0 : w4.cell? ⟨w.heap.size, 0, none⟩ = some (.int .i64 e.id) := cell_blk HB4.out 0
    have c1 : w4.cell? ⟨w.heap.size, 1, none⟩ = some (.int .i64 e.tm) := cell_blk HB4.out 1
    have c2 : w4.cell? ⟨w.heap.size, 2, none⟩ = some (.int .i64 e.k) := cell_blk HB4.out 2
    have c3 : w4.cell? ⟨w.heap.size, 3, none⟩ = some (.int .i64 e.a) := cell_blk HB4.out 3
    have c4 : w4.cell? ⟨w.heap.size, 4, none⟩ = some (.int .i64 e.b) := cell_blk HB4.out 4
    have c5 : w4.cell? ⟨w.heap.size, 5, none⟩ = some (.string (strOf e.name)) := cell_blk HB4.out 5
    have c6 : w4.cell? ⟨w.heap.size, 6, none⟩ = some (.string (strOf e.text)) := cell_blk HB4.out 6
    have c7 : w4.cell? ⟨w.heap.size, 7, none⟩ = some (.int .i64 vk) := cell_blk HB4.out 7
    have c8 : w4.cell? ⟨w.heap.size, 8, none⟩ = some (.int .i64 vn) := cell_blk HB4.out 8
    have c9 : w4.cell? ⟨w.heap.size, 9, none⟩ = some (.string (strOf vs)) := cell_blk HB4.out 9
    have c10 : w4.cell? ⟨w.heap.size, 10, none⟩ = some (.slice va vm vc) := cell_blk HB4.out 10
    have hlw4 : w.heap.size < w4.heap.size := blk_lt HB4.out
    go_wp2_with fail
    refine HCH4.out.mono ?_
    rintro x w5 ⟨rfl, ho5⟩
    have HO5 := hid (HO4.out.trans ho5 (fun _ _ e => e))
    clear ho5 HCH4
    go_wp2_with fail
    go_ret
    exact ⟨rfl, HO5.out⟩
end
end Go.Proofs.YtdjpapdkbglkmaaGreatDoor
