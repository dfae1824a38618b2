/- EventCuts's walk. -/
import Derived.Test.YtdjpapdkbglkmaaDoorFits
import Derived.Test.YtdjpapdkbglkmaaDoorDecs
namespace Go.Proofs.YtdjpapdkbglkmaaDoor
open Go.RowKit

theorem dec_cut {e : EM} (hg : e.Good) (hr : e.rg) {c : Nat} (hc : c < e.wr.length) : (decR (e.wr.take c)).2 = 6 := by
  have h1 := ev_cut (r := RdM.of (e.wr.take c)) (cut := c) hg hr rfl hc (by simp [RdM.of, RdM.rest])
  show (RdM.of (e.wr.take c)).ev.2.done = 6
  unfold RdM.done
  rw [h1]; simp
theorem dec_more {e : EM} (hg : e.Good) (hr : e.rg) (x : UInt8) : (decR (e.wr ++ [x])).2 = 8 := by
  have h1 := ev_rt (r := RdM.of (e.wr ++ [x])) (post := [x]) hg hr rfl (by simp [RdM.of, RdM.rest])
  show (RdM.of (e.wr ++ [x])).ev.2.done = 8
  rw [h1]
  simp [RdM.done, RdM.adv, RdM.of]
theorem Src.take {w : World} {ao : Option Addr} {n cap : Nat} {l : List UInt8} (h : Src w (.slice ao n cap) l) (c c' : Nat) (hc : c ≤ l.length) : Src w (.slice ao c c') (l.take c) := by
  obtain ⟨a, cp, e, hs⟩ := h
  simp only [Value.slice.injEq] at e
  obtain ⟨rfl, rfl, rfl⟩ := e
  refine ⟨_, c', by rw [List.length_take, Nat.min_eq_left hc], fun hne => ?_⟩
  have hl : l ≠ [] := by rintro rfl; simp at hne
  obtain ⟨g, o, rfl, hcl⟩ := hs hl
  refine ⟨g, o, rfl, fun i u hu => hcl i u ?_⟩
  rw [bytesV_get] at hu ⊢
  by_cases hi : i < c
  · rw [List.getElem?_take_of_lt hi] at hu; exact hu
  · rw [List.getElem?_eq_none (by rw [List.length_take]; omega)] at hu; cases hu
section
variable {w : World}
set_option maxRecDepth 100000 in
set_option maxHeartbeats 3200000 in
theorem cuts_c (hT : Tab w) {e : EM} {cs : List Value} {G : Nat → Prop} (hE : EAt w G e cs) (hG : ∀ k, G k → k < w.heap.size) (hg : e.rg) (c : Int) (y : Int) (hy : 0 ≤ y ∧ y ≤ 255) : Calls Tryd.prog 4 #[.agg cs.toArray, .int .i64 c, .int .u8 y] w fun x w' => x = .returned (.bool true) ∧ Only (fun _ => False) w w' := by
  obtain ⟨vk, vn, vs, va, vm, vc, rfl, hV⟩ := hE.form
  have HE := hid hE; have HGl := hid hG; have Hg := hid hg
  have hO0 := only_new w (.cells #[.int .i64 e.id, .int .i64 e.tm, .int .i64 e.k, .int .i64 e.a, .int .i64 e.b, .string (strOf e.name), .string (strOf e.text), .int .i64 vk, .int .i64 vn, .string (strOf vs), .slice va vm vc] 28)
  have HTL := hid (tells_c (hT.only hO0))
  have HB0 := hid (blk_new w (.cells #[.int .i64 e.id, .int .i64 e.tm, .int .i64 e.k, .int .i64 e.a, .int .i64 e.b, .string (strOf e.name), .string (strOf e.text), .int .i64 vk, .int .i64 vn, .string (strOf vs), .slice va vm vc] 28))
  have HO0 := hid hO0
  obtain ⟨yn, rfl⟩ := Int.eq_ofNat_of_zero_le hy.1
  clear hT hE hV hG hg hO0
  go_enter Tryd.func4, Tryd.ntmps4
  go_wp2_with fail
  refine HTL.out.mono ?_
  rintro x w1 ⟨rfl, ho1⟩
  have HB1 := hid (blk_only HB0.out ho1 (fun e => e))
  have HO1 := hid (HO0.out.trans ho1 (fun _ _ e => e))
  clear ho1 HTL
  have HSM := hid (small_c (w := w1.alloc (.cells #[.int .i64 e.id, .int .i64 e.tm, .int .i64 e.k, .int .i64 e.a, .int .i64 e.b, .string (strOf e.name), .string (strOf e.text), .int .i64 vk, .int .i64 vn, .string (strOf vs), .slice va vm vc] 28)) (EvsV.one (w := w1.alloc (.cells #[.int .i64 e.id, .int .i64 e.tm, .int .i64 e.k, .int .i64 e.a, .int .i64 e.b, .string (strOf e.name), .string (strOf e.text), .int .i64 vk, .int .i64 vn, .string (strOf vs), .slice va vm vc] 28)) (blk_new w1 _) (HE.out.same (HO1.out.trans (only_new w1 _) (fun _ _ e => e)))) (fun k hk => by have := HO1.out.size; rcases hk with rfl | hk; simp; have := HGl.out k hk; simp; omega) (fun e' he' => by simp only [List.mem_singleton] at he'; subst he'; obtain ⟨-, -, -, -, -, -, -, gv⟩ := Hg.out; exact gv) (by simp))
  skip
  have c0 : w1.cell? ⟨w.heap.size, 0, none⟩ = some (.int .i64 e.id) := cell_blk HB1.out 0
  have c1 : w1.cell? ⟨w.heap.size, 1, none⟩ = some (.int .i64 e.tm) := cell_blk HB1.out 1
  have c2 : w1.cell? ⟨w.heap.size, 2, none⟩ = some (.int .i64 e.k) := cell_blk HB1.out 2
  have c3 : w1.cell? ⟨w.heap.size, 3, none⟩ = some (.int .i64 e.a) := cell_blk HB1.out 3
  have c4 : w1.cell? ⟨w.heap.size, 4, none⟩ = some (.int .i64 e.b) := cell_blk HB1.out 4
  have c5 : w1.cell? ⟨w.heap.size, 5, none⟩ = some (.string (strOf e.name)) := cell_blk HB1.out 5
  have c6 : w1.cell? ⟨w.heap.size, 6, none⟩ = some (.string (strOf e.text)) := cell_blk HB1.out 6
  have c7 : w1.cell? ⟨w.heap.size, 7, none⟩ = some (.int .i64 vk) := cell_blk HB1.out 7
  have c8 : w1.cell? ⟨w.heap.size, 8, none⟩ = some (.int .i64 vn) := cell_blk HB1.out 8
  have c9 : w1.cell? ⟨w.heap.size, 9, none⟩ = some (.string (strOf vs)) := cell_blk HB1.out 9
  have c10 : w1.cell? ⟨w.heap.size, 10, none⟩ = some (.slice va vm vc) := cell_blk HB1.out 10
  have hlw1 : w.heap.size < w1.heap.size := blk_lt HB1.out
  obtain ⟨sm, hsm⟩ : ∃ b, smB [e] 400 = b := ⟨_, rfl⟩
  rw [hsm] at HSM
  clear hsm
  cases sm with
  | false =>
    go_wp2_with fail
    refine HSM.out.mono ?_
    rintro x w2 ⟨rfl, ho2⟩
    have HO2 := hid (HO1.out.trans ((only_new w1 _).trans ho2 (fun _ _ e => e)) (fun _ _ e => e))
    clear ho2
    go_wp2_with fail
    go_ret
    exact ⟨rfl, HO2.out⟩
  | true =>
  go_wp2_with fail
  refine HSM.out.mono ?_
  rintro x w2 ⟨rfl, ho2⟩
  have ho12 := (only_new w1 (.cells #[.int .i64 e.id, .int .i64 e.tm, .int .i64 e.k, .int .i64 e.a, .int .i64 e.b, .string (strOf e.name), .string (strOf e.text), .int .i64 vk, .int .i64 vn, .string (strOf vs), .slice va vm vc] 28)).trans ho2 (fun _ _ e => e)
  have HB2 := hid (blk_only HB1.out ho12 (fun e => e))
  have HO2 := hid (HO1.out.trans ho12 (fun _ _ e => e))
  have HRC := hid (r9check_c (HE.out.same HO2.out) Hg.out)
  have HEN := fun w3 h3 => hid (encode_c (HE.out.same (HO2.out.trans h3 (fun _ _ e => e))) (fun k hk => by have := HGl.out k hk; have := HO2.out.size; have := h3.size; omega) Hg.out (w := w3))
  obtain ⟨ck, hck⟩ : ∃ y, e.chk = y := ⟨_, rfl⟩
  rw [hck] at HRC
  have HCK := hid hck
  clear ho2 ho12 HSM hck
  clear c0 c1 c2 c3 c4 c5 c6 c7 c8 c9 c10
  have c0 : w2.cell? ⟨w.heap.size, 0, none⟩ = some (.int .i64 e.id) := cell_blk HB2.out 0
  have c1 : w2.cell? ⟨w.heap.size, 1, none⟩ = some (.int .i64 e.tm) := cell_blk HB2.out 1
  have c2 : w2.cell? ⟨w.heap.size, 2, none⟩ = some (.int .i64 e.k) := cell_blk HB2.out 2
  have c3 : w2.cell? ⟨w.heap.size, 3, none⟩ = some (.int .i64 e.a) := cell_blk HB2.out 3
  have c4 : w2.cell? ⟨w.heap.size, 4, none⟩ = some (.int .i64 e.b) := cell_blk HB2.out 4
  have c5 : w2.cell? ⟨w.heap.size, 5, none⟩ = some (.string (strOf e.name)) := cell_blk HB2.out 5
  have c6 : w2.cell? ⟨w.heap.size, 6, none⟩ = some (.string (strOf e.text)) := cell_blk HB2.out 6
  have c7 : w2.cell? ⟨w.heap.size, 7, none⟩ = some (.int .i64 vk) := cell_blk HB2.out 7
  have c8 : w2.cell? ⟨w.heap.size, 8, none⟩ = some (.int .i64 vn) := cell_blk HB2.out 8
  have c9 : w2.cell? ⟨w.heap.size, 9, none⟩ = some (.string (strOf vs)) := cell_blk HB2.out 9
  have c10 : w2.cell? ⟨w.heap.size, 10, none⟩ = some (.slice va vm vc) := cell_blk HB2.out 10
  have hlw2 : w.heap.size < w2.heap.size := blk_lt HB2.out
  by_cases hc0 : ck = 0
  · subst hc0
    go_wp2_with fail
    refine HRC.out.mono ?_
    rintro x w3 ⟨rfl, ho3⟩
    have HB3 := hid (blk_only HB2.out ho3 (fun e => e))
    have HO3 := hid (HO2.out.trans ho3 (fun _ _ e => e))
    have HE3 := hid (HEN w3 ho3).out
    clear ho3 HRC
    clear c0 c1 c2 c3 c4 c5 c6 c7 c8 c9 c10
    have c0 : w3.cell? ⟨w.heap.size, 0, none⟩ = some (.int .i64 e.id) := cell_blk HB3.out 0
    have c1 : w3.cell? ⟨w.heap.size, 1, none⟩ = some (.int .i64 e.tm) := cell_blk HB3.out 1
    have c2 : w3.cell? ⟨w.heap.size, 2, none⟩ = some (.int .i64 e.k) := cell_blk HB3.out 2
    have c3 : w3.cell? ⟨w.heap.size, 3, none⟩ = some (.int .i64 e.a) := cell_blk HB3.out 3
    have c4 : w3.cell? ⟨w.heap.size, 4, none⟩ = some (.int .i64 e.b) := cell_blk HB3.out 4
    have c5 : w3.cell? ⟨w.heap.size, 5, none⟩ = some (.string (strOf e.name)) := cell_blk HB3.out 5
    have c6 : w3.cell? ⟨w.heap.size, 6, none⟩ = some (.string (strOf e.text)) := cell_blk HB3.out 6
    have c7 : w3.cell? ⟨w.heap.size, 7, none⟩ = some (.int .i64 vk) := cell_blk HB3.out 7
    have c8 : w3.cell? ⟨w.heap.size, 8, none⟩ = some (.int .i64 vn) := cell_blk HB3.out 8
    have c9 : w3.cell? ⟨w.heap.size, 9, none⟩ = some (.string (strOf vs)) := cell_blk HB3.out 9
    have c10 : w3.cell? ⟨w.heap.size, 10, none⟩ = some (.slice va vm vc) := cell_blk HB3.out 10
    have hlw3 : w.heap.size < w3.heap.size := blk_lt HB3.out
    go_wp2_with fail
    refine HE3.out.mono ?_
    rintro x w4 ⟨v4, rfl, hv4⟩
    rw [HCK.out, if_pos rfl] at hv4
    rw [HCK.out]
    have hgd := chk_good HCK.out
    have hwl := ewr_len hgd
    have hdc := fun c hc => dec_cut hgd Hg.out (c := c) hc
    have hdm := dec_more hgd Hg.out (UInt8.ofNat yn)
    obtain ⟨wr, hwr⟩ : ∃ x, e.wr = x := ⟨_, rfl⟩
    rw [hwr] at hwl hv4 hdm
    simp only [hwr] at hdc
    obtain ⟨ao, cp, rfl, hgr, -, ho4⟩ := hv4
    have HDC := hid hdc; have HDM := hid hdm
    have HS4 := hid hgr.src
    have HO4 := hid (HO3.out.trans ho4 (fun _ _ e => e))
    have hcap := hgr.2.1
    clear ho4 HE3 HEN hgd hdc hdm hwr
    by_cases hc1 : c < 0
    · go_wp2_with fail
      go_ret
      exact ⟨rfl, HO4.out⟩
    by_cases hc2 : (wr.length : Int) ≤ c
    · go_wp2_with fail
      go_ret
      exact ⟨rfl, HO4.out⟩
    obtain ⟨cn, rfl⟩ := Int.eq_ofNat_of_zero_le (by omega : 0 ≤ c)
    obtain ⟨g, rfl, hcell⟩ := hgr.cells (by omega)
    have HGR := hid hgr
    have HD1 := hid (decode_c (HS4.out.take cn cp (by omega)) (by rw [List.length_take]; omega))
    clear hgr hcell
    go_wp2_with fail
    refine HD1.out.mono ?_
    rintro x w5 ⟨cs5, rfl, hev5, ho5⟩
    rw [HDC.out cn (by omega)]
    obtain ⟨uk, un, us, ua, um, uc, rfl, -⟩ := hev5.form
    obtain ⟨E5, hE5⟩ : ∃ x, (decR (wr.take cn)).1 = x := ⟨_, rfl⟩
    rw [hE5]
    have ho6 := ho5.trans (only_new w5 (.cells #[.int .i64 E5.id, .int .i64 E5.tm, .int .i64 E5.k, .int .i64 E5.a, .int .i64 E5.b, .string (strOf E5.name), .string (strOf E5.text), .int .i64 uk, .int .i64 un, .string (strOf us), .slice ua um uc] 28)) (fun _ _ e => e)
    have HO6 := hid (HO4.out.trans ho6 (fun _ _ e => e))
    have hgr6 := HGR.out.only ho6 (fun _ _ e => e)
    have ho7 := only_new (w5.alloc (.cells #[.int .i64 E5.id, .int .i64 E5.tm, .int .i64 E5.k, .int .i64 E5.a, .int .i64 E5.b, .string (strOf E5.name), .string (strOf E5.text), .int .i64 uk, .int .i64 un, .string (strOf us), .slice ua um uc] 28)) (.cells #[] 5)
    obtain ⟨a9, c9', e9, hsg⟩ := (hgr6.only ho7 (fun _ _ e => e)).src.g
    simp only [Value.slice.injEq, true_and] at e9
    obtain ⟨rfl, rfl⟩ := e9
    have HSG := hid hsg
    have HGE : Hid (Gr ((w5.alloc (.cells #[.int .i64 E5.id, .int .i64 E5.tm, .int .i64 E5.k, .int .i64 E5.a, .int .i64 E5.b, .string (strOf E5.name), .string (strOf E5.text), .int .i64 uk, .int .i64 un, .string (strOf us), .slice ua um uc] 28)).alloc (.cells #[] 5)) 5 1 (some ⟨w5.heap.size + 1, 0, none⟩) 0 0 []) := hid ⟨rfl, Nat.le_refl _, .inr ⟨_, rfl, [], (by have := blk_new (w5.alloc (.cells #[.int .i64 E5.id, .int .i64 E5.tm, .int .i64 E5.k, .int .i64 E5.a, .int .i64 E5.b, .string (strOf E5.name), .string (strOf E5.text), .int .i64 uk, .int .i64 un, .string (strOf us), .slice ua um uc] 28)) (.cells #[] 5); rw [World.size_alloc] at this; exact this), rfl⟩⟩
    have HO7 := hid (HO6.out.trans ho7 (fun _ _ e => e))
    clear hE5 hev5 ho5 ho6 ho7 hgr6 hsg HD1
    go_wp2_with (first
      | (refine wpList_gr (o := ⟨some 47, _, _, _, _, _⟩) rfl el8 (.tmp 45) (.tmp 46) rfl HGE.out rfl _ wr.length cp rfl (bytesV wr) HSG.out (by omega) (by omega) ?_; intro ao8 cp8 w8 hg8 ha8 ho8; rw [Nat.zero_add, List.nil_append] at hg8; have Hg8 := hid (hg8.only (only_new w8 (.cells #[.int .u8 yn] 5)) (fun _ _ e => e)); have Ha8 := hid ha8; have Ho8 := hid ho8; have HSY : Hid (SrcG (w8.alloc (.cells #[.int .u8 yn] 5)) (some ⟨w8.heap.size, 0, none⟩) 1 1 (bytesV [UInt8.ofNat yn])) := hid (SrcG.new (T := 5) (fr := (0, 0)) (by rw [blk_new]; simp [bytesV]; omega) (by simp) (oneCell_bytesV _)); clear hg8 ha8 ho8)
      | (refine wpList_gr (o := ⟨some 50, _, _, _, _, _⟩) rfl el8 (.tmp 47) (.tmp 49) rfl Hg8.out (by first | rfl | exact congrArg (fun q => Value.slice ao8 q cp8) (Nat.zero_add _)) _ 1 1 rfl _ HSY.out (by omega) (by omega) ?_; intro ao9 cp9 w9 hg9 ha9 ho9; have Hg9 := hid hg9; have Ha9 := hid ha9; have Ho9 := hid ho9; clear hg9 ha9 ho9))
    have hg9 := Hg9.out
    rw [← bytesV_append] at hg9
    have hszw := HO7.out.size
    have hsz5 := HO6.out.size
    simp only [World.size_alloc] at hszw hsz5
    have HO8 := hid (HO7.out.trans Ho8.out (fun k hk e => by simp only [Option.some.injEq, Addr.mk.injEq, and_true] at e; omega))
    have HO9 := hid ((HO8.out.trans (only_new w8 (.cells #[.int .u8 yn] 5)) (fun _ _ e => e)).trans Ho9.out (fun k hk e => by
      rcases Ha8.out with h | h
      · rw [h] at e; simp only [Option.some.injEq, Addr.mk.injEq, and_true] at e; omega
      · rw [h] at e; simp only [Option.some.injEq, Addr.mk.injEq, and_true, World.size_alloc] at e; omega))
    have HD9 := hid (decode_c hg9.src (by simp; omega))
    clear hg9
    refine HD9.out.mono ?_
    rintro x w10 ⟨cs10, rfl, hev10, ho10⟩
    rw [HDM.out]
    obtain ⟨tk, tn, ts, ta, tm, tc, rfl, -⟩ := hev10.form
    have HO10 := hid (HO9.out.trans ho10 (fun _ _ e => e))
    obtain ⟨E9, hE9⟩ : ∃ x, (decR (wr ++ [UInt8.ofNat yn])).1 = x := ⟨_, rfl⟩
    rw [hE9]
    clear hE9 hev10 ho10
    go_wp2_with fail
    go_ret
    exact ⟨rfl, HO10.out.trans (only_new w10 _) (fun _ _ e => e)⟩
  · have hcb : (ck != 0) = true := by simpa using hc0
    clear hc0
    go_wp2_with fail
    refine HRC.out.mono ?_
    rintro x w3 ⟨rfl, ho3⟩
    have HO3 := hid (HO2.out.trans ho3 (fun _ _ e => e))
    clear ho3 HRC
    go_wp2_with fail
    go_ret
    exact ⟨rfl, HO3.out⟩
end
end Go.Proofs.YtdjpapdkbglkmaaDoor
