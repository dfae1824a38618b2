/- CommandChecks's walk. -/
import Derived.Test.YtihidpfkdpjdpaaDoorWants
import Derived.Test.YtihidpfkdpjdpaaDoorRf10
import Derived.Test.YtihidpfkdpjdpaaDoorPrB
import Derived.Test.YtihidpfkdpjdpaaDoorOpenC
namespace Go.Proofs.YtihidpfkdpjdpaaDoor
open Go.RowKit
theorem csame_cl (e : EM) : e.cl.same e = true := (same_iff _ _).2 (by show (⟨e.id, e.tm, e.k, e.a, e.b, e.name, e.text, e.v.cl.cl⟩ : EM) = ⟨e.id, e.tm, e.k, e.a, e.b, e.name, e.text, e.v.cl⟩; rw [cl_cl])
theorem k6 {w w' : World} {g i : Nat} {u : Value} (ho : Only (fun _ => False) w w') (h : w.cell? ⟨g, i, none⟩ = some u) : w'.cell? ⟨g, i, none⟩ = some u := (World.cell?_of_block (ho.block g (World.block_lt_of_cell? _ _ h) (fun e => e))).trans h
section
variable {w : World}
set_option maxRecDepth 100000 in
set_option maxHeartbeats 6400000 in
theorem cchecks_c (hT : Tab w) {es : List EM} {v : Value} {G : Nat → Prop} (hE : CmsV w G v es) (hG : ∀ k, G k → k < w.heap.size) (hg : ∀ e ∈ es, e.rg ∧ e.isC) (hl : es.length ≤ 9223372036854775807) :
    Calls Tryd.prog 3 #[v] w fun x w' => x = .returned (.bool true) ∧ Only (fun _ => False) w w' := by
  have HTL := hid (wants_c hT)
  have HE := hid hE; have HGG := hid hG; have Hg := hid hg
  obtain ⟨ad, cap, g, o, rfl, hne, hel⟩ := hE
  have HN := hid hne; have HEL := hid hel
  clear hT hG hg hne hel
  go_enter Tryd.func3, Tryd.ntmps3
  go_wp2_with fail
  refine HTL.out.mono ?_
  rintro x w1 ⟨rfl, ho1⟩
  have HO1 := hid ho1
  have HSM := hid (small_c (HE.out.same ho1) (fun k hk => by have := HGG.out k hk; have := ho1.size; omega) (fun e he => (Hg.out e he).1.2.2.2.2.2.2.2) hl)
  clear ho1 HTL
  by_cases h12 : 12 < (es.length : Int)
  · go_wp2_with fail
    go_ret
    exact ⟨rfl, HO1.out⟩
  obtain ⟨sm, hsm⟩ : ∃ x, smC es 400 = x := ⟨_, rfl⟩
  rw [hsm] at HSM
  clear hsm
  cases sm with
  | false =>
    go_wp2_with fail
    refine HSM.out.mono ?_
    rintro x w2 ⟨rfl, ho2⟩
    have HO2 := hid (HO1.out.trans ho2 (fun _ _ e => e))
    clear ho2
    go_wp2_with fail
    go_ret
    exact ⟨rfl, HO2.out⟩
  | true =>
  go_wp2_with fail
  refine HSM.out.mono ?_
  rintro x w2 ⟨rfl, ho2⟩
  have HO2 := hid (HO1.out.trans ho2 (fun _ _ e => e))
  clear ho2 HSM
  go_wp2_with fail
  go_loopw [23] (fun i wr => ∃ j : Nat, i = .int .i64 j ∧ j ≤ es.length ∧ Only (fun _ => False) w wr) (fun i _ => es.length - (intOf i).toNat)
  case atStart => exact ⟨0, rfl, Nat.zero_le _, HO2.out⟩
  case round =>
    obtain ⟨j, rfl, hj, ho⟩ := hrel
    have HO := hid ho
    have hso := ho.size
    clear ho
    by_cases hjl : j < es.length
    · have hji : (j : Int) < es.length := by omega
      obtain ⟨e, he⟩ : ∃ t, es[j]? = some t := ⟨_, List.getElem?_eq_getElem hjl⟩
      obtain ⟨rfl, hGg⟩ := HN.out (by rintro rfl; simp at hjl)
      obtain ⟨cs, hcs, hEe⟩ := HEL.out j e he
      have hrg := Hg.out e (List.mem_of_getElem? he)
      have hcw : ∀ i u, cs[i]? = some u → wr.cell? ⟨g, o + j * 9 + i, none⟩ = some u := fun i u hu =>
        (World.cell?_of_block (HO.out.block g (World.block_lt_of_cell? _ _ (hcs i u hu)) (fun e => e))).trans (hcs i u hu)
      have hEw := hEe.same HO.out
      obtain ⟨vk, vn, vs, va, vm, vc, rfl, hV⟩ := hEw.form
      have e0 := hcw 0 _ rfl
      rw [Nat.add_zero] at e0
      have e1 := hcw 1 _ rfl
      have e2 := hcw 2 _ rfl
      have e3 := hcw 3 _ rfl
      have e4 := hcw 4 _ rfl
      have e5 := hcw 5 _ rfl
      have e6 := hcw 6 _ rfl
      have e7 := hcw 7 _ rfl
      have e8 := hcw 8 _ rfl
      have hal := (only_new wr (.cells #[.int .i64 e.k, .int .i64 e.tm, .int .i64 e.a, .int .i64 e.b, .string (strOf e.name), .int .i64 vk, .int .i64 vn, .string (strOf vs), .slice va vm vc] 29)).drew
      have HAL := hid hal; have HEW := hid hEw; have HRG := hid hrg
      have HCK := hid (ccheck_c (w := (wr.alloc (.cells #[.int .i64 e.k, .int .i64 e.tm, .int .i64 e.a, .int .i64 e.b, .string (strOf e.name), .int .i64 vk, .int .i64 vn, .string (strOf vs), .slice va vm vc] 29)).drew) (hEw.same hal) (fun k hk => by have := HGG.out k hk; show k < (wr.alloc (.cells #[.int .i64 e.k, .int .i64 e.tm, .int .i64 e.a, .int .i64 e.b, .string (strOf e.name), .int .i64 vk, .int .i64 vn, .string (strOf vs), .slice va vm vc] 29)).heap.size; simp; omega) hrg.1)
      have hbn : (wr.alloc (.cells #[.int .i64 e.k, .int .i64 e.tm, .int .i64 e.a, .int .i64 e.b, .string (strOf e.name), .int .i64 vk, .int .i64 vn, .string (strOf vs), .slice va vm vc] 29)).heap[wr.heap.size]? = some (.cells #[.int .i64 e.k, .int .i64 e.tm, .int .i64 e.a, .int .i64 e.b, .string (strOf e.name), .int .i64 vk, .int .i64 vn, .string (strOf vs), .slice va vm vc] 29 (0, 0)) := blk_new wr _
      have HBN := hid hbn
      obtain ⟨ck, hck⟩ : ∃ x, e.cchk = x := ⟨_, rfl⟩
      rw [hck] at HCK
      have HCKE := hid hck
      have hcc : (ck != ck) = false := by simp
      have HRC : Hid (∀ W, Only (fun _ => False) wr W → Calls Tryd.prog 13 #[.agg (List.toArray [.int .i64 e.k, .int .i64 e.tm, .int .i64 e.a, .int .i64 e.b, .string (strOf e.name), .int .i64 vk, .int .i64 vn, .string (strOf vs), .slice va vm vc])] W fun x w' => x = .returned (.int .i64 ck) ∧ Only (fun _ => False) W w') := hid (fun W h => by
        have := r10check_c (w := W) (HEW.out.same h) HRG.out.1
        rwa [HCKE.out] at this)
      clear hcs hEe hcw hrg he hV hEw hal hck hbn
      go_wp2_with fail
      go_region_held3 (fun W => (W.cell? ⟨wr.heap.size, 0, none⟩ = some (.int .i64 e.k) ∧ W.cell? ⟨wr.heap.size, 1, none⟩ = some (.int .i64 e.tm) ∧ W.cell? ⟨wr.heap.size, 2, none⟩ = some (.int .i64 e.a) ∧ W.cell? ⟨wr.heap.size, 3, none⟩ = some (.int .i64 e.b) ∧ W.cell? ⟨wr.heap.size, 4, none⟩ = some (.string (strOf e.name)) ∧ W.cell? ⟨wr.heap.size, 5, none⟩ = some (.int .i64 vk) ∧ W.cell? ⟨wr.heap.size, 6, none⟩ = some (.int .i64 vn) ∧ W.cell? ⟨wr.heap.size, 7, none⟩ = some (.string (strOf vs)) ∧ W.cell? ⟨wr.heap.size, 8, none⟩ = some (.slice va vm vc)))
        (first | with_reducible exact HSK.out | go_keep)
        (first
          | (go_at_call 12; (with_reducible refine HCK.out.mono ?_); rintro x w5 ⟨rfl, ho5⟩; have hp5 : Only (fun _ => False) wr w5 := HAL.out.trans ho5 (fun _ _ e => e); have hb := blk_only (w := (wr.alloc (.cells #[.int .i64 e.k, .int .i64 e.tm, .int .i64 e.a, .int .i64 e.b, .string (strOf e.name), .int .i64 vk, .int .i64 vn, .string (strOf vs), .slice va vm vc] 29)).drew) HBN.out ho5 (fun e => e); have HSK : Hid ((w5.cell? ⟨wr.heap.size, 0, none⟩ = some (.int .i64 e.k) ∧ w5.cell? ⟨wr.heap.size, 1, none⟩ = some (.int .i64 e.tm) ∧ w5.cell? ⟨wr.heap.size, 2, none⟩ = some (.int .i64 e.a) ∧ w5.cell? ⟨wr.heap.size, 3, none⟩ = some (.int .i64 e.b) ∧ w5.cell? ⟨wr.heap.size, 4, none⟩ = some (.string (strOf e.name)) ∧ w5.cell? ⟨wr.heap.size, 5, none⟩ = some (.int .i64 vk) ∧ w5.cell? ⟨wr.heap.size, 6, none⟩ = some (.int .i64 vn) ∧ w5.cell? ⟨wr.heap.size, 7, none⟩ = some (.string (strOf vs)) ∧ w5.cell? ⟨wr.heap.size, 8, none⟩ = some (.slice va vm vc))) := hid ⟨cell_blk hb 0, cell_blk hb 1, cell_blk hb 2, cell_blk hb 3, cell_blk hb 4, cell_blk hb 5, cell_blk hb 6, cell_blk hb 7, cell_blk hb 8⟩; have HP5 := hid hp5; have HCN := hid (HRC.out w5 hp5); clear ho5 hp5 hb)
          | (go_at_call 13; (with_reducible refine HCN.out.mono ?_); rintro x w6 ⟨rfl, ho6⟩; have HP6 := hid (HP5.out.trans ho6 (fun _ _ e => e)); have HB6 := hid (HSK.out); have HO6X := hid ho6; have HSK : Hid ((w6.cell? ⟨wr.heap.size, 0, none⟩ = some (.int .i64 e.k) ∧ w6.cell? ⟨wr.heap.size, 1, none⟩ = some (.int .i64 e.tm) ∧ w6.cell? ⟨wr.heap.size, 2, none⟩ = some (.int .i64 e.a) ∧ w6.cell? ⟨wr.heap.size, 3, none⟩ = some (.int .i64 e.b) ∧ w6.cell? ⟨wr.heap.size, 4, none⟩ = some (.string (strOf e.name)) ∧ w6.cell? ⟨wr.heap.size, 5, none⟩ = some (.int .i64 vk) ∧ w6.cell? ⟨wr.heap.size, 6, none⟩ = some (.int .i64 vn) ∧ w6.cell? ⟨wr.heap.size, 7, none⟩ = some (.string (strOf vs)) ∧ w6.cell? ⟨wr.heap.size, 8, none⟩ = some (.slice va vm vc))) := hid (by obtain ⟨q0, q1, q2, q3, q4, q5, q6, q7, q8⟩ := HB6.out; exact ⟨k6 ho6 q0, k6 ho6 q1, k6 ho6 q2, k6 ho6 q3, k6 ho6 q4, k6 ho6 q5, k6 ho6 q6, k6 ho6 q7, k6 ho6 q8⟩); clear ho6))
      go_wp2_with fail
      go_roundw
      case rel => exact ⟨j + 1, by go_num, by omega, HO.out.trans HP6.out (fun _ _ e => e)⟩
      case measure => simp [intOf]; omega
    · have hjl2 : ¬ (j : Int) < es.length := by omega
      have HRA := hid (r10all_c (HE.out.same HO.out) (fun k hk => by have := HGG.out k hk; omega) (fun e he => (Hg.out e he).1) hl)
      obtain ⟨ck, hck⟩ : ∃ y, cAll es = y := ⟨_, rfl⟩
      rw [hck] at HRA
      have HCK := hid hck
      have hcc : (ck != ck) = false := by simp
      clear hck
      go_wp2_with fail
      refine HRA.out.mono ?_
      rintro x w3 ⟨rfl, ho3⟩
      have HO3 := hid (HO.out.trans ho3 (fun _ _ e => e))
      have HEN := hid (cencode_c (HE.out.same HO3.out) (fun k hk => by have := HGG.out k hk; have := HO3.out.size; omega) Hg.out hl)
      clear ho3 HRA
      go_wp2_with fail
      refine HEN.out.mono ?_
      rintro x w4 ⟨v4, rfl, hv4⟩
      rw [HCK.out] at hv4 ⊢
      obtain ⟨bl, hbl⟩ : ∃ y, (if ck = 0 then cwrL es else []) = y := ⟨_, rfl⟩
      rw [hbl] at hv4
      obtain ⟨ao, cp, rfl, hgr, -, ho4⟩ := hv4
      have HS4 := hid hgr.src
      have HO4 := hid (HO3.out.trans ho4 (fun _ _ e => e))
      have HBL := hid hbl
      have HAL := hid (call_c (HE.out.same HO4.out) (fun k hk => by have := HGG.out k hk; have := HO4.out.size; omega) (fun e he => (Hg.out e he).1) hl)
      rw [HCK.out] at HAL
      clear hgr ho4 hbl HEN
      go_wp2_with fail
      refine HAL.out.mono ?_
      rintro x w5 ⟨rfl, ho5⟩
      have HO5 := hid (HO4.out.trans ho5 (fun _ _ e => e))
      have HS5 := hid (HS4.out.same ho5)
      clear ho5 HAL
      by_cases h0 : ck = 0
      case neg =>
        have hcb : (ck != 0) = true := by simpa using h0
        have hb1 : bl = [] := by rw [← HBL.out, if_neg h0]
        subst hb1
        clear h0
        go_wp2_with fail
        go_ret
        exact ⟨rfl, HO5.out⟩
      subst h0
      have hb1 : bl = cwrL es := by rw [← HBL.out, if_pos rfl]
      obtain ⟨hl6, hgd⟩ := cgood_of HCK.out
      have hbll : bl.length ≤ 1000000000 := by
        rw [hb1]
        have h1 := cfl_len (l := es) (fun e he => ⟨hgd e he, (Hg.out e he).2⟩)
        have h2 := numB_len es.length
        unfold cwrL; rw [List.length_append]; omega
      have HGD := hid hgd
      have hde := cd_enc (l := es) HCK.out (fun e he => ⟨(Hg.out e he).2, (Hg.out e he).1⟩)
      rw [← hb1] at hde
      have HDE := hid hde; have HB1 := hid hb1
      have HD := hid (cdecode_c HS5.out hbll)
      clear hb1 hgd hde
      go_wp2_with fail
      refine HD.out.mono ?_
      rintro x w6 ⟨v6, rfl, hk6, ho6, -⟩
      rw [HDE.out] at hk6 ⊢
      simp only at hk6 ⊢
      obtain ⟨a6, c6, g6, o6, rfl, hne6, hel6⟩ := hk6
      have HO6 := hid (HO5.out.trans ho6 (fun _ _ e => e))
      have HS6 := hid (HS5.out.same ho6)
      have HN6 := hid hne6; have HEL6 := hid hel6
      rw [List.length_map]
      have hcvA := conv_str (HS6.out.same ((Only.refl (fun _ => False) w6).drew))
      have HBY : Hid (∀ W, Only (fun _ => False) w6 W → Calls Tryd.prog 18 #[.slice ad es.length cap] W fun x w' => x = .returned (.string (strOf bl)) ∧ Only (fun _ => False) W w') := hid (fun W h => by
        have := r10bytes_c (w := W) (HE.out.same (HO6.out.trans h (fun _ _ e => e))) Hg.out HCK.out
        rwa [← HB1.out] at this)
      have HBD := hid (HBY.out w6.drew (Only.refl _ _).drew)
      have hqb : ((strOf bl).toList == (strOf bl).toList) = true := by simp
      clear ho6 hne6 hel6 HD
      go_upto_region 18 with fail
      go_cut [74] from 59 to 74 (fun x wx => x = .bool false ∧ Only (fun _ => False) w6 wx)
      case first =>
        have HCV : Hid (∀ W, Only (fun _ => False) w6 W → (convert 34 9 (.slice ao bl.length cp)).run Tryd.prog W = .ok (.string (strOf bl)) W) := hid (fun W h => conv_str (HS6.out.same h))
        go_region_held3 (fun W => (convert 34 9 (.slice ao bl.length cp)).run Tryd.prog W = .ok (.string (strOf bl)) W)
          (first | with_reducible exact HSK.out | exact hcvA | go_keep)
          ((go_at_call 18; (with_reducible refine HBD.out.mono ?_); rintro x w7 ⟨rfl, ho7⟩; have hp7 : Only (fun _ => False) w6 w7 := ((Only.refl _ w6).drew).trans ho7 (fun _ _ e => e); have hcvB := HCV.out w7 hp7; have HSK := hid hcvB; have HP7 := hid hp7; clear ho7 hp7))
        all_goals
          go_wp2_with fail
          go_meet
          case rel => exact ⟨rfl, HP7.out⟩
      case rest =>
      obtain ⟨rfl, hoc⟩ := hcut
      have HP7 := hid hoc
      clear hoc hcvA
      go_wp2_with fail
      go_loopw [77] (fun i wz => ∃ j : Nat, i = .int .i64 j ∧ j ≤ es.length ∧ Only (fun _ => False) w6 wz) (fun i _ => es.length - (intOf i).toNat)
      case atStart => exact ⟨0, rfl, Nat.zero_le _, HP7.out⟩
      case round =>
        obtain ⟨j, rfl, hj, hoz⟩ := hrel
        have HOZ := hid (HO6.out.trans hoz (fun _ _ e => e)); have HPZ := hid hoz
        clear hoz
        by_cases hjl : j < es.length
        · have hji : (j : Int) < es.length := by omega
          obtain ⟨e, he⟩ : ∃ t, es[j]? = some t := ⟨_, List.getElem?_eq_getElem hjl⟩
          obtain ⟨rfl, hGg⟩ := HN.out (by rintro rfl; simp at hjl)
          obtain ⟨rfl, hGg6⟩ := HN6.out (by intro h; have := congrArg List.length h; simp at this; rw [this] at hjl; simp at hjl)
          obtain ⟨cs, hcs, hEe⟩ := HEL.out j e he
          obtain ⟨ds, hds, hEd⟩ := HEL6.out j e.cl (by rw [List.getElem?_map, he]; rfl)
          have hrg := Hg.out e (List.mem_of_getElem? he)
          have hgde := HGD.out e (List.mem_of_getElem? he)
          have hEw := hEe.same HOZ.out
          have hDw := hEd.same HPZ.out
          obtain ⟨vk, vn, vs, va, vm, vc, rfl, -⟩ := hEw.form
          obtain ⟨uk, un, us, ua, um, uc, rfl, -⟩ := hDw.form
          have HGS : Hid (∀ W, Only (fun _ => False) wr W → (W.cell? ⟨g, o + j * 9, none⟩ = some (.int .i64 e.k) ∧ W.cell? ⟨g, o + j * 9 + 1, none⟩ = some (.int .i64 e.tm) ∧ W.cell? ⟨g, o + j * 9 + 2, none⟩ = some (.int .i64 e.a) ∧ W.cell? ⟨g, o + j * 9 + 3, none⟩ = some (.int .i64 e.b) ∧ W.cell? ⟨g, o + j * 9 + 4, none⟩ = some (.string (strOf e.name)) ∧ W.cell? ⟨g, o + j * 9 + 5, none⟩ = some (.int .i64 vk) ∧ W.cell? ⟨g, o + j * 9 + 6, none⟩ = some (.int .i64 vn) ∧ W.cell? ⟨g, o + j * 9 + 7, none⟩ = some (.string (strOf vs)) ∧ W.cell? ⟨g, o + j * 9 + 8, none⟩ = some (.slice va vm vc) ∧ W.cell? ⟨g6, o6 + j * 9, none⟩ = some (.int .i64 e.cl.k) ∧ W.cell? ⟨g6, o6 + j * 9 + 1, none⟩ = some (.int .i64 e.cl.tm) ∧ W.cell? ⟨g6, o6 + j * 9 + 2, none⟩ = some (.int .i64 e.cl.a) ∧ W.cell? ⟨g6, o6 + j * 9 + 3, none⟩ = some (.int .i64 e.cl.b) ∧ W.cell? ⟨g6, o6 + j * 9 + 4, none⟩ = some (.string (strOf e.cl.name)) ∧ W.cell? ⟨g6, o6 + j * 9 + 5, none⟩ = some (.int .i64 uk) ∧ W.cell? ⟨g6, o6 + j * 9 + 6, none⟩ = some (.int .i64 un) ∧ W.cell? ⟨g6, o6 + j * 9 + 7, none⟩ = some (.string (strOf us)) ∧ W.cell? ⟨g6, o6 + j * 9 + 8, none⟩ = some (.slice ua um uc))) := hid (fun W h => by
            have hx : ∀ i u, [.int .i64 e.k, .int .i64 e.tm, .int .i64 e.a, .int .i64 e.b, .string (strOf e.name), .int .i64 vk, .int .i64 vn, .string (strOf vs), .slice va vm vc][i]? = some u → W.cell? ⟨g, o + j * 9 + i, none⟩ = some u := fun i u hu => k6 (HOZ.out.trans h (fun _ _ e => e)) (hcs i u hu)
            have hy : ∀ i u, [.int .i64 e.cl.k, .int .i64 e.cl.tm, .int .i64 e.cl.a, .int .i64 e.cl.b, .string (strOf e.cl.name), .int .i64 uk, .int .i64 un, .string (strOf us), .slice ua um uc][i]? = some u → W.cell? ⟨g6, o6 + j * 9 + i, none⟩ = some u := fun i u hu => k6 (HPZ.out.trans h (fun _ _ e => e)) (hds i u hu)
            exact ⟨hx 0 _ rfl, hx 1 _ rfl, hx 2 _ rfl, hx 3 _ rfl, hx 4 _ rfl, hx 5 _ rfl, hx 6 _ rfl, hx 7 _ rfl, hx 8 _ rfl, hy 0 _ rfl, hy 1 _ rfl, hy 2 _ rfl, hy 3 _ rfl, hy 4 _ rfl, hy 5 _ rfl, hy 6 _ rfl, hy 7 _ rfl, hy 8 _ rfl⟩)
          have HCW := hid hEw; have HDW := hid hDw
          have hrc : e.cl.rg := ⟨hrg.1.1, hrg.1.2.1, hrg.1.2.2.1, hrg.1.2.2.2.1, hrg.1.2.2.2.2.1, hrg.1.2.2.2.2.2.1, hrg.1.2.2.2.2.2.2.1, cl_rg _ hrg.1.2.2.2.2.2.2.2⟩
          have hpm := pr_max hgde.v hrg.1.2.2.2.2.2.2.2
          have hpm2 := pr_max (cl_cgood hgde).v hrc.2.2.2.2.2.2.2
          have hnl := hgde.nL
          have HSA := hid (csame_c (w := wr.drew) (hDw.same (Only.refl _ _).drew) (hEw.same (Only.refl _ _).drew) hrc.2.2.2.2.2.2.2 hrg.1.2.2.2.2.2.2.2 (cl_isC hrg.2) hrg.2)
          rw [csame_cl] at HSA
          have HLA : Hid (∀ W, Only (fun _ => False) wr W → Calls Tryd.prog 20 #[.agg (List.toArray [.int .i64 e.cl.k, .int .i64 e.cl.tm, .int .i64 e.cl.a, .int .i64 e.cl.b, .string (strOf e.cl.name), .int .i64 uk, .int .i64 un, .string (strOf us), .slice ua um uc])] W fun x w' => x = .returned (.string (strOf e.cpr)) ∧ Only (fun _ => False) W w') := hid (fun W h => by
            have := r10line_c (w := W) (HDW.out.same h) hrc (by show e.name.length ≤ 1000; omega) hpm2
            rwa [ccl_pr] at this)
          have HLB : Hid (∀ W, Only (fun _ => False) wr W → Calls Tryd.prog 20 #[.agg (List.toArray [.int .i64 e.k, .int .i64 e.tm, .int .i64 e.a, .int .i64 e.b, .string (strOf e.name), .int .i64 vk, .int .i64 vn, .string (strOf vs), .slice va vm vc])] W fun x w' => x = .returned (.string (strOf e.cpr)) ∧ Only (fun _ => False) W w') := hid (fun W h => r10line_c (w := W) (HCW.out.same h) hrg.1 (by omega) hpm)
          have hS0 := HGS.out wr.drew (Only.refl _ _).drew
          have HS0 := hid hS0
          have qe : ((strOf e.cpr).toList == (strOf e.cpr).toList) = true := by simp
          clear hcs hds hEe hEd hrg hgde hEw hDw he hrc hpm hpm2 hnl hS0
          go_wp2_with fail
          go_region_held3 (fun W => (W.cell? ⟨g, o + j * 9, none⟩ = some (.int .i64 e.k) ∧ W.cell? ⟨g, o + j * 9 + 1, none⟩ = some (.int .i64 e.tm) ∧ W.cell? ⟨g, o + j * 9 + 2, none⟩ = some (.int .i64 e.a) ∧ W.cell? ⟨g, o + j * 9 + 3, none⟩ = some (.int .i64 e.b) ∧ W.cell? ⟨g, o + j * 9 + 4, none⟩ = some (.string (strOf e.name)) ∧ W.cell? ⟨g, o + j * 9 + 5, none⟩ = some (.int .i64 vk) ∧ W.cell? ⟨g, o + j * 9 + 6, none⟩ = some (.int .i64 vn) ∧ W.cell? ⟨g, o + j * 9 + 7, none⟩ = some (.string (strOf vs)) ∧ W.cell? ⟨g, o + j * 9 + 8, none⟩ = some (.slice va vm vc) ∧ W.cell? ⟨g6, o6 + j * 9, none⟩ = some (.int .i64 e.cl.k) ∧ W.cell? ⟨g6, o6 + j * 9 + 1, none⟩ = some (.int .i64 e.cl.tm) ∧ W.cell? ⟨g6, o6 + j * 9 + 2, none⟩ = some (.int .i64 e.cl.a) ∧ W.cell? ⟨g6, o6 + j * 9 + 3, none⟩ = some (.int .i64 e.cl.b) ∧ W.cell? ⟨g6, o6 + j * 9 + 4, none⟩ = some (.string (strOf e.cl.name)) ∧ W.cell? ⟨g6, o6 + j * 9 + 5, none⟩ = some (.int .i64 uk) ∧ W.cell? ⟨g6, o6 + j * 9 + 6, none⟩ = some (.int .i64 un) ∧ W.cell? ⟨g6, o6 + j * 9 + 7, none⟩ = some (.string (strOf us)) ∧ W.cell? ⟨g6, o6 + j * 9 + 8, none⟩ = some (.slice ua um uc)))
            (first | with_reducible exact HSK.out | exact HS0.out | go_keep)
            (first
              | (go_at_call 19; (with_reducible refine HSA.out.mono ?_); rintro x wa ⟨rfl, hoa⟩; have hpa : Only (fun _ => False) wr wa := ((Only.refl _ wr).drew).trans hoa (fun _ _ e => e); have HSK := hid (HGS.out wa hpa); have HPA := hid hpa; have HCN := hid (HLA.out wa hpa); clear hoa hpa)
              | (go_at_call 20; (with_reducible refine HCN.out.mono ?_); rintro x wb ⟨rfl, hob⟩; have hpb : Only (fun _ => False) wr wb := HPA.out.trans hob (fun _ _ e => e); have HSK := hid (HGS.out wb hpb); have HPB := hid hpb; have HCN2 := hid (HLB.out wb hpb); clear hob hpb)
              | (go_at_call 20; (with_reducible refine HCN2.out.mono ?_); rintro x wc ⟨rfl, hoc⟩; have hpc : Only (fun _ => False) wr wc := HPB.out.trans hoc (fun _ _ e => e); have HSK := hid (HGS.out wc hpc); have HPC := hid hpc; clear hoc hpc))
          go_wp2_with fail
          go_roundw
          case rel => exact ⟨j + 1, by go_num, by omega, HPZ.out.trans HPC.out (fun _ _ e => e)⟩
          case measure => simp [intOf]; omega
        · have hjl3 : ¬ (j : Int) < es.length := by omega
          go_wp2_with fail
          go_ret
          exact ⟨rfl, HOZ.out⟩
end
end Go.Proofs.YtihidpfkdpjdpaaDoor
