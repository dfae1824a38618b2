/- EventWrites's walk. -/
import Derived.Test.YtdjpapdkbglkmaaDoorCuts
import Derived.Test.YtdjpapdkbglkmaaDoorRf09B
import Derived.Test.YtdjpapdkbglkmaaDoorOpenE
import Derived.Test.YtdjpapdkbglkmaaDoorEvS
namespace Go.Proofs.YtdjpapdkbglkmaaDoor
open Go.RowKit

theorem wrs_len {es : List EM} : ∀ {j : Nat}, j ≤ es.length → (∀ (i : Nat) (e : EM), i < j → es[i]? = some e → e.Good) → ((es.take j).flatMap EM.wr).length ≤ 10000 * j
  | 0, _, _ => by simp
  | j + 1, h, hg => by
    have hj : j < es.length := by omega
    have he : es[j]? = some es[j] := List.getElem?_eq_getElem hj
    rw [flat_take1 (f := EM.wr) he, List.length_append]
    have h1 := wrs_len (j := j) (by omega) (fun i e hi => hg i e (by omega))
    have h2 := ewr_len (hg j _ (by omega) he)
    omega
theorem drop_flat {es : List EM} {j : Nat} {e : EM} (h : es[j]? = some e) : (es.drop j).flatMap EM.wr = e.wr ++ (es.drop (j + 1)).flatMap EM.wr := by rw [drop_get h, List.flatMap_cons]
theorem step_ofg {P : Program} {ops : Array Oper} {o : Oper} {a : Act} {w : World} {Q : Exit → Act → World → Prop} {K : Act → World → Prop} {E : Prop} (hg : Region.wanted o (yielded ops a.tmps) = true) (h : o.wp P a w K Q) : if Region.wanted o (yielded ops a.tmps) = true then o.wp P a w K Q else E := by
  rw [if_pos hg]; exact h
theorem ev_vrg (l : List UInt8) : (RdM.of l).ev.1.v.rg := by
  by_cases h : (RdM.of l).ev.2.err = 0
  · obtain ⟨e, post, e1, -, -, e4, -⟩ := ev_inv (r := RdM.of l) rfl h
    rw [e1]; exact e4.2.2.2.2.2.2.2
  · have : (RdM.of l).ev.1 = .zero := if_pos h
    rw [this]; exact nil_rg
section
variable {w : World}
set_option maxRecDepth 100000 in
set_option maxHeartbeats 6400000 in
theorem writes_c (hT : Tab w) {v : Value} {es : List EM} {G : Nat → Prop} (hE : EvsV w G v es) (hG : ∀ k, G k → k < w.heap.size) (hg : ∀ e ∈ es, e.rg) (hel : es.length ≤ 9223372036854775807) {mv : Value} {ml : List UInt8} (hM : Src w mv ml) (hml : ml.length ≤ 9223372036854775807) :
    Calls Tryd.prog 6 #[v, mv] w fun x w' => x = .returned (.bool true) ∧ Only (fun _ => False) w w' := by
  have HE := hid hE; have HM := hid hM; have HGl := hid hG; have Hg := hid hg
  have HTL := hid (tells_c hT)
  obtain ⟨ad, cap, g, o, rfl, hne, hel3⟩ := hE
  obtain ⟨ma, mc, rfl⟩ := hM.len
  have HNE := hid hne; have HEL := hid hel3
  clear hT hM hG hg hne hel3
  go_enter Tryd.func6, Tryd.ntmps6
  go_wp2_with fail
  refine HTL.out.mono ?_
  rintro x w1 ⟨rfl, ho1⟩
  have HO1 := hid ho1
  clear ho1 HTL
  by_cases h12 : 12 < (es.length : Int)
  · go_wp2_with fail
    go_ret
    exact ⟨rfl, HO1.out⟩
  by_cases h20 : 20 < (ml.length : Int)
  · go_wp2_with fail
    go_ret
    exact ⟨rfl, HO1.out⟩
  have HSM := hid (small_c (HE.out.same HO1.out) (fun k hk => by have := HGl.out k hk; have := HO1.out.size; omega) (fun e he => (Hg.out e he).2.2.2.2.2.2.2) hel)
  obtain ⟨sm, hsm⟩ : ∃ b, smB es 400 = b := ⟨_, rfl⟩
  rw [hsm] at HSM
  clear hsm
  cases sm with
  | false =>
    go_wp2_with fail
    refine HSM.out.mono ?_
    rintro x w2 ⟨rfl, ho2⟩
    have HO2 := hid (HO1.out.trans ho2 (fun _ _ e => e))
    clear ho2
    go_wp2_with fail
    go_ret
    exact ⟨rfl, HO2.out⟩
  | true =>
  go_wp2_with fail
  refine HSM.out.mono ?_
  rintro x w2 ⟨rfl, ho2⟩
  have HO2 := hid (HO1.out.trans ho2 (fun _ _ e => e))
  have hw2 := HO2.out.size
  clear ho2 HSM
  have HW0 : Hid (Wr (w2.alloc (.cells #[.slice none 0 0] 45)) w2.heap.size (fun k => k = w2.heap.size) []) := hid (Wr.new (blk_new w2 _))
  have HO3 := hid (HO2.out.trans (only_new w2 (.cells #[.slice none 0 0] 45)) (fun _ _ e => e))
  go_wp2_with fail
  go_loopw [31, 6] (fun i s wr => ∃ j : Nat, i = .int .i64 j ∧ j ≤ es.length ∧ (∀ (i : Nat) (e : EM), i < j → es[i]? = some e → e.Good) ∧ s = .string (strOf ((es.take j).flatMap EM.wr)) ∧ WStep (w2.alloc (.cells #[.slice none 0 0] 45)) wr w2.heap.size (fun k => k = w2.heap.size) ((es.take j).flatMap EM.wr)) (fun i _ _ => es.length - (intOf i).toNat)
  case atStart => exact ⟨0, rfl, Nat.zero_le _, fun i e hi => absurd hi (by omega), rfl, HW0.out.step⟩
  case round =>
    obtain ⟨j, rfl, hj, hgd, rfl, hst⟩ := hrel
    have hln := wrs_len hj hgd
    have HGD := hid hgd
    obtain ⟨F1, hW1, ho1, hF1⟩ := hst
    have hs1 := ho1.size
    simp only [World.size_alloc] at hs1
    have HOW : Hid (Only (fun _ => False) w wr) := hid (HO3.out.trans ho1 (fun k hk e => by have e' : k = w2.heap.size := e; omega))
    obtain ⟨q, hq⟩ : ∃ q, (es.take j).flatMap EM.wr = q := ⟨_, rfl⟩
    rw [hq] at hW1 hln
    have HQ := hid hq
    have HW1 := hid hW1; have HO1' := hid ho1; have HF1 := hid hF1
    clear hgd hW1 ho1 hF1 hq
    by_cases hjl : j < es.length
    · rw [HQ.out]
      have hji : (j : Int) < es.length := by omega
      obtain ⟨e, he⟩ : ∃ t, es[j]? = some t := ⟨_, List.getElem?_eq_getElem hjl⟩
      obtain ⟨rfl, hGg⟩ := HNE.out (by rintro rfl; simp at hjl)
      obtain ⟨cs, hcs, hEe⟩ := HEL.out j e he
      have heg := Hg.out e (List.mem_of_getElem? he)
      have hcw : ∀ i u, cs[i]? = some u → wr.cell? ⟨g, o + j * 11 + i, none⟩ = some u := fun i u hu =>
        (World.cell?_of_block (HOW.out.block g (World.block_lt_of_cell? _ _ (hcs i u hu)) (fun e => e))).trans (hcs i u hu)
      have hEw := hEe.same HOW.out
      obtain ⟨vk, vn, vs, va, vm, vc, rfl, -⟩ := hEw.form
      have e0 := hcw 0 _ rfl
      rw [Nat.add_zero] at e0
      have e1 := hcw 1 _ rfl
      have e2 := hcw 2 _ rfl
      have e3 := hcw 3 _ rfl
      have e4 := hcw 4 _ rfl
      have e5 := hcw 5 _ rfl
      have e6 := hcw 6 _ rfl
      have e7 := hcw 7 _ rfl
      have e8 := hcw 8 _ rfl
      have e9 := hcw 9 _ rfl
      have e10 := hcw 10 _ rfl
      have HRC := hid (r9check_c (w := wr.alloc (.cells #[.int .i64 e.id, .int .i64 e.tm, .int .i64 e.k, .int .i64 e.a, .int .i64 e.b, .string (strOf e.name), .string (strOf e.text), .int .i64 vk, .int .i64 vn, .string (strOf vs), .slice va vm vc] 28)) (hEw.same (only_new wr _)) heg)
      have hnx := flat_take1 (f := EM.wr) he
      obtain ⟨ck, hck⟩ : ∃ y, e.chk = y := ⟨_, rfl⟩
      rw [hck] at HRC
      have HCK := hid hck; have HEw := hid hEw; have Heg := hid heg; have HNX := hid hnx; have Hhe := hid he
      have HBe := hid (blk_new wr (.cells #[.int .i64 e.id, .int .i64 e.tm, .int .i64 e.k, .int .i64 e.a, .int .i64 e.b, .string (strOf e.name), .string (strOf e.text), .int .i64 vk, .int .i64 vn, .string (strOf vs), .slice va vm vc] 28))
      clear hcs hEe hcw hEw heg hck hnx he
      by_cases hc0 : ck = 0
      · subst hc0
        have hgd := chk_good HCK.out
        have hwl := ewr_len hgd
        go_wp2_with fail
        refine HRC.out.mono ?_
        rintro x w5 ⟨rfl, ho5⟩
        have ho5' := (only_new wr (.cells #[.int .i64 e.id, .int .i64 e.tm, .int .i64 e.k, .int .i64 e.a, .int .i64 e.b, .string (strOf e.name), .string (strOf e.text), .int .i64 vk, .int .i64 vn, .string (strOf vs), .slice va vm vc] 28)).trans ho5 (fun _ _ e => e)
        have hb5 := blk_only HBe.out ho5 (fun e => e)
        have c0 : w5.cell? ⟨wr.heap.size, 0, none⟩ = some (.int .i64 e.id) := cell_blk hb5 0
        have c1 : w5.cell? ⟨wr.heap.size, 1, none⟩ = some (.int .i64 e.tm) := cell_blk hb5 1
        have c2 : w5.cell? ⟨wr.heap.size, 2, none⟩ = some (.int .i64 e.k) := cell_blk hb5 2
        have c3 : w5.cell? ⟨wr.heap.size, 3, none⟩ = some (.int .i64 e.a) := cell_blk hb5 3
        have c4 : w5.cell? ⟨wr.heap.size, 4, none⟩ = some (.int .i64 e.b) := cell_blk hb5 4
        have c5 : w5.cell? ⟨wr.heap.size, 5, none⟩ = some (.string (strOf e.name)) := cell_blk hb5 5
        have c6 : w5.cell? ⟨wr.heap.size, 6, none⟩ = some (.string (strOf e.text)) := cell_blk hb5 6
        have c7 : w5.cell? ⟨wr.heap.size, 7, none⟩ = some (.int .i64 vk) := cell_blk hb5 7
        have c8 : w5.cell? ⟨wr.heap.size, 8, none⟩ = some (.int .i64 vn) := cell_blk hb5 8
        have c9 : w5.cell? ⟨wr.heap.size, 9, none⟩ = some (.string (strOf vs)) := cell_blk hb5 9
        have c10 : w5.cell? ⟨wr.heap.size, 10, none⟩ = some (.slice va vm vc) := cell_blk hb5 10
        have hlb5 := blk_lt hb5
        have HEV := hid (ewrite_c (b := w2.heap.size) (F := F1) (G := G) (HW1.out.same ho5') (HEw.out.same ho5') (fun k hk e => by have := HGl.out k hk; rcases HF1.out k e with e | e; have e' : k = w2.heap.size := e; omega; simp at e; omega) (fun k hk => by have := HGl.out k hk; have := ho5'.size; omega) Heg.out hgd (by omega))
        have HO5 := hid ho5'
        have HB5 := hid hb5
        have HGD2 := hid hgd
        clear ho5 ho5' hb5 hgd HRC
        go_wp2_with fail
        refine HEV.out.mono ?_
        rintro x w6 ⟨rfl, hst6⟩
        obtain ⟨F6, hW6, ho6, hF6⟩ := hst6
        have hfe : ¬ F1 wr.heap.size := fun e => by have := HW1.out.lt e; omega
        have hb6 := blk_only HB5.out ho6 hfe
        clear c0 c1 c2 c3 c4 c5 c6 c7 c8 c9 c10
        have c0 : w6.cell? ⟨wr.heap.size, 0, none⟩ = some (.int .i64 e.id) := cell_blk hb6 0
        have c1 : w6.cell? ⟨wr.heap.size, 1, none⟩ = some (.int .i64 e.tm) := cell_blk hb6 1
        have c2 : w6.cell? ⟨wr.heap.size, 2, none⟩ = some (.int .i64 e.k) := cell_blk hb6 2
        have c3 : w6.cell? ⟨wr.heap.size, 3, none⟩ = some (.int .i64 e.a) := cell_blk hb6 3
        have c4 : w6.cell? ⟨wr.heap.size, 4, none⟩ = some (.int .i64 e.b) := cell_blk hb6 4
        have c5 : w6.cell? ⟨wr.heap.size, 5, none⟩ = some (.string (strOf e.name)) := cell_blk hb6 5
        have c6 : w6.cell? ⟨wr.heap.size, 6, none⟩ = some (.string (strOf e.text)) := cell_blk hb6 6
        have c7 : w6.cell? ⟨wr.heap.size, 7, none⟩ = some (.int .i64 vk) := cell_blk hb6 7
        have c8 : w6.cell? ⟨wr.heap.size, 8, none⟩ = some (.int .i64 vn) := cell_blk hb6 8
        have c9 : w6.cell? ⟨wr.heap.size, 9, none⟩ = some (.string (strOf vs)) := cell_blk hb6 9
        have c10 : w6.cell? ⟨wr.heap.size, 10, none⟩ = some (.slice va vm vc) := cell_blk hb6 10
        have hlb6 := blk_lt hb6
        have hoW6 : Only (fun _ => False) w w6 := (HOW.out.trans HO5.out (fun _ _ e => e)).trans ho6 (fun k hk e => by rcases HF1.out k e with e | e; have e' : k = w2.heap.size := e; omega; simp at e; omega)
        have HBY := hid (r9bytes_c (w := w6) ((HEw.out.same HO5.out).only ho6 (fun k hk e => by have := HGl.out k hk; rcases HF1.out k e with e | e; have e' : k = w2.heap.size := e; omega; simp at e; omega)) Heg.out HGD2.out)
        have HST6 : Hid (WStep (w2.alloc (.cells #[.slice none 0 0] 45)) w6 w2.heap.size (fun k => k = w2.heap.size) (q ++ e.wr)) := hid (((WStep.pre HO5.out ⟨F6, hW6, ho6, hF6⟩ (fun k hk => HW1.out.lt hk))).comp HO1'.out HF1.out)
        obtain ⟨ew, hew⟩ : ∃ x, e.wr = x := ⟨_, rfl⟩
        rw [hew] at HBY HST6 hwl
        have HNX2 : Hid ((es.take (j + 1)).flatMap EM.wr = q ++ ew) := hid (by rw [HNX.out, HQ.out, hew])
        have cc : strOf q ++ strOf ew = strOf (q ++ ew) := strOf_app' _ _
        have zz : ¬ 9223372036854775807 < (strOf q).size + (strOf ew).size := by have h1 : (strOf q).size = q.length := rfl; have h2 : (strOf ew).size = ew.length := rfl; omega
        clear hW6 ho6 hF6 hb6 hoW6 hew
        go_wp2_with fail
        refine HBY.out.mono ?_
        rintro x w7 ⟨rfl, ho7⟩
        clear c0 c1 c2 c3 c4 c5 c6 c7 c8 c9 c10
        have HO7 := hid ho7
        clear ho7
        go_wp2_with fail
        go_roundw
        case rel => exact ⟨j + 1, by go_num, by omega, fun i e' hi he' => by
          rcases Nat.lt_or_ge i j with h | h
          · exact HGD.out i e' h he'
          · have : i = j := by omega
            subst this
            rw [Hhe.out] at he'
            cases he'; exact HGD2.out, by rw [HNX2.out], by rw [HNX2.out]; exact HST6.out.same HO7.out⟩
        case measure => simp [intOf]; omega
      · have hcb : (ck != 0) = true := by simpa using hc0
        clear hc0
        go_wp2_with fail
        refine HRC.out.mono ?_
        rintro x w5 ⟨rfl, ho5⟩
        have HO5 := hid ((HOW.out.trans (only_new wr (.cells #[.int .i64 e.id, .int .i64 e.tm, .int .i64 e.k, .int .i64 e.a, .int .i64 e.b, .string (strOf e.name), .string (strOf e.text), .int .i64 vk, .int .i64 vn, .string (strOf vs), .slice va vm vc] 28)) (fun _ _ e => e)).trans ho5 (fun _ _ e => e))
        clear ho5
        go_wp2_with fail
        go_ret
        exact ⟨rfl, HO5.out⟩
    · have hje : j = es.length := by omega
      have hall : ∀ e ∈ es, e.Good := fun e he => by
        obtain ⟨i, hi⟩ := List.mem_iff_getElem?.1 he
        exact HGD.out i e (by rw [hje]; rcases Nat.lt_or_ge i es.length with h | h; exact h; rw [List.getElem?_eq_none h] at hi; cases hi) hi
      have htk : es.take j = es := by rw [hje, List.take_length]
      have hqf : es.flatMap EM.wr = q := by rw [← HQ.out, htk]
      have HALL := hid hall; have HQF := hid hqf
      rw [HQ.out]
      have hjl2 : ¬ (j : Int) < es.length := by omega
      have HBS := hid (wbytes_c HW1.out (by omega))
      clear hall htk hqf hje HQ HGD
      go_wp2_with fail
      refine HBS.out.mono ?_
      rintro x w5 ⟨v5, rfl, ao5, cp5, rfl, hg5, -, ho5⟩
      have hcv := conv_str hg5.src
      have HO5 := hid (HOW.out.trans ho5 (fun _ _ e => e))
      have HBS2 := hid (wbytes_c (HW1.out.same ho5) (by omega))
      clear hg5 ho5 HBS
      go_wp2_with fail
      refine HBS2.out.mono ?_
      rintro x w6 ⟨v6, rfl, ao6, cp6, rfl, hg6, hgl6, ho6⟩
      have HO6 := hid (HO5.out.trans ho6 (fun _ _ e => e))
      obtain ⟨a9, c9', e9, hsg⟩ := (HM.out.same HO6.out).g
      simp only [Value.slice.injEq, true_and] at e9
      obtain ⟨rfl, rfl⟩ := e9
      have HSG := hid hsg; have HG6 := hid hg6; have HGL6 := hid hgl6
      have hw5 := HO5.out.size
      clear hsg hg6 hgl6 ho6 HBS2 hcv
      go_wp2_with (refine wpList_gr (o := ⟨some 51, _, _, _, _, _⟩) rfl el8 (.tmp 49) (.tmp 50) rfl HG6.out rfl _ ml.length mc rfl (bytesV ml) HSG.out (by omega) (by omega) ?_; intro ao7 cp7 w7 hg7 ha7 ho7; have Hg7 := hid hg7; have Ha7 := hid ha7; have Ho7 := hid ho7; clear hg7 ha7 ho7)
      have hg7 := Hg7.out
      rw [← bytesV_append] at hg7
      have hs7 : Src w7 (.slice ao7 (q.length + ml.length) cp7) (q ++ ml) := hg7.src
      have HO7 := hid (HO6.out.trans Ho7.out (fun k hk e => by have := HGL6.out k e; omega))
      have HRD := hid (read_c _ _ hs7 (by rw [List.length_append]; omega))
      have hw7 := HO7.out.size
      clear hg7 hs7
      refine HRD.out.mono ?_
      rintro x w8 ⟨rb, rg, rfl, hrd, hrb, hrg, ho8⟩
      have HO8 := hid (HO7.out.trans ho8 (fun _ _ e => e))
      have HR8 := hid hrd
      have hlt8 := hrd.lt
      clear hrd ho8 HRD
      go_wp2_with fail
      go_loopw [55] (fun i wr => ∃ j : Nat, i = .int .i64 j ∧ j ≤ es.length ∧ Rd wr rb rg ((RdM.of (q ++ ml)).adv ((es.take j).flatMap EM.wr).length) ∧ Only (fun k => k = rb) w8 wr) (fun i _ => es.length - (intOf i).toNat)
      case atStart => exact ⟨0, rfl, Nat.zero_le _, HR8.out, Only.refl _ _⟩
      case round =>
        obtain ⟨j, rfl, hj, hrj, ho⟩ := hrel
        have HRJ := hid hrj
        have HOW2 : Hid (Only (fun _ => False) w wr) := hid (HO8.out.trans ho (fun k hk e => by have e' : k = rb := e; omega))
        have hsz9 := ho.size
        have HOJ := hid ho
        clear hrj ho
        by_cases hjl : j < es.length
        · have hq2 := HQF.out
          have hji : (j : Int) < es.length := by omega
          obtain ⟨e, he⟩ : ∃ t, es[j]? = some t := ⟨_, List.getElem?_eq_getElem hjl⟩
          obtain ⟨rfl, hGg⟩ := HNE.out (by rintro rfl; simp at hjl)
          obtain ⟨cs, hcs, hEe⟩ := HEL.out j e he
          have heg := Hg.out e (List.mem_of_getElem? he)
          have hcw : ∀ i u, cs[i]? = some u → wr.cell? ⟨g, o + j * 11 + i, none⟩ = some u := fun i u hu =>
            (World.cell?_of_block (HOW2.out.block g (World.block_lt_of_cell? _ _ (hcs i u hu)) (fun e => e))).trans (hcs i u hu)
          have hEw := hEe.same HOW2.out
          obtain ⟨vk, vn, vs, va, vm, vc, rfl, -⟩ := hEw.form
          have e0 := hcw 0 _ rfl
          rw [Nat.add_zero] at e0
          have e1 := hcw 1 _ rfl
          have e2 := hcw 2 _ rfl
          have e3 := hcw 3 _ rfl
          have e4 := hcw 4 _ rfl
          have e5 := hcw 5 _ rfl
          have e6 := hcw 6 _ rfl
          have e7 := hcw 7 _ rfl
          have e8 := hcw 8 _ rfl
          have e9 := hcw 9 _ rfl
          have e10 := hcw 10 _ rfl
          have hgd := HALL.out e (List.mem_of_getElem? he)
          have hrest : ((RdM.of (q ++ ml)).adv ((es.take j).flatMap EM.wr).length).rest = e.wr ++ ((es.drop (j + 1)).flatMap EM.wr ++ ml) := by
            have h1 : q = (es.take j).flatMap EM.wr ++ (es.drop j).flatMap EM.wr := by rw [← List.flatMap_append, List.take_append_drop, hq2]
            rw [adv_rest]
            show ((q ++ ml).drop 0).drop _ = _
            rw [List.drop_zero]
            conv => lhs; rw [h1, List.append_assoc, List.drop_left]
            rw [drop_flat he, List.append_assoc]
          have hev := ev_rt hgd heg (r := (RdM.of (q ++ ml)).adv ((es.take j).flatMap EM.wr).length) rfl hrest
          have hnx : ((es.take j).flatMap EM.wr).length + e.wr.length = ((es.take (j + 1)).flatMap EM.wr).length := by rw [flat_take1 (f := EM.wr) he, List.length_append]
          have hRE := eread_c (HRJ.out.same ((only_new wr (.cells #[.int .i64 e.id, .int .i64 e.tm, .int .i64 e.k, .int .i64 e.a, .int .i64 e.b, .string (strOf e.name), .string (strOf e.text), .int .i64 vk, .int .i64 vn, .string (strOf vs), .slice va vm vc] 28)).drew))
          rw [hev, adv_adv, hnx] at hRE
          have HRE := hid hRE
          have hsame : e.cl.same e = true := (same_iff _ _).2 (by show (⟨e.id, e.tm, e.k, e.a, e.b, e.name, e.text, e.v.cl.cl⟩ : EM) = ⟨e.id, e.tm, e.k, e.a, e.b, e.name, e.text, e.v.cl⟩; rw [cl_cl])
          have hBe := blk_new wr (.cells #[.int .i64 e.id, .int .i64 e.tm, .int .i64 e.k, .int .i64 e.a, .int .i64 e.b, .string (strOf e.name), .string (strOf e.text), .int .i64 vk, .int .i64 vn, .string (strOf vs), .slice va vm vc] 28)
          have hrbn : ¬ wr.heap.size = rb := by have := HRJ.out.lt; omega
          have HEw := hid hEw; have Heg := hid heg; have HSAME := hid hsame; have HBe := hid hBe
          have hcg : e.cl.v.rg := cl_rg _ heg.2.2.2.2.2.2.2
          have HCG := hid hcg
          clear hcs hEe hcw hEw heg hgd hrest hev hnx hRE hsame hBe hcg he hq2
          go_wp2_with fail
          clear e0 e1 e2 e3 e4 e5 e6 e7 e8 e9 e10
          go_region_law (first
            | (refine step_of rfl (wp_callc (o := ⟨some 60, _, _, _, _, _⟩) (f := 23) (args := #[.pointer (some ⟨rb, 0, none⟩)]) (by kernel_rfl) ?_); refine HRE.out.mono ?_; rintro x w10 ⟨cs10, rfl, hev10, hr10, ho10⟩; refine ⟨_, rfl, ?_⟩; obtain ⟨uk, un, us, ua, um, uc, rfl, hx10⟩ := hev10.form; have hb10 := blk_only (w := (wr.alloc (.cells #[.int .i64 e.id, .int .i64 e.tm, .int .i64 e.k, .int .i64 e.a, .int .i64 e.b, .string (strOf e.name), .string (strOf e.text), .int .i64 vk, .int .i64 vn, .string (strOf vs), .slice va vm vc] 28)).drew) HBe.out ho10 hrbn; have d0 : w10.cell? ⟨wr.heap.size, 0, none⟩ = some (.int .i64 e.id) := cell_blk hb10 0; have d1 : w10.cell? ⟨wr.heap.size, 1, none⟩ = some (.int .i64 e.tm) := cell_blk hb10 1; have d2 : w10.cell? ⟨wr.heap.size, 2, none⟩ = some (.int .i64 e.k) := cell_blk hb10 2; have d3 : w10.cell? ⟨wr.heap.size, 3, none⟩ = some (.int .i64 e.a) := cell_blk hb10 3; have d4 : w10.cell? ⟨wr.heap.size, 4, none⟩ = some (.int .i64 e.b) := cell_blk hb10 4; have d5 : w10.cell? ⟨wr.heap.size, 5, none⟩ = some (.string (strOf e.name)) := cell_blk hb10 5; have d6 : w10.cell? ⟨wr.heap.size, 6, none⟩ = some (.string (strOf e.text)) := cell_blk hb10 6; have d7 : w10.cell? ⟨wr.heap.size, 7, none⟩ = some (.int .i64 vk) := cell_blk hb10 7; have d8 : w10.cell? ⟨wr.heap.size, 8, none⟩ = some (.int .i64 vn) := cell_blk hb10 8; have d9 : w10.cell? ⟨wr.heap.size, 9, none⟩ = some (.string (strOf vs)) := cell_blk hb10 9; have d10 : w10.cell? ⟨wr.heap.size, 10, none⟩ = some (.slice va vm vc) := cell_blk hb10 10; have hlb10 := blk_lt hb10; have HR10 := hid hr10; have HEV10 := hid hev10; have HO10 := hid (((only_new wr (.cells #[.int .i64 e.id, .int .i64 e.tm, .int .i64 e.k, .int .i64 e.a, .int .i64 e.b, .string (strOf e.name), .string (strOf e.text), .int .i64 vk, .int .i64 vn, .string (strOf vs), .slice va vm vc] 28)).mono (G := fun k => k = rb) (fun _ _ e => e.elim)).drew.trans ho10 (fun _ _ e => e)); clear hr10 hev10 ho10 hx10 hb10)
            | (refine step_of rfl (wp_callc (o := ⟨some 62, _, _, _, _, _⟩) (f := 9) (args := #[.agg #[.int .i64 e.cl.id, .int .i64 e.cl.tm, .int .i64 e.cl.k, .int .i64 e.cl.a, .int .i64 e.cl.b, .string (strOf e.cl.name), .string (strOf e.cl.text), .int .i64 uk, .int .i64 un, .string (strOf us), .slice ua um uc], .agg #[.int .i64 e.id, .int .i64 e.tm, .int .i64 e.k, .int .i64 e.a, .int .i64 e.b, .string (strOf e.name), .string (strOf e.text), .int .i64 vk, .int .i64 vn, .string (strOf vs), .slice va vm vc]]) (by kernel_rfl) ?_); refine (esame_c (e := e.cl) (f := e) HEV10.out (HEw.out.only HO10.out (fun k hk e => by have := HGl.out k hk; have e' : k = rb := e; omega)) HCG.out Heg.out.2.2.2.2.2.2.2).mono ?_; rintro x w11 ⟨rfl, ho11⟩; rw [HSAME.out]; refine ⟨_, rfl, ?_⟩; have HO11 := hid ho11; clear ho11))
          all_goals
            go_wp2_with fail
            go_roundw
            case rel => exact ⟨j + 1, by go_num, by omega, HR10.out.same HO11.out, HOJ.out.trans (HO10.out.trans (HO11.out.mono (fun _ _ e => e.elim)) (fun _ _ e => e)) (fun _ _ e => e)⟩
            case measure => simp [intOf]; omega
        · have hje2 : j = es.length := by omega
          have hrr : (RdM.of (q ++ ml)).adv ((es.take j).flatMap EM.wr).length = (RdM.of ml).pre q := by
            rw [hje2, List.take_length, HQF.out]; simp [RdM.adv, RdM.of, RdM.pre]
          have hr := HRJ.out
          rw [hrr] at hr
          have HER := hid (rerr_c hr)
          have HLF := hid (rleft_c hr rfl)
          have hll : ((RdM.of ml).pre q).b.length - ((RdM.of ml).pre q).at' = ml.length := by simp [RdM.pre, RdM.of]
          rw [hll] at HLF
          rw [show ((RdM.of ml).pre q).err = 0 from rfl] at HER
          have HR := hid hr
          have hvg := ev_vrg ml
          obtain ⟨x, hx⟩ : ∃ x, (RdM.of ml).ev = x := ⟨_, rfl⟩
          have hev : ((RdM.of ml).pre q).ev = (x.1, x.2.pre q) := by rw [ev_pre, hx]
          rw [hx] at hvg
          have HX := hid hx; have HEVV := hid hev; have HVG := hid hvg
          have hjl3 : ¬ (j : Int) < es.length := by omega
          have hmle : ((ml.length : Int) != (ml.length : Int)) = false := by simp
          have hlt9 := hr.lt
          clear hje2 hrr hr hll hx hev hvg
          go_wp2_with fail
          refine HER.out.mono ?_
          rintro y w9 ⟨rfl, rfl⟩
          go_wp2_with fail
          refine HLF.out.mono ?_
          rintro y w9 ⟨rfl, n9, rfl⟩
          have hRE := eread_c (HR.out.same (only_drewN wr n9))
          rw [HEVV.out] at hRE
          have HRE := hid hRE
          clear hRE
          go_wp2_with fail
          refine HRE.out.mono ?_
          rintro y w10 ⟨cs10, rfl, hev10, hr10, ho10⟩
          obtain ⟨⟨xid, xtm, xk, xa, xb, xn, xt, xv⟩, xr⟩ := x
          simp only at hev10 hr10 HVG
          obtain ⟨vk, vn, vs, va, vm, vc, rfl, -⟩ := hev10.form
          have hs10 := ho10.size
          have hs10 : wr.heap.size ≤ w10.heap.size := hs10
          have HO10 := hid ((HOW2.out.trans (only_drewN wr n9) (fun _ _ e => e)).trans ho10 (fun k hk e => by have e' : k = rb := e; omega))
          have hal := only_new w10 (.cells #[.int .i64 xid, .int .i64 xtm, .int .i64 xk, .int .i64 xa, .int .i64 xb, .string (strOf xn), .string (strOf xt), .int .i64 vk, .int .i64 vn, .string (strOf vs), .slice va vm vc] 28)
          have HRF := hid (read_c (w := w10.alloc (.cells #[.int .i64 xid, .int .i64 xtm, .int .i64 xk, .int .i64 xa, .int .i64 xb, .string (strOf xn), .string (strOf xt), .int .i64 vk, .int .i64 vn, .string (strOf vs), .slice va vm vc] 28)) _ _ (HM.out.same (HO10.out.trans hal (fun _ _ e => e))) (by omega))
          have HB10 := hid (blk_new w10 (.cells #[.int .i64 xid, .int .i64 xtm, .int .i64 xk, .int .i64 xa, .int .i64 xb, .string (strOf xn), .string (strOf xt), .int .i64 vk, .int .i64 vn, .string (strOf vs), .slice va vm vc] 28))
          have HR10 := hid (hr10.same hal); have HEV10 := hid (hev10.same hal)
          have HO11 := hid (HO10.out.trans hal (fun _ _ e => e))
          clear hev10 hr10 ho10 hal
          go_wp2_with fail
          refine HRF.out.mono ?_
          rintro y w12 ⟨fb, fg, rfl, hrf, hfb, hfg, ho12⟩
          simp only [World.size_alloc] at hfb hfg
          have hRE2 := eread_c (hrf.same (Only.refl (fun _ => False) w12).drew)
          rw [HX.out] at hRE2
          have HRE2 := hid hRE2
          have hb12 := blk_only HB10.out ho12 (fun e => e)
          have c0 : w12.cell? ⟨w10.heap.size, 0, none⟩ = some (.int .i64 xid) := cell_blk hb12 0
          have c1 : w12.cell? ⟨w10.heap.size, 1, none⟩ = some (.int .i64 xtm) := cell_blk hb12 1
          have c2 : w12.cell? ⟨w10.heap.size, 2, none⟩ = some (.int .i64 xk) := cell_blk hb12 2
          have c3 : w12.cell? ⟨w10.heap.size, 3, none⟩ = some (.int .i64 xa) := cell_blk hb12 3
          have c4 : w12.cell? ⟨w10.heap.size, 4, none⟩ = some (.int .i64 xb) := cell_blk hb12 4
          have c5 : w12.cell? ⟨w10.heap.size, 5, none⟩ = some (.string (strOf xn)) := cell_blk hb12 5
          have c6 : w12.cell? ⟨w10.heap.size, 6, none⟩ = some (.string (strOf xt)) := cell_blk hb12 6
          have c7 : w12.cell? ⟨w10.heap.size, 7, none⟩ = some (.int .i64 vk) := cell_blk hb12 7
          have c8 : w12.cell? ⟨w10.heap.size, 8, none⟩ = some (.int .i64 vn) := cell_blk hb12 8
          have c9 : w12.cell? ⟨w10.heap.size, 9, none⟩ = some (.string (strOf vs)) := cell_blk hb12 9
          have c10 : w12.cell? ⟨w10.heap.size, 10, none⟩ = some (.slice va vm vc) := cell_blk hb12 10
          have hlb12 := blk_lt hb12
          have HB12 := hid hb12
          have HR12 := hid (HR10.out.same ho12); have HEV12 := hid (HEV10.out.same ho12)
          have HO12 := hid (HO11.out.trans ho12 (fun _ _ e => e))
          have hrbl := HR10.out.lt
          simp only [World.size_alloc] at hrbl
          have hsz12 := HO12.out.size
          clear hRE2 hb12 hrf ho12
          have tt : (xr.err == xr.err) = true := by simp
          have tt2 : ((RdM.pre q xr).err == xr.err) = true := by rw [pre_err]; exact tt
          have HSM2 : Hid ((⟨xid, xtm, xk, xa, xb, xn, xt, xv⟩ : EM).same ⟨xid, xtm, xk, xa, xb, xn, xt, xv⟩ = true) := hid ((same_iff _ _).2 rfl)
          go_wp2_with fail
          go_region_law (first
            | (refine step_of rfl (wp_callc (o := ⟨some 81, _, _, _, _, _⟩) (f := 23) (args := #[.pointer (some ⟨fb, 0, none⟩)]) (by kernel_rfl) ?_); refine HRE2.out.mono ?_; rintro y w13 ⟨cs13, rfl, hev13, hr13, ho13⟩; refine ⟨_, rfl, ?_⟩; simp only at hev13 hr13; obtain ⟨uk, un, us, ua, um, uc, rfl, -⟩ := hev13.form; have hb13 := blk_only (w := w12.drew) HB12.out ho13 (by show ¬ w10.heap.size = fb; omega); have d0 : w13.cell? ⟨w10.heap.size, 0, none⟩ = some (.int .i64 xid) := cell_blk hb13 0; have d1 : w13.cell? ⟨w10.heap.size, 1, none⟩ = some (.int .i64 xtm) := cell_blk hb13 1; have d2 : w13.cell? ⟨w10.heap.size, 2, none⟩ = some (.int .i64 xk) := cell_blk hb13 2; have d3 : w13.cell? ⟨w10.heap.size, 3, none⟩ = some (.int .i64 xa) := cell_blk hb13 3; have d4 : w13.cell? ⟨w10.heap.size, 4, none⟩ = some (.int .i64 xb) := cell_blk hb13 4; have d5 : w13.cell? ⟨w10.heap.size, 5, none⟩ = some (.string (strOf xn)) := cell_blk hb13 5; have d6 : w13.cell? ⟨w10.heap.size, 6, none⟩ = some (.string (strOf xt)) := cell_blk hb13 6; have d7 : w13.cell? ⟨w10.heap.size, 7, none⟩ = some (.int .i64 vk) := cell_blk hb13 7; have d8 : w13.cell? ⟨w10.heap.size, 8, none⟩ = some (.int .i64 vn) := cell_blk hb13 8; have d9 : w13.cell? ⟨w10.heap.size, 9, none⟩ = some (.string (strOf vs)) := cell_blk hb13 9; have d10 : w13.cell? ⟨w10.heap.size, 10, none⟩ = some (.slice va vm vc) := cell_blk hb13 10; have hlb13 := blk_lt hb13; have HR13 := hid hr13; have HEV13 := hid hev13; have HO13 := hid ho13; clear hr13 hev13 ho13 hb13)
            | (refine step_of rfl (wp_callc (o := ⟨some 82, _, _, _, _, _⟩) (f := 9) (args := #[.agg #[.int .i64 xid, .int .i64 xtm, .int .i64 xk, .int .i64 xa, .int .i64 xb, .string (strOf xn), .string (strOf xt), .int .i64 vk, .int .i64 vn, .string (strOf vs), .slice va vm vc], .agg #[.int .i64 xid, .int .i64 xtm, .int .i64 xk, .int .i64 xa, .int .i64 xb, .string (strOf xn), .string (strOf xt), .int .i64 uk, .int .i64 un, .string (strOf us), .slice ua um uc]]) (by kernel_rfl) ?_); refine (esame_c (e := ⟨xid, xtm, xk, xa, xb, xn, xt, xv⟩) (f := ⟨xid, xtm, xk, xa, xb, xn, xt, xv⟩) ((HEV12.out.same (Only.refl (fun _ => False) w12).drew).only HO13.out (fun k hk e => by have e' : k = fb := e; have := hk.2; omega)) HEV13.out HVG.out HVG.out).mono ?_; rintro y w14 ⟨rfl, ho14⟩; rw [HSM2.out]; refine ⟨_, rfl, ?_⟩; have HO14 := hid ho14; have HEA := hid (rerr_c (((HR12.out.same (Only.refl (fun _ => False) w12).drew).only HO13.out (by show ¬ rb = fb; omega) (by show ¬ rg = fb; omega)).same ho14)); have HEB := hid (rerr_c (HR13.out.same ho14)); clear ho14)
            | (refine step_ofg (by kernel_rfl) (wp_callc (o := ⟨some 85, _, _, _, _, _⟩) (f := 24) (args := #[.pointer (some ⟨rb, 0, none⟩)]) (by kernel_rfl) ?_); refine HEA.out.mono ?_; rintro y w15 ⟨rfl, rfl⟩; refine ⟨_, rfl, ?_⟩)
            | (refine step_ofg (by kernel_rfl) (wp_callc (o := ⟨some 87, _, _, _, _, _⟩) (f := 24) (args := #[.pointer (some ⟨fb, 0, none⟩)]) (by kernel_rfl) ?_); refine HEB.out.mono ?_; rintro y w15 ⟨rfl, rfl⟩; refine ⟨_, rfl, ?_⟩))
          all_goals
            go_wp2_with fail
            go_ret
            exact ⟨rfl, (HO12.out.trans ((Only.refl (fun _ => False) w12).drew) (fun _ _ e => e)).trans (HO13.out.trans (HO14.out.mono (fun _ _ e => e.elim)) (fun _ _ e => e)) (fun k hk e => by have e' : k = fb := e; omega)⟩
end
end Go.Proofs.YtdjpapdkbglkmaaDoor
