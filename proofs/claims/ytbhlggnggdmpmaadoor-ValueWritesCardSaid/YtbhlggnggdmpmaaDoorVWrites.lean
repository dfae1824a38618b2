/- ValueWrites's walk. -/
import Derived.Test.YtbhlggnggdmpmaaDoorOpenW
import Derived.Test.YtbhlggnggdmpmaaDoorVHolds
import Derived.Test.YtbhlggnggdmpmaaDoorRf03
import Derived.Test.YtbhlggnggdmpmaaDoorValC
namespace Go.Proofs.YtbhlggnggdmpmaaDoor
open Go.RowKit

theorem step_ofg {P : Program} {ops : Array Oper} {o : Oper} {a : Act} {w : World} {Q : Exit → Act → World → Prop} {K : Act → World → Prop} {E : Prop} (hg : Region.wanted o (yielded ops a.tmps) = true) (h : o.wp P a w K Q) : if Region.wanted o (yielded ops a.tmps) = true then o.wp P a w K Q else E := by
  rw [if_pos hg]; exact h
theorem drop_get {α : Type} {l : List α} {j : Nat} {c : α} (h : l[j]? = some c) : l.drop j = c :: l.drop (j + 1) := by
  have hl : j < l.length := by
    rcases Nat.lt_or_ge j l.length with g | g
    · exact g
    · rw [List.getElem?_eq_none g] at h; cases h
  rw [List.drop_eq_getElem_cons hl]
  rw [List.getElem?_eq_getElem hl] at h
  rw [Option.some.inj h]
/-- A slice of values. -/
def VsV (w : World) (G : Nat → Prop) (v : Value) (ts : List VT) : Prop :=
  ∃ a c g o, v = .slice a ts.length c ∧ (ts ≠ [] → a = some ⟨g, o, none⟩ ∧ G g) ∧ VLs w G ts g o
theorem vwrs_len {ts : List VT} : ∀ {j : Nat}, j ≤ ts.length → (∀ (i : Nat) (t : VT), i < j → ts[i]? = some t → t.chk = 0) → ((ts.take j).flatMap VT.wr).length ≤ 512 * j
  | 0, _, _ => by simp
  | j + 1, h, hg => by
    have hj : j < ts.length := by omega
    have he : ts[j]? = some ts[j] := List.getElem?_eq_getElem hj
    rw [flat_take1 (f := VT.wr) he, List.length_append]
    have h1 := vwrs_len (j := j) (by omega) (fun i e hi => hg i e (by omega))
    have h2 := (chk_walk (hg j _ (by omega) he)).choose_spec.2
    omega
theorem vwrs_split {ts : List VT} {j : Nat} {t : VT} (h : ts[j]? = some t) : ts.flatMap VT.wr = (ts.take j).flatMap VT.wr ++ (t.wr ++ (ts.drop (j + 1)).flatMap VT.wr) := by
  have h1 : ts = ts.take j ++ ts.drop j := (List.take_append_drop j ts).symm
  conv => lhs; rw [h1]
  rw [List.flatMap_append, drop_get h, List.flatMap_cons]
section
variable {w : World}
set_option maxRecDepth 100000 in
set_option maxHeartbeats 6400000 in
theorem vwrites_c (hT : Tab w) (hR : Ers w) {v : Value} {ts : List VT} {G : Nat → Prop} (hE : VsV w G v ts) (hG : ∀ k, G k → k < w.heap.size) (hg : ∀ t ∈ ts, t.rg) (hel : ts.length ≤ 9223372036854775807) :
    Calls Tryd.prog 3 #[v] w fun x w' => x = .returned (.bool true) ∧ Only (fun _ => False) w w' := by
  have HE := hid hE; have HGl := hid hG; have Hg := hid hg
  have HTL := hid (holds_c hT hR)
  obtain ⟨ad, cap, g, o, rfl, hne, hel3⟩ := hE
  have HNE := hid hne; have HEL := hid hel3
  clear hT hR hG hg hne hel3
  go_enter Tryd.func3, Tryd.ntmps3
  go_wp2_with fail
  refine HTL.out.mono ?_
  rintro x w1 ⟨rfl, ho1⟩
  have HO1 := hid ho1
  have hw1 := ho1.size
  clear ho1 HTL
  by_cases h12 : 12 < (ts.length : Int)
  · go_wp2_with fail
    go_ret
    exact ⟨rfl, HO1.out⟩
  have H12 := hid h12
  have HW0 : Hid (Wr (w1.alloc (.cells #[.slice none 0 0] 26)) w1.heap.size (fun k => k = w1.heap.size) []) := hid (Wr.new (blk_new w1 _))
  have HO3 := hid (HO1.out.trans (only_new w1 (.cells #[.slice none 0 0] 26)) (fun _ _ e => e))
  go_wp2_with fail
  go_loopw [21, 4] (fun i s wr => ∃ j : Nat, i = .int .i64 j ∧ j ≤ ts.length ∧ (∀ (i : Nat) (t : VT), i < j → ts[i]? = some t → t.chk = 0) ∧ s = .int .i64 ((ts.take j).flatMap VT.wr).length ∧ WStep (w1.alloc (.cells #[.slice none 0 0] 26)) wr w1.heap.size (fun k => k = w1.heap.size) ((ts.take j).flatMap VT.wr)) (fun i _ _ => ts.length - (intOf i).toNat)
  case atStart => exact ⟨0, rfl, Nat.zero_le _, fun i e hi => absurd hi (by omega), rfl, HW0.out.step⟩
  case round =>
    obtain ⟨j, rfl, hj, hgd, rfl, hst⟩ := hrel
    have hln := vwrs_len hj hgd
    have HGD := hid hgd
    obtain ⟨F1, hW1, ho1, hF1⟩ := hst
    have hs1 := ho1.size
    simp only [World.size_alloc] at hs1
    have HOW : Hid (Only (fun _ => False) w wr) := hid (HO3.out.trans ho1 (fun k hk e => by have e' : k = w1.heap.size := e; omega))
    obtain ⟨q, hq⟩ : ∃ q, (ts.take j).flatMap VT.wr = q := ⟨_, rfl⟩
    rw [hq] at hW1 hln
    have HQ := hid hq
    have HW1 := hid hW1; have HO1' := hid ho1; have HF1 := hid hF1
    clear hgd hW1 ho1 hF1 hq
    by_cases hjl : j < ts.length
    · rw [HQ.out]
      have hji : (j : Int) < ts.length := by omega
      obtain ⟨t, he⟩ : ∃ t, ts[j]? = some t := ⟨_, List.getElem?_eq_getElem hjl⟩
      obtain ⟨rfl, hGg⟩ := HNE.out (by rintro rfl; simp at hjl)
      obtain ⟨cs, hcs, hEe⟩ := HEL.out.get he
      have heg := Hg.out t (List.mem_of_getElem? he)
      have hcw : ∀ i u, cs[i]? = some u → wr.cell? ⟨g, o + j * 4 + i, none⟩ = some u := fun i u hu =>
        (World.cell?_of_block (HOW.out.block g (World.block_lt_of_cell? _ _ (hcs i u hu)) (fun e => e))).trans (hcs i u hu)
      have hEw := hEe.same HOW.out
      obtain ⟨vk, vn, vs, va, vm, vc, rfl⟩ := hEw.form
      have e0 := hcw 0 _ rfl
      rw [Nat.add_zero] at e0
      have e1 := hcw 1 _ rfl
      have e2 := hcw 2 _ rfl
      have e3 := hcw 3 _ rfl
      have HRC := hid (rfcheck_c (w := wr.alloc (.cells #[.int .i64 vk, .int .i64 vn, .string (strOf vs), .slice va vm vc] 28)) (hEw.same (only_new wr _)) heg)
      have hnx := flat_take1 (f := VT.wr) he
      have hwl := fun h : t.chk = 0 => (chk_walk h).choose_spec.2
      obtain ⟨ck, hck⟩ : ∃ y, t.chk = y := ⟨_, rfl⟩
      rw [hck] at HRC hwl
      have HCK := hid hck; have HEw := hid hEw; have Heg := hid heg; have HNX := hid hnx; have Hhe := hid he
      have HBe := hid (blk_new wr (.cells #[.int .i64 vk, .int .i64 vn, .string (strOf vs), .slice va vm vc] 28))
      clear hcs hEe hcw hEw heg hck hnx he
      by_cases hc0 : ck = 0
      · subst hc0
        have hwl := hwl rfl
        go_wp2_with fail
        refine HRC.out.mono ?_
        rintro x w5 ⟨rfl, ho5⟩
        have ho5' := (only_new wr (.cells #[.int .i64 vk, .int .i64 vn, .string (strOf vs), .slice va vm vc] 28)).trans ho5 (fun _ _ e => e)
        have hb5 := blk_only HBe.out ho5 (fun e => e)
        have c0 : w5.cell? ⟨wr.heap.size, 0, none⟩ = some (.int .i64 vk) := cell_blk hb5 0
        have c1 : w5.cell? ⟨wr.heap.size, 1, none⟩ = some (.int .i64 vn) := cell_blk hb5 1
        have c2 : w5.cell? ⟨wr.heap.size, 2, none⟩ = some (.string (strOf vs)) := cell_blk hb5 2
        have c3 : w5.cell? ⟨wr.heap.size, 3, none⟩ = some (.slice va vm vc) := cell_blk hb5 3
        have hlb5 := blk_lt hb5
        have HEV := hid (vwrite_c (b := w1.heap.size) (F := F1) (G := G) (HW1.out.same ho5') (HEw.out.same ho5') (fun k hk e => by have := HGl.out k hk; rcases HF1.out k e with e | e; have e' : k = w1.heap.size := e; omega; simp at e; omega) (fun k hk => by have := HGl.out k hk; have := ho5'.size; omega) Heg.out (by omega))
        have HO5 := hid ho5'
        have HB5 := hid hb5
        clear ho5 ho5' hb5 HRC
        go_wp2_with fail
        refine HEV.out.mono ?_
        rintro x w6 ⟨rfl, hst6⟩
        obtain ⟨F6, hW6, ho6, hF6⟩ := hst6
        have hfe : ¬ F1 wr.heap.size := fun e => by have := HW1.out.lt e; omega
        have hb6 := blk_only HB5.out ho6 hfe
        clear c0 c1 c2 c3
        have c0 : w6.cell? ⟨wr.heap.size, 0, none⟩ = some (.int .i64 vk) := cell_blk hb6 0
        have c1 : w6.cell? ⟨wr.heap.size, 1, none⟩ = some (.int .i64 vn) := cell_blk hb6 1
        have c2 : w6.cell? ⟨wr.heap.size, 2, none⟩ = some (.string (strOf vs)) := cell_blk hb6 2
        have c3 : w6.cell? ⟨wr.heap.size, 3, none⟩ = some (.slice va vm vc) := cell_blk hb6 3
        have hlb6 := blk_lt hb6
        have hoW6 : Only (fun _ => False) w w6 := (HOW.out.trans HO5.out (fun _ _ e => e)).trans ho6 (fun k hk e => by rcases HF1.out k e with e | e; have e' : k = w1.heap.size := e; omega; simp at e; omega)
        have HBY := hid (rfbytes_c (w := w6) ((HEw.out.same HO5.out).only ho6 (fun k hk e => by have := HGl.out k hk; rcases HF1.out k e with e | e; have e' : k = w1.heap.size := e; omega; simp at e; omega)) Heg.out (by omega))
        have HST6 : Hid (WStep (w1.alloc (.cells #[.slice none 0 0] 26)) w6 w1.heap.size (fun k => k = w1.heap.size) (q ++ t.wr)) := hid (((WStep.pre HO5.out ⟨F6, hW6, ho6, hF6⟩ (fun k hk => HW1.out.lt hk))).comp HO1'.out HF1.out)
        obtain ⟨ew, hew⟩ : ∃ x, t.wr = x := ⟨_, rfl⟩
        have hwe : ew.length ≤ 512 := by rw [← hew]; exact (chk_walk HCK.out).choose_spec.2
        rw [hew] at HBY HST6 hwl
        have HNX2 : Hid ((ts.take (j + 1)).flatMap VT.wr = q ++ ew) := hid (by rw [HNX.out, HQ.out, hew])
        have hse : (strOf ew).size = ew.length := rfl
        have hqs : q.length + ew.length ≤ 1000000 := by have := H12.out; omega
        clear hW6 ho6 hF6 hb6 hoW6 hew
        go_wp2_with fail
        refine HBY.out.mono ?_
        rintro x w7 ⟨rfl, ho7⟩
        clear c0 c1 c2 c3
        have HO7 := hid ho7
        clear ho7
        go_wp2_with fail
        go_roundw
        case rel => exact ⟨j + 1, by go_num, by omega, fun i e' hi he' => by
          rcases Nat.lt_or_ge i j with h | h
          · exact HGD.out i e' h he'
          · have : i = j := by omega
            subst this
            rw [Hhe.out] at he'
            cases he'; exact HCK.out, by rw [HNX2.out, List.length_append]; go_num, by rw [HNX2.out]; exact HST6.out.same HO7.out⟩
        case measure => simp [intOf]; omega
      · have hcb : (ck != 0) = true := by simpa using hc0
        clear hc0
        go_wp2_with fail
        refine HRC.out.mono ?_
        rintro x w5 ⟨rfl, ho5⟩
        have HO5 := hid ((HOW.out.trans (only_new wr (.cells #[.int .i64 vk, .int .i64 vn, .string (strOf vs), .slice va vm vc] 28)) (fun _ _ e => e)).trans ho5 (fun _ _ e => e))
        clear ho5
        go_wp2_with fail
        go_ret
        exact ⟨rfl, HO5.out⟩
    · have hje : j = ts.length := by omega
      have hall : ∀ t ∈ ts, t.chk = 0 := fun e he => by
        obtain ⟨i, hi⟩ := List.mem_iff_getElem?.1 he
        exact HGD.out i e (by rw [hje]; rcases Nat.lt_or_ge i ts.length with h | h; exact h; rw [List.getElem?_eq_none h] at hi; cases hi) hi
      have htk : ts.take j = ts := by rw [hje, List.take_length]
      have hqf : ts.flatMap VT.wr = q := by rw [← HQ.out, htk]
      have HALL := hid hall; have HQF := hid hqf
      rw [HQ.out]
      have hjl2 : ¬ (j : Int) < ts.length := by omega
      have hql : q.length ≤ 6144 := by omega
      have HLN := hid (wlen_c HW1.out)
      have HBS := hid (wbytes_c HW1.out (by omega))
      have hqb : ((q.length : Int) != q.length) = false := by simp
      clear hall htk hqf hje HQ HGD
      go_wp2_with fail
      refine HLN.out.mono ?_
      rintro x w4 ⟨rfl, rfl⟩
      go_wp2_with fail
      refine HBS.out.mono ?_
      rintro x w5 ⟨v5, rfl, ao5, cp5, rfl, hg5, -, ho5⟩
      have HO5 := hid (HOW.out.trans ho5 (fun _ _ e => e))
      have HRD := hid (read_c _ _ hg5.src (by omega))
      have hw5 := HO5.out.size
      clear hg5 ho5 HBS
      go_wp2_with fail
      refine HRD.out.mono ?_
      rintro x w8 ⟨rb, rg, rfl, hrd, hrb, hrg, ho8⟩
      have HO8 := hid (HO5.out.trans ho8 (fun _ _ e => e))
      have HR8 := hid hrd
      have hlt8 := hrd.lt
      clear hrd ho8 HRD
      go_wp2_with fail
      go_loopw [47] (fun i wr => ∃ j : Nat, i = .int .i64 j ∧ j ≤ ts.length ∧ Rd wr rb rg ((RdM.of q).adv ((ts.take j).flatMap VT.wr).length) ∧ Only (fun k => k = rb) w8 wr) (fun i _ => ts.length - (intOf i).toNat)
      case atStart => exact ⟨0, rfl, Nat.zero_le _, HR8.out, Only.refl _ _⟩
      case round =>
        obtain ⟨j, rfl, hj, hrj, ho⟩ := hrel
        have HRJ := hid hrj
        have HOW2 : Hid (Only (fun _ => False) w wr) := hid (HO8.out.trans ho (fun k hk e => by have e' : k = rb := e; omega))
        have HOJ := hid ho
        clear hrj ho
        by_cases hjl : j < ts.length
        · have hji : (j : Int) < ts.length := by omega
          obtain ⟨t, he⟩ : ∃ t, ts[j]? = some t := ⟨_, List.getElem?_eq_getElem hjl⟩
          obtain ⟨rfl, hGg⟩ := HNE.out (by rintro rfl; simp at hjl)
          obtain ⟨cs, hcs, hEe⟩ := HEL.out.get he
          have heg := Hg.out t (List.mem_of_getElem? he)
          have hck := HALL.out t (List.mem_of_getElem? he)
          have hcw : ∀ i u, cs[i]? = some u → wr.cell? ⟨g, o + j * 4 + i, none⟩ = some u := fun i u hu =>
            (World.cell?_of_block (HOW2.out.block g (World.block_lt_of_cell? _ _ (hcs i u hu)) (fun e => e))).trans (hcs i u hu)
          have hEw := hEe.same HOW2.out
          obtain ⟨vk, vn, vs, va, vm, vc, rfl⟩ := hEw.form
          have e0 := hcw 0 _ rfl
          rw [Nat.add_zero] at e0
          have e1 := hcw 1 _ rfl
          have e2 := hcw 2 _ rfl
          have e3 := hcw 3 _ rfl
          have hnx := flat_take1 (f := VT.wr) he
          have hwl := (chk_walk hck).choose_spec.2
          have hsp := vwrs_split he
          rw [HQF.out] at hsp
          obtain ⟨A, hA⟩ : ∃ x, (ts.take j).flatMap VT.wr = x := ⟨_, rfl⟩
          rw [hA] at HRJ hsp hnx
          have hvr : ((RdM.of q).adv A.length).val = (t.cl, ((RdM.of q).adv A.length).adv t.wr.length) := val_rt (post := (ts.drop (j + 1)).flatMap VT.wr) heg hck rfl (adv_rest' (r := RdM.of q) (by simp only [RdM.of, RdM.rest, List.drop_zero]; exact hsp))
          have hal : A.length ≤ 6144 := by have := congrArg List.length hsp; rw [List.length_append] at this; omega
          rw [adv_adv] at hvr
          obtain ⟨ew, hew⟩ : ∃ x, t.wr = x := ⟨_, rfl⟩
          have HBY := hid (fun (wx : World) (h : VAt wx G t [.int .i64 vk, .int .i64 vn, .string (strOf vs), .slice va vm vc]) => rfbytes_c h heg (by omega))
          simp only [hew] at HBY
          rw [hew] at hvr hnx hwl
          have HRW := hid (HRJ.out.same (only_new wr (.cells #[.int .i64 vk, .int .i64 vn, .string (strOf vs), .slice va vm vc] 28)))
          have HAT := hid (rat_c HRW.out)
          rw [show ((RdM.of q).adv A.length).at' = A.length by simp [RdM.adv, RdM.of]] at HAT
          have HVR := hid (vread_c HRW.out)
          rw [hvr] at HVR
          have HNX := hid hnx; have HEW := hid hEw; have Heg := hid heg
          have HBe := hid (blk_new wr (.cells #[.int .i64 vk, .int .i64 vn, .string (strOf vs), .slice va vm vc] 28))
          have hrlt := HRJ.out.lt
          have hse : (strOf ew).size = ew.length := rfl
          clear hcs hEe hcw hEw heg hck hnx he hsp hvr hA hew
          go_wp2_with fail
          refine HAT.out.mono ?_
          rintro x w9 ⟨rfl, rfl⟩
          go_wp2_with fail
          refine HVR.out.mono ?_
          rintro x w10 ⟨cs10, rfl, hv10, hr10, ho10⟩
          simp only at hv10 hr10
          obtain ⟨uk, un, us, ua, um, uc, rfl⟩ := hv10.form
          have hnn := only_new w10 (.cells #[.int .i64 uk, .int .i64 un, .string (strOf us), .slice ua um uc] 28)
          have HB10 := hid (blk_only (blk_only HBe.out ho10 (by show ¬ wr.heap.size = rb; omega)) hnn (fun e => e))
          have HU10 := hid (blk_new w10 (.cells #[.int .i64 uk, .int .i64 un, .string (strOf us), .slice ua um uc] 28))
          have HUU := hid (hv10.same hnn)
          have HRR := hid (hr10.same hnn)
          have HOX : Hid (Only (fun k => k = rb) wr (w10.alloc (.cells #[.int .i64 uk, .int .i64 un, .string (strOf us), .slice ua um uc] 28))) := hid (((only_new wr (.cells #[.int .i64 vk, .int .i64 vn, .string (strOf vs), .slice va vm vc] 28)).mono (fun _ _ e => e.elim)).trans (ho10.trans (hnn.mono (fun _ _ e => e.elim)) (fun _ _ e => e)) (fun _ _ e => e))
          have HEV := hid (HEW.out.only HOX.out (fun k hk e => by have := HGl.out k hk; have e' : k = rb := e; omega))
          clear hv10 hr10 ho10 hnn HVR
          have hsm := vsame_c (HUU.out.same (Only.refl (fun _ => False) _).drew) (HEV.out.same (Only.refl (fun _ => False) _).drew) (cl_rg _ Heg.out) Heg.out
          rw [show (t.cl.cmp t == 0) = true by rw [cmp_cl]; rfl] at hsm
          have HSM := hid hsm
          have HBV := hid (blk_only HB10.out (Only.refl (fun _ => False) _).drew (fun e => e))
          have HBU := hid (blk_only HU10.out (Only.refl (fun _ => False) _).drew (fun e => e))
          obtain ⟨at2, hat2⟩ : ∃ x, A.length + ew.length = x := ⟨_, rfl⟩
          have HR2 := hid (HRR.out.same (Only.refl (fun _ => False) _).drew)
          have HA2 : Hid (((RdM.of q).adv (A.length + ew.length)).at' = at2) := hid (by simp [RdM.adv, RdM.of]; exact hat2)
          have hs1 : IntKind.i64.wrap ((at2 : Int) - (A.length : Int)) = (ew.length : Int) := (IntWalk.i64_in _ (by omega)).trans (by omega)
          have hs2 : (at2 : Int) - (A.length : Int) = (ew.length : Int) := by omega
          have hs4 : IntKind.i64.wrap (ew.length : Int) = (ew.length : Int) := IntWalk.i64_in _ (by omega)
          have hs3 : ((ew.length : Int) != (ew.length : Int)) = false := by simp
          clear hsm hat2
          have c0 : ((w10.alloc (.cells #[.int .i64 uk, .int .i64 un, .string (strOf us), .slice ua um uc] 28)).drew).cell? ⟨wr.heap.size, 0, none⟩ = some (.int .i64 vk) := cell_blk HBV.out 0
          have c1 : ((w10.alloc (.cells #[.int .i64 uk, .int .i64 un, .string (strOf us), .slice ua um uc] 28)).drew).cell? ⟨wr.heap.size, 1, none⟩ = some (.int .i64 vn) := cell_blk HBV.out 1
          have c2 : ((w10.alloc (.cells #[.int .i64 uk, .int .i64 un, .string (strOf us), .slice ua um uc] 28)).drew).cell? ⟨wr.heap.size, 2, none⟩ = some (.string (strOf vs)) := cell_blk HBV.out 2
          have c3 : ((w10.alloc (.cells #[.int .i64 uk, .int .i64 un, .string (strOf us), .slice ua um uc] 28)).drew).cell? ⟨wr.heap.size, 3, none⟩ = some (.slice va vm vc) := cell_blk HBV.out 3
          have hlv := blk_lt HBV.out
          have d0 : ((w10.alloc (.cells #[.int .i64 uk, .int .i64 un, .string (strOf us), .slice ua um uc] 28)).drew).cell? ⟨w10.heap.size, 0, none⟩ = some (.int .i64 uk) := cell_blk HBU.out 0
          have d1 : ((w10.alloc (.cells #[.int .i64 uk, .int .i64 un, .string (strOf us), .slice ua um uc] 28)).drew).cell? ⟨w10.heap.size, 1, none⟩ = some (.int .i64 un) := cell_blk HBU.out 1
          have d2 : ((w10.alloc (.cells #[.int .i64 uk, .int .i64 un, .string (strOf us), .slice ua um uc] 28)).drew).cell? ⟨w10.heap.size, 2, none⟩ = some (.string (strOf us)) := cell_blk HBU.out 2
          have d3 : ((w10.alloc (.cells #[.int .i64 uk, .int .i64 un, .string (strOf us), .slice ua um uc] 28)).drew).cell? ⟨w10.heap.size, 3, none⟩ = some (.slice ua um uc) := cell_blk HBU.out 3
          have hlu := blk_lt HBU.out
          go_wp2_with fail
          go_region_law (first
            | (refine step_of rfl (wp_callc (o := ⟨some 57, _, _, _, _, _⟩) (f := 13) (args := #[.agg #[.int .i64 uk, .int .i64 un, .string (strOf us), .slice ua um uc], .agg #[.int .i64 vk, .int .i64 vn, .string (strOf vs), .slice va vm vc]]) (by kernel_rfl) ?_); refine HSM.out.mono ?_; rintro x w11 ⟨rfl, ho11⟩; refine ⟨_, rfl, ?_⟩; have HB11 := hid (blk_only HBV.out ho11 (fun e => e)); have HU11 := hid (blk_only HBU.out ho11 (fun e => e)); have HR11 := hid (HR2.out.same ho11); have HO11 := hid (HOX.out.trans (((Only.refl (fun _ => False) _).drew).trans ho11 (fun _ _ e => e)) (fun _ _ e => e.elim)); have HAT2 := hid (rat_c HR11.out); rw [HA2.out] at HAT2; have HBY2 := hid (HBY.out w11 ((HEV.out.same (Only.refl (fun _ => False) _).drew).same ho11)); clear ho11 c0 c1 c2 c3 d0 d1 d2 d3 hlv hlu; have c0 : w11.cell? ⟨wr.heap.size, 0, none⟩ = some (.int .i64 vk) := cell_blk HB11.out 0; have c1 : w11.cell? ⟨wr.heap.size, 1, none⟩ = some (.int .i64 vn) := cell_blk HB11.out 1; have c2 : w11.cell? ⟨wr.heap.size, 2, none⟩ = some (.string (strOf vs)) := cell_blk HB11.out 2; have c3 : w11.cell? ⟨wr.heap.size, 3, none⟩ = some (.slice va vm vc) := cell_blk HB11.out 3; have hlv := blk_lt HB11.out; have d0 : w11.cell? ⟨w10.heap.size, 0, none⟩ = some (.int .i64 uk) := cell_blk HU11.out 0; have d1 : w11.cell? ⟨w10.heap.size, 1, none⟩ = some (.int .i64 un) := cell_blk HU11.out 1; have d2 : w11.cell? ⟨w10.heap.size, 2, none⟩ = some (.string (strOf us)) := cell_blk HU11.out 2; have d3 : w11.cell? ⟨w10.heap.size, 3, none⟩ = some (.slice ua um uc) := cell_blk HU11.out 3; have hlu := blk_lt HU11.out)
            | (refine step_ofg (by kernel_rfl) (wp_callc (o := ⟨some 61, _, _, _, _, _⟩) (f := 11) (args := #[.pointer (some ⟨rb, 0, none⟩)]) (by kernel_rfl) ?_); refine HAT2.out.mono ?_; rintro x w12 ⟨rfl, rfl⟩; refine ⟨_, rfl, ?_⟩)
            | (refine step_ofg (by kernel_rfl) (wp_callc (o := ⟨some 65, _, _, _, _, _⟩) (f := 7) (args := #[.agg #[.int .i64 vk, .int .i64 vn, .string (strOf vs), .slice va vm vc]]) (by kernel_rfl) ?_); refine HBY2.out.mono ?_; rintro x w13 ⟨rfl, ho13⟩; refine ⟨_, rfl, ?_⟩; have HR13 := hid (HR11.out.same ho13); have HO13 := hid (HO11.out.trans (ho13.mono (fun _ _ e => e.elim)) (fun _ _ e => e)); clear ho13))
          all_goals
            go_wp2_with fail
            go_roundw
            case rel => exact ⟨j + 1, by go_num, by omega, by rw [HNX.out, List.length_append]; exact HR13.out, HOJ.out.trans HO13.out (fun _ _ e => e)⟩
            case measure => simp [intOf]; omega
        · have hjl3 : ¬ (j : Int) < ts.length := by omega
          have htj : (ts.take j).flatMap VT.wr = q := by rw [← HQF.out, List.take_of_length_le (by omega)]
          rw [htj] at HRJ
          have HEN := hid (rend_c HRJ.out)
          rw [show ((RdM.of q).adv q.length).done = 0 by simp [RdM.done, RdM.adv, RdM.of]] at HEN
          clear htj
          go_wp2_with fail
          refine HEN.out.mono ?_
          rintro x w9 ⟨rfl, nd, rfl⟩
          go_wp2_with fail
          go_ret
          exact ⟨rfl, HOW2.out.trans (only_drewN _ _) (fun _ _ e => e)⟩
end
section
open Go.ChangeShapes Go.WideShapes Go.ChangeAt
variable {H : Type} {enc : TypeId × Value → H} {W : World} {base : Nat} {spare : Nat → Bool} {held : Bool} {fuel : Nat} {x : DataW H × List MemPlace} {v : Value}
theorem read_vals (h : DataW.trod enc Tryd.prog W base spare held fuel 22 [v] = some x) : ∃ es : List VT, VsV W (fun k => k < W.heap.size) v es ∧ (∀ e ∈ es, e.rg) ∧ es.length ≤ 9223372036854775807 := by
  rcases DataW.trod_slice Tryd.underlying22 h with ⟨hcs, _⟩ | ⟨ad, len, cap, elems, rest, m, hm, hcs, _, _, hlc, hmx, hel, hee, _, _⟩
  · simp at hcs; subst hcs
    exact ⟨[], ⟨none, 0, 0, 0, rfl, by simp, by rw [VLs]; trivial⟩, by simp, by simp⟩
  · simp at hcs; subst hcs
    have hex : ∀ i, ∃ e : VT, i < len → ∃ cs', (∀ j u, cs'[j]? = some u → W.cell? ((ad.add (i * 4)).add j) = some u) ∧ VAt W (fun k => k < W.heap.size) e cs' ∧ e.rg := by
      intro i
      by_cases hi : i < len
      · have h1 := hee i hi
        rw [List.getElem?_eq_getElem (by omega), ocells28] at h1
        obtain ⟨cs', hc1, hc2⟩ := Option.bind_eq_some_iff.1 h1
        obtain ⟨t, ht1, ht2⟩ := read_val _ _ _ hc2
        obtain ⟨_, hl4, hc⟩ := World.cells?_some hc1
        refine ⟨t, fun _ => ⟨cs', fun j u hj => ?_, ht1, ht2⟩⟩
        have hj4 : j < 4 := by
          rcases Nat.lt_or_ge j 4 with h | h
          · exact h
          · rw [List.getElem?_eq_none (by omega)] at hj; cases hj
        rw [hc j hj4]; exact hj
      · exact ⟨VT.nil, fun h => absurd h hi⟩
    obtain ⟨f, hf⟩ := Classical.axiomOfChoice hex
    have hg : ((List.range len).map f) ≠ [] → ∃ g o, ad = ⟨g, o, none⟩ ∧ g < W.heap.size := by
      intro hne
      have h0 : 0 < len := by
        rcases Nat.eq_zero_or_pos len with h | h
        · subst h; exact absurd rfl hne
        · exact h
      obtain ⟨cs', h1, h2, -⟩ := hf 0 h0
      obtain ⟨vk, vn, vs, va, vm, vc, rfl⟩ := h2.form
      have h3 := h1 0 _ rfl
      have hs : ad.spot = none := by have := World.cell?_spot h3; simpa [Addr.add] using this
      obtain ⟨g, o, s⟩ := ad
      simp only at hs
      subst hs
      exact ⟨g, o, rfl, World.block_lt_of_cell? _ _ h3⟩
    refine ⟨(List.range len).map f, ?_, fun e he => ?_, by simp; unfold maxLen at hmx; omega⟩
    · by_cases hne : ((List.range len).map f) = []
      · exact ⟨some ad, cap, 0, 0, by simp, fun e => absurd hne e, by rw [hne, VLs]; trivial⟩
      · obtain ⟨g, o, rfl, hgl⟩ := hg hne
        refine ⟨some ⟨g, o, none⟩, cap, g, o, by simp, fun _ => ⟨rfl, hgl⟩, vls_of fun i e hi => ?_⟩
        have hil : i < len := by
          rcases Nat.lt_or_ge i len with h | h
          · exact h
          · rw [List.getElem?_eq_none (by simpa using h)] at hi; cases hi
        simp only [List.getElem?_map, List.getElem?_range hil, Option.map_some, Option.some.injEq] at hi
        subst hi
        obtain ⟨cs', h1, h2, -⟩ := hf i hil
        exact ⟨cs', fun j u hj => by have := h1 j u hj; rwa [addr_add, addr_add] at this, h2⟩
    · obtain ⟨i, hi, rfl⟩ := List.mem_map.1 he
      obtain ⟨-, -, -, h3⟩ := hf i (by simpa using hi)
      exact h3
end
end Go.Proofs.YtbhlggnggdmpmaaDoor
