/- command.All, command.Encode, command.Decode. -/
import Derived.Test.YtfmdngeooelcpaaGreatCmG
import Derived.Test.YtfmdngeooelcpaaGreatFitsC
namespace Go.Proofs.YtfmdngeooelcpaaGreat
open Go.RowKit
section
variable {w : World} {G : Nat → Prop} {es : List EM} {v : Value}
set_option maxRecDepth 100000 in
set_option maxHeartbeats 3200000 in
theorem call_c (hE : CmsV w G v es) (hG : ∀ k, G k → k < w.heap.size) (hg : ∀ e ∈ es, e.rg) (hl : es.length ≤ 9223372036854775807) :
    Calls Tryz.prog 23 #[v] w fun x w' => x = .returned (.int .i64 (cAll es)) ∧ Only (fun _ => False) w w' := by
  obtain ⟨ad, cap, g, o, rfl, hne, hel⟩ := hE
  have HN := hid hne; have HEL := hid hel; have HG := hid hG; have Hg := hid hg
  have HA : Hid (cAll es = if 256 < es.length then 2 else cAllL es) := hid rfl
  clear hne hel hG hg
  by_cases h256 : 256 < (es.length : Int)
  · have HF : Hid (cAll es = 2) := hid (by rw [HA.out, if_pos (by omega)])
    go_enter Tryz.func23, Tryz.ntmps23
    go_wp2_with fail
    go_ret
    rw [HF.out]; exact ⟨rfl, Only.refl _ _⟩
  have HF : Hid (cAll es = cAllL es) := hid (by rw [HA.out, if_neg (by omega)])
  clear HA
  go_enter Tryz.func23, Tryz.ntmps23
  go_wp2_with fail
  go_loopw [11] (fun i wr => ∃ (j : Nat), i = .int .i64 j ∧ j ≤ es.length ∧ cAllL es = cAllL (es.drop j) ∧ Only (fun _ => False) w wr) (fun i _ => es.length - (intOf i).toNat)
  case atStart => exact ⟨0, rfl, Nat.zero_le _, rfl, Only.refl _ _⟩
  case round =>
    obtain ⟨j, rfl, hj, hfj, ho⟩ := hrel
    have HO := hid ho; have HFJ := hid hfj
    have hszo := ho.size
    clear ho hfj
    by_cases hjl : j < es.length
    · have hji : (j : Int) < es.length := by omega
      obtain ⟨e, he⟩ : ∃ t, es[j]? = some t := ⟨_, List.getElem?_eq_getElem hjl⟩
      have hdrop : es.drop j = e :: es.drop (j + 1) := drop_getC he
      obtain ⟨rfl, hGg⟩ := HN.out (by rintro rfl; simp at hjl)
      obtain ⟨cs, hcs, hEe⟩ := HEL.out j e he
      have hrg := Hg.out e (List.mem_of_getElem? he)
      have hcw : ∀ i u, cs[i]? = some u → wr.cell? ⟨g, o + j * 9 + i, none⟩ = some u := fun i u hu =>
        (World.cell?_of_block (HO.out.block g (World.block_lt_of_cell? _ _ (hcs i u hu)) (fun e => e))).trans (hcs i u hu)
      have hEw := hEe.same HO.out
      obtain ⟨vk, vn, vs, va, vm, vc, rfl, hV⟩ := hEw.form
      have e0 := hcw 0 _ rfl
      rw [Nat.add_zero] at e0
      have e1 := hcw 1 _ rfl
      have e2 := hcw 2 _ rfl
      have e3 := hcw 3 _ rfl
      have e4 := hcw 4 _ rfl
      have e5 := hcw 5 _ rfl
      have e6 := hcw 6 _ rfl
      have e7 := hcw 7 _ rfl
      have e8 := hcw 8 _ rfl
      have hal := only_new wr (.cells #[.int .i64 e.k, .int .i64 e.tm, .int .i64 e.a, .int .i64 e.b, .string (strOf e.name), .int .i64 vk, .int .i64 vn, .string (strOf vs), .slice va vm vc] 38)
      have HCK := hid (ccheck_c (hEw.same hal) (fun k hk => by have := HG.out k hk; simp; omega) hrg)
      have HB := hid (blk_new wr (.cells #[.int .i64 e.k, .int .i64 e.tm, .int .i64 e.a, .int .i64 e.b, .string (strOf e.name), .int .i64 vk, .int .i64 vn, .string (strOf vs), .slice va vm vc] 38))
      have HAL := hid hal; have HEW := hid hEw
      have HCS : Hid (cAllL es = if e.cchk ≠ 0 then e.cchk else if cEnds e.k = true ∧ es.drop (j + 1) ≠ [] then 7 else cAllL (es.drop (j + 1))) := hid (by rw [HFJ.out, hdrop, cAllL])
      obtain ⟨ck, hck⟩ : ∃ y, e.cchk = y := ⟨_, rfl⟩
      rw [hck] at HCK HCS
      clear hcs hEe hcw hck hrg he hdrop hV hEw hal
      by_cases hc0 : ck = 0
      · subst hc0
        go_wp2_with fail
        refine HCK.out.mono ?_
        rintro x w5 ⟨rfl, ho5⟩
        have hb5 := blk_only HB.out ho5 (fun e => e)
        have hls : 0 < (es.drop (j + 1)).length ↔ (j : Int) < es.length - 1 := by rw [List.length_drop]; omega
        have hnil : es.drop (j + 1) ≠ [] ↔ (j : Int) < es.length - 1 := by rw [← hls, List.length_pos_iff]
        have HNIL := hid hnil
        have HO5 := hid (HO.out.trans (HAL.out.trans ho5 (fun _ _ e => e)) (fun _ _ e => e))
        have HED := hid (cmends_c (HEW.out.same (HAL.out.trans ho5 (fun _ _ e => e))))
        obtain ⟨ed, hed⟩ : ∃ y, cEnds e.k = y := ⟨_, rfl⟩
        rw [hed] at HED HCS
        have c0 : w5.cell? ⟨wr.heap.size, 0, none⟩ = some (.int .i64 e.k) := cell_blk hb5 0
        have c1 : w5.cell? ⟨wr.heap.size, 1, none⟩ = some (.int .i64 e.tm) := cell_blk hb5 1
        have c2 : w5.cell? ⟨wr.heap.size, 2, none⟩ = some (.int .i64 e.a) := cell_blk hb5 2
        have c3 : w5.cell? ⟨wr.heap.size, 3, none⟩ = some (.int .i64 e.b) := cell_blk hb5 3
        have c4 : w5.cell? ⟨wr.heap.size, 4, none⟩ = some (.string (strOf e.name)) := cell_blk hb5 4
        have c5 : w5.cell? ⟨wr.heap.size, 5, none⟩ = some (.int .i64 vk) := cell_blk hb5 5
        have c6 : w5.cell? ⟨wr.heap.size, 6, none⟩ = some (.int .i64 vn) := cell_blk hb5 6
        have c7 : w5.cell? ⟨wr.heap.size, 7, none⟩ = some (.string (strOf vs)) := cell_blk hb5 7
        have c8 : w5.cell? ⟨wr.heap.size, 8, none⟩ = some (.slice va vm vc) := cell_blk hb5 8
        have hlw := blk_lt hb5
        clear ho5 hb5 hls hnil hed HCK HB HEW HAL
        cases ed with
        | true =>
          by_cases hjn : (j : Int) < es.length - 1
          · have HF2 : Hid (cAllL es = 7) := hid (by rw [HCS.out, if_neg (by simp), if_pos ⟨rfl, HNIL.out.2 hjn⟩])
            go_wp2_with fail
            refine HED.out.mono ?_
            rintro x w6 ⟨rfl, ho6⟩
            have HO6 := hid (HO5.out.trans ho6 (fun _ _ e => e))
            clear ho6 HED
            go_wp2_with fail
            go_ret
            rw [HF.out, HF2.out]; exact ⟨rfl, HO6.out⟩
          · have HF2 : Hid (cAllL es = cAllL (es.drop (j + 1))) := hid (by rw [HCS.out, if_neg (by simp), if_neg (fun h => hjn (HNIL.out.1 h.2))])
            go_wp2_with fail
            refine HED.out.mono ?_
            rintro x w6 ⟨rfl, ho6⟩
            have HO6 := hid (HO5.out.trans ho6 (fun _ _ e => e))
            clear ho6 HED
            go_wp2_with fail
            go_roundw
            case rel => exact ⟨j + 1, by go_num, by omega, HF2.out, HO6.out⟩
            case measure => simp [intOf]; omega
        | false =>
          have HF2 : Hid (cAllL es = cAllL (es.drop (j + 1))) := hid (by rw [HCS.out, if_neg (by simp), if_neg (by simp)])
          go_wp2_with fail
          refine HED.out.mono ?_
          rintro x w6 ⟨rfl, ho6⟩
          have HO6 := hid (HO5.out.trans ho6 (fun _ _ e => e))
          clear ho6 HED
          go_wp2_with fail
          go_roundw
          case rel => exact ⟨j + 1, by go_num, by omega, HF2.out, HO6.out⟩
          case measure => simp [intOf]; omega
      · have hcb : (ck != 0) = true := by simpa using hc0
        have HF2 : Hid (cAllL es = ck) := hid (by rw [HCS.out, if_pos hc0])
        clear hc0
        go_wp2_with fail
        refine HCK.out.mono ?_
        rintro x w5 ⟨rfl, ho5⟩
        have HO5 := hid (HO.out.trans (HAL.out.trans ho5 (fun _ _ e => e)) (fun _ _ e => e))
        clear ho5 HCK
        go_wp2_with fail
        go_ret
        rw [HF.out, HF2.out]; exact ⟨rfl, HO5.out⟩
    · have HF2 : Hid (cAllL es = 0) := hid (by rw [HFJ.out, List.drop_eq_nil_of_le (by omega), cAllL])
      have hjl2 : ¬ (j : Int) < es.length := by omega
      go_wp2_with fail
      go_ret
      rw [HF.out, HF2.out]; exact ⟨rfl, HO.out⟩
theorem ccwr_len {e : EM} (h : e.CGood) (hc : e.isC) : e.cwr.length ≤ 5000 := by
  have hfbl : ∀ c, (e.fb c).length ≤ 1000 := fun c => by
    unfold EM.fb
    have h1 := numB_len e.a.toNat
    have h2 := numB_len e.b.toNat
    have h3 := numB_len e.name.length
    have h4 := numB_len e.text.length
    have h5 := h.nL
    have h6 : e.text.length = 0 := by rw [hc.2]; rfl
    obtain ⟨q9, hwk9, hvl⟩ := chk_walk h.v
    repeat' split
    all_goals first | omega | (unfold textB; rw [List.length_append]; omega) | simp
  have h1 : ∀ l : List UInt8, (l.flatMap e.fb).length ≤ 1000 * l.length := by
    intro l
    induction l with
    | nil => simp
    | cons c l ih => rw [List.flatMap_cons, List.length_append, List.length_cons]; have := hfbl c; omega
  have h2 := h1 (cFlds e.k)
  have h3 := numB_len e.tm.toNat
  have h4 : (cFlds e.k).length ≤ 4 := by rw [flds_of]; repeat' split
                                         all_goals simp
  unfold EM.cwr
  rw [List.length_cons, List.length_append]; omega
/-- What command.Encode leaves. -/
def CEncd (w : World) (es : List EM) (x : Ending) (w' : World) : Prop := ∃ v, x = .returned (.tuple #[v, .int .i64 (cAll es)]) ∧ NewB w w' v (if cAll es = 0 then cwrL es else [])
theorem cfl_len : ∀ {l : List EM}, (∀ e ∈ l, e.CGood ∧ e.isC) → (l.flatMap EM.cwr).length ≤ 5000 * l.length
  | [], _ => by simp
  | e :: l, h => by
    rw [List.flatMap_cons, List.length_append, List.length_cons]
    have h1 := ccwr_len (h e List.mem_cons_self).1 (h e List.mem_cons_self).2
    have h2 := cfl_len (l := l) (fun x hx => h x (List.mem_cons_of_mem _ hx))
    omega
theorem cgood_of {es : List EM} (h : cAll es = 0) : es.length ≤ 256 ∧ ∀ e ∈ es, e.CGood := by
  have hl : es.length ≤ 256 := by unfold cAll at h; by_cases g : 256 < es.length; rw [if_pos g] at h; simp at h; omega
  refine ⟨hl, cAllL_good ?_⟩
  unfold cAll at h
  rwa [if_neg (by omega)] at h
set_option maxRecDepth 100000 in
set_option maxHeartbeats 3200000 in
theorem cencode_c (hE : CmsV w G v es) (hG : ∀ k, G k → k < w.heap.size) (hg : ∀ e ∈ es, e.rg ∧ e.isC) (hl : es.length ≤ 9223372036854775807) :
    Calls Tryz.prog 6 #[v] w (CEncd w es) := by
  have HCA := hid (call_c hE hG (fun e he => (hg e he).1) hl)
  obtain ⟨ad, cap, g, o, rfl, hne, hel⟩ := hE
  have HN := hid hne; have HEL := hid hel; have HG := hid hG; have Hg := hid hg
  obtain ⟨ck, hck⟩ : ∃ y, cAll es = y := ⟨_, rfl⟩
  rw [hck] at HCA
  have HK := hid hck
  clear hck hne hel hG hg
  go_enter Tryz.func6, Tryz.ntmps6
  go_wp2_with fail
  refine HCA.out.mono ?_
  rintro x w1 ⟨rfl, ho1⟩
  have HO1 := hid ho1
  clear ho1 HCA
  by_cases hc0 : ck = 0
  · subst hc0
    obtain ⟨hl6, hgd⟩ := cgood_of HK.out
    have hfl := cfl_len (l := es) (fun e he => ⟨hgd e he, (Hg.out e he).2⟩)
    have HGD := hid hgd
    obtain ⟨wA, hwA⟩ : ∃ x, w1.alloc (.cells #[.slice none 0 0] 87) = x := ⟨_, rfl⟩
    have hWA : Wr wA w1.heap.size (fun k => k = w1.heap.size) [] := by rw [← hwA]; exact Wr.new (blk_new w1 _)
    have hoA : Only (fun _ => False) w wA := by rw [← hwA]; exact HO1.out.trans (only_new _ _) (fun _ _ e => e)
    have hsA : w1.heap.size < wA.heap.size := by rw [← hwA]; simp
    have hs1 := HO1.out.size
    obtain ⟨bw, hbw⟩ : ∃ x, w1.heap.size = x := ⟨_, rfl⟩
    rw [hbw] at hWA hsA hs1
    have HNM := hid (wnum1_c hWA es.length (by omega) (by simp) rfl)
    rw [List.nil_append] at HNM
    have HOA := hid hoA
    clear hWA hoA hgd
    go_wp2_with fail
    refine HNM.out.mono ?_
    rintro x w2 ⟨rfl, hst⟩
    have HST := hid hst
    clear hst HNM hwA hbw
    go_wp2_with fail
    go_loopw [20] (fun i wr => ∃ (j : Nat), i = .int .i64 j ∧ j ≤ es.length ∧ WStep wA wr bw (fun k => k = bw) (numB es.length ++ (es.take j).flatMap EM.cwr)) (fun i _ => es.length - (intOf i).toNat)
    case atStart => exact ⟨0, rfl, Nat.zero_le _, by simpa using HST.out⟩
    case round =>
      obtain ⟨j, rfl, hj, F1, hW1, ho1, hF1⟩ := hrel
      have HOW1 := hid ho1; have HF1 := hid hF1; have HW1 := hid hW1
      have hszo := ho1.size
      by_cases hjl : j < es.length
      · have hji : (j : Int) < es.length := by omega
        have HOW := hid (((HOA.out.mono (G := fun k => k = bw) (fun _ _ e => e.elim)).trans ho1 (fun _ _ e => e)))
        clear ho1 hF1 hW1
        obtain ⟨e, he⟩ : ∃ t, es[j]? = some t := ⟨_, List.getElem?_eq_getElem hjl⟩
        have hdrop : es.drop j = e :: es.drop (j + 1) := drop_getC he
        obtain ⟨rfl, hGg⟩ := HN.out (by rintro rfl; simp at hjl)
        obtain ⟨cs, hcs, hEe⟩ := HEL.out j e he
        have hrg := Hg.out e (List.mem_of_getElem? he)
        have hcw : ∀ i u, cs[i]? = some u → wr.cell? ⟨g, o + j * 9 + i, none⟩ = some u := fun i u hu =>
          (World.cell?_of_block (HOW.out.block g (World.block_lt_of_cell? _ _ (hcs i u hu)) (fun e => by have e' : g = bw := e; have := HG.out g hGg; omega))).trans (hcs i u hu)
        have hEw := hEe.only HOW.out (fun k hk e => by have e' : k = bw := e; have := HG.out k hk; omega)
        obtain ⟨vk, vn, vs, va, vm, vc, rfl, hV⟩ := hEw.form
        have e0 := hcw 0 _ rfl
        rw [Nat.add_zero] at e0
        have e1 := hcw 1 _ rfl
        have e2 := hcw 2 _ rfl
        have e3 := hcw 3 _ rfl
        have e4 := hcw 4 _ rfl
        have e5 := hcw 5 _ rfl
        have e6 := hcw 6 _ rfl
        have e7 := hcw 7 _ rfl
        have e8 := hcw 8 _ rfl
        have hcl := flat_take1 (f := EM.cwr) he
        have hln := flat_le (f := EM.cwr) es j
        have hnb := numB_len es.length
        have hgde := HGD.out e (List.mem_of_getElem? he)
        have hal := only_new wr (.cells #[.int .i64 e.k, .int .i64 e.tm, .int .i64 e.a, .int .i64 e.b, .string (strOf e.name), .int .i64 vk, .int .i64 vn, .string (strOf vs), .slice va vm vc] 38)
        obtain ⟨q, hq⟩ : ∃ q, numB es.length ++ (es.take j).flatMap EM.cwr = q := ⟨_, rfl⟩
        have hnx : numB es.length ++ (es.take (j + 1)).flatMap EM.cwr = q ++ e.cwr := by rw [hcl, ← List.append_assoc, hq]
        have hql : q.length ≤ 900000000 := by rw [← hq, List.length_append]; omega
        rw [hq] at HW1
        have HWR := hid (cwrite_c (HW1.out.same hal) (hEw.same hal) (fun k hk e => by have := HG.out k hk; rcases HF1.out k e with e | e; have e' : k = bw := e; omega; omega) (fun k hk => by have := HG.out k hk; simp; omega) hrg.1 hgde hql)
        have HAL := hid hal; have HNX := hid hnx
        have HLT := hid (fun k (hk : F1 k) => HW1.out.lt hk)
        clear hcs hEe hcw hrg he hdrop hV hEw hal hnx hcl hq hgde
        go_wp2_with fail
        refine HWR.out.mono ?_
        rintro x w5 ⟨rfl, hst5⟩
        have HST5 := hid ((hst5.pre HAL.out HLT.out).comp HOW1.out HF1.out)
        clear hst5 HWR
        go_wp2_with fail
        go_roundw
        case rel => exact ⟨j + 1, by go_num, by omega, by rw [HNX.out]; exact HST5.out⟩
        case measure => simp [intOf]; omega
      · have hje : j = es.length := by omega
        subst hje
        have hq : numB es.length ++ (es.take es.length).flatMap EM.cwr = cwrL es := by rw [List.take_length]; rfl
        rw [hq] at HW1
        have hcl : (cwrL es).length ≤ 1000000000 := by have hnb := numB_len es.length; unfold cwrL; rw [List.length_append]; omega
        have HBY := hid (wbytes_c HW1.out hcl)
        have hjl2 : ¬ (es.length : Int) < es.length := by omega
        have HO5 : Hid (Only (fun _ => False) w wr) := hid (((HOA.out.mono (G := fun k => k = bw) (fun _ _ e => e.elim)).trans ho1 (fun _ _ e => e)).mono (fun k hk e => by have e' : k = bw := e; omega))
        clear ho1 hF1 hW1 hq
        go_wp2_with fail
        refine HBY.out.mono ?_
        rintro x w6 ⟨v, rfl, hv⟩
        have HV := hid hv
        obtain ⟨ao, cp, rfl, -⟩ := hv
        go_wp2_with fail
        go_ret2
        unfold CEncd
        rw [HK.out, if_pos rfl]
        obtain ⟨ao', cp', h1, h2, h3, h4⟩ := HV.out
        exact ⟨_, rfl, ao', cp', h1, h2, fun g hg => Nat.le_trans HO5.out.size (h3 g hg), HO5.out.trans h4 (fun _ _ e => e)⟩
  · have hcb : (ck != 0) = true := by simpa using hc0
    have HC := hid hc0
    clear hc0
    go_wp2_with fail
    go_ret2
    unfold CEncd
    rw [HK.out, if_neg HC.out]
    exact ⟨_, rfl, none, 0, rfl, Gr.nil, by simp, HO1.out⟩
end
end Go.Proofs.YtfmdngeooelcpaaGreat
