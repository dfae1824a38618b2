/- event.Write. -/
import Derived.Test.YtdjpapdkbglkmaaGreatDoorEvK
namespace Go.Proofs.YtdjpapdkbglkmaaGreatDoor
open Go.RowKit

section
variable {w : World} {b : Nat} {F G : Nat → Prop} {bs : List UInt8}
theorem wbyte1_c {w0 w : World} {b : Nat} {F : Nat → Prop} {bs : List UInt8} (h : Wr w0 b F bs) (y : Nat) (hy : y < 256) (hl : bs.length ≤ 999999000) (hw : w = w0.alloc (.cells #[.int .u8 y] 5)) :
    Calls Tryz.prog 62 #[.pointer (some ⟨b, 0, none⟩), .slice (some ⟨w0.heap.size, 0, none⟩) 1 1] w fun e w' => e = .returned (.tuple #[]) ∧ WStep w0 w' b F (bs ++ [UInt8.ofNat y]) := by
  subst hw
  have hs1 : Src (w0.alloc (.cells #[.int .u8 y] 5)) (.slice (some ⟨w0.heap.size, 0, none⟩) 1 1) [UInt8.ofNat y] := by
    refine ⟨_, 1, rfl, fun _ => ⟨_, 0, rfl, fun i u hu => ?_⟩⟩
    rw [Nat.zero_add, cell_blk (blk_new w0 (.cells #[.int .u8 y] 5))]
    have e : (UInt8.ofNat y).toNat = y := by simp; omega
    simpa [bytesV, e] using hu
  exact (wbyte_c (h.same (only_new w0 _)) _ _ hs1 (by simp; omega)).mono fun e w' hh => ⟨hh.1, hh.2.pre (only_new w0 _) (fun k hk => h.lt hk)⟩
theorem wnum2_c {w0 w : World} {b : Nat} {F : Nat → Prop} {bs : List UInt8} (h : Wr w0 b F bs) (n m : Nat) (hn : n < 18446744073709551616) (hm : m < 18446744073709551616) (hl : bs.length ≤ 999999000) (hw : w = w0.alloc (.cells #[.int .u64 n, .int .u64 m] 71)) :
    Calls Tryz.prog 63 #[.pointer (some ⟨b, 0, none⟩), .slice (some ⟨w0.heap.size, 0, none⟩) 2 2] w fun e w' => e = .returned (.tuple #[]) ∧ WStep w0 w' b F (bs ++ (numB n ++ numB m)) := by
  subst hw
  refine (wnum_c (h.same (only_new w0 _)) _ [n, m] (numsV_two (G := fun k => k = w0.heap.size) (blk_new w0 _) hn hm rfl) (fun k hk hf => ?_) (by simp; omega)).mono fun e w' hh => ⟨hh.1, ?_⟩
  · have := h.lt hf
    have hk' : k = w0.heap.size := hk
    omega
  · have := hh.2
    simp only [List.flatMap_cons, List.flatMap_nil, List.append_nil] at this
    exact this.pre (only_new w0 _) (fun k hk => h.lt hk)
theorem flat_take1 {α β : Type} {f : α → List β} {l : List α} {i : Nat} {n : α} (h : l[i]? = some n) : (l.take (i + 1)).flatMap f = (l.take i).flatMap f ++ f n := by
  rw [List.take_add_one, h, List.flatMap_append]; simp
theorem flat_le {α β : Type} {f : α → List β} : ∀ (l : List α) (i : Nat), ((l.take i).flatMap f).length ≤ (l.flatMap f).length
  | [], i => by simp
  | x :: l, 0 => by simp
  | x :: l, i + 1 => by rw [List.take_succ_cons, List.flatMap_cons, List.flatMap_cons, List.length_append, List.length_append]; have := flat_le (f := f) l i; omega
theorem evFlds_mem {k : Int} {c : UInt8} (h : c ∈ evFlds k) : c = 65 ∨ c = 66 ∨ c = 78 ∨ c = 84 ∨ c = 86 := by
  unfold evFlds at h
  by_cases g : 1 ≤ k ∧ k ≤ 21
  · rw [if_pos g] at h
    have hall : ∀ i : Fin 21, ∀ c ∈ (evTab.getD i.val ([], [])).2, c = 65 ∨ c = 66 ∨ c = 78 ∨ c = 84 ∨ c = 86 := by decide
    exact hall ⟨k.toNat - 1, by omega⟩ c h
  · rw [if_neg g] at h; simp at h
theorem evFlds_len (k : Int) : (evFlds k).length ≤ 5 := by
  unfold evFlds
  by_cases g : 1 ≤ k ∧ k ≤ 21
  · rw [if_pos g]
    have hall : ∀ i : Fin 21, (evTab.getD i.val ([], [])).2.length ≤ 5 := by decide
    exact hall ⟨k.toNat - 1, by omega⟩
  · rw [if_neg g]; simp
theorem strOf_at {l : List UInt8} {i : Nat} {c : UInt8} (h : l[i]? = some c) (hi : i < (strOf l).size) : (strOf l)[i] = c := by
  have hi' : i < l.length := hi
  rw [List.getElem?_eq_getElem hi'] at h
  exact Option.some.inj h

set_option maxRecDepth 100000 in
set_option maxHeartbeats 3200000 in
theorem ewrite_c {e : EM} {cs : List Value} (hW : Wr w b F bs) (hE : EAt w G e cs) (hd : ∀ k, G k → ¬ F k) (hG : ∀ k, G k → k < w.heap.size) (hg : e.rg) (hgd : e.Good) (hl : bs.length ≤ 900000000) :
    Calls Tryz.prog 35 #[.pointer (some ⟨b, 0, none⟩), .agg cs.toArray] w fun x w' => x = .returned (.tuple #[]) ∧ WStep w w' b F (bs ++ e.wr) := by
  obtain ⟨vk, vn, vs, va, vm, vc, rfl, hV⟩ := hE.form
  obtain ⟨gid, gtm, gk, ga, gb, gn, gt, gv⟩ := hg
  have Hgv := hid gv; have HV := hid hV; have HD := hid hd; have HGl := hid hG
  have HEN := fun w1 => hid (entry_c (w := w1) e.k gk.1 gk.2)
  have hfb : ¬ F w.heap.size := fun h => by have := hW.lt h; omega
  have HW := hid hW
  have hk := hgd.k
  have hid' := hgd.id
  have htm := hgd.tm
  have ha0 := hgd.a0
  have hb0 := hgd.b0
  have hnl := hgd.nL
  have htl := hgd.tL
  obtain ⟨q9, hwk9, hvl⟩ := chk_walk hgd.v
  have hfm := fun c => @evFlds_mem e.k c
  have hfl := evFlds_len e.k
  have hwr : e.wr = UInt8.ofNat (e.k % 256).toNat :: (numB e.id.toNat ++ (numB e.tm.toNat ++ (evFlds e.k).flatMap e.fb)) := rfl
  have hfbl : ∀ c, (e.fb c).length ≤ 1000 := fun c => by
    unfold EM.fb
    have h1 := numB_len e.a.toNat
    have h2 := numB_len e.b.toNat
    have h3 := numB_len e.name.length
    have h4 := numB_len e.text.length
    repeat' split
    all_goals first | omega | (unfold textB; rw [List.length_append]; omega) | simp
  obtain ⟨nm, hnm⟩ : ∃ x, evName e.k = x := ⟨_, rfl⟩
  obtain ⟨fl, hfl'⟩ : ∃ x, evFlds e.k = x := ⟨_, rfl⟩
  rw [hfl'] at hwr hfl
  simp only [hfl'] at hfm
  simp only [hnm, hfl'] at HEN
  have hfall : ∀ i, ((fl.take i).flatMap e.fb).length ≤ 5000 := fun i => by
    have h1 : ∀ l : List UInt8, (l.flatMap e.fb).length ≤ 1000 * l.length := by
      intro l
      induction l with
      | nil => simp
      | cons c l ih => rw [List.flatMap_cons, List.length_append, List.length_cons]; have := hfbl c; omega
    have h2 := h1 (fl.take i)
    have h3 : (fl.take i).length ≤ fl.length := by rw [List.length_take]; omega
    omega
  obtain ⟨y, hy⟩ : ∃ y, (e.k % 256).toNat = y := ⟨_, rfl⟩
  have hwk : IntKind.u8.wrap e.k = (y : Int) := by rw [IntKind.wrap_u8]; omega
  have hyl : y < 256 := by omega
  rw [hy] at hwr
  obtain ⟨id, tm, k, a, b', name, text, v⟩ := e
  simp only at HEN gid gtm gk ga gb gn gt HV Hgv hk hid' htm ha0 hb0 hnl htl hwk hwr hfall hvl hwk9 ⊢
  obtain ⟨idn, rfl⟩ := Int.eq_ofNat_of_zero_le (by omega : 0 ≤ id)
  obtain ⟨tmn, rfl⟩ := Int.eq_ofNat_of_zero_le (by omega : 0 ≤ tm)
  obtain ⟨an, rfl⟩ := Int.eq_ofNat_of_zero_le ha0
  obtain ⟨bn, rfl⟩ := Int.eq_ofNat_of_zero_le hb0
  have HFA : Hid ((⟨idn, tmn, k, an, bn, name, text, v⟩ : EM).fb 65 = numB an) := hid (by simp [EM.fb])
  have HFB : Hid ((⟨idn, tmn, k, an, bn, name, text, v⟩ : EM).fb 66 = numB bn) := hid (by simp [EM.fb])
  have HFN : Hid ((⟨idn, tmn, k, an, bn, name, text, v⟩ : EM).fb 78 = textB name) := hid (by simp [EM.fb])
  have HFT : Hid ((⟨idn, tmn, k, an, bn, name, text, v⟩ : EM).fb 84 = textB text) := hid (by simp [EM.fb])
  have HFV : Hid ((⟨idn, tmn, k, an, bn, name, text, v⟩ : EM).fb 86 = v.wr) := hid (by simp [EM.fb])
  simp only [Int.toNat_natCast] at hwr
  obtain ⟨fb, hfbe⟩ : ∃ x, (⟨idn, tmn, k, an, bn, name, text, v⟩ : EM).fb = x := ⟨_, rfl⟩
  rw [hfbe] at HFA HFB HFN HFT HFV hwr hfall
  obtain ⟨pre, hpre⟩ : ∃ x, (bs ++ [UInt8.ofNat y]) ++ (numB idn ++ numB tmn) = x := ⟨_, rfl⟩
  have hprel : pre.length ≤ 900000100 := by
    rw [← hpre]; have := numB_len idn; have := numB_len tmn; simp only [List.length_append, List.length_cons, List.length_nil]; omega
  have hgo : bs ++ (⟨idn, tmn, k, an, bn, name, text, v⟩ : EM).wr = pre ++ fl.flatMap fb := by rw [hwr, ← hpre]; simp
  have HGO := hid hgo; have HPRE := hid hpre; have HFM := hid hfm; have HFALL := hid hfall
  clear hE hV hd hG gv hnm hfl' hW hwr hgd hy hpre hgo hfm hfall hfbl gk hfbe
  have hbx : (w.alloc (.cells #[.int .i64 idn, .int .i64 tmn, .int .i64 k, .int .i64 an, .int .i64 bn, .string (strOf name), .string (strOf text), .int .i64 vk, .int .i64 vn, .string (strOf vs), .slice va vm vc] 26)).heap[w.heap.size]? = some (.cells #[.int .i64 idn, .int .i64 tmn, .int .i64 k, .int .i64 an, .int .i64 bn, .string (strOf name), .string (strOf text), .int .i64 vk, .int .i64 vn, .string (strOf vs), .slice va vm vc] 26 (0, 0)) := blk_new w _
  have HBX := hid hbx
  clear hbx
  go_enter Tryz.func35, Tryz.ntmps35
  go_wp2_with fail
  refine (HEN _).out.mono ?_
  rintro x w1 ⟨rfl, n, rfl⟩
  clear HEN
  obtain ⟨wb, hwb⟩ : ∃ wb, ((w.alloc (.cells #[.int .i64 idn, .int .i64 tmn, .int .i64 k, .int .i64 an, .int .i64 bn, .string (strOf name), .string (strOf text), .int .i64 vk, .int .i64 vn, .string (strOf vs), .slice va vm vc] 26)).drewN n) = wb := ⟨_, rfl⟩
  have hob : Only (fun _ => False) w wb := by rw [← hwb]; exact (only_new w _).trans (only_drewN _ n) (fun _ _ e => e)
  have hbb : wb.heap[w.heap.size]? = some (.cells #[.int .i64 idn, .int .i64 tmn, .int .i64 k, .int .i64 an, .int .i64 bn, .string (strOf name), .string (strOf text), .int .i64 vk, .int .i64 vn, .string (strOf vs), .slice va vm vc] 26 (0, 0)) := by rw [← hwb]; exact blk_new w _
  have hsz : wb.heap.size = w.heap.size + 1 := by rw [← hwb]; exact World.size_alloc _ _
  rw [hwb]
  have b2 : wb.cell? ⟨w.heap.size, 2, none⟩ = some (.int .i64 k) := cell_blk hbb 2
  have HWB := hid (HW.out.same hob)
  have HY := hid (wbyte1_c HWB.out y hyl (by omega) rfl)
  have HOB := hid hob; have HBB := hid hbb; have HSZ := hid hsz
  clear hob hbb hwb hsz
  go_wp2_with fail
  refine HY.out.mono ?_
  rintro x w2 ⟨rfl, F1, hW1, ho1, hF1⟩
  have hfbb : ¬ F1 w.heap.size := fun e => by rcases hF1 _ e with e | e; exact hfb e; have := HSZ.out; omega
  have hb2 := blk_only HBB.out ho1 hfb
  have c0 : w2.cell? ⟨w.heap.size, 0, none⟩ = some (.int .i64 idn) := cell_blk hb2 0
  have c1 : w2.cell? ⟨w.heap.size, 1, none⟩ = some (.int .i64 tmn) := cell_blk hb2 1
  have HN2 := hid (wnum2_c hW1 idn tmn (by omega) (by omega) (by simp; omega) rfl)
  rw [HPRE.out] at HN2
  have HO1 := hid ho1; have HF1 := hid hF1; have HB2 := hid hb2
  clear hW1 ho1 hF1 hb2
  go_wp2_with fail
  refine HN2.out.mono ?_
  rintro x w3 ⟨rfl, hst3⟩
  have HST3 : Hid (WStep wb w3 b F pre) := hid (hst3.comp HO1.out HF1.out)
  clear hst3 c0 c1 b2
  have hszl : (strOf fl).size = fl.length := rfl
  go_wp2_with fail
  go_loopw [30] (fun i wr => ∃ j : Nat, i = .int .i64 j ∧ j ≤ (strOf fl).size ∧ WStep wb wr b F (pre ++ (fl.take j).flatMap fb)) (fun i _ => (strOf fl).size - (intOf i).toNat)
  case atStart => exact ⟨0, rfl, Nat.zero_le _, by simpa using HST3.out⟩
  case round =>
    obtain ⟨j, rfl, hj, hst⟩ := hrel
    by_cases hjl : j < (strOf fl).size
    · have hjl' : j < fl.length := hjl
      obtain ⟨c, hc⟩ : ∃ c, fl[j]? = some c := ⟨_, List.getElem?_eq_getElem hjl'⟩
      have hsc := strOf_at hc hjl
      have hcm := HFM.out c (List.mem_of_getElem? hc)
      have hnx := flat_take1 (f := fb) hc
      have hln := HFALL.out j
      obtain ⟨F1, hW1, ho1, hF1⟩ := hst
      have hfbb : ¬ F1 w.heap.size := fun e => by rcases hF1 _ e with e | e; exact hfb e; have := HSZ.out; omega
      have hb2 := blk_only HBB.out ho1 hfb
      have c3 : wr.cell? ⟨w.heap.size, 3, none⟩ = some (.int .i64 an) := cell_blk hb2 3
      have c4 : wr.cell? ⟨w.heap.size, 4, none⟩ = some (.int .i64 bn) := cell_blk hb2 4
      have c5 : wr.cell? ⟨w.heap.size, 5, none⟩ = some (.string (strOf name)) := cell_blk hb2 5
      have c6 : wr.cell? ⟨w.heap.size, 6, none⟩ = some (.string (strOf text)) := cell_blk hb2 6
      have c7 : wr.cell? ⟨w.heap.size, 7, none⟩ = some (.int .i64 vk) := cell_blk hb2 7
      have c8 : wr.cell? ⟨w.heap.size, 8, none⟩ = some (.int .i64 vn) := cell_blk hb2 8
      have c9 : wr.cell? ⟨w.heap.size, 9, none⟩ = some (.string (strOf vs)) := cell_blk hb2 9
      have c10 : wr.cell? ⟨w.heap.size, 10, none⟩ = some (.slice va vm vc) := cell_blk hb2 10
      have hpl : (pre ++ (fl.take j).flatMap fb).length ≤ 900010000 := by rw [List.length_append]; omega
      obtain ⟨q, hq⟩ : ∃ q, pre ++ (fl.take j).flatMap fb = q := ⟨_, rfl⟩
      rw [hq] at hW1 hpl
      have hnx2 : pre ++ (fl.take (j + 1)).flatMap fb = q ++ fb c := by rw [hnx, ← List.append_assoc, hq]
      have HW1 := hid hW1; have HO1 := hid ho1; have HF1 := hid hF1; have HNX := hid hnx2
      clear hc hnx hln hW1 ho1 hF1 hb2 hq hnx2
      rcases hcm with rfl | rfl | rfl | rfl | rfl
      · have hcv : ((((strOf fl)[j]'hjl).toNat : Nat) : Int) = 65 := by rw [hsc]; rfl
        clear hsc
        have HCL := hid (wnum1_c HW1.out an (by omega) (by omega) rfl)
        go_wp2_with fail
        refine HCL.out.mono ?_
        rintro x w5 ⟨rfl, hst5⟩
        have HST5 := hid (hst5.comp HO1.out HF1.out)
        clear hst5
        go_wp2_with fail
        go_roundw
        case rel => exact ⟨j + 1, by go_num, by omega, by rw [HNX.out, HFA.out]; exact HST5.out⟩
        case measure => simp [intOf]; omega
      · have hcv : ((((strOf fl)[j]'hjl).toNat : Nat) : Int) = 66 := by rw [hsc]; rfl
        clear hsc
        have HCL := hid (wnum1_c HW1.out bn (by omega) (by omega) rfl)
        go_wp2_with fail
        refine HCL.out.mono ?_
        rintro x w5 ⟨rfl, hst5⟩
        have HST5 := hid (hst5.comp HO1.out HF1.out)
        clear hst5
        go_wp2_with fail
        go_roundw
        case rel => exact ⟨j + 1, by go_num, by omega, by rw [HNX.out, HFB.out]; exact HST5.out⟩
        case measure => simp [intOf]; omega
      · have hcv : ((((strOf fl)[j]'hjl).toNat : Nat) : Int) = 78 := by rw [hsc]; rfl
        clear hsc
        have HCL := hid (wtext_c HW1.out name (by omega))
        go_wp2_with fail
        refine HCL.out.mono ?_
        rintro x w5 ⟨rfl, hst5⟩
        have HST5 := hid (hst5.comp HO1.out HF1.out)
        clear hst5
        go_wp2_with fail
        go_roundw
        case rel => exact ⟨j + 1, by go_num, by omega, by rw [HNX.out, HFN.out]; exact HST5.out⟩
        case measure => simp [intOf]; omega
      · have hcv : ((((strOf fl)[j]'hjl).toNat : Nat) : Int) = 84 := by rw [hsc]; rfl
        clear hsc
        have HCL := hid (wtext_c HW1.out text (by omega))
        go_wp2_with fail
        refine HCL.out.mono ?_
        rintro x w5 ⟨rfl, hst5⟩
        have HST5 := hid (hst5.comp HO1.out HF1.out)
        clear hst5
        go_wp2_with fail
        go_roundw
        case rel => exact ⟨j + 1, by go_num, by omega, by rw [HNX.out, HFT.out]; exact HST5.out⟩
        case measure => simp [intOf]; omega
      · have hcv : ((((strOf fl)[j]'hjl).toNat : Nat) : Int) = 86 := by rw [hsc]; rfl
        clear hsc
        have HCL := hid (vwrite_c HW1.out ((HV.out.same HOB.out).only HO1.out HD.out) (fun i hi e => by rcases HF1.out i e with e | e; exact HD.out i hi e; have := HGl.out i hi; have := HSZ.out; omega) (fun i hi => by have := HGl.out i hi; have := HSZ.out; have := HO1.out.size; omega) Hgv.out (by omega))
        go_wp2_with fail
        refine HCL.out.mono ?_
        rintro x w5 ⟨rfl, hst5⟩
        have HST5 := hid (hst5.comp HO1.out HF1.out)
        clear hst5
        go_wp2_with fail
        go_roundw
        case rel => exact ⟨j + 1, by go_num, by omega, by rw [HNX.out, HFV.out]; exact HST5.out⟩
        case measure => simp [intOf]; omega
    · have HST := hid hst
      have hje : j = fl.length := by omega
      have htk : fl.take j = fl := by rw [hje, List.take_length]
      have HTK := hid htk
      clear hst htk hje
      go_wp2_with fail
      go_end0
      refine ⟨rfl, ?_⟩
      have h1 := HST.out
      rw [HTK.out, ← HGO.out] at h1
      exact h1.comp (HOB.out.mono (fun _ _ e => e.elim)) (fun _ hk => .inl hk)
end
end Go.Proofs.YtdjpapdkbglkmaaGreatDoor
