/- event.Print of an event without texts. -/
import Derived.Test.YtnoopajedgllhaaGreatDoorEvT
import Derived.Test.YtnoopajedgllhaaGreatDoorEvW
import Derived.Test.YtnoopajedgllhaaGreatDoorItoa
namespace Go.Proofs.YtnoopajedgllhaaGreatDoor
open Go.RowKit

section
variable {w : World} {G : Nat → Prop} {e : EM} {cs : List Value}
theorem ft_len (e : EM) (hn : e.name.length ≤ 1000) (ht : e.text.length ≤ 1000) (hv : e.v.pr.length ≤ 1000000) (ha : -9223372036854775808 ≤ e.a ∧ e.a ≤ 9223372036854775807) (hb : -9223372036854775808 ≤ e.b ∧ e.b ≤ 9223372036854775807) (c : UInt8) : (e.ft c).length ≤ 1000001 := by
  have h1 := itoa_len e.a ha.1 ha.2
  have h2 := itoa_len e.b hb.1 hb.2
  have h3 := quo_len e.name
  have h4 := quo_len e.text
  unfold EM.ft
  repeat' split
  all_goals first | (rw [List.length_cons]; omega) | simp
set_option maxRecDepth 100000 in
set_option maxHeartbeats 3200000 in
theorem eprint0_c (hE : EAt w G e cs) (hG : ∀ k, G k → k < w.heap.size) (hg : e.rg) (hT : Tab w) (hn : e.name.length ≤ 1000) (ht : e.text.length ≤ 1000) (hv : e.v.pr.length ≤ 1000000) (hf : ∀ c ∈ evFlds e.k, c = 65 ∨ c = 66) : Calls Tryz.prog 13 #[.agg cs.toArray] w fun x w' => x = .returned (.string (strOf e.pr)) ∧ Only (fun _ => False) w w' := by
  obtain ⟨vk, vn, vs, va, vm, vc, rfl, hV⟩ := hE.form
  obtain ⟨gid, gtm, gk, ga, gb, gn, gt, gv⟩ := hg
  have HV := hid hV; have HGl := hid hG; have Hgv := hid gv
  have HEN := fun w1 => hid (entry_c (w := w1) e.k gk.1 gk.2)
  have hfm := fun c => @evFlds_mem e.k c
  have hfl := evFlds_len e.k
  have hftl := ft_len e hn ht hv ga gb
  have hpr : e.pr = Lib.itoa e.id ++ ([32, 64] ++ (Lib.itoa e.tm ++ ([32] ++ (evName e.k ++ (evFlds e.k).flatMap e.ft)))) := rfl
  have hnl : (evName e.k).length ≤ 100 := evName_len e.k
  obtain ⟨nm, hnm⟩ : ∃ x, evName e.k = x := ⟨_, rfl⟩
  obtain ⟨fl, hfl'⟩ : ∃ x, evFlds e.k = x := ⟨_, rfl⟩
  rw [hnm, hfl'] at hpr
  rw [hnm] at hnl
  rw [hfl'] at hfl
  simp only [hfl'] at hfm hf
  simp only [hnm, hfl'] at HEN
  have HFA : Hid (e.ft 65 = 32 :: Lib.itoa e.a) := hid (by simp [EM.ft])
  have HFB : Hid (e.ft 66 = 32 :: Lib.itoa e.b) := hid (by simp [EM.ft])
  have HFN : Hid (e.ft 78 = 32 :: quo e.name) := hid (by simp [EM.ft])
  have HFT : Hid (e.ft 84 = 32 :: quo e.text) := hid (by simp [EM.ft])
  have HFV : Hid (e.ft 86 = 32 :: e.v.pr) := hid (by simp [EM.ft])
  obtain ⟨ft, hft⟩ : ∃ x, e.ft = x := ⟨_, rfl⟩
  rw [hft] at hpr HFA HFB HFN HFT HFV
  simp only [hft] at hftl
  have hfall : ∀ i, ((fl.take i).flatMap ft).length ≤ 6000000 := fun i => by
    have h1 : ∀ l : List UInt8, (l.flatMap ft).length ≤ 1000001 * l.length := by
      intro l
      induction l with
      | nil => simp
      | cons c l ih => rw [List.flatMap_cons, List.length_append, List.length_cons]; have := hftl c; omega
    have h2 := h1 (fl.take i)
    have h3 : (fl.take i).length ≤ fl.length := by rw [List.length_take]; omega
    omega
  have hil := itoa_len e.id gid.1 gid.2
  have htl := itoa_len e.tm gtm.1 gtm.2
  obtain ⟨epr, hepr⟩ : ∃ x, e.pr = x := ⟨_, rfl⟩
  rw [hepr] at hpr ⊢
  obtain ⟨id, tm, k, a, b', name, text, v⟩ := e
  simp only at HEN gid gtm ga gb gn gt HV Hgv HFA HFB HFN HFT HFV hpr hil htl hn ht hv ⊢
  have HPR := hid hpr; have HFM := hid hfm; have Hf := hid hf; have HFALL := hid hfall; have HT := hid hT; have HFTL := hid hftl
  clear hE hV hG gv hnm hfl' hfm hf hfall gk hft hepr hpr hT hftl
  go_enter Tryz.func13, Tryz.ntmps13
  go_wp2_with fail
  refine (HEN _).out.mono ?_
  rintro x w1 ⟨rfl, n, rfl⟩
  clear HEN
  obtain ⟨wb, hwb⟩ : ∃ wb, ((w.alloc (.cells #[.int .i64 id, .int .i64 tm, .int .i64 k, .int .i64 a, .int .i64 b', .string (strOf name), .string (strOf text), .int .i64 vk, .int .i64 vn, .string (strOf vs), .slice va vm vc] 28)).drewN n) = wb := ⟨_, rfl⟩
  have hob : Only (fun _ => False) w wb := by rw [← hwb]; exact (only_new w _).trans (only_drewN _ n) (fun _ _ e => e)
  have hbb : wb.heap[w.heap.size]? = some (.cells #[.int .i64 id, .int .i64 tm, .int .i64 k, .int .i64 a, .int .i64 b', .string (strOf name), .string (strOf text), .int .i64 vk, .int .i64 vn, .string (strOf vs), .slice va vm vc] 28 (0, 0)) := by rw [← hwb]; exact blk_new w _
  rw [hwb]
  have hTb : Tab wb := HT.out.only hob
  have c0 : wb.cell? ⟨w.heap.size, 0, none⟩ = some (.int .i64 id) := cell_blk hbb 0
  have c1 : wb.cell? ⟨w.heap.size, 1, none⟩ = some (.int .i64 tm) := cell_blk hbb 1
  have hlb := blk_lt hbb
  have HOB := hid hob; have HBB := hid hbb; have HTB := hid hTb
  clear hob hbb hwb hTb
  go_wp2_with fail
  have HIT := fun wc ho => hid (itoaS_c (w := wc) id gid.1 gid.2 (HTB.out.only ho))
  have HFI := fun wc ho => hid (fmt_c (w := wc) tm gtm.1 gtm.2 (HTB.out.only ho))
  have hs0 : ∀ l : List UInt8, (strOf l).size = l.length := fun l => rfl
  obtain ⟨s1, hs1⟩ : ∃ x, Lib.itoa id ++ [32, 64] = x := ⟨_, rfl⟩
  obtain ⟨s2, hs2⟩ : ∃ x, s1 ++ Lib.itoa tm = x := ⟨_, rfl⟩
  obtain ⟨s3, hs3⟩ : ∃ x, s2 ++ [32] = x := ⟨_, rfl⟩
  obtain ⟨s4, hs4⟩ : ∃ x, s3 ++ nm = x := ⟨_, rfl⟩
  have cc1 : strOf (Lib.itoa id) ++ (⟨#[32, 64]⟩ : ByteArray) = strOf s1 := by rw [← hs1]; exact strOf_app _ [32, 64]
  have cc2 : strOf s1 ++ strOf (Lib.itoa tm) = strOf s2 := by rw [← hs2]; exact strOf_app _ _
  have cc3 : strOf s2 ++ (⟨#[32]⟩ : ByteArray) = strOf s3 := by rw [← hs3]; exact strOf_app _ [32]
  have cc4 : strOf s3 ++ strOf nm = strOf s4 := by rw [← hs4]; exact strOf_app _ _
  have l1 : s1.length ≤ 22 := by rw [← hs1, List.length_append]; simp only [List.length_cons, List.length_nil]; omega
  have l2 : s2.length ≤ 42 := by rw [← hs2, List.length_append]; omega
  have l3 : s3.length ≤ 43 := by rw [← hs3, List.length_append]; simp only [List.length_cons, List.length_nil]; omega
  have l4 : s4.length ≤ 143 := by rw [← hs4, List.length_append]; omega
  have z1 : ¬ 9223372036854775807 < (strOf (Lib.itoa id)).size + 2 := by rw [hs0]; omega
  have z2 : ¬ 9223372036854775807 < (strOf s1).size + (strOf (Lib.itoa tm)).size := by rw [hs0, hs0]; omega
  have z3 : ¬ 9223372036854775807 < (strOf s2).size + 1 := by rw [hs0]; omega
  have z4 : ¬ 9223372036854775807 < (strOf s3).size + (strOf nm).size := by rw [hs0, hs0]; omega
  have HS4 : Hid (epr = s4 ++ fl.flatMap ft) := hid (by rw [HPR.out, ← hs4, ← hs3, ← hs2, ← hs1]; simp)
  clear hs0 hs1 hs2 hs3 hs4
  go_cut [5] from 13 to 23 (fun s wx => s = .string (strOf s4) ∧ Only (fun _ => False) wb wx)
  case first =>
   go_region_law (first
    | (refine step_of rfl (wp_callc (o := ⟨some 15, _, _, _, _, _⟩) (f := 41) (args := #[.int .i64 id]) (by kernel_rfl) ?_); refine (HIT _ ((Only.refl _ wb).drew)).out.mono ?_; rintro e w2 ⟨rfl, ho2⟩; refine ⟨_, rfl, ?_⟩; have ho2' := ((Only.refl (fun _ => False) wb).drew).trans ho2 (fun _ _ e => e); have d1 : w2.cell? ⟨w.heap.size, 1, none⟩ = some (.int .i64 tm) := cell_blk (blk_only HBB.out ho2' (fun e => e)) 1; have HO2 := hid ho2'; clear ho2 ho2')
    | (refine step_of rfl (wp_callc (o := ⟨some 19, _, _, _, _, _⟩) (f := 42) (args := #[.int .i64 tm, .int .i64 10]) (by kernel_rfl) ?_); refine (HFI _ HO2.out).out.mono ?_; rintro e w3 ⟨rfl, ho3⟩; refine ⟨_, rfl, ?_⟩; have ho3' := HO2.out.trans ho3 (fun _ _ e => e); have HO3 := hid ho3'; clear ho3 ho3'))
   all_goals
    go_wp2_with fail
    go_meet
    case rel => exact ⟨rfl, HO3.out⟩
  case rest =>
  obtain ⟨rfl, hoc⟩ := hcut
  clear cc1 cc2 cc3 cc4 l1 l2 l3 z1 z2 z3 z4 c0 c1
  have HOC := hid (HOB.out.trans hoc (fun _ _ e => e))
  have HBB2 := hid (blk_only HBB.out hoc (fun e => e))
  have HTB2 := hid (HT.out.only HOC.out)
  clear hoc HBB HTB HOB HT
  have hszl : (strOf fl).size = fl.length := rfl
  go_wp2_with fail
  go_loopw [26, 5] (fun i s wr => ∃ j : Nat, i = .int .i64 j ∧ j ≤ (strOf fl).size ∧ s = .string (strOf (s4 ++ (fl.take j).flatMap ft)) ∧ Only (fun _ => False) wc wr) (fun i _ _ => (strOf fl).size - (intOf i).toNat)
  case atStart => exact ⟨0, rfl, Nat.zero_le _, by simp, Only.refl _ _⟩
  case round =>
    obtain ⟨j, rfl, hj, rfl, ho⟩ := hrel
    have hor := HOC.out.trans ho (fun _ _ e => e)
    have hTr := HTB2.out.only ho
    have hbb := blk_only HBB2.out ho (fun e => e)
    have c3 : wr.cell? ⟨w.heap.size, 3, none⟩ = some (.int .i64 a) := cell_blk hbb 3
    have c4 : wr.cell? ⟨w.heap.size, 4, none⟩ = some (.int .i64 b') := cell_blk hbb 4
    have c5 : wr.cell? ⟨w.heap.size, 5, none⟩ = some (.string (strOf name)) := cell_blk hbb 5
    have c6 : wr.cell? ⟨w.heap.size, 6, none⟩ = some (.string (strOf text)) := cell_blk hbb 6
    have c7 : wr.cell? ⟨w.heap.size, 7, none⟩ = some (.int .i64 vk) := cell_blk hbb 7
    have c8 : wr.cell? ⟨w.heap.size, 8, none⟩ = some (.int .i64 vn) := cell_blk hbb 8
    have c9 : wr.cell? ⟨w.heap.size, 9, none⟩ = some (.string (strOf vs)) := cell_blk hbb 9
    have c10 : wr.cell? ⟨w.heap.size, 10, none⟩ = some (.slice va vm vc) := cell_blk hbb 10
    have hlr := blk_lt hbb
    have HO := hid ho; have HOr := hid hor
    clear ho hor hbb
    by_cases hjl : j < (strOf fl).size
    · have hjl' : j < fl.length := hjl
      obtain ⟨c, hc⟩ : ∃ c, fl[j]? = some c := ⟨_, List.getElem?_eq_getElem hjl'⟩
      have hsc := strOf_at hc hjl
      have hcm := Hf.out c (List.mem_of_getElem? hc)
      have hnx := flat_take1 (f := ft) hc
      have hln := HFALL.out j
      have hft1 := HFTL.out c
      obtain ⟨q, hq⟩ : ∃ q, s4 ++ (fl.take j).flatMap ft = q := ⟨_, rfl⟩
      have hql : q.length ≤ 6000143 := by rw [← hq, List.length_append]; omega
      have hnx : s4 ++ (fl.take (j + 1)).flatMap ft = q ++ ft c := by rw [hnx, ← List.append_assoc, hq]
      have hzz : ¬ 9223372036854775807 < (strOf q).size + (strOf (ft c)).size := by have h1 : (strOf q).size = q.length := rfl; have h2 : (strOf (ft c)).size = (ft c).length := rfl; omega
      rw [hq]
      clear hc hln hft1 hq
      rcases hcm with rfl | rfl
      · have hcv : ((((strOf fl)[j]'hjl).toNat : Nat) : Int) = 65 := by rw [hsc]; rfl
        clear hsc
        have HCL := hid (fmt_c (w := wr) a ga.1 ga.2 hTr)
        have hcc2 : strOf q ++ strOf (ft 65) = strOf (q ++ ft 65) := strOf_app _ _
        rw [HFA.out] at hcc2 hnx hzz
        have hcc1 : (⟨#[32]⟩ : ByteArray) ++ strOf (Lib.itoa a) = strOf (32 :: Lib.itoa a) := strOf_app [32] _
        have hz1 : ¬ 9223372036854775807 < 1 + (strOf (Lib.itoa a)).size := by have : (strOf (32 :: Lib.itoa a)).size = (strOf (Lib.itoa a)).size + 1 := rfl; omega
        have HNX := hid hnx
        clear hnx
        go_wp2_with fail
        refine HCL.out.mono ?_
        rintro x w5 ⟨rfl, ho5⟩
        have HO5 := hid ho5
        clear ho5
        go_wp2_with fail
        go_roundw
        case rel => exact ⟨j + 1, by go_num, by omega, by rw [HNX.out], HO.out.trans HO5.out (fun _ _ e => e)⟩
        case measure => simp [intOf]; omega
      · have hcv : ((((strOf fl)[j]'hjl).toNat : Nat) : Int) = 66 := by rw [hsc]; rfl
        clear hsc
        have HCL := hid (fmt_c (w := wr) b' gb.1 gb.2 hTr)
        have hcc2 : strOf q ++ strOf (ft 66) = strOf (q ++ ft 66) := strOf_app _ _
        rw [HFB.out] at hcc2 hnx hzz
        have hcc1 : (⟨#[32]⟩ : ByteArray) ++ strOf (Lib.itoa b') = strOf (32 :: Lib.itoa b') := strOf_app [32] _
        have hz1 : ¬ 9223372036854775807 < 1 + (strOf (Lib.itoa b')).size := by have : (strOf (32 :: Lib.itoa b')).size = (strOf (Lib.itoa b')).size + 1 := rfl; omega
        have HNX := hid hnx
        clear hnx
        go_wp2_with fail
        refine HCL.out.mono ?_
        rintro x w5 ⟨rfl, ho5⟩
        have HO5 := hid ho5
        clear ho5
        go_wp2_with fail
        go_roundw
        case rel => exact ⟨j + 1, by go_num, by omega, by rw [HNX.out], HO.out.trans HO5.out (fun _ _ e => e)⟩
        case measure => simp [intOf]; omega
    · have hje : j = fl.length := by omega
      have HTK : Hid (epr = s4 ++ (fl.take j).flatMap ft) := hid (by rw [HS4.out, hje, List.take_length])
      clear hje
      go_wp2_with fail
      go_ret
      rw [HTK.out]; exact ⟨rfl, HOr.out⟩
end
end Go.Proofs.YtnoopajedgllhaaGreatDoor
