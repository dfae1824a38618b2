/- value.Parse. -/
import Derived.Test.YtokefeemhgcmhaaGreatDoorVVal
namespace Go.Proofs.YtokefeemhgcmhaaGreatDoor
open Go.RowKit

section
variable {w : World}
set_option maxRecDepth 100000 in
set_option maxHeartbeats 3200000 in
theorem parse_c (s : List UInt8) (hl : s.length ≤ 1000000000) (hT : Tab w) (hR : Ers w) : Calls Tryz.prog 4 #[.string (strOf s)] w fun e w' => ∃ cs, e = .returned (.tuple #[.agg cs.toArray, .int .i64 (parA s).2]) ∧ VAt w' (New w w') (parA s).1 cs ∧ Only (fun _ => False) w w' := by
  have ho1 := only_new w (.cells #[.int .i64 0, .int .i64 0, .string ⟨#[]⟩, .slice none 0 0] 24)
  have ho2 := only_new (w.alloc (.cells #[.int .i64 0, .int .i64 0, .string ⟨#[]⟩, .slice none 0 0] 24)) (.cells #[.string (strOf s), .int .i64 0, .bool false] 47)
  have ho := ho1.trans ho2 (fun _ _ e => e)
  have hb := blk_new (w.alloc (.cells #[.int .i64 0, .int .i64 0, .string ⟨#[]⟩, .slice none 0 0] 24)) (.cells #[.string (strOf s), .int .i64 0, .bool false] 47)
  rw [World.size_alloc] at hb
  have hz := blk_alloc (o' := .cells #[.string (strOf s), .int .i64 0, .bool false] 47) (blk_new w (.cells #[.int .i64 0, .int .i64 0, .string ⟨#[]⟩, .slice none 0 0] 24))
  obtain ⟨w2, hw2⟩ : ∃ w2, (w.alloc (.cells #[.int .i64 0, .int .i64 0, .string ⟨#[]⟩, .slice none 0 0] 24)).alloc (.cells #[.string (strOf s), .int .i64 0, .bool false] 47) = w2 := ⟨_, rfl⟩
  rw [hw2] at hb hz ho
  have hs2 : w2.heap.size = w.heap.size + 2 := by rw [← hw2]; simp
  have ht : TAt w2 (w.heap.size + 1) s 0 false := ⟨hb, Nat.zero_le _, hl⟩
  have hE : Env (w.heap.size + 1) w2 := fun w' h => by
    have h' := ho.trans h (fun k hk e => by have e' : k = w.heap.size + 1 := e; omega)
    exact ⟨hT.only h', hR.same h'⟩
  have hc := pvalC 8 0 w2 (w.heap.size + 1) s 0 rfl ht hE
  rw [List.drop_zero] at hc
  have hsn := fun d t r => parV_snd 8 s d t r (by omega)
  have hpa : parA s = (match parV 8 s with
    | (true, _) => (.nil, 30)
    | (false, none) => (.nil, 8)
    | (false, some (t, r)) => if r ≠ [] then (.nil, 8) else if t.chk ≠ 0 then (.nil, t.chk) else (t, 0)) := rfl
  have htt := parV_tt 8 s
  have hrst := fun t r => parV_rest 8 s false t r
  obtain ⟨pr, hpr⟩ : ∃ pr, parV 8 s = pr := ⟨_, rfl⟩
  rw [hpr] at hc hpa
  simp only [hpr] at hsn htt hrst
  have HC := hid hc; have HSN := hid hsn; have HO := hid ho; have HZ := hid hz; have HS2 := hid hs2; have HL := hid hl
  have HRST := hid hrst
  obtain ⟨d, o⟩ := pr
  have HW2 := hid hw2
  clear hw2
  clear hc hsn hpr ht hE hb hz ho ho1 ho2 hs2 hT hR hl hrst
  cases o with
  | none =>
    cases d with
    | true =>
      have HPA : Hid (parA s = (.nil, 30)) := hid hpa
      clear hpa htt
      go_enter Tryz.func4, Tryz.ntmps4
      go_wp2_with fail
      rw [HW2.out]
      refine HC.out.mono ?_
      rintro e w3 ⟨⟨k, n, s', a, m, c, a', rfl, ht3⟩, ho3⟩
      obtain ⟨c0, c1, c2, cz, hlb⟩ := (ht3.same (only_new w3 (.cells #[.int .i64 k, .int .i64 n, .string (strOf s'), .slice a m c] 24))).cells
      have HO3 := hid ((HO.out.trans ho3 (fun i hi e => by have e' : i = w.heap.size + 1 := e; omega)).trans (only_new w3 (.cells #[.int .i64 k, .int .i64 n, .string (strOf s'), .slice a m c] 24)) (fun _ _ e => e))
      have HZ3 := hid (blk_alloc (o' := .cells #[.int .i64 k, .int .i64 n, .string (strOf s'), .slice a m c] 24) (blk_only HZ.out ho3 (by show ¬ w.heap.size = w.heap.size + 1; omega)))
      clear ht3 ho3 HC
      go_wp2_with (refine wpList_store_all rfl 24 (.tmp 2) (.tmp 17) rfl w.heap.size #[.int .i64 0, .int .i64 0, .string ⟨#[]⟩, .slice none 0 0] rfl rfl #[.int .i64 0, .int .i64 0, .string ⟨#[]⟩, .slice none 0 0] 24 HZ3.out rfl info_val (val_one _ _ _ _ _ _) ?_; intro w9 hb9 ho9 hs9; have HB9 := hid hb9; have HO9 := hid ho9; have HS9 := hid hs9; clear hb9 ho9 hs9)
      refine bodyPost_ret (results_cell1 rfl _ _ w.heap.size 24 #[.int .i64 0, .int .i64 0, .string ⟨#[]⟩, .slice none 0 0] (0, 0) _ rfl HB9.out Tryz.underlying24 rfl info_val) rfl ?_
      rw [HPA.out]
      exact ⟨_, rfl, novls _ _ 0 0 [], HO3.out.trans HO9.out (fun i hi e => by have e' : i = w.heap.size := e; omega)⟩
    | false =>
      have HPA : Hid (parA s = (.nil, 8)) := hid hpa
      clear hpa htt
      go_enter Tryz.func4, Tryz.ntmps4
      go_wp2_with fail
      rw [HW2.out]
      refine HC.out.mono ?_
      rintro e w3 ⟨⟨k, n, s', a, m, c, a', rfl, ht3⟩, ho3⟩
      obtain ⟨c0, c1, c2, cz, hlb⟩ := (ht3.same (only_new w3 (.cells #[.int .i64 k, .int .i64 n, .string (strOf s'), .slice a m c] 24))).cells
      have HO3 := hid ((HO.out.trans ho3 (fun i hi e => by have e' : i = w.heap.size + 1 := e; omega)).trans (only_new w3 (.cells #[.int .i64 k, .int .i64 n, .string (strOf s'), .slice a m c] 24)) (fun _ _ e => e))
      have HZ3 := hid (blk_alloc (o' := .cells #[.int .i64 k, .int .i64 n, .string (strOf s'), .slice a m c] 24) (blk_only HZ.out ho3 (by show ¬ w.heap.size = w.heap.size + 1; omega)))
      clear ht3 ho3 HC
      go_wp2_with (refine wpList_store_all rfl 24 (.tmp 2) (.tmp 28) rfl w.heap.size #[.int .i64 0, .int .i64 0, .string ⟨#[]⟩, .slice none 0 0] rfl rfl #[.int .i64 0, .int .i64 0, .string ⟨#[]⟩, .slice none 0 0] 24 HZ3.out rfl info_val (val_one _ _ _ _ _ _) ?_; intro w9 hb9 ho9 hs9; have HB9 := hid hb9; have HO9 := hid ho9; have HS9 := hid hs9; clear hb9 ho9 hs9)
      refine bodyPost_ret (results_cell1 rfl _ _ w.heap.size 24 #[.int .i64 0, .int .i64 0, .string ⟨#[]⟩, .slice none 0 0] (0, 0) _ rfl HB9.out Tryz.underlying24 rfl info_val) rfl ?_
      rw [HPA.out]
      exact ⟨_, rfl, novls _ _ 0 0 [], HO3.out.trans HO9.out (fun i hi e => by have e' : i = w.heap.size := e; omega)⟩
  | some x =>
    obtain ⟨t, r⟩ := x
    cases d with
    | true => exact absurd rfl (htt t r)
    | false =>
    obtain ⟨hspr, hcl, hrg, hkd⟩ := HSN.out false t r rfl
    obtain ⟨kk, hk1, hk2, hk3⟩ := HRST.out t r rfl
    have hpa' : parA s = if r ≠ [] then (.nil, 8) else if t.chk ≠ 0 then (.nil, t.chk) else (t, 0) := hpa
    have HRG := hid hrg
    have hrl : r.length ≤ s.length := by rw [hk3, List.length_drop]; omega
    have HRL := hid hrl
    clear hpa htt hspr hcl hkd hk1 hk2 hk3 hrg hrl
    go_enter Tryz.func4, Tryz.ntmps4
    go_wp2_with fail
    rw [HW2.out]
    refine HC.out.mono ?_
    rintro e w3 ⟨⟨cs, rfl, hv3, ht3⟩, ho3⟩
    obtain ⟨k, n, s', a, m, c, rfl⟩ := hv3.form
    have hn3 := only_new w3 (.cells #[.int .i64 k, .int .i64 n, .string (strOf s'), .slice a m c] 24)
    obtain ⟨c0, c1, c2, cz, hlb⟩ := (ht3.same hn3).cells
    have HO3 := hid ((HO.out.trans ho3 (fun i hi e => by have e' : i = w.heap.size + 1 := e; omega)).trans hn3 (fun _ _ e => e))
    have HZ3 := hid (blk_alloc (o' := .cells #[.int .i64 k, .int .i64 n, .string (strOf s'), .slice a m c] 24) (blk_only HZ.out ho3 (by show ¬ w.heap.size = w.heap.size + 1; omega)))
    have HV3 := hid (hv3.same hn3)
    have hs3 := ho3.size
    have HS3 := hid hs3
    have hsz : (strOf s).size = s.length := rfl
    clear hv3 ht3 ho3 HC hn3 hs3
    by_cases hr : r ≠ []
    · have HPA : Hid (parA s = (.nil, 8)) := hid (by rw [hpa', if_pos hr])
      have hlt : ((s.length - r.length : Nat) : Int) < ((strOf s).size : Int) := by have := List.length_pos_iff.2 hr; have := HRL.out; omega
      have hlt2 : s.length - r.length < (strOf s).size := by omega
      clear hpa' hr hsz
      go_wp2_with (refine wpList_store_all rfl 24 (.tmp 2) (.tmp 28) rfl w.heap.size #[.int .i64 0, .int .i64 0, .string ⟨#[]⟩, .slice none 0 0] rfl rfl #[.int .i64 0, .int .i64 0, .string ⟨#[]⟩, .slice none 0 0] 24 HZ3.out rfl info_val (val_one _ _ _ _ _ _) ?_; intro w9 hb9 ho9 hs9; have HB9 := hid hb9; have HO9 := hid ho9; have HS9 := hid hs9; clear hb9 ho9 hs9)
      refine bodyPost_ret (results_cell1 rfl _ _ w.heap.size 24 #[.int .i64 0, .int .i64 0, .string ⟨#[]⟩, .slice none 0 0] (0, 0) _ rfl HB9.out Tryz.underlying24 rfl info_val) rfl ?_
      rw [HPA.out]
      exact ⟨_, rfl, novls _ _ 0 0 [], HO3.out.trans HO9.out (fun i hi e => by have e' : i = w.heap.size := e; omega)⟩
    have hr' : r = [] := by simpa using hr
    subst hr'
    rw [if_neg hr] at hpa'
    have hlt : ¬ ((s.length - ([] : List UInt8).length : Nat) : Int) < ((strOf s).size : Int) := by simp; omega
    have hlt2 : ¬ s.length - ([] : List UInt8).length < (strOf s).size := by simp; omega
    have HCK := hid (vcheck_c HV3.out (fun i hi => by have := hi.2; simp; omega) HRG.out)
    have HB3 := hid (blk_new w3 (.cells #[.int .i64 k, .int .i64 n, .string (strOf s'), .slice a m c] 24))
    obtain ⟨ck, hck⟩ : ∃ y, t.chk = y := ⟨_, rfl⟩
    rw [hck] at HCK hpa'
    have HPB := hid hpa'
    have HLB3 := hid (show w3.heap.size < (w3.alloc (.cells #[.int .i64 k, .int .i64 n, .string (strOf s'), .slice a m c] 24)).heap.size by simp)
    clear hck hpa' hr hsz
    go_wp2_with fail
    refine HCK.out.mono ?_
    rintro e w5 ⟨rfl, ho5⟩
    have HO5 := hid (HO3.out.trans ho5 (fun _ _ e => e))
    have HZ5 := hid (blk_only HZ3.out ho5 (fun e => e))
    have HV5 := hid (HV3.out.same ho5)
    have hb5 := blk_only HB3.out ho5 (fun e => e)
    have hs5 := ho5.size
    have HS5 := hid hs5
    have d0 : w5.cell? ⟨w3.heap.size, 0, none⟩ = some (.int .i64 k) := cell_blk hb5 0
    have d1 : w5.cell? ⟨w3.heap.size, 1, none⟩ = some (.int .i64 n) := cell_blk hb5 1
    have d2 : w5.cell? ⟨w3.heap.size, 2, none⟩ = some (.string (strOf s')) := cell_blk hb5 2
    have d3 : w5.cell? ⟨w3.heap.size, 3, none⟩ = some (.slice a m c) := cell_blk hb5 3
    clear ho5 hb5 hs5 HCK c0 c1 c2 cz hlb hlt hlt2
    by_cases hc0 : ck = 0
    · subst hc0
      have HPA : Hid (parA s = (t, 0)) := hid (by rw [HPB.out]; simp)
      go_wp2_with (refine wpList_store_all rfl 24 (.tmp 2) (.tmp 35) rfl w.heap.size #[.int .i64 k, .int .i64 n, .string (strOf s'), .slice a m c] rfl rfl #[.int .i64 0, .int .i64 0, .string ⟨#[]⟩, .slice none 0 0] 24 HZ5.out rfl info_val (val_one _ _ _ _ _ _) ?_; intro w9 hb9 ho9 hs9; have HB9 := hid hb9; have HO9 := hid ho9; have HS9 := hid hs9; clear hb9 ho9 hs9)
      refine bodyPost_ret (results_cell1 rfl _ _ w.heap.size 24 #[.int .i64 k, .int .i64 n, .string (strOf s'), .slice a m c] (0, 0) _ rfl HB9.out Tryz.underlying24 rfl info_val) rfl ?_
      rw [HPA.out]
      exact ⟨_, rfl, (HV5.out.only HO9.out (fun i hi e => by have e' : i = w.heap.size := e; have := hi.1; have := HS2.out; omega)).mono (fun i hi => ⟨by have := hi.1; have := HS2.out; omega, by have := hi.2; have := HS9.out; have := HS5.out; have := HLB3.out; omega⟩), HO5.out.trans HO9.out (fun i hi e => by have e' : i = w.heap.size := e; omega)⟩
    · have hcb : (ck != 0) = true := by simpa using hc0
      have HPA : Hid (parA s = (.nil, ck)) := hid (by rw [HPB.out, if_pos hc0])
      clear hc0
      go_wp2_with (refine wpList_store_all rfl 24 (.tmp 2) (.tmp 33) rfl w.heap.size #[.int .i64 0, .int .i64 0, .string ⟨#[]⟩, .slice none 0 0] rfl rfl #[.int .i64 0, .int .i64 0, .string ⟨#[]⟩, .slice none 0 0] 24 HZ5.out rfl info_val (val_one _ _ _ _ _ _) ?_; intro w9 hb9 ho9 hs9; have HB9 := hid hb9; have HO9 := hid ho9; have HS9 := hid hs9; clear hb9 ho9 hs9)
      refine bodyPost_ret (results_cell1 rfl _ _ w.heap.size 24 #[.int .i64 0, .int .i64 0, .string ⟨#[]⟩, .slice none 0 0] (0, 0) _ rfl HB9.out Tryz.underlying24 rfl info_val) rfl ?_
      rw [HPA.out]
      exact ⟨_, rfl, novls _ _ 0 0 [], HO5.out.trans HO9.out (fun i hi e => by have e' : i = w.heap.size := e; omega)⟩
end
end Go.Proofs.YtokefeemhgcmhaaGreatDoor

