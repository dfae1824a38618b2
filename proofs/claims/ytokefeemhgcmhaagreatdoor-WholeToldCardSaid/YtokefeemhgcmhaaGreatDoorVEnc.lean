/- value.Encode, value.Decode. -/
import Derived.Test.YtokefeemhgcmhaaGreatDoorValH
import Derived.Test.YtokefeemhgcmhaaGreatDoorValD
namespace Go.Proofs.YtokefeemhgcmhaaGreatDoor
open Go.RowKit

/-- What value.Encode leaves. -/
def VEncd (w : World) (t : VT) (x : Ending) (w' : World) : Prop := ∃ v, x = .returned (.tuple #[v, .int .i64 t.chk]) ∧ NewB w w' v (if t.chk = 0 then t.wr else [])
section
variable {w : World} {G : Nat → Prop} {t : VT} {cs : List Value}
set_option maxRecDepth 100000 in
set_option maxHeartbeats 1600000 in
theorem vencode_c (hV : VAt w G t cs) (hG : ∀ k, G k → k < w.heap.size) (hg : t.rg) : Calls Tryz.prog 10 #[.agg cs.toArray] w (VEncd w t) := by
  obtain ⟨k, n, s, a, m, c, rfl⟩ := hV.form
  have ho := only_new w (.cells #[.int .i64 k, .int .i64 n, .string (strOf s), .slice a m c] 24)
  have HCK := hid (vcheck_c (hV.same ho) (fun k hk => by have := hG k hk; simp; omega) hg)
  have HE := hid hV; have HO := hid ho; have Hg := hid hg; have HG := hid hG
  have HB := hid (blk_new w (.cells #[.int .i64 k, .int .i64 n, .string (strOf s), .slice a m c] 24))
  obtain ⟨ck, hck⟩ : ∃ y, t.chk = y := ⟨_, rfl⟩
  rw [hck] at HCK
  have HK := hid hck
  clear hck hV ho hg hG
  go_enter Tryz.func10, Tryz.ntmps10
  go_wp2_with fail
  refine HCK.out.mono ?_
  rintro x w2 ⟨rfl, ho2⟩
  have HO2 := hid ho2
  have hb2 := blk_only HB.out ho2 (fun e => e)
  by_cases hc0 : ck = 0
  · subst hc0
    obtain ⟨q9, -, hwl⟩ := chk_walk HK.out
    have c0 : w2.cell? ⟨w.heap.size, 0, none⟩ = some (.int .i64 k) := cell_blk hb2 0
    have c1 : w2.cell? ⟨w.heap.size, 1, none⟩ = some (.int .i64 n) := cell_blk hb2 1
    have c2 : w2.cell? ⟨w.heap.size, 2, none⟩ = some (.string (strOf s)) := cell_blk hb2 2
    have c3 : w2.cell? ⟨w.heap.size, 3, none⟩ = some (.slice a m c) := cell_blk hb2 3
    have hlb := blk_lt hb2
    have how : Only (fun _ => False) w (w2.alloc (.cells #[.slice none 0 0] 54)) := (HO.out.trans HO2.out (fun _ _ e => e)).trans (only_new _ _) (fun _ _ e => e)
    have HW := hid (vwrite_c (w := w2.alloc (.cells #[.slice none 0 0] 54)) (b := w2.heap.size) (bs := []) (G := G) (Wr.new (blk_new w2 _)) (HE.out.same how) (fun j hj e => by have := HG.out j hj; have := HO2.out.size; have e' : j = w2.heap.size := e; omega) (fun j hj => by have := HG.out j hj; have := how.size; omega) Hg.out (by simp; omega))
    rw [List.nil_append] at HW
    have HOW := hid how
    clear ho2 hb2 how
    go_wp2_with fail
    refine HW.out.mono ?_
    rintro x w3 ⟨rfl, F3, hW3, ho3, hF3⟩
    have HBY := hid (wbytes_c hW3 (by omega))
    have HO3 : Hid (Only (fun _ => False) w w3) := hid ((HO.out.trans HO2.out (fun _ _ e => e)).trans (((only_new w2 (.cells #[.slice none 0 0] 54)).mono (G := fun k => k = w2.heap.size) (fun _ _ e => e.elim)).trans ho3 (fun _ _ e => e)) (fun j hj e => by have e' : j = w2.heap.size := e; have := HO2.out.size; simp at this; omega))
    clear hW3 ho3 hF3
    go_wp2_with fail
    refine HBY.out.mono ?_
    rintro x w4 ⟨v, rfl, hv⟩
    have HV := hid hv
    obtain ⟨ao, cp, rfl, -⟩ := hv
    go_wp2_with fail
    go_ret2
    unfold VEncd
    rw [HK.out, if_pos rfl]
    obtain ⟨ao', cp', h1, h2, h3, h4⟩ := HV.out
    exact ⟨_, rfl, ao', cp', h1, h2, fun g hg => Nat.le_trans HO3.out.size (h3 g hg), HO3.out.trans h4 (fun _ _ e => e)⟩
  · have hcb : (ck != 0) = true := by simpa using hc0
    have HC := hid hc0
    clear ho2 hb2 hc0
    go_wp2_with fail
    go_ret2
    unfold VEncd
    rw [HK.out, if_neg HC.out]
    exact ⟨_, rfl, none, 0, rfl, Gr.nil, by simp, HO.out.trans HO2.out (fun _ _ e => e)⟩
/-- What value.Decode answers: the value, the error. -/
def vdR (l : List UInt8) : VT × Int := (if (RdM.of l).val.2.done ≠ 0 then .nil else (RdM.of l).val.1, (RdM.of l).val.2.done)
def VDecd (w : World) (l : List UInt8) (x : Ending) (w' : World) : Prop := ∃ cs, x = .returned (.tuple #[.agg cs.toArray, .int .i64 (vdR l).2]) ∧ VAt w' (New w w') (vdR l).1 cs ∧ Only (fun _ => False) w w'
set_option maxRecDepth 100000 in
set_option maxHeartbeats 1600000 in
theorem vdecode_c {v : Value} {l : List UInt8} (hs : Src w v l) (hl : l.length ≤ 1000000000) : Calls Tryz.prog 11 #[v] w (VDecd w l) := by
  have HR := hid (read_c v l (hs.same (only_new w (.cells #[.int .i64 0, .int .i64 0, .string ⟨#[]⟩, .slice none 0 0] 24))) hl)
  have HZ := hid (blk_new w (.cells #[.int .i64 0, .int .i64 0, .string ⟨#[]⟩, .slice none 0 0] 24))
  have HD : Hid (vdR l = (if (RdM.of l).val.2.done ≠ 0 then .nil else (RdM.of l).val.1, (RdM.of l).val.2.done)) := hid rfl
  obtain ⟨x, hx⟩ : ∃ x, (RdM.of l).val = x := ⟨_, rfl⟩
  rw [hx] at HD
  have HX := hid hx
  obtain ⟨a0, c0, rfl⟩ := hs.len
  clear hs hx hl
  go_enter Tryz.func11, Tryz.ntmps11
  go_wp2_with fail
  refine HR.out.mono ?_
  rintro e w1 ⟨b, g, rfl, hr, hb, hg, ho⟩
  simp at hb hg
  have hlt := hr.lt
  have HE := hid (vread_c hr)
  rw [HX.out] at HE
  have HO1 := hid ((only_new w (.cells #[.int .i64 0, .int .i64 0, .string ⟨#[]⟩, .slice none 0 0] 24)).trans ho (fun _ _ e => e))
  have HZ1 := hid (blk_only HZ.out ho (fun e => e))
  have hs1 := HO1.out.size
  clear hr ho HR
  go_wp2_with fail
  refine HE.out.mono ?_
  rintro e w2 ⟨cs, rfl, hev, hr2, ho2⟩
  obtain ⟨k, n, s, a, m, c, rfl⟩ := hev.form
  obtain ⟨vv, r2⟩ := x
  simp only at hev hr2 HD ⊢
  have ho3 := only_new w2 (.cells (List.toArray [.int .i64 k, .int .i64 n, .string (strOf s), .slice a m c]) 24)
  have HEN := hid (rend_c (hr2.same ho3))
  have HZ3 := hid (blk_alloc (o' := .cells (List.toArray [.int .i64 k, .int .i64 n, .string (strOf s), .slice a m c]) 24) (blk_only HZ1.out ho2 (by show ¬ w.heap.size = b; omega)))
  have HB3 := hid (blk_new w2 (.cells (List.toArray [.int .i64 k, .int .i64 n, .string (strOf s), .slice a m c]) 24))
  have HEV := hid (hev.same ho3)
  have HOW : Hid (Only (fun _ => False) w (w2.alloc (.cells (List.toArray [.int .i64 k, .int .i64 n, .string (strOf s), .slice a m c]) 24))) := hid ((HO1.out.trans ho2 (fun j hj e => by have e' : j = b := e; omega)).trans ho3 (fun _ _ e => e))
  have hs2 := ho2.size
  clear hev hr2 ho2 ho3 HE
  go_wp2_with fail
  refine HEN.out.mono ?_
  rintro e w3 ⟨rfl, nd, rfl⟩
  obtain ⟨wb, hwb⟩ : ∃ wb, ((w2.alloc (.cells #[.int .i64 k, .int .i64 n, .string (strOf s), .slice a m c] 24)).drewN nd) = wb := ⟨_, rfl⟩
  have HZ4 : Hid (wb.heap[w.heap.size]? = some (.cells #[.int .i64 0, .int .i64 0, .string ⟨#[]⟩, .slice none 0 0] 24 (0, 0))) := hid (by rw [← hwb]; exact HZ3.out)
  have hb4 : wb.heap[w2.heap.size]? = some (.cells #[.int .i64 k, .int .i64 n, .string (strOf s), .slice a m c] 24 (0, 0)) := by rw [← hwb]; exact HB3.out
  have HEV4 : Hid (VAt wb (New w1 w2) _ [.int .i64 k, .int .i64 n, .string (strOf s), .slice a m c]) := hid (by rw [← hwb]; exact HEV.out.same (only_drewN _ _))
  have HOW4 : Hid (Only (fun _ => False) w wb) := hid (by rw [← hwb]; exact HOW.out.trans (only_drewN _ _) (fun _ _ e => e))
  have hsb : wb.heap.size = w2.heap.size + 1 := by rw [← hwb]; exact World.size_alloc _ _
  rw [hwb]
  have c0 : wb.cell? ⟨w2.heap.size, 0, none⟩ = some (.int .i64 k) := cell_blk hb4 0
  have c1 : wb.cell? ⟨w2.heap.size, 1, none⟩ = some (.int .i64 n) := cell_blk hb4 1
  have c2 : wb.cell? ⟨w2.heap.size, 2, none⟩ = some (.string (strOf s)) := cell_blk hb4 2
  have c3 : wb.cell? ⟨w2.heap.size, 3, none⟩ = some (.slice a m c) := cell_blk hb4 3
  have HSB := hid hsb
  clear hwb hb4 hsb HZ3 HB3 HEV HOW HEN
  obtain ⟨dn, hdn⟩ : ∃ d, r2.done = d := ⟨_, rfl⟩
  rw [hdn] at HD ⊢
  clear hdn
  by_cases hd0 : dn = 0
  · subst hd0
    have HF : Hid (vdR l = (vv, 0)) := hid (by rw [HD.out]; simp)
    go_wp2_with (refine wpList_store_all rfl 24 (.tmp 2) (.tmp 17) rfl w.heap.size #[.int .i64 k, .int .i64 n, .string (strOf s), .slice a m c] rfl rfl #[.int .i64 0, .int .i64 0, .string ⟨#[]⟩, .slice none 0 0] 24 HZ4.out rfl info_val (val_one _ _ _ _ _ _) ?_; intro w9 hb9 ho9 hs9; have HB9 := hid hb9; have HO9 := hid ho9; have HS9 := hid hs9; clear hb9 ho9 hs9)
    refine bodyPost_ret (results_cell1 rfl _ _ w.heap.size 24 #[.int .i64 k, .int .i64 n, .string (strOf s), .slice a m c] (0, 0) _ rfl HB9.out Tryz.underlying24 rfl info_val) rfl ?_
    unfold VDecd
    rw [HF.out]
    exact ⟨[.int .i64 k, .int .i64 n, .string (strOf s), .slice a m c], rfl, (HEV4.out.only HO9.out (fun i hi e => by have e' : i = w.heap.size := e; have := hi.1; omega)).mono (fun i hi => ⟨by have := hi.1; omega, by have := hi.2; have := HS9.out; have := HSB.out; omega⟩), HOW4.out.trans HO9.out (fun i hi e => by have e' : i = w.heap.size := e; omega)⟩
  · have hdb : (dn != 0) = true := by simpa using hd0
    have HF : Hid (vdR l = (.nil, dn)) := hid (by rw [HD.out, if_pos hd0])
    clear hd0
    go_wp2_with (refine wpList_store_all rfl 24 (.tmp 2) (.tmp 15) rfl w.heap.size #[.int .i64 0, .int .i64 0, .string ⟨#[]⟩, .slice none 0 0] rfl rfl #[.int .i64 0, .int .i64 0, .string ⟨#[]⟩, .slice none 0 0] 24 HZ4.out rfl info_val (val_one _ _ _ _ _ _) ?_; intro w9 hb9 ho9 hs9; have HB9 := hid hb9; have HO9 := hid ho9; have HS9 := hid hs9; clear hb9 ho9 hs9)
    refine bodyPost_ret (results_cell1 rfl _ _ w.heap.size 24 #[.int .i64 0, .int .i64 0, .string ⟨#[]⟩, .slice none 0 0] (0, 0) _ rfl HB9.out Tryz.underlying24 rfl info_val) rfl ?_
    unfold VDecd
    rw [HF.out]
    exact ⟨_, rfl, novls _ _ 0 0 [], HOW4.out.trans HO9.out (fun i hi e => by have e' : i = w.heap.size := e; omega)⟩
end
end Go.Proofs.YtokefeemhgcmhaaGreatDoor

