/- wire.Reader.End, value.Read. -/
import Derived.Test.YtihidpfkdpjdpaaGreatDoorValG
namespace Go.Proofs.YtihidpfkdpjdpaaGreatDoor
open Go.RowKit
section
variable {w : World}
variable {b g : Nat} {r : RdM}
set_option maxRecDepth 100000 in
theorem rend_c (h : Rd w b g r) : Calls Tryz.prog 48 #[.pointer (some ⟨b, 0, none⟩)] w fun e w' => e = .returned (.int .i64 r.done) ∧ ∃ n, w' = w.drewN n := by
  obtain ⟨cap, hp⟩ := h
  have h0 : w.cell? ⟨b, 0, none⟩ = some (.slice (some ⟨g, 0, none⟩) r.b.length cap) := cell_blk hp.blk 0
  have h1 : w.cell? ⟨b, 1, none⟩ = some (.int .i64 r.at') := cell_blk hp.blk 1
  have h2 : w.cell? ⟨b, 2, none⟩ = some (.int .i64 r.err) := cell_blk hp.blk 2
  have hd : r.done = if r.err = 0 ∧ r.at' < r.b.length then 8 else r.err := rfl
  clear hp
  by_cases he : r.err = 0
  · by_cases hl : r.at' < r.b.length
    · have HD := hid (show r.done = 8 by rw [hd, if_pos ⟨he, hl⟩])
      have hb : (r.err == 0) = true := by simp [he]
      have hl2 : decide (r.at' < r.b.length) = true := by simpa using hl
      clear hd he
      go_enter Tryz.func48, Tryz.ntmps48
      go_wp2
      go_quiet (fail)
      go_wp2
      go_ret
      exact ⟨by rw [HD.out]; rfl, _, rfl⟩
    · have HD := hid (show r.done = r.err by rw [hd, if_neg (fun e => hl e.2)])
      have hb : (r.err == 0) = true := by simp [he]
      have hl2 : decide (r.at' < r.b.length) = false := by simpa using hl
      clear hd he
      go_enter Tryz.func48, Tryz.ntmps48
      go_wp2
      go_quiet (fail)
      go_wp2
      go_ret
      exact ⟨by rw [HD.out]; rfl, _, rfl⟩
  · have HD := hid (show r.done = r.err by rw [hd, if_neg (fun e => he e.1)])
    have hb : (r.err == 0) = false := by simpa using he
    clear hd he
    go_enter Tryz.func48, Tryz.ntmps48
    go_wp2
    go_quiet (fail)
    go_wp2
    go_ret
    exact ⟨by rw [HD.out]; rfl, _, rfl⟩
theorem vread_o {w w2 w9 : World} {b : Nat} (h : Only (fun j => j = b) w w2) (h9 : Only (fun j => j = b ∨ j = w.heap.size) w2 w9) : Only (fun j => j = b) w w9 :=
  h.trans h9 (fun j hj e => by have e' : j = b ∨ j = w.heap.size := e; rcases e' with e' | e'; exact e'; omega)
theorem vread_o1 {w w2 w9 : World} {b : Nat} {o : Obj} (h9 : Only (fun j => j = w.heap.size) (w2.alloc o) w9) : Only (fun j => j = b ∨ j = w.heap.size) w2 w9 :=
  ((only_new w2 o).mono (fun _ _ e => e.elim)).trans h9 (fun _ _ e => .inr e)
theorem vread_mv {w w1 w2 w9 : World} {b : Nat} {o : Obj} {t : VT} {cs : List Value} (hv : VAt w2 (New w1 w2) t cs) (h9 : Only (fun j => j = w.heap.size) (w2.alloc o) w9) (h1 : w.heap.size < w1.heap.size) (_ : Only (fun j => j = b) w w2) (_ : b < w.heap.size) : VAt w9 (New w w9) t cs :=
  ((hv.same (only_new w2 o)).only h9 (fun k hk e => by have e' : k = w.heap.size := e; have := hk.1; omega)).mono (fun k hk => ⟨by have := hk.1; omega, by have := hk.2; have := h9.size; simp at this; omega⟩)
/-- What value.Read leaves. -/
def ValRead (w : World) (b g : Nat) (x : VT × RdM) (e : Ending) (w' : World) : Prop := ∃ cs, e = .returned (.agg cs.toArray) ∧ VAt w' (New w w') x.1 cs ∧ Rd w' b g x.2 ∧ Only (fun k => k = b) w w'
set_option maxRecDepth 100000 in
set_option maxHeartbeats 1600000 in
theorem vread_c (h : Rd w b g r) : Calls Tryz.prog 63 #[.pointer (some ⟨b, 0, none⟩)] w (ValRead w b g r.val) := by
  have hlt := h.lt
  have hlen := h.len
  have hat := h.at0
  have HR := hid h
  have HV : Hid (r.val = (if ((rdV 9 r 0).r.over r.at').err ≠ 0 then .nil else (rdV 9 r 0).t, (rdV 9 r 0).r.over r.at')) := hid rfl
  have HAT := hid (rat_c ((h.same (only_new w (.cells vzero 24))).same (only_new _ (.cells #[.int .i64 0, .int .i64 0] 100))))
  have HRD := hid (readC 8 ((w.alloc (.cells vzero 24)).alloc (.cells #[.int .i64 0, .int .i64 0] 100)) b g (w.heap.size + 1) r 0 0 ((h.same (only_new w _)).same (only_new _ _)) (by have := blk_new (w.alloc (.cells vzero 24)) (.cells #[.int .i64 0, .int .i64 0] 100); rw [World.size_alloc] at this; exact this) (by omega) (by omega) (by omega) (by decide))
  have HZ := hid (blk_alloc (o' := .cells #[.int .i64 0, .int .i64 0] 100) (blk_new w (.cells vzero 24)))
  have HO := hid (((only_new w (.cells vzero 24))).trans (only_new _ (.cells #[.int .i64 0, .int .i64 0] 100)) (fun _ _ e => e))
  obtain ⟨x, hx⟩ : ∃ x, rdV 9 r 0 = x := ⟨_, rfl⟩
  rw [hx] at HV HRD
  clear hx h
  go_enter Tryz.func63, Tryz.ntmps63
  go_wp2_with fail
  refine HAT.out.mono ?_
  rintro e w1 ⟨rfl, rfl⟩
  go_wp2_with fail
  refine HRD.out.mono ?_
  rintro e w2 ⟨cs, rfl, hv, hr, hc, ho⟩
  obtain ⟨k, n, s, a, m, cp, rfl⟩ := hv.form
  have hat2 := hr.at0
  have hlen2 := hr.len
  have hz2 := blk_only HZ.out ho (by show ¬ (w.heap.size = b ∨ w.heap.size = w.heap.size + 1); omega)
  have hs2 := ho.size
  simp at hs2
  have ho2 : Only (fun j => j = b) w w2 := ((HO.out.mono (G := fun j => j = b ∨ j = w.heap.size + 1) (fun _ _ e => e.elim)).trans ho (fun _ _ e => e)).mono (fun j hj e => by have e' : j = b ∨ j = w.heap.size + 1 := e; omega)
  have hb2 : w2.heap.size = w2.heap.size := rfl
  obtain ⟨rd, hrd⟩ : ∃ y, x.r = y := ⟨_, rfl⟩
  rw [hrd] at hr hat2 hlen2 HV
  have HR2 := hid (hr.same (only_new w2 (.cells #[.int .i64 k, .int .i64 n, .string (strOf s), .slice a m cp] 24)))
  have HBX := hid (blk_new w2 (.cells #[.int .i64 k, .int .i64 n, .string (strOf s), .slice a m cp] 24))
  have HER := hid (rerr_c HR2.out)
  have HAT2 := hid (rat_c HR2.out)
  have HV2 := hid hv; have HZ2 := hid hz2; have HO2 := hid ho2
  clear hb2 hv hr hc ho hz2 ho2 hrd HRD HAT
  go_wp2_with fail
  refine HER.out.mono ?_
  rintro e w3 ⟨rfl, rfl⟩
  by_cases he : rd.err = 0
  · have hb : (rd.err == 0) = true := by simp [he]
    have hb2 : (rd.err != 0) = false := by simp [he]
    by_cases h5 : 512 < (rd.at' : Int) - (r.at' : Int)
    · have HF : Hid (r.val = (.nil, rd.fail 2)) := hid (by
        have h1 : rd.over r.at' = rd.fail 2 := by unfold RdM.over; rw [if_pos ⟨he, by omega⟩]
        rw [HV.out, h1, if_pos (fail_ne (by decide))])
      have HFL := hid (rfail_c HR2.out 2)
      have HEN : Hid ((rd.fail 2).err = 2) := hid (by rw [fail_err, if_pos he])
      clear he
      go_wp2_with fail
      refine HAT2.out.mono ?_
      rintro e w4 ⟨rfl, rfl⟩
      go_wp2_with fail
      refine HFL.out.mono ?_
      rintro e w5 ⟨rfl, hr5, ho5⟩
      have HE2 := hid (rerr_c hr5)
      have HR5 := hid hr5
      have hz5 := blk_only (blk_alloc (o' := .cells #[.int .i64 k, .int .i64 n, .string (strOf s), .slice a m cp] 24) HZ2.out) ho5 (by show ¬ w.heap.size = b; omega)
      have HZ5 := hid hz5; have HO5 := hid ho5
      rw [HEN.out] at HE2
      clear hr5 ho5 hz5
      go_wp2_with fail
      refine HE2.out.mono ?_
      rintro e w6 ⟨rfl, rfl⟩
      go_wp2_with (refine wpList_store_all rfl 24 (.tmp 2) (.tmp 25) rfl w.heap.size #[.int .i64 0, .int .i64 0, .string (strOf []), .slice none 0 0] rfl rfl vzero 24 HZ5.out rfl info_val (val_one _ _ _ _ _ _) ?_; intro w9 hb9 ho9 hs9; have HB9 := hid hb9; have HO9 := hid ho9; have HS9 := hid hs9; clear hb9 ho9 hs9)
      refine bodyPost_ret (results_cell_row rfl _ _ w.heap.size 24 #[.int .i64 0, .int .i64 0, .string (strOf []), .slice none 0 0] (0, 0) _ rfl HB9.out Tryz.underlying24 rfl info_val) rfl ?_
      rw [HF.out]
      exact ⟨_, rfl, novls _ _ 0 0 [], HR5.out.only HO9.out (by show ¬ b = w.heap.size; omega) (by show ¬ g = w.heap.size; omega), vread_o HO2.out ((((only_new w2 _).mono (fun _ _ e => e.elim)).trans HO5.out (fun _ _ e => .inl e)).trans HO9.out (fun _ _ e => .inr e))⟩
    · have HF : Hid (r.val = (x.t, rd)) := hid (by
        have h1 : rd.over r.at' = rd := by unfold RdM.over; rw [if_neg (fun e => by omega)]
        rw [HV.out, h1, if_neg (by simp [he])])
      clear he
      go_wp2_with fail
      refine HAT2.out.mono ?_
      rintro e w4 ⟨rfl, rfl⟩
      have HZ5 := hid (blk_alloc (o' := .cells #[.int .i64 k, .int .i64 n, .string (strOf s), .slice a m cp] 24) HZ2.out)
      go_wp2_with fail
      refine HER.out.mono ?_
      rintro e w5 ⟨rfl, rfl⟩
      go_wp2_with (refine wpList_store_all rfl 24 (.tmp 2) (.tmp 26) rfl w.heap.size #[.int .i64 k, .int .i64 n, .string (strOf s), .slice a m cp] rfl rfl vzero 24 HZ5.out rfl info_val (val_one _ _ _ _ _ _) ?_; intro w9 hb9 ho9 hs9; have HB9 := hid hb9; have HO9 := hid ho9; have HS9 := hid hs9; clear hb9 ho9 hs9)
      refine bodyPost_ret (results_cell_row rfl _ _ w.heap.size 24 #[.int .i64 k, .int .i64 n, .string (strOf s), .slice a m cp] (0, 0) _ rfl HB9.out Tryz.underlying24 rfl info_val) rfl ?_
      rw [HF.out]
      exact ⟨_, rfl, vread_mv HV2.out HO9.out (by simp; omega) HO2.out hlt.1, HR2.out.only HO9.out (by show ¬ b = w.heap.size; omega) (by show ¬ g = w.heap.size; omega), vread_o HO2.out (vread_o1 HO9.out)⟩
  · have hb : (rd.err == 0) = false := by simpa using he
    have hb2 : (rd.err != 0) = true := by simpa using he
    have HF : Hid (r.val = (.nil, rd)) := hid (by rw [HV.out, over_err he, if_pos he])
    have HZ5 := hid (blk_alloc (o' := .cells #[.int .i64 k, .int .i64 n, .string (strOf s), .slice a m cp] 24) HZ2.out)
    clear he
    go_wp2_with fail
    refine HER.out.mono ?_
    rintro e w5 ⟨rfl, rfl⟩
    go_wp2_with (refine wpList_store_all rfl 24 (.tmp 2) (.tmp 25) rfl w.heap.size #[.int .i64 0, .int .i64 0, .string (strOf []), .slice none 0 0] rfl rfl vzero 24 HZ5.out rfl info_val (val_one _ _ _ _ _ _) ?_; intro w9 hb9 ho9 hs9; have HB9 := hid hb9; have HO9 := hid ho9; have HS9 := hid hs9; clear hb9 ho9 hs9)
    refine bodyPost_ret (results_cell_row rfl _ _ w.heap.size 24 #[.int .i64 0, .int .i64 0, .string (strOf []), .slice none 0 0] (0, 0) _ rfl HB9.out Tryz.underlying24 rfl info_val) rfl ?_
    rw [HF.out]
    exact ⟨_, rfl, novls _ _ 0 0 [], HR2.out.only HO9.out (by show ¬ b = w.heap.size; omega) (by show ¬ g = w.heap.size; omega), vread_o HO2.out (vread_o1 HO9.out)⟩
end
end Go.Proofs.YtihidpfkdpjdpaaGreatDoor
