/- ValueOrder's walk. -/
import Derived.Test.YtbhlggnggdmpmaaGreatDoorVFits
import Derived.Test.YtbhlggnggdmpmaaGreatDoorVDecs
import Derived.Test.YtbhlggnggdmpmaaGreatDoorRf03S
import Derived.Test.YtbhlggnggdmpmaaGreatDoorValC
namespace Go.Proofs.YtbhlggnggdmpmaaGreatDoor
open Go.RowKit

theorem chk_kdv {t : VT} (h : t.chk = 0) : t.kd := by
  unfold VT.chk at h
  by_cases h1 : (t.walk 0 0 0).2 = 0
  · exact walk_kd t 0 0 _ (Prod.ext rfl h1)
  · rw [if_pos h1] at h; exact absurd h h1
theorem VsV.three {w : World} {g : Nat} {G : Nat → Prop} {t u v : VT} {cs ds es : List Value} {T : TypeId} {fr : Nat × Nat} (h : w.heap[g]? = some (.cells (cs ++ ds ++ es).toArray T fr)) (ht : VAt w G t cs) (hu : VAt w G u ds) (hv : VAt w G v es) : VsV w (fun k => k = g ∨ G k) (.slice (some ⟨g, 0, none⟩) 3 3) [t, u, v] := by
  have l1 := ht.len; have l2 := hu.len; have l3 := hv.len
  refine ⟨_, 3, g, 0, rfl, fun _ => ⟨rfl, .inl rfl⟩, vls_of fun i x hx => ?_⟩
  match i, hx with
  | 0, hx =>
    simp only [List.getElem?_cons_zero, Option.some.injEq] at hx; subst hx
    refine ⟨cs, fun j q hj => ?_, ht.mono (fun k hk => .inr hk)⟩
    rw [cell_blk h]
    have : j < cs.length := by rcases Nat.lt_or_ge j cs.length with g | g; exact g; rw [List.getElem?_eq_none g] at hj; cases hj
    simp only [List.getElem?_toArray, List.append_assoc]
    rw [show 0 + 0 * 4 + j = j from by omega, List.getElem?_append_left this, hj]
  | 1, hx =>
    simp only [List.getElem?_cons_succ, List.getElem?_cons_zero, Option.some.injEq] at hx; subst hx
    refine ⟨ds, fun j q hj => ?_, hu.mono (fun k hk => .inr hk)⟩
    rw [cell_blk h]
    have : j < ds.length := by rcases Nat.lt_or_ge j ds.length with g | g; exact g; rw [List.getElem?_eq_none g] at hj; cases hj
    simp only [List.getElem?_toArray]
    rw [show 0 + 1 * 4 + j = cs.length + j from by omega, List.append_assoc, List.getElem?_append_right (by omega), Nat.add_sub_cancel_left, List.getElem?_append_left this, hj]
  | 2, hx =>
    simp only [List.getElem?_cons_succ, List.getElem?_cons_zero, Option.some.injEq] at hx; subst hx
    refine ⟨es, fun j q hj => ?_, hv.mono (fun k hk => .inr hk)⟩
    rw [cell_blk h]
    simp only [List.getElem?_toArray]
    rw [show 0 + 2 * 4 + j = (cs ++ ds).length + j from by rw [List.length_append]; omega, List.getElem?_append_right (by omega), Nat.add_sub_cancel_left, hj]
  | i + 3, hx => simp at hx
section
variable {w : World}
set_option maxRecDepth 100000 in
set_option maxHeartbeats 3200000 in
theorem vorder_c (hT : Tab w) (hR : Ers w) {tx ty tz : VT} {G : Nat → Prop} {xs ys zs : List Value} (hX : VAt w G tx xs) (hY : VAt w G ty ys) (hZ : VAt w G tz zs) (hG : ∀ k, G k → k < w.heap.size) (gx : tx.rg) (gy : ty.rg) (gz : tz.rg) : Calls Tryz.prog 5 #[.agg xs.toArray, .agg ys.toArray, .agg zs.toArray] w fun x w' => x = .returned (.bool true) ∧ Only (fun _ => False) w w' := by
  obtain ⟨kx, nx, sx, ax, mx, cx, rfl⟩ := hX.form
  obtain ⟨ky, ny, sy, ay, my, cy, rfl⟩ := hY.form
  obtain ⟨kz, nz, sz, az, mz, cz, rfl⟩ := hZ.form
  have ho0 := ((only_new w (.cells #[.int .i64 kx, .int .i64 nx, .string (strOf sx), .slice ax mx cx] 24)).trans (only_new _ (.cells #[.int .i64 ky, .int .i64 ny, .string (strOf sy), .slice ay my cy] 24)) (fun _ _ e => e)).trans (only_new _ (.cells #[.int .i64 kz, .int .i64 nz, .string (strOf sz), .slice az mz cz] 24)) (fun _ _ e => e)
  have HTL := hid (holds_c (hT.only ho0) (hR.same ho0))
  have bx : (((w.alloc (.cells #[.int .i64 kx, .int .i64 nx, .string (strOf sx), .slice ax mx cx] 24)).alloc (.cells #[.int .i64 ky, .int .i64 ny, .string (strOf sy), .slice ay my cy] 24)).alloc (.cells #[.int .i64 kz, .int .i64 nz, .string (strOf sz), .slice az mz cz] 24)).heap[w.heap.size]? = some (.cells #[.int .i64 kx, .int .i64 nx, .string (strOf sx), .slice ax mx cx] 24) := blk_alloc (blk_alloc (blk_new w (.cells #[.int .i64 kx, .int .i64 nx, .string (strOf sx), .slice ax mx cx] 24)))
  have bY : (((w.alloc (.cells #[.int .i64 kx, .int .i64 nx, .string (strOf sx), .slice ax mx cx] 24)).alloc (.cells #[.int .i64 ky, .int .i64 ny, .string (strOf sy), .slice ay my cy] 24)).alloc (.cells #[.int .i64 kz, .int .i64 nz, .string (strOf sz), .slice az mz cz] 24)).heap[w.heap.size + 1]? = some (.cells #[.int .i64 ky, .int .i64 ny, .string (strOf sy), .slice ay my cy] 24) := by have h := blk_new (w.alloc (.cells #[.int .i64 kx, .int .i64 nx, .string (strOf sx), .slice ax mx cx] 24)) (.cells #[.int .i64 ky, .int .i64 ny, .string (strOf sy), .slice ay my cy] 24); rw [World.size_alloc] at h; exact blk_alloc h
  have bz : (((w.alloc (.cells #[.int .i64 kx, .int .i64 nx, .string (strOf sx), .slice ax mx cx] 24)).alloc (.cells #[.int .i64 ky, .int .i64 ny, .string (strOf sy), .slice ay my cy] 24)).alloc (.cells #[.int .i64 kz, .int .i64 nz, .string (strOf sz), .slice az mz cz] 24)).heap[w.heap.size + 1 + 1]? = some (.cells #[.int .i64 kz, .int .i64 nz, .string (strOf sz), .slice az mz cz] 24) := by have h := blk_new ((w.alloc (.cells #[.int .i64 kx, .int .i64 nx, .string (strOf sx), .slice ax mx cx] 24)).alloc (.cells #[.int .i64 ky, .int .i64 ny, .string (strOf sy), .slice ay my cy] 24)) (.cells #[.int .i64 kz, .int .i64 nz, .string (strOf sz), .slice az mz cz] 24); rw [World.size_alloc, World.size_alloc] at h; exact h
  obtain ⟨w0, hw0⟩ : ∃ w0, ((w.alloc (.cells #[.int .i64 kx, .int .i64 nx, .string (strOf sx), .slice ax mx cx] 24)).alloc (.cells #[.int .i64 ky, .int .i64 ny, .string (strOf sy), .slice ay my cy] 24)).alloc (.cells #[.int .i64 kz, .int .i64 nz, .string (strOf sz), .slice az mz cz] 24) = w0 := ⟨_, rfl⟩
  rw [hw0] at HTL ho0 bx bY bz
  have HXx := hid (fun (wx : World) (h : Only (fun _ => False) w0 wx) => blk_only bx h (fun e => e))
  have HXy := hid (fun (wx : World) (h : Only (fun _ => False) w0 wx) => blk_only bY h (fun e => e))
  have HXz := hid (fun (wx : World) (h : Only (fun _ => False) w0 wx) => blk_only bz h (fun e => e))
  have HO0 := hid ho0
  have HX := hid hX; have HY := hid hY; have HZ := hid hZ; have HG := hid hG; have Gx := hid gx; have Gy := hid gy; have Gz := hid gz
  clear hX hY hZ hG gx gy gz hT hR bx bY bz ho0
  go_enter Tryz.func5, Tryz.ntmps5
  go_wp2_with fail
  clear hw0
  refine HTL.out.mono ?_
  rintro x w1 ⟨rfl, ho1⟩
  have HA1 := hid ho1
  have HO1 := hid (HO0.out.trans ho1 (fun _ _ e => e))
  clear ho1 HTL

  have x0 : w1.cell? ⟨w.heap.size, 0, none⟩ = some (.int .i64 kx) := cell_blk (HXx.out w1 HA1.out) 0
  have x1 : w1.cell? ⟨w.heap.size, 1, none⟩ = some (.int .i64 nx) := cell_blk (HXx.out w1 HA1.out) 1
  have x2 : w1.cell? ⟨w.heap.size, 2, none⟩ = some (.string (strOf sx)) := cell_blk (HXx.out w1 HA1.out) 2
  have x3 : w1.cell? ⟨w.heap.size, 3, none⟩ = some (.slice ax mx cx) := cell_blk (HXx.out w1 HA1.out) 3
  have hlx : w.heap.size < w1.heap.size := blk_lt (HXx.out w1 HA1.out)
  have y0 : w1.cell? ⟨w.heap.size + 1, 0, none⟩ = some (.int .i64 ky) := cell_blk (HXy.out w1 HA1.out) 0
  have y1 : w1.cell? ⟨w.heap.size + 1, 1, none⟩ = some (.int .i64 ny) := cell_blk (HXy.out w1 HA1.out) 1
  have y2 : w1.cell? ⟨w.heap.size + 1, 2, none⟩ = some (.string (strOf sy)) := cell_blk (HXy.out w1 HA1.out) 2
  have y3 : w1.cell? ⟨w.heap.size + 1, 3, none⟩ = some (.slice ay my cy) := cell_blk (HXy.out w1 HA1.out) 3
  have hly : w.heap.size + 1 < w1.heap.size := blk_lt (HXy.out w1 HA1.out)
  have z0 : w1.cell? ⟨w.heap.size + 1 + 1, 0, none⟩ = some (.int .i64 kz) := cell_blk (HXz.out w1 HA1.out) 0
  have z1 : w1.cell? ⟨w.heap.size + 1 + 1, 1, none⟩ = some (.int .i64 nz) := cell_blk (HXz.out w1 HA1.out) 1
  have z2 : w1.cell? ⟨w.heap.size + 1 + 1, 2, none⟩ = some (.string (strOf sz)) := cell_blk (HXz.out w1 HA1.out) 2
  have z3 : w1.cell? ⟨w.heap.size + 1 + 1, 3, none⟩ = some (.slice az mz cz) := cell_blk (HXz.out w1 HA1.out) 3
  have hlz : w.heap.size + 1 + 1 < w1.heap.size := blk_lt (HXz.out w1 HA1.out)
  have HSM := hid (fits_c (w := w1.alloc (.cells #[.int .i64 kx, .int .i64 nx, .string (strOf sx), .slice ax mx cx, .int .i64 ky, .int .i64 ny, .string (strOf sy), .slice ay my cy, .int .i64 kz, .int .i64 nz, .string (strOf sz), .slice az mz cz] 24)) (VsV.three (w := w1.alloc (.cells #[.int .i64 kx, .int .i64 nx, .string (strOf sx), .slice ax mx cx, .int .i64 ky, .int .i64 ny, .string (strOf sy), .slice ay my cy, .int .i64 kz, .int .i64 nz, .string (strOf sz), .slice az mz cz] 24)) (G := G) (blk_new w1 (.cells #[.int .i64 kx, .int .i64 nx, .string (strOf sx), .slice ax mx cx, .int .i64 ky, .int .i64 ny, .string (strOf sy), .slice ay my cy, .int .i64 kz, .int .i64 nz, .string (strOf sz), .slice az mz cz] 24)) (HX.out.same (HO1.out.trans (only_new w1 _) (fun _ _ e => e))) (HY.out.same (HO1.out.trans (only_new w1 _) (fun _ _ e => e))) (HZ.out.same (HO1.out.trans (only_new w1 _) (fun _ _ e => e)))) (fun k hk => by have := HO1.out.size; rcases hk with rfl | hk; simp; have := HG.out k hk; simp; omega) (fun e' he' => by simp only [List.mem_cons, List.not_mem_nil, or_false] at he'; rcases he' with rfl | rfl | rfl; exact Gx.out; exact Gy.out; exact Gz.out) (by simp))
  obtain ⟨sm, hsm⟩ : ∃ b, smV [tx, ty, tz] 400 = b := ⟨_, rfl⟩
  rw [hsm] at HSM
  clear hsm
  cases sm with
  | false =>
    go_wp2_with fail
    refine HSM.out.mono ?_
    rintro x w2 ⟨rfl, ho2⟩
    have HO2 := hid (HO1.out.trans ((only_new w1 _).trans ho2 (fun _ _ e => e)) (fun _ _ e => e))
    clear ho2
    go_wp2_with fail
    go_ret
    exact ⟨rfl, HO2.out⟩
  | true =>
  go_wp2_with fail
  refine HSM.out.mono ?_
  rintro x w2 ⟨rfl, ho2⟩
  have ho12 := (only_new w1 (.cells #[.int .i64 kx, .int .i64 nx, .string (strOf sx), .slice ax mx cx, .int .i64 ky, .int .i64 ny, .string (strOf sy), .slice ay my cy, .int .i64 kz, .int .i64 nz, .string (strOf sz), .slice az mz cz] 24)).trans ho2 (fun _ _ e => e)
  have HA2 := hid (HA1.out.trans ho12 (fun _ _ e => e))
  have HO2 := hid (HO0.out.trans HA2.out (fun _ _ e => e))
  clear ho2 ho12 HSM HA1 HO1
  clear x0 x1 x2 x3 hlx y0 y1 y2 y3 hly z0 z1 z2 z3 hlz
  have x0 : w2.cell? ⟨w.heap.size, 0, none⟩ = some (.int .i64 kx) := cell_blk (HXx.out w2 HA2.out) 0
  have x1 : w2.cell? ⟨w.heap.size, 1, none⟩ = some (.int .i64 nx) := cell_blk (HXx.out w2 HA2.out) 1
  have x2 : w2.cell? ⟨w.heap.size, 2, none⟩ = some (.string (strOf sx)) := cell_blk (HXx.out w2 HA2.out) 2
  have x3 : w2.cell? ⟨w.heap.size, 3, none⟩ = some (.slice ax mx cx) := cell_blk (HXx.out w2 HA2.out) 3
  have hlx : w.heap.size < w2.heap.size := blk_lt (HXx.out w2 HA2.out)
  have y0 : w2.cell? ⟨w.heap.size + 1, 0, none⟩ = some (.int .i64 ky) := cell_blk (HXy.out w2 HA2.out) 0
  have y1 : w2.cell? ⟨w.heap.size + 1, 1, none⟩ = some (.int .i64 ny) := cell_blk (HXy.out w2 HA2.out) 1
  have y2 : w2.cell? ⟨w.heap.size + 1, 2, none⟩ = some (.string (strOf sy)) := cell_blk (HXy.out w2 HA2.out) 2
  have y3 : w2.cell? ⟨w.heap.size + 1, 3, none⟩ = some (.slice ay my cy) := cell_blk (HXy.out w2 HA2.out) 3
  have hly : w.heap.size + 1 < w2.heap.size := blk_lt (HXy.out w2 HA2.out)
  have z0 : w2.cell? ⟨w.heap.size + 1 + 1, 0, none⟩ = some (.int .i64 kz) := cell_blk (HXz.out w2 HA2.out) 0
  have z1 : w2.cell? ⟨w.heap.size + 1 + 1, 1, none⟩ = some (.int .i64 nz) := cell_blk (HXz.out w2 HA2.out) 1
  have z2 : w2.cell? ⟨w.heap.size + 1 + 1, 2, none⟩ = some (.string (strOf sz)) := cell_blk (HXz.out w2 HA2.out) 2
  have z3 : w2.cell? ⟨w.heap.size + 1 + 1, 3, none⟩ = some (.slice az mz cz) := cell_blk (HXz.out w2 HA2.out) 3
  have hlz : w.heap.size + 1 + 1 < w2.heap.size := blk_lt (HXz.out w2 HA2.out)
  have HGD := hid (good_c (HX.out.same HO2.out) Gx.out)
  obtain ⟨ck, hck⟩ : ∃ q, tx.chk = q := ⟨_, rfl⟩
  rw [hck] at HGD
  have HCx := hid hck
  clear hck
  by_cases hc0 : ck = 0
  case neg =>
    have hcb : (ck == 0) = false := by simpa using hc0
    rw [hcb] at HGD
    clear hc0
    go_wp2_with fail
    refine HGD.out.mono ?_
    rintro x w3 ⟨rfl, ho3⟩
    have HO3 := hid (HO2.out.trans ho3 (fun _ _ e => e))
    clear ho3
    go_wp2_with fail
    go_ret
    exact ⟨rfl, HO3.out⟩
  subst hc0
  rw [show ((0 : Int) == 0) = true from rfl] at HGD
  go_wp2_with fail
  refine HGD.out.mono ?_
  rintro x w3 ⟨rfl, ho3⟩
  have HA3 := hid (HA2.out.trans ho3 (fun _ _ e => e))
  have HO3 := hid (HO0.out.trans HA3.out (fun _ _ e => e))
  clear ho3 HGD HA2 HO2
  clear x0 x1 x2 x3 hlx y0 y1 y2 y3 hly z0 z1 z2 z3 hlz
  have x0 : w3.cell? ⟨w.heap.size, 0, none⟩ = some (.int .i64 kx) := cell_blk (HXx.out w3 HA3.out) 0
  have x1 : w3.cell? ⟨w.heap.size, 1, none⟩ = some (.int .i64 nx) := cell_blk (HXx.out w3 HA3.out) 1
  have x2 : w3.cell? ⟨w.heap.size, 2, none⟩ = some (.string (strOf sx)) := cell_blk (HXx.out w3 HA3.out) 2
  have x3 : w3.cell? ⟨w.heap.size, 3, none⟩ = some (.slice ax mx cx) := cell_blk (HXx.out w3 HA3.out) 3
  have hlx : w.heap.size < w3.heap.size := blk_lt (HXx.out w3 HA3.out)
  have y0 : w3.cell? ⟨w.heap.size + 1, 0, none⟩ = some (.int .i64 ky) := cell_blk (HXy.out w3 HA3.out) 0
  have y1 : w3.cell? ⟨w.heap.size + 1, 1, none⟩ = some (.int .i64 ny) := cell_blk (HXy.out w3 HA3.out) 1
  have y2 : w3.cell? ⟨w.heap.size + 1, 2, none⟩ = some (.string (strOf sy)) := cell_blk (HXy.out w3 HA3.out) 2
  have y3 : w3.cell? ⟨w.heap.size + 1, 3, none⟩ = some (.slice ay my cy) := cell_blk (HXy.out w3 HA3.out) 3
  have hly : w.heap.size + 1 < w3.heap.size := blk_lt (HXy.out w3 HA3.out)
  have z0 : w3.cell? ⟨w.heap.size + 1 + 1, 0, none⟩ = some (.int .i64 kz) := cell_blk (HXz.out w3 HA3.out) 0
  have z1 : w3.cell? ⟨w.heap.size + 1 + 1, 1, none⟩ = some (.int .i64 nz) := cell_blk (HXz.out w3 HA3.out) 1
  have z2 : w3.cell? ⟨w.heap.size + 1 + 1, 2, none⟩ = some (.string (strOf sz)) := cell_blk (HXz.out w3 HA3.out) 2
  have z3 : w3.cell? ⟨w.heap.size + 1 + 1, 3, none⟩ = some (.slice az mz cz) := cell_blk (HXz.out w3 HA3.out) 3
  have hlz : w.heap.size + 1 + 1 < w3.heap.size := blk_lt (HXz.out w3 HA3.out)
  have HGD := hid (good_c (HY.out.same HO3.out) Gy.out)
  obtain ⟨ck, hck⟩ : ∃ q, ty.chk = q := ⟨_, rfl⟩
  rw [hck] at HGD
  have HCy := hid hck
  clear hck
  by_cases hc0 : ck = 0
  case neg =>
    have hcb : (ck == 0) = false := by simpa using hc0
    rw [hcb] at HGD
    clear hc0
    go_wp2_with fail
    refine HGD.out.mono ?_
    rintro x w4 ⟨rfl, ho4⟩
    have HO4 := hid (HO3.out.trans ho4 (fun _ _ e => e))
    clear ho4
    go_wp2_with fail
    go_ret
    exact ⟨rfl, HO4.out⟩
  subst hc0
  rw [show ((0 : Int) == 0) = true from rfl] at HGD
  go_wp2_with fail
  refine HGD.out.mono ?_
  rintro x w4 ⟨rfl, ho4⟩
  have HA4 := hid (HA3.out.trans ho4 (fun _ _ e => e))
  have HO4 := hid (HO0.out.trans HA4.out (fun _ _ e => e))
  clear ho4 HGD HA3 HO3
  clear x0 x1 x2 x3 hlx y0 y1 y2 y3 hly z0 z1 z2 z3 hlz
  have x0 : w4.cell? ⟨w.heap.size, 0, none⟩ = some (.int .i64 kx) := cell_blk (HXx.out w4 HA4.out) 0
  have x1 : w4.cell? ⟨w.heap.size, 1, none⟩ = some (.int .i64 nx) := cell_blk (HXx.out w4 HA4.out) 1
  have x2 : w4.cell? ⟨w.heap.size, 2, none⟩ = some (.string (strOf sx)) := cell_blk (HXx.out w4 HA4.out) 2
  have x3 : w4.cell? ⟨w.heap.size, 3, none⟩ = some (.slice ax mx cx) := cell_blk (HXx.out w4 HA4.out) 3
  have hlx : w.heap.size < w4.heap.size := blk_lt (HXx.out w4 HA4.out)
  have y0 : w4.cell? ⟨w.heap.size + 1, 0, none⟩ = some (.int .i64 ky) := cell_blk (HXy.out w4 HA4.out) 0
  have y1 : w4.cell? ⟨w.heap.size + 1, 1, none⟩ = some (.int .i64 ny) := cell_blk (HXy.out w4 HA4.out) 1
  have y2 : w4.cell? ⟨w.heap.size + 1, 2, none⟩ = some (.string (strOf sy)) := cell_blk (HXy.out w4 HA4.out) 2
  have y3 : w4.cell? ⟨w.heap.size + 1, 3, none⟩ = some (.slice ay my cy) := cell_blk (HXy.out w4 HA4.out) 3
  have hly : w.heap.size + 1 < w4.heap.size := blk_lt (HXy.out w4 HA4.out)
  have z0 : w4.cell? ⟨w.heap.size + 1 + 1, 0, none⟩ = some (.int .i64 kz) := cell_blk (HXz.out w4 HA4.out) 0
  have z1 : w4.cell? ⟨w.heap.size + 1 + 1, 1, none⟩ = some (.int .i64 nz) := cell_blk (HXz.out w4 HA4.out) 1
  have z2 : w4.cell? ⟨w.heap.size + 1 + 1, 2, none⟩ = some (.string (strOf sz)) := cell_blk (HXz.out w4 HA4.out) 2
  have z3 : w4.cell? ⟨w.heap.size + 1 + 1, 3, none⟩ = some (.slice az mz cz) := cell_blk (HXz.out w4 HA4.out) 3
  have hlz : w.heap.size + 1 + 1 < w4.heap.size := blk_lt (HXz.out w4 HA4.out)
  have HGD := hid (good_c (HZ.out.same HO4.out) Gz.out)
  obtain ⟨ck, hck⟩ : ∃ q, tz.chk = q := ⟨_, rfl⟩
  rw [hck] at HGD
  have HCz := hid hck
  clear hck
  by_cases hc0 : ck = 0
  case neg =>
    have hcb : (ck == 0) = false := by simpa using hc0
    rw [hcb] at HGD
    clear hc0
    go_wp2_with fail
    refine HGD.out.mono ?_
    rintro x w5 ⟨rfl, ho5⟩
    have HO5 := hid (HO4.out.trans ho5 (fun _ _ e => e))
    clear ho5
    go_wp2_with fail
    go_ret
    exact ⟨rfl, HO5.out⟩
  subst hc0
  rw [show ((0 : Int) == 0) = true from rfl] at HGD
  go_wp2_with fail
  refine HGD.out.mono ?_
  rintro x w5 ⟨rfl, ho5⟩
  have HA5 := hid (HA4.out.trans ho5 (fun _ _ e => e))
  have HO5 := hid (HO0.out.trans HA5.out (fun _ _ e => e))
  clear ho5 HGD HA4 HO4
  clear x0 x1 x2 x3 hlx y0 y1 y2 y3 hly z0 z1 z2 z3 hlz
  have x0 : w5.cell? ⟨w.heap.size, 0, none⟩ = some (.int .i64 kx) := cell_blk (HXx.out w5 HA5.out) 0
  have x1 : w5.cell? ⟨w.heap.size, 1, none⟩ = some (.int .i64 nx) := cell_blk (HXx.out w5 HA5.out) 1
  have x2 : w5.cell? ⟨w.heap.size, 2, none⟩ = some (.string (strOf sx)) := cell_blk (HXx.out w5 HA5.out) 2
  have x3 : w5.cell? ⟨w.heap.size, 3, none⟩ = some (.slice ax mx cx) := cell_blk (HXx.out w5 HA5.out) 3
  have hlx : w.heap.size < w5.heap.size := blk_lt (HXx.out w5 HA5.out)
  have y0 : w5.cell? ⟨w.heap.size + 1, 0, none⟩ = some (.int .i64 ky) := cell_blk (HXy.out w5 HA5.out) 0
  have y1 : w5.cell? ⟨w.heap.size + 1, 1, none⟩ = some (.int .i64 ny) := cell_blk (HXy.out w5 HA5.out) 1
  have y2 : w5.cell? ⟨w.heap.size + 1, 2, none⟩ = some (.string (strOf sy)) := cell_blk (HXy.out w5 HA5.out) 2
  have y3 : w5.cell? ⟨w.heap.size + 1, 3, none⟩ = some (.slice ay my cy) := cell_blk (HXy.out w5 HA5.out) 3
  have hly : w.heap.size + 1 < w5.heap.size := blk_lt (HXy.out w5 HA5.out)
  have z0 : w5.cell? ⟨w.heap.size + 1 + 1, 0, none⟩ = some (.int .i64 kz) := cell_blk (HXz.out w5 HA5.out) 0
  have z1 : w5.cell? ⟨w.heap.size + 1 + 1, 1, none⟩ = some (.int .i64 nz) := cell_blk (HXz.out w5 HA5.out) 1
  have z2 : w5.cell? ⟨w.heap.size + 1 + 1, 2, none⟩ = some (.string (strOf sz)) := cell_blk (HXz.out w5 HA5.out) 2
  have z3 : w5.cell? ⟨w.heap.size + 1 + 1, 3, none⟩ = some (.slice az mz cz) := cell_blk (HXz.out w5 HA5.out) 3
  have hlz : w.heap.size + 1 + 1 < w5.heap.size := blk_lt (HXz.out w5 HA5.out)
  have hsg := rc_sgn tx ty
  obtain ⟨X, hXe⟩ : ∃ q, tx.cmp ty = q := ⟨_, rfl⟩
  obtain ⟨Y, hYe⟩ : ∃ q, tx.rc ty = q := ⟨_, rfl⟩
  have HVC := hid (fun (wx : World) (h : Only (fun _ => False) w wx) => vcompare_c (HX.out.same h) (HY.out.same h) Gx.out Gy.out)
  have HRC := hid (fun (wx : World) (h : Only (fun _ => False) w wx) => rcmpC tx.sz tx ty (Nat.le_refl _) wx G G _ _ (HX.out.same h) (HY.out.same h) Gx.out Gy.out (chk_kdv HCx.out) (chk_kdv HCy.out))
  have HSA := hid (fun (wx : World) (h : Only (fun _ => False) w wx) => vsame_c (HX.out.same h) (HY.out.same h) Gx.out Gy.out)
  have HVD := hid (fun (wx : World) (h : Only (fun _ => False) w wx) => vcompare_c (HY.out.same h) (HX.out.same h) Gy.out Gx.out)
  have hng := cmp_neg tx ty
  have HIN : Hid ((tx.wr == ty.wr) = (Y == 0)) := hid (by
    rw [Bool.eq_iff_iff]; simp only [beq_iff_eq]
    rw [← hYe, rc_zero, cmp_iff]
    exact ⟨fun e => wr_inj Gx.out Gy.out HCx.out HCy.out e, fun e => by rw [← cl_wr tx, ← cl_wr ty, e]⟩)
  have HTRN := hid (fun h1 h2 => cmp_trans tx ty tz h1 h2)
  rw [hXe] at hng
  simp only [hXe, hYe, hng] at HVC HRC HSA HVD hsg HTRN
  clear hXe hYe hng
  go_upto_region 5 with fail
  go_cut [7, 8] from 32 to 37 (fun x y wx => x = .int .i64 X ∧ y = .int .i64 Y ∧ Only (fun _ => False) w0 wx)
  case first =>
    go_wp2_with fail
    go_region_law (first
      | (refine step_of rfl (wp_callc (o := ⟨some 34, _, _, _, _, _⟩) (f := 22) (args := #[.agg #[.int .i64 kx, .int .i64 nx, .string (strOf sx), .slice ax mx cx], .agg #[.int .i64 ky, .int .i64 ny, .string (strOf sy), .slice ay my cy]]) (by kernel_rfl) ?_); refine (HVC.out _ (HO5.out.trans (Only.refl (fun _ => False) w5).drew (fun _ _ e => e))).mono ?_; rintro x w6 ⟨rfl, ho6⟩; refine ⟨_, rfl, ?_⟩; have HA6 := hid (HA5.out.trans ((Only.refl (fun _ => False) w5).drew.trans ho6 (fun _ _ e => e)) (fun _ _ e => e)); have HO6 := hid (HO0.out.trans HA6.out (fun _ _ e => e)); clear ho6; clear x0 x1 x2 x3 hlx y0 y1 y2 y3 hly z0 z1 z2 z3 hlz; have x0 : w6.cell? ⟨w.heap.size, 0, none⟩ = some (.int .i64 kx) := cell_blk (HXx.out w6 HA6.out) 0; have x1 : w6.cell? ⟨w.heap.size, 1, none⟩ = some (.int .i64 nx) := cell_blk (HXx.out w6 HA6.out) 1; have x2 : w6.cell? ⟨w.heap.size, 2, none⟩ = some (.string (strOf sx)) := cell_blk (HXx.out w6 HA6.out) 2; have x3 : w6.cell? ⟨w.heap.size, 3, none⟩ = some (.slice ax mx cx) := cell_blk (HXx.out w6 HA6.out) 3; have hlx : w.heap.size < w6.heap.size := blk_lt (HXx.out w6 HA6.out); have y0 : w6.cell? ⟨w.heap.size + 1, 0, none⟩ = some (.int .i64 ky) := cell_blk (HXy.out w6 HA6.out) 0; have y1 : w6.cell? ⟨w.heap.size + 1, 1, none⟩ = some (.int .i64 ny) := cell_blk (HXy.out w6 HA6.out) 1; have y2 : w6.cell? ⟨w.heap.size + 1, 2, none⟩ = some (.string (strOf sy)) := cell_blk (HXy.out w6 HA6.out) 2; have y3 : w6.cell? ⟨w.heap.size + 1, 3, none⟩ = some (.slice ay my cy) := cell_blk (HXy.out w6 HA6.out) 3; have hly : w.heap.size + 1 < w6.heap.size := blk_lt (HXy.out w6 HA6.out); have z0 : w6.cell? ⟨w.heap.size + 1 + 1, 0, none⟩ = some (.int .i64 kz) := cell_blk (HXz.out w6 HA6.out) 0; have z1 : w6.cell? ⟨w.heap.size + 1 + 1, 1, none⟩ = some (.int .i64 nz) := cell_blk (HXz.out w6 HA6.out) 1; have z2 : w6.cell? ⟨w.heap.size + 1 + 1, 2, none⟩ = some (.string (strOf sz)) := cell_blk (HXz.out w6 HA6.out) 2; have z3 : w6.cell? ⟨w.heap.size + 1 + 1, 3, none⟩ = some (.slice az mz cz) := cell_blk (HXz.out w6 HA6.out) 3; have hlz : w.heap.size + 1 + 1 < w6.heap.size := blk_lt (HXz.out w6 HA6.out))
      | (refine step_of rfl (wp_callc (o := ⟨some 37, _, _, _, _, _⟩) (f := 18) (args := #[.agg #[.int .i64 kx, .int .i64 nx, .string (strOf sx), .slice ax mx cx], .agg #[.int .i64 ky, .int .i64 ny, .string (strOf sy), .slice ay my cy]]) (by kernel_rfl) ?_); refine (HRC.out _ HO6.out).mono ?_; rintro x w7 ⟨rfl, ho7⟩; refine ⟨_, rfl, ?_⟩; have HA7 := hid (HA6.out.trans ho7 (fun _ _ e => e)); have HO7 := hid (HO0.out.trans HA7.out (fun _ _ e => e)); clear ho7; clear x0 x1 x2 x3 hlx y0 y1 y2 y3 hly z0 z1 z2 z3 hlz; have x0 : w7.cell? ⟨w.heap.size, 0, none⟩ = some (.int .i64 kx) := cell_blk (HXx.out w7 HA7.out) 0; have x1 : w7.cell? ⟨w.heap.size, 1, none⟩ = some (.int .i64 nx) := cell_blk (HXx.out w7 HA7.out) 1; have x2 : w7.cell? ⟨w.heap.size, 2, none⟩ = some (.string (strOf sx)) := cell_blk (HXx.out w7 HA7.out) 2; have x3 : w7.cell? ⟨w.heap.size, 3, none⟩ = some (.slice ax mx cx) := cell_blk (HXx.out w7 HA7.out) 3; have hlx : w.heap.size < w7.heap.size := blk_lt (HXx.out w7 HA7.out); have y0 : w7.cell? ⟨w.heap.size + 1, 0, none⟩ = some (.int .i64 ky) := cell_blk (HXy.out w7 HA7.out) 0; have y1 : w7.cell? ⟨w.heap.size + 1, 1, none⟩ = some (.int .i64 ny) := cell_blk (HXy.out w7 HA7.out) 1; have y2 : w7.cell? ⟨w.heap.size + 1, 2, none⟩ = some (.string (strOf sy)) := cell_blk (HXy.out w7 HA7.out) 2; have y3 : w7.cell? ⟨w.heap.size + 1, 3, none⟩ = some (.slice ay my cy) := cell_blk (HXy.out w7 HA7.out) 3; have hly : w.heap.size + 1 < w7.heap.size := blk_lt (HXy.out w7 HA7.out); have z0 : w7.cell? ⟨w.heap.size + 1 + 1, 0, none⟩ = some (.int .i64 kz) := cell_blk (HXz.out w7 HA7.out) 0; have z1 : w7.cell? ⟨w.heap.size + 1 + 1, 1, none⟩ = some (.int .i64 nz) := cell_blk (HXz.out w7 HA7.out) 1; have z2 : w7.cell? ⟨w.heap.size + 1 + 1, 2, none⟩ = some (.string (strOf sz)) := cell_blk (HXz.out w7 HA7.out) 2; have z3 : w7.cell? ⟨w.heap.size + 1 + 1, 3, none⟩ = some (.slice az mz cz) := cell_blk (HXz.out w7 HA7.out) 3; have hlz : w.heap.size + 1 + 1 < w7.heap.size := blk_lt (HXz.out w7 HA7.out)))
    all_goals
      go_wp2_with fail
      go_meet
      case rel => exact ⟨rfl, rfl, HA7.out⟩
  case rest =>
  obtain ⟨rfl, rfl, hcA⟩ := hcut
  clear x0 x1 x2 x3 hlx y0 y1 y2 y3 hly z0 z1 z2 z3 hlz
  have HA7 := hid hcA
  have HO7 := hid (HO0.out.trans hcA (fun _ _ e => e))
  clear hcA
  have x0 : wc.cell? ⟨w.heap.size, 0, none⟩ = some (.int .i64 kx) := cell_blk (HXx.out wc HA7.out) 0
  have x1 : wc.cell? ⟨w.heap.size, 1, none⟩ = some (.int .i64 nx) := cell_blk (HXx.out wc HA7.out) 1
  have x2 : wc.cell? ⟨w.heap.size, 2, none⟩ = some (.string (strOf sx)) := cell_blk (HXx.out wc HA7.out) 2
  have x3 : wc.cell? ⟨w.heap.size, 3, none⟩ = some (.slice ax mx cx) := cell_blk (HXx.out wc HA7.out) 3
  have hlx : w.heap.size < wc.heap.size := blk_lt (HXx.out wc HA7.out)
  have y0 : wc.cell? ⟨w.heap.size + 1, 0, none⟩ = some (.int .i64 ky) := cell_blk (HXy.out wc HA7.out) 0
  have y1 : wc.cell? ⟨w.heap.size + 1, 1, none⟩ = some (.int .i64 ny) := cell_blk (HXy.out wc HA7.out) 1
  have y2 : wc.cell? ⟨w.heap.size + 1, 2, none⟩ = some (.string (strOf sy)) := cell_blk (HXy.out wc HA7.out) 2
  have y3 : wc.cell? ⟨w.heap.size + 1, 3, none⟩ = some (.slice ay my cy) := cell_blk (HXy.out wc HA7.out) 3
  have hly : w.heap.size + 1 < wc.heap.size := blk_lt (HXy.out wc HA7.out)
  have z0 : wc.cell? ⟨w.heap.size + 1 + 1, 0, none⟩ = some (.int .i64 kz) := cell_blk (HXz.out wc HA7.out) 0
  have z1 : wc.cell? ⟨w.heap.size + 1 + 1, 1, none⟩ = some (.int .i64 nz) := cell_blk (HXz.out wc HA7.out) 1
  have z2 : wc.cell? ⟨w.heap.size + 1 + 1, 2, none⟩ = some (.string (strOf sz)) := cell_blk (HXz.out wc HA7.out) 2
  have z3 : wc.cell? ⟨w.heap.size + 1 + 1, 3, none⟩ = some (.slice az mz cz) := cell_blk (HXz.out wc HA7.out) 3
  have hlz : w.heap.size + 1 + 1 < wc.heap.size := blk_lt (HXz.out wc HA7.out)
  have HZ0 := hid HVD
  go_upto_region 6 with fail
  go_cut [66] from 38 to 66 (fun x wx => x = .bool false ∧ Only (fun _ => False) w0 wx)
  case first =>
    obtain ⟨Z, hZ⟩ : ∃ z, -X = z := ⟨_, rfl⟩
    rw [hZ] at HVD
    have hfacts : (X < 0 ∧ Y < 0 ∧ (¬ 0 < X) ∧ (¬ 0 < Y) ∧ (¬ Z < 0) ∧ (X == 0) = false ∧ (Y == 0) = false) ∨ ((¬ X < 0) ∧ (¬ Y < 0) ∧ (¬ 0 < X) ∧ (¬ 0 < Y) ∧ (¬ Z < 0) ∧ (X == 0) = true ∧ (Y == 0) = true) ∨ ((¬ X < 0) ∧ (¬ Y < 0) ∧ (0 < X) ∧ (0 < Y) ∧ (Z < 0) ∧ (X == 0) = false ∧ (Y == 0) = false) := by
      simp only [beq_iff_eq, beq_eq_false_iff_ne, ne_eq]
      omega
    clear hsg hZ HZ0
    rcases hfacts with ⟨f1, f2, f3, f4, f5, f6, f7⟩ | ⟨f1, f2, f3, f4, f5, f6, f7⟩ | ⟨f1, f2, f3, f4, f5, f6, f7⟩
    all_goals
      go_wp2_with fail
      refine (HSA.out _ HO7.out).mono ?_
      rintro x w8 ⟨rfl, ho8⟩
      have HA8 := hid (HA7.out.trans ho8 (fun _ _ e => e))
      have HO8 := hid (HO0.out.trans HA8.out (fun _ _ e => e))
      clear ho8
      clear x0 x1 x2 x3 hlx y0 y1 y2 y3 hly z0 z1 z2 z3 hlz
      have x0 : w8.cell? ⟨w.heap.size, 0, none⟩ = some (.int .i64 kx) := cell_blk (HXx.out w8 HA8.out) 0
      have x1 : w8.cell? ⟨w.heap.size, 1, none⟩ = some (.int .i64 nx) := cell_blk (HXx.out w8 HA8.out) 1
      have x2 : w8.cell? ⟨w.heap.size, 2, none⟩ = some (.string (strOf sx)) := cell_blk (HXx.out w8 HA8.out) 2
      have x3 : w8.cell? ⟨w.heap.size, 3, none⟩ = some (.slice ax mx cx) := cell_blk (HXx.out w8 HA8.out) 3
      have hlx : w.heap.size < w8.heap.size := blk_lt (HXx.out w8 HA8.out)
      have y0 : w8.cell? ⟨w.heap.size + 1, 0, none⟩ = some (.int .i64 ky) := cell_blk (HXy.out w8 HA8.out) 0
      have y1 : w8.cell? ⟨w.heap.size + 1, 1, none⟩ = some (.int .i64 ny) := cell_blk (HXy.out w8 HA8.out) 1
      have y2 : w8.cell? ⟨w.heap.size + 1, 2, none⟩ = some (.string (strOf sy)) := cell_blk (HXy.out w8 HA8.out) 2
      have y3 : w8.cell? ⟨w.heap.size + 1, 3, none⟩ = some (.slice ay my cy) := cell_blk (HXy.out w8 HA8.out) 3
      have hly : w.heap.size + 1 < w8.heap.size := blk_lt (HXy.out w8 HA8.out)
      have z0 : w8.cell? ⟨w.heap.size + 1 + 1, 0, none⟩ = some (.int .i64 kz) := cell_blk (HXz.out w8 HA8.out) 0
      have z1 : w8.cell? ⟨w.heap.size + 1 + 1, 1, none⟩ = some (.int .i64 nz) := cell_blk (HXz.out w8 HA8.out) 1
      have z2 : w8.cell? ⟨w.heap.size + 1 + 1, 2, none⟩ = some (.string (strOf sz)) := cell_blk (HXz.out w8 HA8.out) 2
      have z3 : w8.cell? ⟨w.heap.size + 1 + 1, 3, none⟩ = some (.slice az mz cz) := cell_blk (HXz.out w8 HA8.out) 3
      have hlz : w.heap.size + 1 + 1 < w8.heap.size := blk_lt (HXz.out w8 HA8.out)
      go_wp2_with fail
      refine (HVD.out _ HO8.out).mono ?_
      rintro x w9 ⟨rfl, ho9⟩
      have HA9 := hid (HA8.out.trans ho9 (fun _ _ e => e))
      clear ho9
      go_wp2_with fail
      go_meet
      case rel => exact ⟨by first | rfl | (simp <;> omega), HA9.out⟩
  case rest =>
  obtain ⟨rfl, hcA⟩ := hcut
  clear x0 x1 x2 x3 hlx y0 y1 y2 y3 hly z0 z1 z2 z3 hlz
  have HAc := hid hcA
  have HOc := hid (HO0.out.trans hcA (fun _ _ e => e))
  clear hcA HA7 HO7 HZ0 HVD HSA HVC HRC
  have x0 : wc.cell? ⟨w.heap.size, 0, none⟩ = some (.int .i64 kx) := cell_blk (HXx.out wc HAc.out) 0
  have x1 : wc.cell? ⟨w.heap.size, 1, none⟩ = some (.int .i64 nx) := cell_blk (HXx.out wc HAc.out) 1
  have x2 : wc.cell? ⟨w.heap.size, 2, none⟩ = some (.string (strOf sx)) := cell_blk (HXx.out wc HAc.out) 2
  have x3 : wc.cell? ⟨w.heap.size, 3, none⟩ = some (.slice ax mx cx) := cell_blk (HXx.out wc HAc.out) 3
  have hlx : w.heap.size < wc.heap.size := blk_lt (HXx.out wc HAc.out)
  have y0 : wc.cell? ⟨w.heap.size + 1, 0, none⟩ = some (.int .i64 ky) := cell_blk (HXy.out wc HAc.out) 0
  have y1 : wc.cell? ⟨w.heap.size + 1, 1, none⟩ = some (.int .i64 ny) := cell_blk (HXy.out wc HAc.out) 1
  have y2 : wc.cell? ⟨w.heap.size + 1, 2, none⟩ = some (.string (strOf sy)) := cell_blk (HXy.out wc HAc.out) 2
  have y3 : wc.cell? ⟨w.heap.size + 1, 3, none⟩ = some (.slice ay my cy) := cell_blk (HXy.out wc HAc.out) 3
  have hly : w.heap.size + 1 < wc.heap.size := blk_lt (HXy.out wc HAc.out)
  have z0 : wc.cell? ⟨w.heap.size + 1 + 1, 0, none⟩ = some (.int .i64 kz) := cell_blk (HXz.out wc HAc.out) 0
  have z1 : wc.cell? ⟨w.heap.size + 1 + 1, 1, none⟩ = some (.int .i64 nz) := cell_blk (HXz.out wc HAc.out) 1
  have z2 : wc.cell? ⟨w.heap.size + 1 + 1, 2, none⟩ = some (.string (strOf sz)) := cell_blk (HXz.out wc HAc.out) 2
  have z3 : wc.cell? ⟨w.heap.size + 1 + 1, 3, none⟩ = some (.slice az mz cz) := cell_blk (HXz.out wc HAc.out) 3
  have hlz : w.heap.size + 1 + 1 < wc.heap.size := blk_lt (HXz.out wc HAc.out)
  obtain ⟨P, hP⟩ : ∃ q, ty.cmp tz = q := ⟨_, rfl⟩
  obtain ⟨Q, hQ⟩ : ∃ q, tx.cmp tz = q := ⟨_, rfl⟩
  have HBC := hid (fun (wx : World) (h : Only (fun _ => False) w wx) => vcompare_c (HY.out.same h) (HZ.out.same h) Gy.out Gz.out)
  have HAC := hid (fun (wx : World) (h : Only (fun _ => False) w wx) => vcompare_c (HX.out.same h) (HZ.out.same h) Gx.out Gz.out)
  simp only [hP, hQ] at HBC HAC HTRN
  clear hP hQ
  go_upto_region 8 with fail
  go_cut [80] from 67 to 80 (fun x wx => x = .bool false ∧ Only (fun _ => False) w0 wx)
  case first =>
    by_cases hx : X ≤ 0
    · by_cases hp : P ≤ 0
      · have hq : ¬ 0 < Q := by have := HTRN.out hx hp; omega
        go_wp2_with fail
        refine (HBC.out _ HOc.out).mono ?_
        rintro x w8 ⟨rfl, ho8⟩
        have HA8 := hid (HAc.out.trans ho8 (fun _ _ e => e))
        have HO8 := hid (HO0.out.trans HA8.out (fun _ _ e => e))
        clear ho8
        clear x0 x1 x2 x3 hlx y0 y1 y2 y3 hly z0 z1 z2 z3 hlz
        have x0 : w8.cell? ⟨w.heap.size, 0, none⟩ = some (.int .i64 kx) := cell_blk (HXx.out w8 HA8.out) 0
        have x1 : w8.cell? ⟨w.heap.size, 1, none⟩ = some (.int .i64 nx) := cell_blk (HXx.out w8 HA8.out) 1
        have x2 : w8.cell? ⟨w.heap.size, 2, none⟩ = some (.string (strOf sx)) := cell_blk (HXx.out w8 HA8.out) 2
        have x3 : w8.cell? ⟨w.heap.size, 3, none⟩ = some (.slice ax mx cx) := cell_blk (HXx.out w8 HA8.out) 3
        have hlx : w.heap.size < w8.heap.size := blk_lt (HXx.out w8 HA8.out)
        have y0 : w8.cell? ⟨w.heap.size + 1, 0, none⟩ = some (.int .i64 ky) := cell_blk (HXy.out w8 HA8.out) 0
        have y1 : w8.cell? ⟨w.heap.size + 1, 1, none⟩ = some (.int .i64 ny) := cell_blk (HXy.out w8 HA8.out) 1
        have y2 : w8.cell? ⟨w.heap.size + 1, 2, none⟩ = some (.string (strOf sy)) := cell_blk (HXy.out w8 HA8.out) 2
        have y3 : w8.cell? ⟨w.heap.size + 1, 3, none⟩ = some (.slice ay my cy) := cell_blk (HXy.out w8 HA8.out) 3
        have hly : w.heap.size + 1 < w8.heap.size := blk_lt (HXy.out w8 HA8.out)
        have z0 : w8.cell? ⟨w.heap.size + 1 + 1, 0, none⟩ = some (.int .i64 kz) := cell_blk (HXz.out w8 HA8.out) 0
        have z1 : w8.cell? ⟨w.heap.size + 1 + 1, 1, none⟩ = some (.int .i64 nz) := cell_blk (HXz.out w8 HA8.out) 1
        have z2 : w8.cell? ⟨w.heap.size + 1 + 1, 2, none⟩ = some (.string (strOf sz)) := cell_blk (HXz.out w8 HA8.out) 2
        have z3 : w8.cell? ⟨w.heap.size + 1 + 1, 3, none⟩ = some (.slice az mz cz) := cell_blk (HXz.out w8 HA8.out) 3
        have hlz : w.heap.size + 1 + 1 < w8.heap.size := blk_lt (HXz.out w8 HA8.out)
        go_wp2_with fail
        refine (HAC.out _ HO8.out).mono ?_
        rintro x w9 ⟨rfl, ho9⟩
        have HA9 := hid (HA8.out.trans ho9 (fun _ _ e => e))
        clear ho9
        go_wp2_with fail
        go_meet
        case rel => exact ⟨by first | rfl | (simp <;> omega), HA9.out⟩
      · go_wp2_with fail
        refine (HBC.out _ HOc.out).mono ?_
        rintro x w8 ⟨rfl, ho8⟩
        have HA8 := hid (HAc.out.trans ho8 (fun _ _ e => e))
        clear ho8
        go_wp2_with fail
        go_meet
        case rel => exact ⟨rfl, HA8.out⟩
    · go_wp2_with fail
      go_meet
      case rel => exact ⟨rfl, HAc.out⟩
  case rest =>
  obtain ⟨rfl, hcA⟩ := hcut
  clear x0 x1 x2 x3 hlx y0 y1 y2 y3 hly z0 z1 z2 z3 hlz
  have HAd := hid hcA
  have HOd := hid (HO0.out.trans hcA (fun _ _ e => e))
  clear hcA HAc HOc HBC HAC HTRN hsg
  have x0 : wc.cell? ⟨w.heap.size, 0, none⟩ = some (.int .i64 kx) := cell_blk (HXx.out wc HAd.out) 0
  have x1 : wc.cell? ⟨w.heap.size, 1, none⟩ = some (.int .i64 nx) := cell_blk (HXx.out wc HAd.out) 1
  have x2 : wc.cell? ⟨w.heap.size, 2, none⟩ = some (.string (strOf sx)) := cell_blk (HXx.out wc HAd.out) 2
  have x3 : wc.cell? ⟨w.heap.size, 3, none⟩ = some (.slice ax mx cx) := cell_blk (HXx.out wc HAd.out) 3
  have hlx : w.heap.size < wc.heap.size := blk_lt (HXx.out wc HAd.out)
  have y0 : wc.cell? ⟨w.heap.size + 1, 0, none⟩ = some (.int .i64 ky) := cell_blk (HXy.out wc HAd.out) 0
  have y1 : wc.cell? ⟨w.heap.size + 1, 1, none⟩ = some (.int .i64 ny) := cell_blk (HXy.out wc HAd.out) 1
  have y2 : wc.cell? ⟨w.heap.size + 1, 2, none⟩ = some (.string (strOf sy)) := cell_blk (HXy.out wc HAd.out) 2
  have y3 : wc.cell? ⟨w.heap.size + 1, 3, none⟩ = some (.slice ay my cy) := cell_blk (HXy.out wc HAd.out) 3
  have hly : w.heap.size + 1 < wc.heap.size := blk_lt (HXy.out wc HAd.out)
  have z0 : wc.cell? ⟨w.heap.size + 1 + 1, 0, none⟩ = some (.int .i64 kz) := cell_blk (HXz.out wc HAd.out) 0
  have z1 : wc.cell? ⟨w.heap.size + 1 + 1, 1, none⟩ = some (.int .i64 nz) := cell_blk (HXz.out wc HAd.out) 1
  have z2 : wc.cell? ⟨w.heap.size + 1 + 1, 2, none⟩ = some (.string (strOf sz)) := cell_blk (HXz.out wc HAd.out) 2
  have z3 : wc.cell? ⟨w.heap.size + 1 + 1, 3, none⟩ = some (.slice az mz cz) := cell_blk (HXz.out wc HAd.out) 3
  have hlz : w.heap.size + 1 + 1 < wc.heap.size := blk_lt (HXz.out wc HAd.out)
  have HBX := hid (fun (wx : World) (h : Only (fun _ => False) w wx) => rfbytes_c (HX.out.same h) Gx.out (by have := (chk_walk HCx.out).choose_spec.2; omega))
  have HBY := hid (fun (wx : World) (h : Only (fun _ => False) w wx) => rfbytes_c (HY.out.same h) Gy.out (by have := (chk_walk HCy.out).choose_spec.2; omega))
  have hin := HIN.out
  obtain ⟨xw, hxw⟩ : ∃ q, tx.wr = q := ⟨_, rfl⟩
  obtain ⟨yw, hyw⟩ : ∃ q, ty.wr = q := ⟨_, rfl⟩
  rw [hxw, hyw] at hin
  simp only [hxw] at HBX
  simp only [hyw] at HBY
  obtain ⟨B, hB⟩ : ∃ q, (Y == 0) = q := ⟨_, rfl⟩
  rw [hB] at hin
  have hcs : ((strOf xw).toList == (strOf yw).toList) = B := by rw [strOf_list, strOf_list]; exact hin
  have hBB : (B == B) = true := by simp
  clear hin hxw hyw
  go_wp2_with fail
  go_region_law (first
    | (refine step_of rfl (wp_callc (o := ⟨some 82, _, _, _, _, _⟩) (f := 16) (args := #[.agg #[.int .i64 kx, .int .i64 nx, .string (strOf sx), .slice ax mx cx]]) (by kernel_rfl) ?_); refine (HBX.out _ (HOd.out.trans (Only.refl (fun _ => False) wc).drew (fun _ _ e => e))).mono ?_; rintro x w8 ⟨rfl, ho8⟩; refine ⟨_, rfl, ?_⟩; have HA8 := hid (HAd.out.trans ((Only.refl (fun _ => False) wc).drew.trans ho8 (fun _ _ e => e)) (fun _ _ e => e)); have HO8 := hid (HO0.out.trans HA8.out (fun _ _ e => e)); clear ho8; clear x0 x1 x2 x3 hlx y0 y1 y2 y3 hly z0 z1 z2 z3 hlz; have x0 : w8.cell? ⟨w.heap.size, 0, none⟩ = some (.int .i64 kx) := cell_blk (HXx.out w8 HA8.out) 0; have x1 : w8.cell? ⟨w.heap.size, 1, none⟩ = some (.int .i64 nx) := cell_blk (HXx.out w8 HA8.out) 1; have x2 : w8.cell? ⟨w.heap.size, 2, none⟩ = some (.string (strOf sx)) := cell_blk (HXx.out w8 HA8.out) 2; have x3 : w8.cell? ⟨w.heap.size, 3, none⟩ = some (.slice ax mx cx) := cell_blk (HXx.out w8 HA8.out) 3; have hlx : w.heap.size < w8.heap.size := blk_lt (HXx.out w8 HA8.out); have y0 : w8.cell? ⟨w.heap.size + 1, 0, none⟩ = some (.int .i64 ky) := cell_blk (HXy.out w8 HA8.out) 0; have y1 : w8.cell? ⟨w.heap.size + 1, 1, none⟩ = some (.int .i64 ny) := cell_blk (HXy.out w8 HA8.out) 1; have y2 : w8.cell? ⟨w.heap.size + 1, 2, none⟩ = some (.string (strOf sy)) := cell_blk (HXy.out w8 HA8.out) 2; have y3 : w8.cell? ⟨w.heap.size + 1, 3, none⟩ = some (.slice ay my cy) := cell_blk (HXy.out w8 HA8.out) 3; have hly : w.heap.size + 1 < w8.heap.size := blk_lt (HXy.out w8 HA8.out); have z0 : w8.cell? ⟨w.heap.size + 1 + 1, 0, none⟩ = some (.int .i64 kz) := cell_blk (HXz.out w8 HA8.out) 0; have z1 : w8.cell? ⟨w.heap.size + 1 + 1, 1, none⟩ = some (.int .i64 nz) := cell_blk (HXz.out w8 HA8.out) 1; have z2 : w8.cell? ⟨w.heap.size + 1 + 1, 2, none⟩ = some (.string (strOf sz)) := cell_blk (HXz.out w8 HA8.out) 2; have z3 : w8.cell? ⟨w.heap.size + 1 + 1, 3, none⟩ = some (.slice az mz cz) := cell_blk (HXz.out w8 HA8.out) 3; have hlz : w.heap.size + 1 + 1 < w8.heap.size := blk_lt (HXz.out w8 HA8.out))
    | (refine step_of rfl (wp_callc (o := ⟨some 84, _, _, _, _, _⟩) (f := 16) (args := #[.agg #[.int .i64 ky, .int .i64 ny, .string (strOf sy), .slice ay my cy]]) (by kernel_rfl) ?_); refine (HBY.out _ HO8.out).mono ?_; rintro x w9 ⟨rfl, ho9⟩; refine ⟨_, rfl, ?_⟩; have HA9 := hid (HA8.out.trans ho9 (fun _ _ e => e)); have HO9 := hid (HO0.out.trans HA9.out (fun _ _ e => e)); clear ho9; clear x0 x1 x2 x3 hlx y0 y1 y2 y3 hly z0 z1 z2 z3 hlz; have x0 : w9.cell? ⟨w.heap.size, 0, none⟩ = some (.int .i64 kx) := cell_blk (HXx.out w9 HA9.out) 0; have x1 : w9.cell? ⟨w.heap.size, 1, none⟩ = some (.int .i64 nx) := cell_blk (HXx.out w9 HA9.out) 1; have x2 : w9.cell? ⟨w.heap.size, 2, none⟩ = some (.string (strOf sx)) := cell_blk (HXx.out w9 HA9.out) 2; have x3 : w9.cell? ⟨w.heap.size, 3, none⟩ = some (.slice ax mx cx) := cell_blk (HXx.out w9 HA9.out) 3; have hlx : w.heap.size < w9.heap.size := blk_lt (HXx.out w9 HA9.out); have y0 : w9.cell? ⟨w.heap.size + 1, 0, none⟩ = some (.int .i64 ky) := cell_blk (HXy.out w9 HA9.out) 0; have y1 : w9.cell? ⟨w.heap.size + 1, 1, none⟩ = some (.int .i64 ny) := cell_blk (HXy.out w9 HA9.out) 1; have y2 : w9.cell? ⟨w.heap.size + 1, 2, none⟩ = some (.string (strOf sy)) := cell_blk (HXy.out w9 HA9.out) 2; have y3 : w9.cell? ⟨w.heap.size + 1, 3, none⟩ = some (.slice ay my cy) := cell_blk (HXy.out w9 HA9.out) 3; have hly : w.heap.size + 1 < w9.heap.size := blk_lt (HXy.out w9 HA9.out); have z0 : w9.cell? ⟨w.heap.size + 1 + 1, 0, none⟩ = some (.int .i64 kz) := cell_blk (HXz.out w9 HA9.out) 0; have z1 : w9.cell? ⟨w.heap.size + 1 + 1, 1, none⟩ = some (.int .i64 nz) := cell_blk (HXz.out w9 HA9.out) 1; have z2 : w9.cell? ⟨w.heap.size + 1 + 1, 2, none⟩ = some (.string (strOf sz)) := cell_blk (HXz.out w9 HA9.out) 2; have z3 : w9.cell? ⟨w.heap.size + 1 + 1, 3, none⟩ = some (.slice az mz cz) := cell_blk (HXz.out w9 HA9.out) 3; have hlz : w.heap.size + 1 + 1 < w9.heap.size := blk_lt (HXz.out w9 HA9.out)))
  all_goals
    go_wp2_with fail
    go_ret
    exact ⟨rfl, HO9.out⟩

end
end Go.Proofs.YtbhlggnggdmpmaaGreatDoor
