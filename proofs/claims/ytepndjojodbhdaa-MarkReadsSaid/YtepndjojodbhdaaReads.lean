/- MarkReads: the walk. -/
import Derived.Test.YtepndjojodbhdaaRefE
import Derived.Test.YtepndjojodbhdaaOpenN
import Derived.Deep.Cut
namespace Go.Proofs.Ytepndjojodbhdaa
open Go.RowKit

/-- Between the rounds: a disk of two sectors, with power and no fuse. -/
structure RdSt (w wr : World) (b : Nat) (D : DiskM) (F : Nat → Prop) : Prop where
  disk : DiskAt wr b D F
  up : D.down = false
  fu : D.fuse < 0
  n : D.n = 2
  f0 : ∀ k, F k → w.heap.size < k
  lt : w.heap.size < wr.heap.size
  only : Only (fun _ => False) w wr
theorem RdSt.step {w wr w' : World} {b : Nat} {D : DiskM} {F : Nat → Prop} (h : RdSt w wr b D F) (ho : Only (fun _ => False) wr w') : RdSt w w' b D F := ⟨h.disk.only ho (fun _ _ e => e), h.up, h.fu, h.n, h.f0, Nat.lt_of_lt_of_le h.lt ho.size, h.only.trans ho (fun _ _ e => e)⟩
theorem write_keep {D : DiskM} (hd : D.down = false) (hf : D.fuse < 0) (n : Int) (l : List UInt8) : (D.write n l).1.down = false ∧ (D.write n l).1.fuse < 0 ∧ (D.write n l).1.n = D.n := by
  have hb : D.burn = D := by unfold DiskM.burn; rw [if_pos hf]
  have hbs : D.burns = true := by unfold DiskM.burns; simp; omega
  unfold DiskM.write
  rw [hd, hbs, hb, if_neg (by simp)]
  split
  · exact ⟨hd, hf, rfl⟩
  · split
    · exact ⟨hd, hf, rfl⟩
    · split
      · exact ⟨hd, hf, rfl⟩
      · rw [if_pos rfl]; exact ⟨hd, hf, rfl⟩
theorem flush_keep {D : DiskM} (hd : D.down = false) (hf : D.fuse < 0) : D.flush.2 = 0 ∧ D.flush.1.down = false ∧ D.flush.1.fuse < 0 ∧ D.flush.1.n = D.n ∧ (∀ k, D.flush.1.cur k = D.cur k) ∧ ∀ k, D.flush.1.sure k = D.cur k := by
  have hb : D.burn = D := by unfold DiskM.burn; rw [if_pos hf]
  have hbs : D.burns = true := by unfold DiskM.burns; simp; omega
  unfold DiskM.flush
  rw [hd, hbs, hb]
  exact ⟨rfl, hd, hf, rfl, fun k => rfl, fun k => rfl⟩
theorem rd_write {w wr : World} {b : Nat} {D : DiskM} {F : Nat → Prop} (h : RdSt w wr b D F) (n : Int) (g : Nat) (l : List UInt8) (hr : Row wr g 5 128 (bytesV l)) (hl : l.length = 128) (hg : ¬ F g) :
    Calls Try.prog 28 #[.pointer (some ⟨b, 0, none⟩), .int .i64 n, .slice (some ⟨g, 0, none⟩) 128 128] wr fun e w' => (∃ c, e = .returned (.int .i64 c)) ∧ ∃ D' F', RdSt w w' b D' F' ∧ Only F wr w' := by
  have hsrc : Src wr (.slice (some ⟨g, 0, none⟩) 128 128) l := by have := hr.src; rw [hl] at this; exact this
  refine (write_c h.disk n _ l hsrc (fun g' o c e hF => by simp only [Value.slice.injEq, Option.some.injEq, Addr.mk.injEq] at e; exact hg (by rw [e.1.1]; exact hF)) (by omega)).mono ?_
  rintro e w' ⟨rfl, F', hd, ho, hn⟩
  obtain ⟨k1, k2, k3⟩ := write_keep h.up h.fu n l
  refine ⟨⟨_, rfl⟩, _, F', ⟨hd, k1, k2, by rw [k3]; exact h.n, fun k hk => ?_, Nat.lt_of_lt_of_le h.lt ho.size, h.only.trans ho (fun k hk e => by have := h.f0 k e; omega)⟩, ho⟩
  rcases hn k hk with e | e
  · exact h.f0 k e
  · have := h.lt; omega
theorem Src.addsV {w : World} {a : Option Addr} {n c : Nat} {l : List UInt8} (h : Src w (.slice a n c) l) : 0 < (bytesV l).length → ∃ ad, a = some ad ∧ ∀ j u, (bytesV l)[j]? = some u → w.cell? (ad.add j) = some u := fun h0 => h.adds (by rw [length_bytesV] at h0; exact h0)
theorem refW_len (l : List UInt8) : (refW l).length ≤ 6 := by
  unfold refW
  split
  · rw [refK_len]; exact Nat.le_refl _
  · simp
theorem refGet_len (a b : List UInt8) : (refGet a b).2.length ≤ 6 := by
  have hx : (refX a).2.length ≤ 6 := by
    unfold refX
    split
    · exact refW_len a
    · simp
  have hy : (refY b).2.length ≤ 6 := by
    unfold refY
    split
    · exact refW_len b
    · simp
  unfold refGet
  split
  · exact hy
  · exact hx
theorem lay_bytes (a b : List UInt8) : lay (bytesV a) 0 (bytesV b) = bytesV (lay a 0 b) := by simp [lay, bytesV]
theorem set_bytes (l : List UInt8) (i : Nat) (x : UInt8) : (bytesV l).set i (.int .u8 x.toNat) = bytesV (l.set i x) := by simp [bytesV, List.map_set]
theorem inc_byte (x : UInt8) : Value.int .u8 (((x.toNat : Int) + 1) % 256) = .int .u8 ((UInt8.ofNat (x.toNat + 1)).toNat : Nat) := by
  congr 1

set_option maxRecDepth 100000 in
set_option maxHeartbeats 12800000 in
theorem markReads_c (w : World) (va vb : Value) (la lb : List UInt8) (hva : Src w va la) (hvb : Src w vb lb) (hla : la.length ≤ 9223372036854775807) (hlb : lb.length ≤ 9223372036854775807) (b0 b1 : Int) :
    Calls Try.prog 8 #[va, vb, .agg #[.int .i64 b0, .int .i64 b1]] w fun e w' => e = .returned (.bool true) ∧ Only (fun _ => False) w w' := by
  have HA := hid hva; have HB := hid hvb
  obtain ⟨aa, ca, rfl, -⟩ := hva
  obtain ⟨ab, cb, rfl, -⟩ := hvb
  have Hbox := fun (w1 : World) (ho : Only (fun _ => False) (w.alloc (.cells #[.int .i64 b0, .int .i64 b1] 42)) w1) => hid (blk_only (blk_new w (.cells #[.int .i64 b0, .int .i64 b1] 42)) ho (fun e => e))
  by_cases h1 : 128 < (la.length : Int)
  · go_enter Try.func8, Try.ntmps8
    go_wp2_with (go_at_call 42; refine (marks_c _).mono ?_; rintro e w1 ⟨rfl, ho1⟩)
    go_ret
    exact ⟨rfl, ((Only.refl _ _).alloc _).trans ho1 (fun _ _ e => e)⟩
  by_cases h2 : 128 < (lb.length : Int)
  · go_enter Try.func8, Try.ntmps8
    go_wp2_with (go_at_call 42; refine (marks_c _).mono ?_; rintro e w1 ⟨rfl, ho1⟩)
    go_ret
    exact ⟨rfl, ((Only.refl _ _).alloc _).trans ho1 (fun _ _ e => e)⟩
  have hix0 : ∀ w, (Instr.index 59 (.agg #[.slice aa la.length ca, .slice ab lb.length cb]) (.int .i64 0)).run Try.prog w = .ok (.slice aa la.length ca) w := fun w => by kernel_rfl
  have hix1 : ∀ w, (Instr.index 59 (.agg #[.slice aa la.length ca, .slice ab lb.length cb]) (.int .i64 1)).run Try.prog w = .ok (.slice ab lb.length cb) w := fun w => by kernel_rfl
  have Hix0 := hid hix0; have Hix1 := hid hix1
  clear hix0 hix1
  go_enter Try.func8, Try.ntmps8
  go_wp2_with (go_at_call 42; refine (marks_c _).mono ?_; rintro e w1 ⟨rfl, ho1⟩; have Hb1 := Hbox w1 ho1; have Ho1 := hid (((Only.refl (fun _ => False) w).alloc (.cells #[.int .i64 b0, .int .i64 b1] 42)).trans ho1 (fun _ _ e => e)); clear ho1)
  refine (new_ok w1 2 (by decide) (by decide)).mono ?_
  rintro e w2 ⟨b, F, rfl, hD, ho2, hF⟩
  have Hb2 := hid (blk_only Hb1.out ho2 (fun e => e))
  have HS := hid (show RdSt w w2 b (DiskM.new 2) F from ⟨hD, rfl, by decide, rfl, fun k hk => Nat.lt_of_lt_of_le (blk_lt Hb1.out) (hF k hk), Nat.lt_of_lt_of_le (blk_lt Hb1.out) ho2.size, Ho1.out.trans ho2 (fun _ _ e => e)⟩)
  clear hD ho2 hF
  go_wp2_with fail
  go_loopw [35, 9, 10, 11, 12] (fun i _ _ _ _ wr => ∃ (k : Nat) (D : DiskM) (F : Nat → Prop), i = .int .i64 k ∧ k ≤ 2 ∧ RdSt w wr b D F ∧ wr.heap[w.heap.size]? = some (.cells #[.int .i64 b0, .int .i64 b1] 42 (0, 0))) (fun i _ _ _ _ _ => 2 - (intOf i).toNat)
  case atStart => exact ⟨0, _, F, rfl, by omega, HS.out, Hb2.out⟩
  case round =>
    clear HS
    obtain ⟨k, D, F, rfl, hk, hst, hbx⟩ := hrel
    obtain ⟨w3, rfl⟩ : ∃ w3 : World, w3 = wr := ⟨_, rfl⟩
    have HS := hid hst; have Hbx := hid hbx
    have hmk : ∀ w, (Instr.makeSlice 30 (.int .i64 128) (.int .i64 128)).run Try.prog w = .ok (.slice (some ⟨w.heap.size, 0, none⟩) 128 128) (w.alloc (.cells (bytesV (zeros 128)).toArray 5)) := fun w => make_bytes w 128 (by decide)
    clear hst hbx
    by_cases hk2 : k < 2
    · have hk01 : k = 0 ∨ k = 1 := by omega
      rcases hk01 with rfl | rfl
      · have hix := Hix0.out
        have hSrc : Src (w3.alloc (.cells (bytesV (zeros 128)).toArray 5)) (.slice aa la.length ca) la := HA.out.only (HS.out.only.alloc _) (fun _ _ _ _ _ e => e)
        have HSrc := hid hSrc
        clear hSrc
        have hll : (lay (zeros 128) 0 la).length = 128 := by rw [length_lay _ _ _ (by simp; omega)]; simp
        obtain ⟨X, hX⟩ : ∃ X, lay (zeros 128) 0 la = X := ⟨_, rfl⟩
        have Hll := hid (show X.length = 128 by rw [← hX]; exact hll)
        have HX := hid hX
        clear hX hll
        by_cases hin : 0 ≤ b0 ∧ b0 < 128
        · obtain ⟨hin0, hin1⟩ := hin
          obtain ⟨p, hp⟩ := Int.eq_ofNat_of_zero_le hin0
          subst hp
          have hpX : p < X.length := by rw [Hll.out]; omega
          go_upto_region 15 with (first | (refine wpList_cpy rfl (.tmp 40) (.tmp 41) 30 30 rfl 5 Try.underlying30 (by kernel_rfl) w3.heap.size 0 128 128 rfl 128 (bytesV (zeros 128)) (Row.new' _ _ _ _ (by simp)) aa la.length ca rfl (bytesV la) (by rw [length_bytesV]; omega) HSrc.out.addsV (by rw [length_bytesV, length_bytesV, length_zeros]; omega) (oneCell_bytesV _) ?_; intro w4 hrow4 ho4 hs4; rw [lay_bytes] at hrow4; have Ho34 := hid (((Only.refl (fun _ => False) w3).alloc _).trans ho4 (fun j hj e => by have e' : j = w3.heap.size := e; omega)); have Hrow4 := hid hrow4; have hbx4 := blk_only Hbx.out Ho34.out (fun e => e); have d4 : w4.cell? ⟨w.heap.size, 0, none⟩ = some (.int .i64 (p : Int)) := cell_blk hbx4 0; have Hbx4 := hid hbx4; have HS4 := hid (HS.out.step Ho34.out); clear hrow4 ho4 hs4 hbx4))
          have hrow4 := Hrow4.out
          rw [HX.out] at hrow4
          have e4 : w4.cell? ⟨w3.heap.size, p, none⟩ = some (.int .u8 (X[p]).toNat) := by rw [hrow4.cell p (by simpa using hpX), bytesV_get, List.getElem?_eq_getElem hpX]; rfl
          have z4 := hrow4.frozen p
          have hset := hrow4.set p (.int .u8 (UInt8.ofNat ((X[p]).toNat + 1)).toNat) (by simpa using hpX)
          rw [set_bytes, ← inc_byte] at hset
          have Hset := hid hset
          have hng : ¬ F w3.heap.size := fun e => Nat.lt_irrefl _ (HS.out.disk.lt e)
          have HS5 := hid (show RdSt w (w4.setCell ⟨w3.heap.size, p, none⟩ (.int .u8 (((X[p]).toNat + 1) % 256))) b D F from ⟨HS4.out.disk.only (only_set _ _ _) (fun j hj e => hng (by have e' : j = w3.heap.size := e; rw [← e']; exact hj)), HS4.out.up, HS4.out.fu, HS4.out.n, HS4.out.f0, by rw [World.size_setCell]; exact HS4.out.lt, HS4.out.only.setCell _ _ (fun h => absurd h (by have := HS.out.only.size; show ¬ w3.heap.size < w.heap.size; omega))⟩)
          have HWr := hid (rd_write HS5.out 0 w3.heap.size _ Hset.out (by simp; exact Hll.out) hng)
          have Hbx5 := hid (blk_set_other (b := w3.heap.size) (o := p) (v := .int .u8 (((X[p]).toNat + 1) % 256)) Hbx4.out (by have := blk_lt Hbx.out; omega))
          have Hng := hid hng
          clear hrow4 hset hng
          go_wp2_with fail
          refine HWr.out.mono ?_
          rintro e w6 ⟨⟨cc, rfl⟩, D', F', hst', ho6⟩
          have Hst6 := hid hst'; have Hbx6 := hid (blk_only Hbx5.out ho6 (fun e => Nat.lt_irrefl _ (HS.out.f0 _ e)))
          clear hst' ho6
          go_wp2_with fail
          go_roundw
          case rel => exact ⟨1, D', F', rfl, by omega, Hst6.out, Hbx6.out⟩
          case measure => simp [intOf]
        · have hng : ¬ F w3.heap.size := fun e => Nat.lt_irrefl _ (HS.out.disk.lt e)
          have Hng := hid hng
          clear hng
          by_cases hin0 : 0 ≤ b0
          · have hin1 : ¬ b0 < 128 := fun h => hin ⟨hin0, h⟩
            clear hin
            go_wp2_with (first | (refine wpList_cpy rfl (.tmp 40) (.tmp 41) 30 30 rfl 5 Try.underlying30 (by kernel_rfl) w3.heap.size 0 128 128 rfl 128 (bytesV (zeros 128)) (Row.new' _ _ _ _ (by simp)) aa la.length ca rfl (bytesV la) (by rw [length_bytesV]; omega) HSrc.out.addsV (by rw [length_bytesV, length_bytesV, length_zeros]; omega) (oneCell_bytesV _) ?_; intro w4 hrow4 ho4 hs4; rw [lay_bytes] at hrow4; have Ho34 := hid (((Only.refl (fun _ => False) w3).alloc _).trans ho4 (fun j hj e => by have e' : j = w3.heap.size := e; omega)); have Hrow4 := hid hrow4; have hbx4 := blk_only Hbx.out Ho34.out (fun e => e); have d4 : w4.cell? ⟨w.heap.size, 0, none⟩ = some (.int .i64 b0) := cell_blk hbx4 0; have Hbx4 := hid hbx4; have HS4 := hid (HS.out.step Ho34.out); clear hrow4 ho4 hs4 hbx4))
            have hrow4 := Hrow4.out
            rw [HX.out] at hrow4
            have HWr := hid (rd_write HS4.out 0 w3.heap.size _ hrow4 Hll.out Hng.out)
            refine HWr.out.mono ?_
            rintro e w6 ⟨⟨cc, rfl⟩, D', F', hst', ho6⟩
            have Hst6 := hid hst'; have Hbx6 := hid (blk_only Hbx4.out ho6 (fun e => Nat.lt_irrefl _ (HS.out.f0 _ e)))
            clear hst' ho6 hrow4
            go_wp2_with fail
            go_roundw
            case rel => exact ⟨1, D', F', rfl, by omega, Hst6.out, Hbx6.out⟩
            case measure => simp [intOf]
          · clear hin
            go_wp2_with (first | (refine wpList_cpy rfl (.tmp 40) (.tmp 41) 30 30 rfl 5 Try.underlying30 (by kernel_rfl) w3.heap.size 0 128 128 rfl 128 (bytesV (zeros 128)) (Row.new' _ _ _ _ (by simp)) aa la.length ca rfl (bytesV la) (by rw [length_bytesV]; omega) HSrc.out.addsV (by rw [length_bytesV, length_bytesV, length_zeros]; omega) (oneCell_bytesV _) ?_; intro w4 hrow4 ho4 hs4; rw [lay_bytes] at hrow4; have Ho34 := hid (((Only.refl (fun _ => False) w3).alloc _).trans ho4 (fun j hj e => by have e' : j = w3.heap.size := e; omega)); have Hrow4 := hid hrow4; have hbx4 := blk_only Hbx.out Ho34.out (fun e => e); have d4 : w4.cell? ⟨w.heap.size, 0, none⟩ = some (.int .i64 b0) := cell_blk hbx4 0; have Hbx4 := hid hbx4; have HS4 := hid (HS.out.step Ho34.out); clear hrow4 ho4 hs4 hbx4))
            have hrow4 := Hrow4.out
            rw [HX.out] at hrow4
            have HWr := hid (rd_write HS4.out 0 w3.heap.size _ hrow4 Hll.out Hng.out)
            refine HWr.out.mono ?_
            rintro e w6 ⟨⟨cc, rfl⟩, D', F', hst', ho6⟩
            have Hst6 := hid hst'; have Hbx6 := hid (blk_only Hbx4.out ho6 (fun e => Nat.lt_irrefl _ (HS.out.f0 _ e)))
            clear hst' ho6 hrow4
            go_wp2_with fail
            go_roundw
            case rel => exact ⟨1, D', F', rfl, by omega, Hst6.out, Hbx6.out⟩
            case measure => simp [intOf]
      · have hix := Hix1.out
        have hSrc : Src (w3.alloc (.cells (bytesV (zeros 128)).toArray 5)) (.slice ab lb.length cb) lb := HB.out.only (HS.out.only.alloc _) (fun _ _ _ _ _ e => e)
        have HSrc := hid hSrc
        clear hSrc
        have hll : (lay (zeros 128) 0 lb).length = 128 := by rw [length_lay _ _ _ (by simp; omega)]; simp
        obtain ⟨X, hX⟩ : ∃ X, lay (zeros 128) 0 lb = X := ⟨_, rfl⟩
        have Hll := hid (show X.length = 128 by rw [← hX]; exact hll)
        have HX := hid hX
        clear hX hll
        by_cases hin : 0 ≤ b1 ∧ b1 < 128
        · obtain ⟨hin0, hin1⟩ := hin
          obtain ⟨p, hp⟩ := Int.eq_ofNat_of_zero_le hin0
          subst hp
          have hpX : p < X.length := by rw [Hll.out]; omega
          go_upto_region 15 with (first | (refine wpList_cpy rfl (.tmp 40) (.tmp 41) 30 30 rfl 5 Try.underlying30 (by kernel_rfl) w3.heap.size 0 128 128 rfl 128 (bytesV (zeros 128)) (Row.new' _ _ _ _ (by simp)) ab lb.length cb rfl (bytesV lb) (by rw [length_bytesV]; omega) HSrc.out.addsV (by rw [length_bytesV, length_bytesV, length_zeros]; omega) (oneCell_bytesV _) ?_; intro w4 hrow4 ho4 hs4; rw [lay_bytes] at hrow4; have Ho34 := hid (((Only.refl (fun _ => False) w3).alloc _).trans ho4 (fun j hj e => by have e' : j = w3.heap.size := e; omega)); have Hrow4 := hid hrow4; have hbx4 := blk_only Hbx.out Ho34.out (fun e => e); have d4 : w4.cell? ⟨w.heap.size, 1, none⟩ = some (.int .i64 (p : Int)) := cell_blk hbx4 1; have Hbx4 := hid hbx4; have HS4 := hid (HS.out.step Ho34.out); clear hrow4 ho4 hs4 hbx4))
          have hrow4 := Hrow4.out
          rw [HX.out] at hrow4
          have e4 : w4.cell? ⟨w3.heap.size, p, none⟩ = some (.int .u8 (X[p]).toNat) := by rw [hrow4.cell p (by simpa using hpX), bytesV_get, List.getElem?_eq_getElem hpX]; rfl
          have z4 := hrow4.frozen p
          have hset := hrow4.set p (.int .u8 (UInt8.ofNat ((X[p]).toNat + 1)).toNat) (by simpa using hpX)
          rw [set_bytes, ← inc_byte] at hset
          have Hset := hid hset
          have hng : ¬ F w3.heap.size := fun e => Nat.lt_irrefl _ (HS.out.disk.lt e)
          have HS5 := hid (show RdSt w (w4.setCell ⟨w3.heap.size, p, none⟩ (.int .u8 (((X[p]).toNat + 1) % 256))) b D F from ⟨HS4.out.disk.only (only_set _ _ _) (fun j hj e => hng (by have e' : j = w3.heap.size := e; rw [← e']; exact hj)), HS4.out.up, HS4.out.fu, HS4.out.n, HS4.out.f0, by rw [World.size_setCell]; exact HS4.out.lt, HS4.out.only.setCell _ _ (fun h => absurd h (by have := HS.out.only.size; show ¬ w3.heap.size < w.heap.size; omega))⟩)
          have HWr := hid (rd_write HS5.out 1 w3.heap.size _ Hset.out (by simp; exact Hll.out) hng)
          have Hbx5 := hid (blk_set_other (b := w3.heap.size) (o := p) (v := .int .u8 (((X[p]).toNat + 1) % 256)) Hbx4.out (by have := blk_lt Hbx.out; omega))
          have Hng := hid hng
          clear hrow4 hset hng
          go_wp2_with fail
          refine HWr.out.mono ?_
          rintro e w6 ⟨⟨cc, rfl⟩, D', F', hst', ho6⟩
          have Hst6 := hid hst'; have Hbx6 := hid (blk_only Hbx5.out ho6 (fun e => Nat.lt_irrefl _ (HS.out.f0 _ e)))
          clear hst' ho6
          go_wp2_with fail
          go_roundw
          case rel => exact ⟨2, D', F', rfl, by omega, Hst6.out, Hbx6.out⟩
          case measure => simp [intOf]
        · have hng : ¬ F w3.heap.size := fun e => Nat.lt_irrefl _ (HS.out.disk.lt e)
          have Hng := hid hng
          clear hng
          by_cases hin0 : 0 ≤ b1
          · have hin1 : ¬ b1 < 128 := fun h => hin ⟨hin0, h⟩
            clear hin
            go_wp2_with (first | (refine wpList_cpy rfl (.tmp 40) (.tmp 41) 30 30 rfl 5 Try.underlying30 (by kernel_rfl) w3.heap.size 0 128 128 rfl 128 (bytesV (zeros 128)) (Row.new' _ _ _ _ (by simp)) ab lb.length cb rfl (bytesV lb) (by rw [length_bytesV]; omega) HSrc.out.addsV (by rw [length_bytesV, length_bytesV, length_zeros]; omega) (oneCell_bytesV _) ?_; intro w4 hrow4 ho4 hs4; rw [lay_bytes] at hrow4; have Ho34 := hid (((Only.refl (fun _ => False) w3).alloc _).trans ho4 (fun j hj e => by have e' : j = w3.heap.size := e; omega)); have Hrow4 := hid hrow4; have hbx4 := blk_only Hbx.out Ho34.out (fun e => e); have d4 : w4.cell? ⟨w.heap.size, 1, none⟩ = some (.int .i64 b1) := cell_blk hbx4 1; have Hbx4 := hid hbx4; have HS4 := hid (HS.out.step Ho34.out); clear hrow4 ho4 hs4 hbx4))
            have hrow4 := Hrow4.out
            rw [HX.out] at hrow4
            have HWr := hid (rd_write HS4.out 1 w3.heap.size _ hrow4 Hll.out Hng.out)
            refine HWr.out.mono ?_
            rintro e w6 ⟨⟨cc, rfl⟩, D', F', hst', ho6⟩
            have Hst6 := hid hst'; have Hbx6 := hid (blk_only Hbx4.out ho6 (fun e => Nat.lt_irrefl _ (HS.out.f0 _ e)))
            clear hst' ho6 hrow4
            go_wp2_with fail
            go_roundw
            case rel => exact ⟨2, D', F', rfl, by omega, Hst6.out, Hbx6.out⟩
            case measure => simp [intOf]
          · clear hin
            go_wp2_with (first | (refine wpList_cpy rfl (.tmp 40) (.tmp 41) 30 30 rfl 5 Try.underlying30 (by kernel_rfl) w3.heap.size 0 128 128 rfl 128 (bytesV (zeros 128)) (Row.new' _ _ _ _ (by simp)) ab lb.length cb rfl (bytesV lb) (by rw [length_bytesV]; omega) HSrc.out.addsV (by rw [length_bytesV, length_bytesV, length_zeros]; omega) (oneCell_bytesV _) ?_; intro w4 hrow4 ho4 hs4; rw [lay_bytes] at hrow4; have Ho34 := hid (((Only.refl (fun _ => False) w3).alloc _).trans ho4 (fun j hj e => by have e' : j = w3.heap.size := e; omega)); have Hrow4 := hid hrow4; have hbx4 := blk_only Hbx.out Ho34.out (fun e => e); have d4 : w4.cell? ⟨w.heap.size, 1, none⟩ = some (.int .i64 b1) := cell_blk hbx4 1; have Hbx4 := hid hbx4; have HS4 := hid (HS.out.step Ho34.out); clear hrow4 ho4 hs4 hbx4))
            have hrow4 := Hrow4.out
            rw [HX.out] at hrow4
            have HWr := hid (rd_write HS4.out 1 w3.heap.size _ hrow4 Hll.out Hng.out)
            refine HWr.out.mono ?_
            rintro e w6 ⟨⟨cc, rfl⟩, D', F', hst', ho6⟩
            have Hst6 := hid hst'; have Hbx6 := hid (blk_only Hbx4.out ho6 (fun e => Nat.lt_irrefl _ (HS.out.f0 _ e)))
            clear hst' ho6 hrow4
            go_wp2_with fail
            go_roundw
            case rel => exact ⟨2, D', F', rfl, by omega, Hst6.out, Hbx6.out⟩
            case measure => simp [intOf]
    · obtain rfl : k = 2 := by omega
      clear hmk
      have hfk := flush_keep HS.out.up HS.out.fu
      obtain ⟨DF, hDF⟩ : ∃ DF, D.flush = DF := ⟨_, rfl⟩
      have hfl := flush_c HS.out.disk
      rw [hDF] at hfk hfl
      obtain ⟨f0, f1, f2, f3, f4, f5⟩ := hfk
      rw [f0] at hfl
      have Hfl := hid hfl
      have hn2 : DF.1.n = 2 := by rw [f3]; exact HS.out.n
      have Hn2 := hid hn2; have Hf1 := hid f1; have Hf4 := hid f4; have Hf5 := hid f5
      have HCl := hid (show (D.cur 0).length = 128 ∧ (D.cur 1).length = 128 from ⟨HS.out.disk.cur_len (by rw [HS.out.n]; decide), HS.out.disk.cur_len (by rw [HS.out.n]; decide)⟩)
      clear hfl f0 f1 f2 f3 f4 f5 hDF hn2
      go_wp2_with fail
      refine Hfl.out.mono ?_
      rintro e w4 ⟨rfl, hd4, ho4⟩
      have HD4 := hid hd4; have Ho4 := hid (HS.out.only.trans ho4 (fun j hj e => by have := HS.out.f0 j e; omega))
      clear hd4 ho4
      have HSu0 : Hid (Calls Try.prog 44 #[.pointer (some ⟨b, 0, none⟩), .int .i64 0] w4 fun e w' => e = .returned (.string (strOf (D.cur 0))) ∧ Only (fun _ => False) w4 w') := hid (by rw [← Hf5.out 0]; exact sure_c HD4.out 0 (by rw [Hn2.out]; decide))
      go_wp2_with fail
      refine HSu0.out.mono ?_
      rintro e w5 ⟨rfl, ho5⟩
      have HD5 := hid (HD4.out.only ho5 (fun _ _ e => e)); have Ho5 := hid (Ho4.out.trans ho5 (fun _ _ e => e))
      clear ho5 HSu0
      have HSu1 : Hid (Calls Try.prog 44 #[.pointer (some ⟨b, 0, none⟩), .int .i64 1] w5 fun e w' => e = .returned (.string (strOf (D.cur 1))) ∧ Only (fun _ => False) w5 w') := hid (by rw [← Hf5.out 1]; exact sure_c HD5.out 1 (by rw [Hn2.out]; decide))
      go_wp2_with fail
      refine HSu1.out.mono ?_
      rintro e w6 ⟨rfl, ho6⟩
      have HD6 := hid (HD5.out.only ho6 (fun _ _ e => e)); have Ho6 := hid (Ho5.out.trans ho6 (fun _ _ e => e))
      clear ho6 HSu1
      have HRG := hid (refGet_c w6 (D.cur 0) (D.cur 1) HCl.out.1 HCl.out.2)
      have HLaw := hid (ref_law (fun k => D.cur k))
      have hgr : getR DF.1 0 = if (lookK (fun k => D.cur k) 2).1.s = 0 then (MarkM.zero, 4) else ((lookK (fun k => D.cur k) 2).1, 0) := by
        have e1 : lookR DF.1 0 = ((lookK (fun k => D.cur k) 2).1, (lookK (fun k => D.cur k) 2).2, 0) := by
          unfold lookR
          rw [if_neg (by rw [Hf1.out, Hn2.out]; decide)]
          have : (fun k => DF.1.cur ((0 : Int).toNat + k)) = fun k => D.cur k := funext fun k => by rw [Hf4.out]; congr 1; simp
          rw [this]
        unfold getR
        rw [e1]; rfl
      obtain ⟨G, hG⟩ : ∃ G, refGet (D.cur 0) (D.cur 1) = G := ⟨_, rfl⟩
      obtain ⟨L, hL⟩ : ∃ L, (lookK (fun k => D.cur k) 2).1 = L := ⟨_, rfl⟩
      rw [hG] at HRG
      simp only [hG, hL] at HLaw hgr
      have Hgr := hid hgr
      have HG6 : Hid (G.2.length ≤ 6) := hid (by
        rw [← hG]
        exact refGet_len _ _)
      clear hG hL hgr
      go_wp2_with fail
      refine HRG.out.mono ?_
      rintro e w7 ⟨v, rfl, hrv, ho7⟩
      obtain ⟨ra, rc, rfl, -, -⟩ := hrv.ex
      have HD7 := hid (HD6.out.only ho7 (fun _ _ e => e)); have Ho7 := hid (Ho6.out.trans ho7 (fun _ _ e => e)); have Hrv := hid hrv
      clear ho7 hrv HRG
      have HD7a := hid (HD7.out.only ((Only.refl (fun _ => False) w7).alloc (.cells #[.int .u64 G.1, .slice ra G.2.length rc] 62)) (fun _ _ e => e))
      have HG8 := hid (get_c HD7a.out 0 (by decide))
      rw [Hgr.out] at HG8
      by_cases hs : G.1 = 0
      · rw [if_pos (HLaw.out.1 hs)] at HG8
        have hs1 : ((G.1 : Int) == 0) = true := by rw [hs]; rfl
        have heq : ∀ w, (binOp .eql 67 (.agg #[.int .u64 0, .int .u64 0, .int .u64 0, .int .u64 0, .int .u64 0, .int .u64 0, .int .u64 0]) (.agg #[.int .u64 0, .int .u64 0, .int .u64 0, .int .u64 0, .int .u64 0, .int .u64 0, .int .u64 0])).run Try.prog w = .ok (.bool true) w := fun w => by
          have := eql_mark w MarkM.zero MarkM.zero
          simp only [decide_true] at this
          exact this
        clear hs
        go_wp2_with fail
        refine HG8.out.mono ?_
        rintro e w8 ⟨rfl, ho8⟩
        have Hb8 := hid (blk_only (blk_new w7 (.cells #[.int .u64 G.1, .slice ra G.2.length rc] 62)) ho8 (fun e => e)); have Ho8 := hid ((Ho7.out.alloc (.cells #[.int .u64 G.1, .slice ra G.2.length rc] 62)).trans ho8 (fun _ _ e => e))
        clear ho8
        go_wp2_with (refine wpList_store_all rfl 67 (.tmp 14) (.tmp 73) rfl w8.heap.size MarkM.zero.V rfl rfl MarkM.zero.V 67 (blk_new w8 _) rfl info_mark (V_one _) ?_; intro w9 hb9 ho9 hs9; have Ho89 := hid (((Only.refl (fun _ => False) w8).alloc _).trans ho9 (fun k hk e => by have e' : k = w8.heap.size := e; omega)); have x0 : w9.cell? ⟨w8.heap.size, 0, none⟩ = some (.int .u64 0) := cell_blk hb9 0; have x1 : w9.cell? ⟨w8.heap.size, 1, none⟩ = some (.int .u64 0) := cell_blk hb9 1; have x2 : w9.cell? ⟨w8.heap.size, 2, none⟩ = some (.int .u64 0) := cell_blk hb9 2; have x3 : w9.cell? ⟨w8.heap.size, 3, none⟩ = some (.int .u64 0) := cell_blk hb9 3; have x4 : w9.cell? ⟨w8.heap.size, 4, none⟩ = some (.int .u64 0) := cell_blk hb9 4; have x5 : w9.cell? ⟨w8.heap.size, 5, none⟩ = some (.int .u64 0) := cell_blk hb9 5; have x6 : w9.cell? ⟨w8.heap.size, 6, none⟩ = some (.int .u64 0) := cell_blk hb9 6; have hb89 := blk_only Hb8.out Ho89.out (fun e => e); have y0 : w9.cell? ⟨w7.heap.size, 0, none⟩ = some (.int .u64 G.1) := cell_blk hb89 0; have y1 : w9.cell? ⟨w7.heap.size, 1, none⟩ = some (.slice ra G.2.length rc) := cell_blk hb89 1; have Ho9 := hid (Ho8.out.trans Ho89.out (fun _ _ e => e));  clear hb9 ho9 hs9 hb89)
        go_ret
        exact ⟨rfl, Ho9.out⟩
      · have hlk := HLaw.out.2 hs
        rw [if_neg hlk.2] at HG8
        have hs1 : ((G.1 : Int) == 0) = false := by rw [beq_eq_false_iff_ne]; omega
        have HLk : ∀ w1, RefV w1 (.agg #[.int .u64 G.1, .slice ra G.2.length rc]) G.1 G.2 w6.heap.size → Hid (Calls Try.prog 46 #[.agg #[.int .u64 L.s, .int .u64 L.w0, .int .u64 L.w1, .int .u64 L.w2, .int .u64 L.w3, .int .u64 L.w4, .int .u64 L.w5], .agg #[.int .u64 G.1, .slice ra G.2.length rc]] w1 fun e w' => e = .returned (.bool true) ∧ Only (fun _ => False) w1 w') := fun w1 hr => hid (by
          have := like_yes w1 _ G.1 G.2 _ hr (by have := HG6.out; omega)
          rw [← hlk.1] at this
          exact this)
        have HLk := hid HLk
        clear hs hlk
        go_wp2_with fail
        refine HG8.out.mono ?_
        rintro e w8 ⟨rfl, ho8⟩
        have Hb8 := hid (blk_only (blk_new w7 (.cells #[.int .u64 G.1, .slice ra G.2.length rc] 62)) ho8 (fun e => e)); have Ho8 := hid ((Ho7.out.alloc (.cells #[.int .u64 G.1, .slice ra G.2.length rc] 62)).trans ho8 (fun _ _ e => e))
        have Hrv8 := hid ((Hrv.out.only ((Only.refl (fun _ => False) w7).alloc (.cells #[.int .u64 G.1, .slice ra G.2.length rc] 62)) (fun _ _ e => e)).only ho8 (fun _ _ e => e))
        clear ho8
        go_wp2_with (first | (go_at_call 46; refine (HLk.out _ Hrv9.out).out.mono ?_; rintro e w10 ⟨rfl, ho10⟩; have Ho10 := hid (Ho9.out.trans ho10 (fun _ _ e => e)); clear ho10) | (refine wpList_store_all rfl 67 (.tmp 14) (.tmp 73) rfl w8.heap.size L.V rfl rfl MarkM.zero.V 67 (blk_new w8 _) rfl info_mark (V_one _) ?_; intro w9 hb9 ho9 hs9; have Ho89 := hid (((Only.refl (fun _ => False) w8).alloc _).trans ho9 (fun k hk e => by have e' : k = w8.heap.size := e; omega)); have x0 : w9.cell? ⟨w8.heap.size, 0, none⟩ = some (.int .u64 L.s) := cell_blk hb9 0; have x1 : w9.cell? ⟨w8.heap.size, 1, none⟩ = some (.int .u64 L.w0) := cell_blk hb9 1; have x2 : w9.cell? ⟨w8.heap.size, 2, none⟩ = some (.int .u64 L.w1) := cell_blk hb9 2; have x3 : w9.cell? ⟨w8.heap.size, 3, none⟩ = some (.int .u64 L.w2) := cell_blk hb9 3; have x4 : w9.cell? ⟨w8.heap.size, 4, none⟩ = some (.int .u64 L.w3) := cell_blk hb9 4; have x5 : w9.cell? ⟨w8.heap.size, 5, none⟩ = some (.int .u64 L.w4) := cell_blk hb9 5; have x6 : w9.cell? ⟨w8.heap.size, 6, none⟩ = some (.int .u64 L.w5) := cell_blk hb9 6; have hb89 := blk_only Hb8.out Ho89.out (fun e => e); have y0 : w9.cell? ⟨w7.heap.size, 0, none⟩ = some (.int .u64 G.1) := cell_blk hb89 0; have y1 : w9.cell? ⟨w7.heap.size, 1, none⟩ = some (.slice ra G.2.length rc) := cell_blk hb89 1; have Ho9 := hid (Ho8.out.trans Ho89.out (fun _ _ e => e)); have Hrv9 := hid (Hrv8.out.only Ho89.out (fun _ _ e => e)); clear hb9 ho9 hs9 hb89))
        go_ret
        exact ⟨rfl, Ho10.out⟩
end Go.Proofs.Ytepndjojodbhdaa
