/- foliotlaw06.marks; a mark that is put on two sectors on which marks stand. -/
import Derived.Test.YtepndjojodbhdaaMarkQ
namespace Go.Proofs.Ytepndjojodbhdaa
open Go.RowKit

/-- On disk b two sectors from 'first' on have marks, and all is durable. -/
structure MarkSt (w : World) (b first : Nat) (D : DiskM) (m0 m1 : MarkM) (F : Nat → Prop) : Prop where
  disk : DiskAt w b D F
  sl : Slots (fun k => D.cur (first + k)) m0 m1
  up : D.down = false
  n : first + 1 < D.n
theorem MarkSt.only {w w' : World} {b first : Nat} {D : DiskM} {m0 m1 : MarkM} {F G : Nat → Prop} (h : MarkSt w b first D m0 m1 F) (g : Only G w w') (hd : ∀ k, F k → ¬ G k) : MarkSt w' b first D m0 m1 F := ⟨h.disk.only g hd, h.sl, h.up, h.n⟩

section
variable {w : World} {b first : Nat} {D : DiskM} {m0 m1 : MarkM} {F : Nat → Prop}
theorem get_st (h : MarkSt w b first D m0 m1 F) (m : MarkM) (c : Int) (hm : (if (lastOf m0 m1).s = 0 then (MarkM.zero, (4 : Int)) else (lastOf m0 m1, 0)) = (m, c)) :
    Calls Try.prog 45 #[.pointer (some ⟨b, 0, none⟩), .int .i64 first] w fun e w' => e = .returned (.tuple #[.agg m.V, .int .i64 c]) ∧ Only (fun _ => False) w w' := by
  have hn := h.disk.n0
  have hfn := h.n
  have := get_c h.disk first (by omega)
  rw [h.sl.getR h.up h.n, hm] at this
  exact this
theorem put_st (h : MarkSt w b first D m0 m1 F) (hfu : D.fuse < 0 ∨ 2 ≤ D.fuse) (v : Value) (xs : List Nat) (hv : SrcV w v (nat64 xs)) (h6 : xs.length ≤ 6) (hx : ∀ x ∈ xs, x < 18446744073709551616) (m : MarkM) (hm : mkMark ((lastOf m0 m1).s + 1) xs = m) (hs : (lastOf m0 m1).s ≤ 1000000) :
    Calls Try.prog 47 #[.pointer (some ⟨b, 0, none⟩), .int .i64 first, v] w fun e w' => e = .returned (.tuple #[.agg m.V, .int .i64 0]) ∧ ∃ D' F' n0 n1, MarkSt w' b first D' n0 n1 F' ∧ lastOf n0 n1 = m ∧ Only F w w' ∧ (∀ k, F' k → F k ∨ w.heap.size ≤ k) ∧ D'.n = D.n ∧ D'.fuse = (if D.fuse < 0 then D.fuse else D.fuse - 2) ∧ (∀ k, D'.pend k = none) ∧ (∀ k, D'.sure k = if k = first + m.s % 2 then enc m else D.cur k) := by
  have hn := h.disk.n0
  have hfn := h.n
  have hp := put_c h.disk first (by omega) v xs hv (by omega) hx
  obtain ⟨D', n0, n1, e, g1, g2, g3, g4, g5, g6, g7⟩ := h.sl.put h.up h.n hfu xs h6 hx hs
  rw [e, hm] at hp
  rw [hm] at g2 g7
  have hms : m.s = (lastOf m0 m1).s + 1 := by rw [← hm]; rfl
  refine hp.mono ?_
  rintro e w' ⟨rfl, F', hd, ho, hn'⟩
  exact ⟨rfl, D', F', n0, n1, ⟨hd, g1, g3, by rw [g4]; exact hfn⟩, g2, ho, hn', g4, g5, g6, fun k => by rw [hms]; exact g7 k⟩
/-- A slice of numbers that the program lays out. -/
theorem srcV_blk {g : Nat} {xs : List Value} {T : TypeId} (h : w.heap[g]? = some (.cells xs.toArray T (0, 0))) : SrcV w (.slice (some ⟨g, 0, none⟩) xs.length xs.length) xs :=
  ⟨_, _, rfl, fun _ => ⟨g, 0, rfl, fun i u hu => by rw [cell_blk h, Nat.zero_add]; simpa using hu⟩⟩
theorem st_new (h : DiskAt w b (DiskM.new 2) F) : MarkSt w b 0 (DiskM.new 2) MarkM.zero MarkM.zero F := ⟨h, slots_new, rfl, by decide⟩
end

set_option maxRecDepth 100000 in
set_option maxHeartbeats 3200000 in
theorem marks_c (w : World) : Calls Try.prog 42 #[] w fun e w' => e = .returned (.bool true) ∧ Only (fun _ => False) w w' := by
  go_enter Try.func42, Try.ntmps42
  go_wp2_with fail
  refine (new_ok w 2 (by decide) (by decide)).mono ?_
  rintro e w1 ⟨b, F, rfl, hD, ho1, hF⟩
  have HS := hid (st_new hD); have Ho1 := hid ho1; have HF := hid hF
  clear hD ho1 hF
  go_wp2_with fail
  refine (get_st HS.out MarkM.zero 4 rfl).mono ?_
  rintro e w2 ⟨rfl, ho2⟩
  have HS2 := hid (HS.out.only ho2 (fun _ _ e => e)); have Ho2 := hid (Ho1.out.trans ho2 (fun _ _ e => e))
  clear ho2 HS
  go_wp2_with (refine wpList_store_all rfl 67 (.tmp 3) (.tmp 20) rfl w2.heap.size MarkM.zero.V rfl rfl MarkM.zero.V 67 (blk_new w2 _) rfl info_mark (V_one _) ?_; intro w3 hb3 ho3 hs3; have Ho23 := hid (((Only.refl (fun _ => False) w2).alloc _).trans ho3 (fun k hk e => by have e' : k = w2.heap.size := e; omega)); have HS3 := hid (HS2.out.only Ho23.out (fun _ _ e => e)); have Ho3 := hid (Ho2.out.trans Ho23.out (fun _ _ e => e)); clear hb3 ho3 hs3 Ho23)
  refine (put_st (HS3.out.only ((Only.refl (fun _ => False) w3).alloc (.cells #[.int .u64 5, .int .u64 6] 43)) (fun _ _ e => e)) (.inl (by decide)) _ [5, 6] (srcV_blk (blk_new w3 _)) (by decide) (by decide) (mkMark 1 [5, 6]) rfl (by decide)).mono ?_
  rintro e w4 ⟨rfl, D1, F1, n0, n1, hS1, hl1, ho4, hF1, -, hfu1, -, -⟩
  have HS4 := hid hS1; have Hl1 := hid hl1
  have Hfu1 : Hid (D1.fuse < 0) := hid (by rw [hfu1]; decide)
  have HF1 : Hid (∀ k, F1 k → w.heap.size ≤ k) := hid (fun k hk => by
    rcases hF1 k hk with e | e
    · exact HF.out k e
    · have := (Ho3.out.alloc (.cells #[.int .u64 5, .int .u64 6] 43)).size; omega)
  have Ho4 := hid ((Ho3.out.alloc (.cells #[.int .u64 5, .int .u64 6] 43)).trans ho4 (fun k hk e => by have := HF.out k e; omega))
  clear hS1 hl1 ho4 hF1 hfu1 HS2 HS3
  have eV1 : (mkMark 1 [5, 6]).V = #[.int .u64 1, .int .u64 5, .int .u64 6, .int .u64 0, .int .u64 0, .int .u64 0, .int .u64 0] := rfl
  have eV2 : (mkMark 2 [7]).V = #[.int .u64 2, .int .u64 7, .int .u64 0, .int .u64 0, .int .u64 0, .int .u64 0, .int .u64 0] := rfl
  rw [eV1]
  clear eV1
  have EV2 := hid eV2
  clear eV2
  go_wp2_with (refine wpList_store_all rfl 67 (.tmp 5) (.tmp 28) rfl w4.heap.size #[.int .u64 1, .int .u64 5, .int .u64 6, .int .u64 0, .int .u64 0, .int .u64 0, .int .u64 0] rfl rfl MarkM.zero.V 67 (blk_new w4 _) rfl info_mark (by simp [Value.oneCell']) ?_; intro w5 hb5 ho5 hs5; have Ho45 := hid (((Only.refl (fun _ => False) w4).alloc _).trans ho5 (fun k hk e => by have e' : k = w4.heap.size := e; omega)); have Hb5 := hid hb5; have HS5 := hid (HS4.out.only Ho45.out (fun _ _ e => e)); have Ho5 := hid (Ho4.out.trans Ho45.out (fun _ _ e => e)); clear hb5 ho5 hs5)
  have HN5 : Hid (¬ F1 w4.heap.size) := hid (fun e => Nat.lt_irrefl _ (HS4.out.disk.lt e))
  refine (put_st (HS5.out.only ((Only.refl (fun _ => False) w5).alloc (.cells #[.int .u64 7] 43)) (fun _ _ e => e)) (.inl Hfu1.out) _ [7] (srcV_blk (blk_new w5 _)) (by decide) (by decide) (mkMark 2 [7]) (by rw [Hl1.out]; rfl) (by rw [Hl1.out]; decide)).mono ?_
  rintro e w6 ⟨rfl, D2, F2, q0, q1, hS2, hl2, ho6, hF2, -, -, -, -⟩
  have HS6 := hid hS2; have Hl2 := hid hl2
  have Hb6 := hid (blk_only (blk_alloc Hb5.out) ho6 HN5.out)
  have Ho6 := hid ((Ho5.out.alloc (.cells #[.int .u64 7] 43)).trans ho6 (fun k hk e => by have := HF1.out k e; omega))
  clear hS2 hl2 ho6 hF2 HS4 HS5 HN5
  rw [EV2.out]
  go_wp2_with (refine wpList_store_all rfl 67 (.tmp 7) (.tmp 34) rfl w6.heap.size #[.int .u64 2, .int .u64 7, .int .u64 0, .int .u64 0, .int .u64 0, .int .u64 0, .int .u64 0] rfl rfl MarkM.zero.V 67 (blk_new w6 _) rfl info_mark (by simp [Value.oneCell']) ?_; intro w7 hb7 ho7 hs7; have Ho67 := hid (((Only.refl (fun _ => False) w6).alloc _).trans ho7 (fun k hk e => by have e' : k = w6.heap.size := e; omega)); have Hb7 := hid hb7; have Hb7' := hid (blk_only Hb6.out Ho67.out (fun e => e)); have HS7 := hid (HS6.out.only Ho67.out (fun _ _ e => e)); have Ho7 := hid (Ho6.out.trans Ho67.out (fun _ _ e => e)); clear hb7 ho7 hs7)
  refine (get_st HS7.out (mkMark 2 [7]) 0 (by rw [Hl2.out]; rfl)).mono ?_
  rintro e w8 ⟨rfl, ho8⟩
  have Hb8 := hid (blk_only Hb7.out ho8 (fun e => e)); have Hb8' := hid (blk_only Hb7'.out ho8 (fun e => e)); have Ho8 := hid (Ho7.out.trans ho8 (fun _ _ e => e))
  clear ho8
  rw [EV2.out]
  have heq : ∀ w, (binOp .eql 67 (.agg #[.int .u64 2, .int .u64 7, .int .u64 0, .int .u64 0, .int .u64 0, .int .u64 0, .int .u64 0]) (.agg #[.int .u64 2, .int .u64 7, .int .u64 0, .int .u64 0, .int .u64 0, .int .u64 0, .int .u64 0])).run Try.prog w = .ok (.bool true) w := fun w => by
    have := eql_mark w (mkMark 2 [7]) (mkMark 2 [7])
    rw [EV2.out] at this
    simpa using this
  go_wp2_with (refine wpList_store_all rfl 67 (.tmp 9) (.tmp 39) rfl w8.heap.size #[.int .u64 2, .int .u64 7, .int .u64 0, .int .u64 0, .int .u64 0, .int .u64 0, .int .u64 0] rfl rfl MarkM.zero.V 67 (blk_new w8 _) rfl info_mark (by simp [Value.oneCell']) ?_; intro w9 hb9 ho9 hs9; have Ho89 := hid (((Only.refl (fun _ => False) w8).alloc _).trans ho9 (fun k hk e => by have e' : k = w8.heap.size := e; omega)); have c9 := cell_blk hb9; have c7 := cell_blk (blk_only Hb8.out Ho89.out (fun e => e)); have c5 := cell_blk (blk_only Hb8'.out Ho89.out (fun e => e)); have Ho9 := hid (Ho8.out.trans Ho89.out (fun _ _ e => e)); clear hb9 ho9 hs9)
  go_ret
  exact ⟨rfl, Ho9.out⟩
end Go.Proofs.Ytepndjojodbhdaa
