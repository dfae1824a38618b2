/- DiskClone: the walk. -/
import Derived.Test.YtepndjojodbhdaaDPlays
import Derived.Test.YtepndjojodbhdaaDiskK
namespace Go.Proofs.Ytepndjojodbhdaa
open Go.RowKit

theorem match_clone {D : DiskM} {r : RM} (h : Match D r) : Match D.clone { r with written := 0, flushed := 0 } := ⟨h.n, h.su, h.pe, h.rg, h.dn, h.fu, rfl, rfl⟩
/-- The clone and its document's, between two operations; the disk that was cloned, and its document's in block s1, are as they were. -/
structure ClInv (w wr : World) (b b' s1 s2 : Nat) (D D' : DiskM) (r r' : RM) (cs cs' : Array Value) (F G F' G' : Nat → Prop) (m m' : Nat) : Prop where
  cl : PlInv w wr b' s2 D' r' cs' F' G' m'
  ps : PS wr b D r cs F G m
  bs : wr.heap[s1]? = some (.cells cs 113 (0, 0))
  ff : ∀ k, F' k → ¬ F k ∧ ¬ G k ∧ k ≠ s1
  s2 : ¬ F s2 ∧ ¬ G s2 ∧ s2 ≠ s1
section
variable {w wr w' w7 : World} {b b' s1 s2 : Nat} {D D' D2 : DiskM} {r r' r2 : RM} {cs cs' cs2 : Array Value} {F G F' G' F2 G2 : Nat → Prop} {m m' : Nat}
theorem ClInv.same (h : ClInv w wr b b' s1 s2 D D' r r' cs cs' F G F' G' m m') (ho : Only (fun _ => False) wr w') : ClInv w w' b b' s1 s2 D D' r r' cs cs' F G F' G' m m' :=
  ⟨h.cl.same ho, ⟨h.ps.disk.only ho (fun _ _ e => e), h.ps.ref.same ho, h.ps.mat, h.ps.apart, h.ps.nw, h.ps.nf, h.ps.wl⟩, blk_only h.bs ho (fun e => e), h.ff, h.s2⟩
theorem ClInv.next (h : ClInv w wr b b' s1 s2 D D' r r' cs cs' F G F' G' m m') {m2 : Nat} (hp : PS w' b' D2 r2 cs2 F2 G2 m2) (ho : Only F' wr w') (hf : ∀ k, F2 k → F' k ∨ wr.heap.size ≤ k) (hg : ∀ k, G2 k → G' k ∨ wr.heap.size ≤ k)
    (hb : w7.heap[s2]? = some (.cells cs2 113 (0, 0))) (h7 : Only (fun k => k = s2) w' w7) : ClInv w w7 b b' s1 s2 D D2 r r2 cs cs2 F G F2 G2 m m2 := by
  have ho7 : Only (fun k => F' k ∨ k = s2) wr w7 := (ho.mono (fun _ _ e => .inl e)).trans h7 (fun _ _ e => .inr e)
  have nF : ∀ k, F k → ¬ (F' k ∨ k = s2) := fun k hk e => by
    rcases e with e | e
    · exact (h.ff k e).1 hk
    · exact h.s2.1 (e ▸ hk)
  have nG : ∀ k, G k → ¬ (F' k ∨ k = s2) := fun k hk e => by
    rcases e with e | e
    · exact (h.ff k e).2.1 hk
    · exact h.s2.2.1 (e ▸ hk)
  refine ⟨h.cl.next hp ho hf hg hb h7, ⟨h.ps.disk.only ho7 nF, h.ps.ref.only ho7 nG, h.ps.mat, h.ps.apart, h.ps.nw, h.ps.nf, h.ps.wl⟩, blk_only h.bs ho7 (fun e => ?_), fun k hk => ?_, h.s2⟩
  · rcases e with e | e
    · exact (h.ff s1 e).2.2 rfl
    · exact h.s2.2.2 e.symm
  · rcases hf k hk with e | e
    · exact h.ff k e
    · exact ⟨fun e' => by have := h.ps.disk.lt e'; omega, fun e' => by have := h.ps.ref.lt k e'; omega, fun e' => by have := blk_lt h.bs; omega⟩
end

section
variable {w : World}
set_option maxRecDepth 100000 in
set_option maxHeartbeats 6400000 in
theorem diskClone_c (w : World) (v1 v2 : Value) (l l2 : List OpM) (h : OpsAt w w.heap.size v1 l) (h2 : OpsAt w w.heap.size v2 l2) :
    Calls Try.prog 18 #[v1, v2] w fun e w' => e = .returned (.bool true) ∧ Only (fun _ => False) w w' := by
  go_enter Try.func18, Try.ntmps18
  go_wp2_with fail
  refine (works_c w).mono ?_
  rintro e w1 ⟨rfl, ho1⟩
  have hfit := fits_c w1 w.heap.size ho1.size v1 l (h.only ho1 (Nat.le_refl _) (fun _ _ e => e))
  have HFit := hid hfit; have Ho1 := hid ho1; have H := hid h; have H2 := hid h2
  clear hfit ho1 h h2
  go_wp2_with fail
  refine HFit.out.mono ?_
  rintro e w2 ⟨rfl, ho2⟩
  have Ho2 := hid (Ho1.out.trans ho2 (fun _ _ e => e))
  clear ho2 Ho1 HFit
  cases hfits : fitsB l with
  | false =>
    go_wp2_with fail
    go_ret
    exact ⟨rfl, Ho2.out⟩
  | true =>
    have Hfits := hid hfits
    have hlen : l.length ≤ 30 := by unfold fitsB at hfits; simp at hfits; exact hfits.1
    clear hfits
    have HFit2 := hid (fits_c w2 w.heap.size Ho2.out.size v2 l2 (H2.out.only Ho2.out (Nat.le_refl _) (fun _ _ e => e)))
    go_wp2_with fail
    refine HFit2.out.mono ?_
    rintro e w2' ⟨rfl, ho2'⟩
    have Ho2' := hid (Ho2.out.trans ho2' (fun _ _ e => e))
    clear ho2' Ho2 HFit2
    cases hfits2 : fitsB l2 with
    | false =>
      go_wp2_with fail
      go_ret
      exact ⟨rfl, Ho2'.out⟩
    | true =>
    have Hfits2 := hid hfits2
    have hlen2 : l2.length ≤ 30 := by unfold fitsB at hfits2; simp at hfits2; exact hfits2.1
    clear hfits2
    go_wp2_with fail
    refine (new_ok w2' 4 (by omega) (by omega)).mono ?_
    rintro e w3 ⟨b, F0, rfl, hd0, ho0, hF0⟩
    have Hd0 := hid hd0; have Ho3 := hid (Ho2'.out.trans ho0 (fun _ _ e => e))
    have HF0 : Hid (∀ k, F0 k → w.heap.size ≤ k) := hid (fun k hk => by have h1 := Ho2'.out.size; have h2 := hF0 k hk; omega)
    clear hd0 ho0 hF0 Ho2'
    go_wp2_with fail
    refine (rnew_c w3 4 (by omega)).mono ?_
    rintro e w4 ⟨cs0, G0, rfl, hr0, hG0, ho4⟩
    have Hr0 := hid hr0; have HG0 := hid hG0; have Ho4 := hid ho4
    clear hr0 hG0 ho4
    obtain ⟨a, c, rfl, hll, hl⟩ := H.out
    have HL := hid hl
    clear hl
    obtain ⟨sa, sc, wa, wk, rfl, -⟩ := Hr0.out.ex
    go_wp2_with ((guard_target =~ wpList _ _ _ (⟨none, .store 113 (.tmp 7) (.tmp 31), _, _, _, _⟩ :: _) _ _); refine wpList_store_all rfl 113 (.tmp 7) (.tmp 31) rfl w4.heap.size ((RM.new 4).cells sa sc wa wk) rfl rfl #[.slice none 0 0, .slice none 0 0, .bool false, .int .i64 0, .int .i64 0, .int .i64 0] 113 (blk_new w4 _) rfl info_rdisk (by simp [RM.cells, Value.oneCell']) ?_; intro w5 hb5 ho5 hs5; have HI : Hid (PlInv w w5 b w4.heap.size (DiskM.new 4) (RM.new 4) ((RM.new 4).cells sa sc wa wk) F0 G0 0) := hid (by
      have ho45 : Only (fun _ => False) w4 w5 := ((Only.refl (fun _ => False) w4).alloc _).trans ho5 (fun k hk e => by have e' : k = w4.heap.size := e; omega)
      have s3 := Ho3.out.size
      have s4 := Ho4.out.size
      have s45 := ho45.size
      exact ⟨⟨(Hd0.out.only Ho4.out (fun _ _ e => e)).only ho45 (fun _ _ e => e), Hr0.out.same ho45, match_new 4, fun k hf hg => (by have := Hd0.out.lt hf; have := HG0.out k hg; omega), ⟨(by simp [DiskM.new]), (by simp [DiskM.new])⟩, ⟨(by simp [DiskM.new]), (by simp [DiskM.new])⟩, (by simp [RM.new])⟩, hb5, (Ho3.out.trans Ho4.out (fun _ _ e => e)).trans ho45 (fun _ _ e => e), HF0.out, fun k hk => (by have := HG0.out k hk; omega), fun e => (by have := Hd0.out.lt e; omega), fun e => (by have := Hr0.out.lt _ e; omega), by omega⟩); clear hb5 ho5 hs5)
    obtain ⟨s1, hs1⟩ : ∃ s1, w4.heap.size = s1 := ⟨_, rfl⟩
    rw [hs1] at HI ⊢
    clear hs1 Ho4 HG0 Hr0 Ho3 HF0 Hd0
    go_loopw [34, 9] (fun i _ wr => ∃ k : Nat, i = .int .i64 k ∧ k ≤ l.length ∧ ∃ D r cs F G, PlInv w wr b s1 D r cs F G k) (fun i _ _ => l.length - (intOf i).toNat)
    case atStart => exact ⟨0, rfl, Nat.zero_le _, _, _, _, _, _, HI.out⟩
    case round =>
      obtain ⟨k, rfl, hk, D, r, cs, F, G, hinv⟩ := hrel
      clear HI
      have HI := hid hinv
      clear hinv
      by_cases hkl : k < l.length
      · obtain ⟨hat, g, of, rfl, hgB, hc⟩ := HL.out k l[k] (List.getElem?_eq_getElem hkl)
        obtain ⟨o, hoo⟩ : ∃ o, o = l[k] := ⟨_, rfl⟩
        rw [← hoo] at hat hc
        have hok : o.ok = true := by
          have h1 := Hfits.out
          unfold fitsB at h1
          rw [Bool.and_eq_true] at h1
          exact List.all_eq_true.1 h1.2 o (by rw [hoo]; exact List.getElem_mem _)
        have hcw : ∀ j u, o.cells[j]? = some u → wr.cell? ⟨g, of + k * 7 + j, none⟩ = some u := by
          intro j u hj
          rw [← hc j u hj]
          exact World.cell?_of_block (HI.out.only.block g hgB (fun e => e))
        have c0 := hcw 0 _ rfl
        rw [Nat.add_zero] at c0
        have c1 := hcw 1 _ rfl
        have c2 := hcw 2 _ rfl
        have c3 := hcw 3 _ rfl
        have c4 := hcw 4 _ rfl
        have c5 := hcw 5 _ rfl
        have c6 := hcw 6 _ rfl
        have hatw := hat.only HI.out.only (fun _ _ e => e)
        obtain ⟨da, dc, hd⟩ := hat.data.len
        obtain ⟨ka, kc, hkv⟩ := hat.keep.len
        rw [length_intsV] at hkv
        rw [hd] at c5
        rw [hkv] at c6
        have hki : (k : Int) < l.length := by omega
        have HPl : ∀ ob, Hid (Calls Try.prog 64 #[.pointer (some ⟨b, 0, none⟩), .agg cs, .agg #[.int .i64 o.kind, .int .i64 o.n, .int .i64 o.at', .int .u8 o.x, .bool o.raw, .slice da o.data.length dc, .slice ka o.keep.length kc]] (wr.alloc ob) (PlayPost (wr.alloc ob) b F G (k + 1))) := fun ob => hid (by
          have hI := HI.out.same ((Only.refl (fun _ => False) wr).alloc ob)
          have := play_c (B := w.heap.size) hI.ps (by omega) (hatw.only ((Only.refl (fun _ => False) wr).alloc ob) (fun _ _ e => e)) (fun j hj hf => by have := hI.f0 j hf; omega) hok
          unfold OpM.cells at this
          rw [hd, hkv] at this
          exact this)
        have HCs := hid HI.out.ps.ref.info
        clear hcw hc hat hatw hd hkv hok hoo
        go_wp2_with (first
          | ((guard_target =~ wpList _ _ _ (⟨some 40, _, _, _, _, _⟩ :: _) _ _); refine wpList_load_row rfl 113 (.tmp 7) rfl s1 rfl 113 cs (0, 0) _ (blk_alloc HI.out.bs) Try.underlying113 rfl HCs.out ?_)
          | (go_at_call 64; refine (HPl _).out.mono ?_; rintro e w6 ⟨D', r', cs', F', G', rfl, hps, ho6, hf6, hg6⟩; have Hps := hid hps; have Ho6 := hid ho6; have Hf6 := hid hf6; have Hg6 := hid hg6; have Hb6 := hid (blk_only (blk_alloc HI.out.bs) ho6 HI.out.fs); clear hps ho6 hf6 hg6)
          | ((guard_target =~ wpList _ _ _ (⟨none, .store 113 (.tmp 7) (.tmp 43), _, _, _, _⟩ :: _) _ _); refine wpList_store_all rfl 113 (.tmp 7) (.tmp 43) rfl s1 cs' rfl rfl cs 113 Hb6.out (by rw [Hps.out.ref.size, HI.out.ps.ref.size]) Hps.out.ref.info Hps.out.ref.one ?_; intro w7 hb7 ho7 hs7; have HI7 := hid ((HI.out.same ((Only.refl (fun _ => False) wr).alloc _)).next Hps.out Ho6.out Hf6.out Hg6.out hb7 ho7); clear hb7 ho7 hs7))
        go_roundw
        case rel => exact ⟨k + 1, by go_num, by omega, _, _, _, _, _, HI7.out⟩
        case measure => simp [intOf]; omega
      · obtain rfl : k = l.length := by omega
        clear hkl
        obtain ⟨a2, c2, rfl, hll2, hl2⟩ := H2.out
        have HL2 := hid hl2
        clear hl2
        have HCl := hid (clone_c HI.out.ps.disk)
        go_wp2_with (go_at_call 48; refine HCl.out.mono ?_; rintro e w8 ⟨b', F', rfl, hd8, ho8, hf8⟩; have Hd8 := hid hd8; have Ho8 := hid ho8; have Hf8 := hid hf8; have HWr := hid (writes_c hd8); have HFl := hid (flushes_c hd8); clear hd8 ho8 hf8)
        obtain ⟨s1a, s1c, w1a, w1c, rfl, -⟩ := HI.out.ps.ref.ex
        have HWr' : Hid (Calls Try.prog 65 #[.pointer (some ⟨b', 0, none⟩)] w8 fun e w' => e = .returned (.int .i64 0) ∧ w8 = w') := HWr
        have HFl' : Hid (Calls Try.prog 66 #[.pointer (some ⟨b', 0, none⟩)] w8 fun e w' => e = .returned (.int .i64 0) ∧ w8 = w') := HFl
        clear HWr HFl
        have HI8 := hid (HI.out.same Ho8.out)
        have Hinf := hid HI8.out.ps.ref.info
        have Hone := hid HI8.out.ps.ref.one
        have hs18 := blk_lt HI8.out.bs
        go_wp2_with (first
          | (go_at_call 65; refine HWr'.out.mono ?_; rintro e w' ⟨rfl, rfl⟩)
          | (go_at_call 66; refine HFl'.out.mono ?_; rintro e w' ⟨rfl, rfl⟩)
          | ((guard_target =~ wpList _ _ _ (⟨some 64, _, _, _, _, _⟩ :: _) _ _); refine wpList_load_row rfl 113 (.tmp 7) rfl s1 rfl 113 (r.cells s1a s1c w1a w1c) (0, 0) _ HI8.out.bs Try.underlying113 rfl Hinf.out ?_)
          | ((guard_target =~ wpList _ _ _ (⟨none, .store 113 (.tmp 11) (.tmp 64), _, _, _, _⟩ :: _) _ _); refine wpList_store_all rfl 113 (.tmp 11) (.tmp 64) rfl w8.heap.size (r.cells s1a s1c w1a w1c) rfl rfl #[.slice none 0 0, .slice none 0 0, .bool false, .int .i64 0, .int .i64 0, .int .i64 0] 113 (blk_new w8 _) rfl Hinf.out Hone.out ?_; intro w9 hb9 ho9 hs9; have Hb9 := hid hb9; have z4 : w9.cell? ⟨w8.heap.size, 4, none⟩ = some (.int .i64 r.written) := cell_blk hb9 4; have z5 : w9.cell? ⟨w8.heap.size, 5, none⟩ = some (.int .i64 r.flushed) := cell_blk hb9 5; have z6 : ∀ i, w9.frozen? ⟨w8.heap.size, i, none⟩ = false := fun i => frozen_blk hb9 i; have Ho89 : Hid (Only (fun _ => False) w8 w9) := hid (((Only.refl (fun _ => False) w8).alloc _).trans ho9 (fun k hk e => by have e' : k = w8.heap.size := e; omega)); clear hb9 ho9 hs9))
        have HC : Hid (ClInv w ((w9.setCell ⟨w8.heap.size, 4, none⟩ (.int .i64 0)).setCell ⟨w8.heap.size, 5, none⟩ (.int .i64 0)) b b' s1 w8.heap.size D D.clone r { r with written := 0, flushed := 0 } (r.cells s1a s1c w1a w1c) (({ r with written := 0, flushed := 0 } : RM).cells s1a s1c w1a w1c) F G F' G l.length l.length) := hid (by
          have ho8z : Only (fun _ => False) w8 ((w9.setCell ⟨w8.heap.size, 4, none⟩ (.int .i64 0)).setCell ⟨w8.heap.size, 5, none⟩ (.int .i64 0)) :=
            (Ho89.out.trans (only_set w8.heap.size 4 _) (fun k hk e => by have e' : k = w8.heap.size := e; omega)).trans (only_set w8.heap.size 5 _) (fun k hk e => by have e' : k = w8.heap.size := e; omega)
          have hI := HI8.out.same ho8z
          have sz0 := HI.out.only.size
          have sz8 := Ho8.out.size
          have hf' : ∀ k, F' k → ¬ F k ∧ ¬ G k ∧ k ≠ s1 := fun k hk => by
            have := Hf8.out k hk
            exact ⟨fun e => (by have := HI.out.ps.disk.lt e; omega), fun e => (by have := HI.out.ps.ref.lt k e; omega), fun e => (by have := blk_lt HI.out.bs; omega)⟩
          have hrz : RefAt ((w9.setCell ⟨w8.heap.size, 4, none⟩ (.int .i64 0)).setCell ⟨w8.heap.size, 5, none⟩ (.int .i64 0)) (({ r with written := 0, flushed := 0 } : RM).cells s1a s1c w1a w1c) { r with written := 0, flushed := 0 } G := by
            obtain ⟨s1', c1', a1', d1', e, hq1, hq2, hq3, hq4⟩ := hI.ps.ref.ex
            unfold RM.cells at e
            simp only [Array.mk.injEq, List.cons.injEq, Value.slice.injEq, true_and] at e
            obtain ⟨⟨rfl, rfl⟩, ⟨rfl, rfl⟩, -⟩ := e
            exact RefAt.plain (r := ({ r with written := 0, flushed := 0 } : RM)) hq1 hq2 hq3 hq4 hI.ps.ref.lt
          refine ⟨⟨⟨Hd8.out.only ho8z (fun _ _ e => e), hrz, match_clone HI.out.ps.mat, fun k hk hg => (hf' k hk).2.1 hg, ⟨by show (0 : Int) ≤ 0; decide, by show (0 : Int) ≤ _; omega⟩, ⟨by show (0 : Int) ≤ 0; decide, by show (0 : Int) ≤ _; omega⟩, HI.out.ps.wl⟩, ?_, hI.only, fun k hk => by have := Hf8.out k hk; omega, HI.out.g0, fun e => by have := Hd8.out.lt e; omega, fun e => by have := HI8.out.ps.ref.lt _ e; omega, by omega⟩, hI.ps, hI.bs, hf', ⟨fun e => by have := HI8.out.ps.disk.lt e; omega, fun e => by have := HI8.out.ps.ref.lt _ e; omega, by omega⟩⟩
          have := blk_set (blk_set Hb9.out 4 (.int .i64 0)) 5 (.int .i64 0)
          simpa [RM.cells] using this)
        obtain ⟨s2, hs2⟩ : ∃ s2, w8.heap.size = s2 := ⟨_, rfl⟩
        rw [hs2] at HC ⊢
        clear hs2 HI HI8 Hinf Hone hs18 z4 z5 z6 Hb9 Ho89 HWr' HFl' Hd8 Ho8 Hf8 HCl
        go_loopw [69, 13, 14] (fun i _ _ wr => ∃ k : Nat, i = .int .i64 k ∧ k ≤ l2.length ∧ ∃ D2 r2 cs2 F2 G2, ClInv w wr b b' s1 s2 D D2 r r2 (r.cells s1a s1c w1a w1c) cs2 F G F2 G2 l.length (l.length + k)) (fun i _ _ _ => l2.length - (intOf i).toNat)
        case atStart => exact ⟨0, rfl, Nat.zero_le _, _, _, _, _, _, HC.out⟩
        case round =>
          obtain ⟨k2, rfl, hk2, D2, r2, cs2, F2, G2, hinv⟩ := hrel
          clear HC
          have HC := hid hinv
          clear hinv
          by_cases hkl : k2 < l2.length
          · obtain ⟨hat, g, of, rfl, hgB, hc⟩ := HL2.out k2 l2[k2] (List.getElem?_eq_getElem hkl)
            obtain ⟨o, hoo⟩ : ∃ o, o = l2[k2] := ⟨_, rfl⟩
            rw [← hoo] at hat hc
            have hok : o.ok = true := by
              have h1 := Hfits2.out
              unfold fitsB at h1
              rw [Bool.and_eq_true] at h1
              exact List.all_eq_true.1 h1.2 o (by rw [hoo]; exact List.getElem_mem _)
            have hcw : ∀ j u, o.cells[j]? = some u → wr.cell? ⟨g, of + k2 * 7 + j, none⟩ = some u := by
              intro j u hj
              rw [← hc j u hj]
              exact World.cell?_of_block (HC.out.cl.only.block g hgB (fun e => e))
            have c0 := hcw 0 _ rfl
            rw [Nat.add_zero] at c0
            have c1 := hcw 1 _ rfl
            have c2 := hcw 2 _ rfl
            have c3 := hcw 3 _ rfl
            have c4 := hcw 4 _ rfl
            have c5 := hcw 5 _ rfl
            have c6 := hcw 6 _ rfl
            have hatw := hat.only HC.out.cl.only (fun _ _ e => e)
            obtain ⟨da, dc, hd⟩ := hat.data.len
            obtain ⟨ka, kc, hkv⟩ := hat.keep.len
            rw [length_intsV] at hkv
            rw [hd] at c5
            rw [hkv] at c6
            have hki : (k2 : Int) < l2.length := by omega
            have HPl : ∀ ob, Hid (Calls Try.prog 64 #[.pointer (some ⟨b', 0, none⟩), .agg cs2, .agg #[.int .i64 o.kind, .int .i64 o.n, .int .i64 o.at', .int .u8 o.x, .bool o.raw, .slice da o.data.length dc, .slice ka o.keep.length kc]] (wr.alloc ob) (PlayPost (wr.alloc ob) b' F2 G2 (l.length + k2 + 1))) := fun ob => hid (by
              have hI := HC.out.cl.same ((Only.refl (fun _ => False) wr).alloc ob)
              have := play_c (B := w.heap.size) hI.ps (by omega) (hatw.only ((Only.refl (fun _ => False) wr).alloc ob) (fun _ _ e => e)) (fun j hj hf => by have := hI.f0 j hf; omega) hok
              unfold OpM.cells at this
              rw [hd, hkv] at this
              exact this)
            have HCs := hid HC.out.cl.ps.ref.info
            clear hcw hc hat hatw hd hkv hok hoo
            go_wp2_with (first
              | ((guard_target =~ wpList _ _ _ (⟨some 75, _, _, _, _, _⟩ :: _) _ _); refine wpList_load_row rfl 113 (.tmp 11) rfl s2 rfl 113 cs2 (0, 0) _ (blk_alloc HC.out.cl.bs) Try.underlying113 rfl HCs.out ?_)
              | (go_at_call 64; refine (HPl _).out.mono ?_; rintro e w6 ⟨D', r', cs', F', G', rfl, hps, ho6, hf6, hg6⟩; have Hps := hid hps; have Ho6 := hid ho6; have Hf6 := hid hf6; have Hg6 := hid hg6; have Hb6 := hid (blk_only (blk_alloc HC.out.cl.bs) ho6 HC.out.cl.fs); clear hps ho6 hf6 hg6)
              | ((guard_target =~ wpList _ _ _ (⟨none, .store 113 (.tmp 11) (.tmp 78), _, _, _, _⟩ :: _) _ _); refine wpList_store_all rfl 113 (.tmp 11) (.tmp 78) rfl s2 cs' rfl rfl cs2 113 Hb6.out (by rw [Hps.out.ref.size, HC.out.cl.ps.ref.size]) Hps.out.ref.info Hps.out.ref.one ?_; intro w7 hb7 ho7 hs7; have HC7 := hid ((HC.out.same ((Only.refl (fun _ => False) wr).alloc _)).next Hps.out Ho6.out Hf6.out Hg6.out hb7 ho7); clear hb7 ho7 hs7))
            go_roundw
            case rel => exact ⟨k2 + 1, by go_num, by omega, _, _, _, _, _, HC7.out⟩
            case measure => simp [intOf]; omega
          · obtain rfl : k2 = l2.length := by omega
            have Hsm := hid (same_c HC.out.ps.disk HC.out.ps.ref HC.out.ps.mat (by have := HC.out.ps.wl; omega))
            have Hinf := hid HC.out.ps.ref.info
            go_wp2_with (first
              | ((guard_target =~ wpList _ _ _ (⟨some 84, _, _, _, _, _⟩ :: _) _ _); refine wpList_load_row rfl 113 (.tmp 7) rfl s1 rfl 113 (r.cells s1a s1c w1a w1c) (0, 0) _ HC.out.bs Try.underlying113 rfl Hinf.out ?_)
              | (go_at_call 67; refine Hsm.out.mono ?_; rintro e w6 ⟨rfl, ho6⟩; have Ho6 := hid ho6; clear ho6))
            go_ret
            exact ⟨rfl, HC.out.cl.only.trans Ho6.out (fun _ _ e => e)⟩
end
end Go.Proofs.Ytepndjojodbhdaa
