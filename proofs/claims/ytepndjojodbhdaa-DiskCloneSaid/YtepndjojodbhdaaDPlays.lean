/- DiskPlays, DiskClone: the walks. -/
import Derived.Test.YtepndjojodbhdaaDoes
import Derived.Test.YtepndjojodbhdaaFuse
namespace Go.Proofs.Ytepndjojodbhdaa
open Go.RowKit

/-- Between two operations: a disk of the call's own, and the document's in block s. -/
structure PlInv (w wr : World) (b s : Nat) (D : DiskM) (r : RM) (cs : Array Value) (F G : Nat → Prop) (m : Nat) : Prop where
  ps : PS wr b D r cs F G m
  bs : wr.heap[s]? = some (.cells cs 113 (0, 0))
  only : Only (fun _ => False) w wr
  f0 : ∀ k, F k → w.heap.size ≤ k
  g0 : ∀ k, G k → w.heap.size ≤ k
  fs : ¬ F s
  gs : ¬ G s
  s0 : w.heap.size ≤ s
section
variable {w wr w' w7 : World} {b s : Nat} {D D' : DiskM} {r r' : RM} {cs cs' : Array Value} {F G F' G' : Nat → Prop} {m : Nat}
theorem PlInv.same (h : PlInv w wr b s D r cs F G m) (ho : Only (fun _ => False) wr w') : PlInv w w' b s D r cs F G m :=
  ⟨⟨h.ps.disk.only ho (fun _ _ e => e), h.ps.ref.same ho, h.ps.mat, h.ps.apart, h.ps.nw, h.ps.nf, h.ps.wl⟩, blk_only h.bs ho (fun e => e), h.only.trans ho (fun _ _ e => e), h.f0, h.g0, h.fs, h.gs, h.s0⟩
theorem PlInv.next (h : PlInv w wr b s D r cs F G m) {m' : Nat} (hp : PS w' b D' r' cs' F' G' m') (ho : Only F wr w') (hf : ∀ k, F' k → F k ∨ wr.heap.size ≤ k) (hg : ∀ k, G' k → G k ∨ wr.heap.size ≤ k)
    (hb : w7.heap[s]? = some (.cells cs' 113 (0, 0))) (h7 : Only (fun k => k = s) w' w7) : PlInv w w7 b s D' r' cs' F' G' m' := by
  have h1 := h.only.size
  have h2 := blk_lt h.bs
  have nf : ∀ k, F' k → w.heap.size ≤ k ∧ k ≠ s := fun k hk => by
    rcases hf k hk with e | e
    · exact ⟨h.f0 k e, fun e' => h.fs (e' ▸ e)⟩
    · exact ⟨by omega, by omega⟩
  have ng : ∀ k, G' k → w.heap.size ≤ k ∧ k ≠ s := fun k hk => by
    rcases hg k hk with e | e
    · exact ⟨h.g0 k e, fun e' => h.gs (e' ▸ e)⟩
    · exact ⟨by omega, by omega⟩
  exact ⟨⟨hp.disk.only h7 (fun k hk e => (nf k hk).2 e), hp.ref.only h7 (fun k hk e => (ng k hk).2 e), hp.mat, hp.apart, hp.nw, hp.nf, hp.wl⟩, hb, (h.only.trans ho (fun k hk e => by have := h.f0 k e; omega)).trans h7 (fun k hk e => by have e' : k = s := e; have := h.s0; omega), fun k hk => (nf k hk).1, fun k hk => (ng k hk).1, fun e => (nf s e).2 rfl, fun e => (ng s e).2 rfl, h.s0⟩
end

section
variable {w : World}
set_option maxRecDepth 100000 in
set_option maxHeartbeats 6400000 in
theorem diskPlays_c (w : World) (v : Value) (l : List OpM) (h : OpsAt w w.heap.size v l) (n : Int) :
    Calls Try.prog 16 #[.int .i64 n, v] w fun e w' => e = .returned (.bool true) ∧ Only (fun _ => False) w w' := by
  go_enter Try.func16, Try.ntmps16
  go_wp2_with fail
  refine (works_c w).mono ?_
  rintro e w1 ⟨rfl, ho1⟩
  have hfit := fits_c w1 w.heap.size ho1.size v l (h.only ho1 (Nat.le_refl _) (fun _ _ e => e))
  have HFit := hid hfit; have Ho1 := hid ho1; have H := hid h
  clear hfit ho1 h
  go_wp2_with fail
  refine HFit.out.mono ?_
  rintro e w2 ⟨rfl, ho2⟩
  have Ho2 := hid (Ho1.out.trans ho2 (fun _ _ e => e))
  clear ho2 Ho1 HFit
  cases hfits : fitsB l with
  | false =>
    go_wp2_with fail
    go_ret
    exact ⟨rfl, Ho2.out⟩
  | true =>
    by_cases h8 : 8 < n
    · go_wp2_with fail
      go_ret
      exact ⟨rfl, Ho2.out⟩
    by_cases h1 : n < 1
    · go_wp2_with fail
      refine (new_no w2 n (.inl h1)).mono ?_
      rintro e w3 ⟨rfl, rfl⟩
      go_wp2_with fail
      go_ret
      exact ⟨rfl, Ho2.out⟩
    obtain ⟨k0, rfl⟩ : ∃ k : Nat, n = k := ⟨n.toNat, by omega⟩
    go_wp2_with fail
    refine (new_ok w2 k0 (by omega) (by omega)).mono ?_
    rintro e w3 ⟨b, F0, rfl, hd0, ho0, hF0⟩
    have Hd0 := hid hd0; have Ho3 := hid (Ho2.out.trans ho0 (fun _ _ e => e))
    have HF0 : Hid (∀ k, F0 k → w.heap.size ≤ k) := hid (fun k hk => by have h1 := Ho2.out.size; have h2 := hF0 k hk; omega)
    clear hd0 ho0 hF0 Ho2
    go_wp2_with fail
    refine (rnew_c w3 k0 (by omega)).mono ?_
    rintro e w4 ⟨cs0, G0, rfl, hr0, hG0, ho4⟩
    have Hr0 := hid hr0; have HG0 := hid hG0; have Ho4 := hid ho4
    clear hr0 hG0 ho4
    obtain ⟨a, c, rfl, hll, hl⟩ := H.out
    have HL := hid hl
    have hlen : l.length ≤ 30 := by unfold fitsB at hfits; simp at hfits; exact hfits.1
    have Hfits := hid hfits
    clear hl hfits
    obtain ⟨sa, sc, wa, wk, rfl, -⟩ := Hr0.out.ex
    go_wp2_with ((guard_target =~ wpList _ _ _ (⟨none, .store 113 (.tmp 7) (.tmp 40), _, _, _, _⟩ :: _) _ _); refine wpList_store_all rfl 113 (.tmp 7) (.tmp 40) rfl w4.heap.size ((RM.new k0).cells sa sc wa wk) rfl rfl #[.slice none 0 0, .slice none 0 0, .bool false, .int .i64 0, .int .i64 0, .int .i64 0] 113 (blk_new w4 _) rfl info_rdisk (by simp [RM.cells, Value.oneCell']) ?_; intro w5 hb5 ho5 hs5; have HI : Hid (PlInv w w5 b w4.heap.size (DiskM.new k0) (RM.new k0) ((RM.new k0).cells sa sc wa wk) F0 G0 0) := hid (by
      have ho45 : Only (fun _ => False) w4 w5 := ((Only.refl (fun _ => False) w4).alloc _).trans ho5 (fun k hk e => by have e' : k = w4.heap.size := e; omega)
      have s3 := Ho3.out.size
      have s4 := Ho4.out.size
      have s45 := ho45.size
      exact ⟨⟨(Hd0.out.only Ho4.out (fun _ _ e => e)).only ho45 (fun _ _ e => e), Hr0.out.same ho45, match_new k0, fun k hf hg => (by have := Hd0.out.lt hf; have := HG0.out k hg; omega), ⟨(by simp [DiskM.new]), (by simp [DiskM.new])⟩, ⟨(by simp [DiskM.new]), (by simp [DiskM.new])⟩, (by simp [RM.new])⟩, hb5, (Ho3.out.trans Ho4.out (fun _ _ e => e)).trans ho45 (fun _ _ e => e), HF0.out, fun k hk => (by have := HG0.out k hk; omega), fun e => (by have := Hd0.out.lt e; omega), fun e => (by have := Hr0.out.lt _ e; omega), by omega⟩); clear hb5 ho5 hs5)
    go_loopw [43, 9, 10] (fun i _ _ wr => ∃ k : Nat, i = .int .i64 k ∧ k ≤ l.length ∧ ∃ D r cs F G, PlInv w wr b w4.heap.size D r cs F G k) (fun i _ _ _ => l.length - (intOf i).toNat)
    case atStart => exact ⟨0, rfl, Nat.zero_le _, _, _, _, _, _, HI.out⟩
    case round =>
      obtain ⟨k, rfl, hk, D, r, cs, F, G, hinv⟩ := hrel
      clear HI
      have HI := hid hinv
      clear hinv
      by_cases hkl : k < l.length
      · obtain ⟨hat, g, of, rfl, hgB, hc⟩ := HL.out k l[k] (List.getElem?_eq_getElem hkl)
        obtain ⟨o, hoo⟩ : ∃ o, o = l[k] := ⟨_, rfl⟩
        rw [← hoo] at hat hc
        have hok : o.ok = true := by
          have h1 := Hfits.out
          unfold fitsB at h1
          rw [Bool.and_eq_true] at h1
          exact List.all_eq_true.1 h1.2 o (by rw [hoo]; exact List.getElem_mem _)
        have hcw : ∀ j u, o.cells[j]? = some u → wr.cell? ⟨g, of + k * 7 + j, none⟩ = some u := by
          intro j u hj
          rw [← hc j u hj]
          exact World.cell?_of_block (HI.out.only.block g hgB (fun e => e))
        have c0 := hcw 0 _ rfl
        rw [Nat.add_zero] at c0
        have c1 := hcw 1 _ rfl
        have c2 := hcw 2 _ rfl
        have c3 := hcw 3 _ rfl
        have c4 := hcw 4 _ rfl
        have c5 := hcw 5 _ rfl
        have c6 := hcw 6 _ rfl
        have hatw := hat.only HI.out.only (fun _ _ e => e)
        obtain ⟨da, dc, hd⟩ := hat.data.len
        obtain ⟨ka, kc, hkv⟩ := hat.keep.len
        rw [length_intsV] at hkv
        rw [hd] at c5
        rw [hkv] at c6
        have hki : (k : Int) < l.length := by omega
        have HPl : ∀ ob, Hid (Calls Try.prog 64 #[.pointer (some ⟨b, 0, none⟩), .agg cs, .agg #[.int .i64 o.kind, .int .i64 o.n, .int .i64 o.at', .int .u8 o.x, .bool o.raw, .slice da o.data.length dc, .slice ka o.keep.length kc]] (wr.alloc ob) (PlayPost (wr.alloc ob) b F G (k + 1))) := fun ob => hid (by
          have hI := HI.out.same ((Only.refl (fun _ => False) wr).alloc ob)
          have := play_c (B := w.heap.size) hI.ps (by omega) (hatw.only ((Only.refl (fun _ => False) wr).alloc ob) (fun _ _ e => e)) (fun j hj hf => by have := hI.f0 j hf; omega) hok
          unfold OpM.cells at this
          rw [hd, hkv] at this
          exact this)
        have HCs := hid HI.out.ps.ref.info
        clear hcw hc hat hatw hd hkv hok hoo
        go_wp2_with (first
          | ((guard_target =~ wpList _ _ _ (⟨some 49, _, _, _, _, _⟩ :: _) _ _); refine wpList_load_row rfl 113 (.tmp 7) rfl w4.heap.size rfl 113 cs (0, 0) _ (blk_alloc HI.out.bs) Try.underlying113 rfl HCs.out ?_)
          | (go_at_call 64; refine (HPl _).out.mono ?_; rintro e w6 ⟨D', r', cs', F', G', rfl, hps, ho6, hf6, hg6⟩; have Hps := hid hps; have Ho6 := hid ho6; have Hf6 := hid hf6; have Hg6 := hid hg6; have Hb6 := hid (blk_only (blk_alloc HI.out.bs) ho6 HI.out.fs); clear hps ho6 hf6 hg6)
          | ((guard_target =~ wpList _ _ _ (⟨none, .store 113 (.tmp 7) (.tmp 52), _, _, _, _⟩ :: _) _ _); refine wpList_store_all rfl 113 (.tmp 7) (.tmp 52) rfl w4.heap.size cs' rfl rfl cs 113 Hb6.out (by rw [Hps.out.ref.size, HI.out.ps.ref.size]) Hps.out.ref.info Hps.out.ref.one ?_; intro w7 hb7 ho7 hs7; have HI7 := hid ((HI.out.same ((Only.refl (fun _ => False) wr).alloc _)).next Hps.out Ho6.out Hf6.out Hg6.out hb7 ho7); clear hb7 ho7 hs7))
        go_roundw
        case rel => exact ⟨k + 1, by go_num, by omega, _, _, _, _, _, HI7.out⟩
        case measure => simp [intOf]; omega
      · obtain rfl : k = l.length := by omega
        go_wp2_with fail
        go_ret
        exact ⟨rfl, HI.out.only⟩
end
end Go.Proofs.Ytepndjojodbhdaa
