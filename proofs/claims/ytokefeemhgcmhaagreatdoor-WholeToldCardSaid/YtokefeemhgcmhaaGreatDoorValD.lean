/- value.Clone. -/
import Derived.Test.YtokefeemhgcmhaaGreatDoorValM
namespace Go.Proofs.YtokefeemhgcmhaaGreatDoor
open Go.RowKit
/-- The block of a list's values is new, and may be written. -/
def Soft (w w' : World) (cs : List Value) : Prop := ∀ q o m c, Value.slice (some ⟨q, o, none⟩) m c ∈ cs → New w w' q ∧ ∃ arr T, w'.heap[q]? = some (.cells arr T (0, 0))
theorem soft_none (w w' : World) (k n : Int) (s : ByteArray) (m c : Nat) : Soft w w' [.int .i64 k, .int .i64 n, .string s, .slice none m c] := fun q o m c h => by simp at h
theorem Gr.soft {w : World} {e : TypeId} {size n cap : Nat} {ao : Option Addr} {xs : List Value} (h : Gr w e size ao n cap xs) {q o : Nat} (hq : ao = some ⟨q, o, none⟩) : o = 0 ∧ ∃ arr T, w.heap[q]? = some (.cells arr T (0, 0)) := by
  rcases h.2.2 with ⟨h3, -⟩ | ⟨g', h3, p, hr, -⟩
  · rw [h3] at hq; cases hq
  · rw [hq] at h3
    simp only [Option.some.injEq, Addr.mk.injEq, and_true] at h3
    rw [h3.1]; exact ⟨h3.2, _, _, hr⟩
/-- A new value whose list may be written. -/
def MadeS (w : World) (t : VT) (e : Ending) (w' : World) : Prop := ∃ cs, e = .returned (.agg cs.toArray) ∧ VAt w' (New w w') t cs ∧ Only (fun _ => False) w w' ∧ Soft w w' cs
mutual
theorem partsC_sz : ∀ t : VT, t.parts ≤ t.sz
  | .mk k n s l => by
    rw [VT.parts, VT.sz]
    have := partsLC_sz l
    split <;> omega
theorem partsLC_sz : ∀ l : List VT, VT.partsL l ≤ VT.szL l
  | [] => Nat.le_refl _
  | t :: ts => by
    rw [VT.partsL, VT.szL]
    have := partsC_sz t
    have := partsLC_sz ts
    omega
end
theorem parts_pos (t : VT) : 0 < t.parts := by
  obtain ⟨k, n, s, l⟩ := t
  rw [VT.parts]; omega
theorem partsL_get : ∀ {l : List VT} {i : Nat} {t : VT}, l[i]? = some t → t.parts ≤ VT.partsL l
  | [], _, _, h => by simp at h
  | t' :: ts, 0, t, h => by
    simp only [List.getElem?_cons_zero, Option.some.injEq] at h
    subst h
    rw [VT.partsL]; omega
  | t' :: ts, i + 1, t, h => by
    have := partsL_get (l := ts) (i := i) (by simpa using h)
    rw [VT.partsL]; omega
theorem partsL_len : ∀ l : List VT, l.length ≤ VT.partsL l
  | [] => Nat.le_refl _
  | t :: ts => by
    have := partsL_len ts
    have := parts_pos t
    rw [VT.partsL, List.length_cons]; omega
def ClonePC (n : Nat) : Prop := ∀ (t : VT), t.parts ≤ n → ∀ (w : World) (G : Nat → Prop) (cs : List Value), VAt w G t cs → (∀ k, G k → k < w.heap.size) → t.rg → t.parts ≤ 1000000000 → Calls Tryz.prog 21 #[.agg cs.toArray] w (MadeS w t.cl)
def CloneC (n : Nat) : Prop := ∀ (t : VT), t.sz ≤ n → ∀ (w : World) (G : Nat → Prop) (cs : List Value), VAt w G t cs → (∀ k, G k → k < w.heap.size) → t.rg → t.sz ≤ 1000000000 → Calls Tryz.prog 21 #[.agg cs.toArray] w (MadeS w t.cl)
section
variable {w : World}
set_option maxRecDepth 100000 in
set_option maxHeartbeats 3200000 in
theorem clone_step (m : Nat) (ih : ClonePC m) : ClonePC (m + 1) := by
  intro t hsz w G cs hV hGl hg hbig
  obtain ⟨k, n, s, l⟩ := t
  rw [VAt] at hV
  obtain ⟨a, cap, g, o, rfl, ha, hLs⟩ := hV
  rw [VT.parts] at hsz hbig
  rw [VT.rg] at hg
  obtain ⟨-, -, -, -, hs, hll, hgl⟩ := hg
  have HA := hid ha; have HL := hid hLs; have HGl := hid hGl; have HG := hid hgl
  clear ha hLs hGl hgl
  by_cases hk1 : k = 1
  · subst hk1
    have HF : Hid ((VT.mk 1 n s l).cl = .mk 1 n [] []) := hid (by rw [VT.cl]; simp)
    go_enter Tryz.func21, Tryz.ntmps21
    go_wp2_with fail
    have hb := blk_mid w (.cells #[.int .i64 1, .int .i64 n, .string (strOf s), .slice a l.length cap] 24) (.cells #[.int .i64 1, .int .i64 n, .string (strOf []), .slice none 0 0] 24) (.cells #[.int .i64 1, .int .i64 n, .string (strOf []), .slice none 0 0] 24)
    exact bodyPost_ret (results_cell_row rfl _ _ (w.heap.size + 1) 24 #[.int .i64 1, .int .i64 n, .string (strOf []), .slice none 0 0] (0, 0) _ rfl hb Tryz.underlying24 rfl info_val) rfl ⟨[.int .i64 1, .int .i64 n, .string (strOf []), .slice none 0 0], rfl, by rw [HF.out, VAt]; exact ⟨none, 0, 0, 0, rfl, by simp, by rw [VLs]; trivial⟩, only3 w _ _ _, soft_none _ _ _ _ _ _ _⟩
  have b1 : (k == 1) = false := by simpa using hk1
  by_cases hk2 : k = 2
  · subst hk2
    have HF : Hid ((VT.mk 2 n s l).cl = .mk 2 0 s []) := hid (by rw [VT.cl]; simp)
    go_enter Tryz.func21, Tryz.ntmps21
    go_wp2_with fail
    have hb := blk_mid w (.cells #[.int .i64 2, .int .i64 n, .string (strOf s), .slice a l.length cap] 24) (.cells #[.int .i64 2, .int .i64 0, .string (strOf s), .slice none 0 0] 24) (.cells #[.int .i64 2, .int .i64 0, .string (strOf s), .slice none 0 0] 24)
    exact bodyPost_ret (results_cell_row rfl _ _ (w.heap.size + 1) 24 #[.int .i64 2, .int .i64 0, .string (strOf s), .slice none 0 0] (0, 0) _ rfl hb Tryz.underlying24 rfl info_val) rfl ⟨[.int .i64 2, .int .i64 0, .string (strOf s), .slice none 0 0], rfl, by rw [HF.out, VAt]; exact ⟨none, 0, 0, 0, rfl, by simp, by rw [VLs]; trivial⟩, only3 w _ _ _, soft_none _ _ _ _ _ _ _⟩
  have b2 : (k == 2) = false := by simpa using hk2
  by_cases hk3 : k = 3
  · subst hk3
    rw [if_pos rfl] at hsz hbig
    have hlz := partsL_len l
    have HF : Hid ((VT.mk 3 n s l).cl = .mk 3 0 [] (VT.clL l)) := hid (by rw [VT.cl]; simp)
    go_enter Tryz.func21, Tryz.ntmps21
    go_wp2_with fail
    have HB0 : Hid ((((w.alloc (.cells #[.int .i64 3, .int .i64 n, .string (strOf s), .slice a l.length cap] 24)).alloc (.cells #[.int .i64 0, .int .i64 0, .string (strOf []), .slice none 0 0] 24)).alloc (.cells #[.int .i64 3, .int .i64 0, .string (strOf []), .slice none 0 0] 24)).heap[w.heap.size + 2]? = some (.cells #[.int .i64 3, .int .i64 0, .string (strOf []), .slice none 0 0] 24 (0, 0))) := hid (by
      have := blk_new ((w.alloc (.cells #[.int .i64 3, .int .i64 n, .string (strOf s), .slice a l.length cap] 24)).alloc (.cells #[.int .i64 0, .int .i64 0, .string (strOf []), .slice none 0 0] 24)) (.cells #[.int .i64 3, .int .i64 0, .string (strOf []), .slice none 0 0] 24)
      rw [World.size_alloc, World.size_alloc] at this; exact this)
    have HB1 := hid (blk_mid w (.cells #[.int .i64 3, .int .i64 n, .string (strOf s), .slice a l.length cap] 24) (.cells #[.int .i64 0, .int .i64 0, .string (strOf []), .slice none 0 0] 24) (.cells #[.int .i64 3, .int .i64 0, .string (strOf []), .slice none 0 0] 24))
    have HO0 := hid (only3 w (.cells #[.int .i64 3, .int .i64 n, .string (strOf s), .slice a l.length cap] 24) (.cells #[.int .i64 0, .int .i64 0, .string (strOf []), .slice none 0 0] 24) (.cells #[.int .i64 3, .int .i64 0, .string (strOf []), .slice none 0 0] 24))
    go_loopw [26] (fun i wr => ∃ (j cp : Nat) (ao : Option Addr) (xs : List Value), i = .int .i64 j ∧ j ≤ l.length ∧ wr.heap[w.heap.size + 2]? = some (.cells #[.int .i64 3, .int .i64 0, .string (strOf []), .slice ao j cp] 24 (0, 0)) ∧ wr.heap[w.heap.size + 1]? = some (.cells #[.int .i64 0, .int .i64 0, .string (strOf []), .slice none 0 0] 24 (0, 0)) ∧ Gr wr 24 4 ao j cp xs ∧ (∀ q, ao = some ⟨q, 0, none⟩ → w.heap.size + 3 ≤ q) ∧ VXs wr (fun q => w.heap.size + 3 ≤ q ∧ q < wr.heap.size ∧ ao ≠ some ⟨q, 0, none⟩) (VT.clL (l.take j)) xs ∧ Only (fun _ => False) w wr) (fun i _ => l.length - (intOf i).toNat)
    case atStart => exact ⟨0, 0, none, [], rfl, Nat.zero_le _, HB0.out, HB1.out, Gr.nil, by simp, by rw [List.take_zero, VT.clL]; rfl, HO0.out⟩
    case round =>
      obtain ⟨j, cp, ao, xs, rfl, hj, hb3, hb2', hgr, hao, hvx, ho⟩ := hrel
      have r0 : wr.cell? ⟨w.heap.size + 1 + 1, 0, none⟩ = some (.int .i64 3) := cell_blk hb3 0
      have r1 : wr.cell? ⟨w.heap.size + 1 + 1, 1, none⟩ = some (.int .i64 0) := cell_blk hb3 1
      have r2 : wr.cell? ⟨w.heap.size + 1 + 1, 2, none⟩ = some (.string (strOf [])) := cell_blk hb3 2
      have r3 : wr.cell? ⟨w.heap.size + 1 + 1, 3, none⟩ = some (.slice ao j cp) := cell_blk hb3 3
      have hw3 := blk_lt hb3
      have HB3 := hid hb3; have HB2 := hid hb2'; have HGR := hid hgr; have HAO := hid hao; have HVX := hid hvx; have HO := hid ho
      clear hb3 hb2' hgr hao hvx ho
      by_cases hjl : j < l.length
      · have hji : (j : Int) < l.length := by omega
        obtain ⟨t, ht⟩ : ∃ t, l[j]? = some t := ⟨_, List.getElem?_eq_getElem hjl⟩
        obtain ⟨rfl, hGg⟩ := HA.out (by rintro rfl; simp at hjl)
        obtain ⟨cs, hcs, hVt⟩ := HL.out.get ht
        have htz := partsL_get ht
        have htg := rgL_get HG.out ht
        have hcw : ∀ i u, cs[i]? = some u → wr.cell? ⟨g, o + j * 4 + i, none⟩ = some u := fun i u hu =>
          (World.cell?_of_block (HO.out.block g (World.block_lt_of_cell? _ _ (hcs i u hu)) (fun e => e))).trans (hcs i u hu)
        have hVw := hVt.only HO.out (fun _ _ e => e)
        obtain ⟨kx, nx, sx, ax, mx, cx, rfl⟩ := hVt.form
        have e0 := hcw 0 _ rfl
        rw [Nat.add_zero] at e0
        have e1 := hcw 1 _ rfl
        have e2 := hcw 2 _ rfl
        have e3 := hcw 3 _ rfl
        have Hcl := hid (clL_take ht)
        have HC := hid (ih t (by omega) (wr.alloc (.cells #[.int .i64 kx, .int .i64 nx, .string (strOf sx), .slice ax mx cx] 24)).drew G _ (hVw.same (only_new wr _).drew) (fun i hi => by have := HGl.out i hi; have := HO.out.size; show i < (wr.alloc _).heap.size; simp; omega) htg (by omega))
        clear hcs hVt htg hcw hVw ht
        go_wp2_with fail
        clear r0 r1 r2
        go_region_law (first
          | (refine step_of rfl (wp_callc (o := ⟨some 33, _, _, _, _, _⟩) (f := 21) (args := #[.agg #[.int .i64 kx, .int .i64 nx, .string (strOf sx), .slice ax mx cx]]) (by kernel_rfl) ?_); refine HC.out.mono ?_; rintro e w2 ⟨cs2, rfl, hv2, ho2, -⟩; refine ⟨_, rfl, ?_⟩; obtain ⟨ky, ny, sy, ay, my, cy, rfl⟩ := hv2.form; have hb22 := blk_only (w := (wr.alloc (.cells #[.int .i64 kx, .int .i64 nx, .string (strOf sx), .slice ax mx cx] 24)).drew) (blk_alloc (o' := .cells #[.int .i64 kx, .int .i64 nx, .string (strOf sx), .slice ax mx cx] 24) HB3.out) (F := fun _ => False) ho2 (fun e => e); have s3 : w2.cell? ⟨w.heap.size + 1 + 1, 3, none⟩ = some (.slice ao j cp) := cell_blk hb22 3; have s3' : ∀ ob, (w2.alloc ob).cell? ⟨w.heap.size + 1 + 1, 3, none⟩ = some (.slice ao j cp) := (fun ob => cell_blk (blk_alloc hb22) 3); have HV2 := hid hv2; have HO2 := hid ho2; have HB22 := hid hb22; clear hv2 ho2 hb22)
          | (refine step_of rfl (wp_gr (o := ⟨some 35, _, _, _, _, _⟩) elV (.tmp 31) (.tmp 34) rfl (HGR.out.only (((only_new wr _).drew.trans HO2.out (fun _ _ e => e)).trans (only_new w2 _) (fun _ _ e => e)) (fun _ _ e => e)) rfl (some ⟨w2.heap.size, 0, none⟩) 1 1 rfl [.int .i64 ky, .int .i64 ny, .string (strOf sy), .slice ay my cy] (SrcG.new (blk_new w2 _) rfl HV2.out.one) (by omega) (by omega) ?_); intro ao' cp' w5 hg5 ha5 ho5; have hb5 := blk_only (blk_alloc HB22.out) ho5 (fun e => by have := HAO.out _ e; omega); have s5 : w5.cell? ⟨w.heap.size + 1 + 1, 3, none⟩ = some (.slice ao j cp) := cell_blk hb5 3; have z5 : ∀ i, w5.frozen? ⟨w.heap.size + 1 + 1, i, none⟩ = false := frozen_blk hb5; have HG5 := hid hg5; have HA5 := hid ha5; have HO5 := hid ho5; have HB5 := hid hb5; clear hg5 ha5 ho5 hb5))
        all_goals
          go_wp2_with fail
          go_roundw
          case rel =>
            have hoA : Only (fun _ => False) wr w2 := (only_new wr _).drew.trans HO2.out (fun _ _ e => e)
            have hoB : Only (fun i => ao = some ⟨i, 0, none⟩) wr w5 := ((hoA.trans (only_new w2 _) (fun _ _ e => e)).mono (G := fun i => ao = some ⟨i, 0, none⟩) (fun _ _ e => e.elim)).trans HO5.out (fun _ _ e => e)
            have hoC : Only (fun i => ao = some ⟨i, 0, none⟩ ∨ i = w.heap.size + 2) wr (w5.setCell ⟨w.heap.size + 1 + 1, 3, none⟩ (.slice ao' (j + 1) cp')) := (hoB.mono (fun _ _ e => .inl e)).trans (only_set _ _ _) (fun _ _ e => .inr e)
            have hs2 := hoA.size
            have hs2' := HO2.out.size
            have hs5 := HO5.out.size
            have hao' : ∀ q, ao' = some ⟨q, 0, none⟩ → (ao = some ⟨q, 0, none⟩ ∨ q = w2.heap.size + 1) := fun q hq => by
              rcases HA5.out with e | e
              · exact .inl (by rw [← e]; exact hq)
              · rw [hq] at e; simp only [Option.some.injEq, Addr.mk.injEq, and_true, World.size_alloc] at e; exact .inr e
            have hW0 : (wr.alloc (.cells #[.int .i64 kx, .int .i64 nx, .string (strOf sx), .slice ax mx cx] 24)).drew.heap.size = wr.heap.size + 1 := by show (wr.alloc _).heap.size = _; simp
            have hs5' : w2.heap.size + 1 ≤ w5.heap.size := by have := HO5.out.size; simp at this; exact this
            have hsf : (w5.setCell ⟨w.heap.size + 1 + 1, 3, none⟩ (.slice ao' (j + 1) cp')).heap.size = w5.heap.size := by simp
            rw [hW0] at hs2'
            refine ⟨j + 1, cp', ao', _, by go_num, by omega, ?_, ?_, HG5.out.only (only_set _ _ _) (fun q hq e => ?_), fun q hq => ?_, ?_, HO.out.trans hoC (fun i hi e => ?_)⟩
            · have := blk_set HB5.out 3 (.slice ao' (j + 1) cp')
              simpa using this
            · exact blk_only HB2.out hoC (fun e => by
                rcases e with e | e
                · have := HAO.out _ e; omega
                · omega)
            · have e' : q = w.heap.size + 1 + 1 := e
              rcases hao' q hq with h | h
              · have := HAO.out _ h; omega
              · omega
            · rcases hao' q hq with h | h
              · exact HAO.out _ h
              · omega
            · rw [Hcl.out]
              refine VXs.snoc ?_ ((HVX.out.only hoC (fun i hi e => ?_)).mono (fun i hi => ⟨hi.1, ?_, fun e => ?_⟩))
              · have h1 := HV2.out.only ((only_new w2 (.cells #[.int .i64 ky, .int .i64 ny, .string (strOf sy), .slice ay my cy] 24)).mono (G := fun i => ao = some ⟨i, 0, none⟩ ∨ i = w.heap.size + 2) (fun _ _ e => e.elim) |>.trans ((HO5.out.mono (fun _ _ e => .inl e)).trans (only_set (w.heap.size + 1 + 1) 3 (.slice ao' (j + 1) cp')) (fun _ _ e => .inr e)) (fun _ _ e => e)) (fun i hi e => by
                  have hi1 : wr.heap.size + 1 ≤ i := by have := hi.1; rw [hW0] at this; exact this
                  rcases e with e | e
                  · have := HGR.out.lt e; omega
                  · omega)
                refine h1.mono (fun i hi => ⟨?_, ?_, fun e => ?_⟩)
                · have := hi.1; rw [hW0] at this; omega
                · have := hi.2; omega
                · have h3 := hi.1
                  have h4 := hi.2
                  rw [hW0] at h3
                  rcases hao' i e with h | h
                  · have := HGR.out.lt h; omega
                  · omega
              · rcases e with e | e
                · exact hi.2.2 e
                · have := hi.1; omega
              · have := hi.2.1; omega
              · rcases hao' i e with h | h
                · exact hi.2.2 h
                · have := hi.2.1; omega
            · rcases e with e | e
              · have := HAO.out _ e; omega
              · omega
          case measure => simp [intOf]; omega
      · obtain rfl : j = l.length := by omega
        have hvx' := HVX.out
        rw [List.take_length] at hvx'
        have HVX' := hid hvx'
        clear hvx'
        go_wp2_with (refine wpList_store_all rfl 24 (.tmp 2) (.tmp 38) rfl (w.heap.size + 1) #[.int .i64 3, .int .i64 0, .string (strOf []), .slice ao l.length cp] rfl rfl #[.int .i64 0, .int .i64 0, .string (strOf []), .slice none 0 0] 24 HB2.out rfl info_val (val_one _ _ _ _ _ _) ?_; intro w9 hb9 ho9 hs9; have HB9 := hid hb9; have HO9 := hid ho9; have HS9 := hid hs9; clear hb9 ho9 hs9)
        have hlenx : (VT.clL l).length = l.length := clL_length l
        refine bodyPost_ret (results_cell_row rfl _ _ (w.heap.size + 1) 24 #[.int .i64 3, .int .i64 0, .string (strOf []), .slice ao l.length cp] (0, 0) _ rfl HB9.out Tryz.underlying24 rfl info_val) rfl ⟨[.int .i64 3, .int .i64 0, .string (strOf []), .slice ao l.length cp], rfl, ?_, HO.out.trans HO9.out (fun i hi e => by have e' : i = w.heap.size + 1 := e; omega), fun q o m c h => by
          simp only [List.mem_cons, reduceCtorEq, Value.slice.injEq, List.not_mem_nil, or_false, false_or] at h
          have hq := h.1.symm
          have hs9 := HS9.out
          obtain ⟨rfl, hbq⟩ := (HGR.out.only HO9.out (fun g hg e => by have e' : g = w.heap.size + 1 := e; have := HAO.out g hg; omega)).soft hq
          have hq3 := HAO.out q hq
          have hql := HGR.out.lt hq
          exact ⟨⟨by omega, by omega⟩, hbq⟩⟩
        rw [HF.out, VAt]
        rcases Nat.eq_zero_or_pos l.length with h0 | h0
        · obtain rfl := List.eq_nil_of_length_eq_zero h0
          exact ⟨ao, cp, 0, 0, by rw [hlenx], fun e => absurd (by rw [VT.clL]) e, by rw [VT.clL, VLs]; trivial⟩
        · obtain ⟨q, hq, hcells⟩ := HGR.out.cells h0
          have hq3 := HAO.out q hq
          have hql := HGR.out.lt hq
          have hs9 := HS9.out
          refine ⟨ao, cp, q, 0, by rw [hlenx], fun _ => ⟨hq, by omega, by omega⟩, ?_⟩
          have hv := (HVX'.out.only HO9.out (fun i hi e => by have e' : i = w.heap.size + 1 := e; omega)).mono (G' := New w w9) (fun i hi => ⟨by omega, by omega⟩)
          exact hv.ls (fun i u hu => by
            rw [Nat.zero_add, ← hcells i u hu]
            exact World.cell?_of_block (HO9.out.block q hql (by show ¬ q = w.heap.size + 1; omega)))
  · have b3 : (k == 3) = false := by simpa using hk3
    have HF : Hid ((VT.mk k n s l).cl = .mk k 0 [] []) := hid (by rw [VT.cl]; simp [hk1, hk2, hk3])
    clear hk1 hk2 hk3
    go_enter Tryz.func21, Tryz.ntmps21
    go_wp2_with fail
    have hb := blk_mid w (.cells #[.int .i64 k, .int .i64 n, .string (strOf s), .slice a l.length cap] 24) (.cells #[.int .i64 k, .int .i64 0, .string (strOf []), .slice none 0 0] 24) (.cells #[.int .i64 k, .int .i64 0, .string (strOf []), .slice none 0 0] 24)
    exact bodyPost_ret (results_cell_row rfl _ _ (w.heap.size + 1) 24 #[.int .i64 k, .int .i64 0, .string (strOf []), .slice none 0 0] (0, 0) _ rfl hb Tryz.underlying24 rfl info_val) rfl ⟨[.int .i64 k, .int .i64 0, .string (strOf []), .slice none 0 0], rfl, by rw [HF.out, VAt]; exact ⟨none, 0, 0, 0, rfl, by simp, by rw [VLs]; trivial⟩, only3 w _ _ _, soft_none _ _ _ _ _ _ _⟩
theorem clonePC : ∀ m, ClonePC m
  | 0 => fun t h => by have := parts_pos t; omega
  | m + 1 => clone_step m (clonePC m)
theorem cloneC : ∀ m, CloneC m := fun _ t _ w G cs hV hG hg hb => clonePC _ t (Nat.le_refl _) w G cs hV hG hg (Nat.le_trans (partsC_sz t) hb)
end
end Go.Proofs.YtokefeemhgcmhaaGreatDoor
