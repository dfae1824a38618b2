/- value.Bool, True, List, Parts. -/
import Derived.Test.YtokefeemhgcmhaaGreatDoorVVal
import Derived.Test.YtokefeemhgcmhaaGreatDoorValD
namespace Go.Proofs.YtokefeemhgcmhaaGreatDoor
open Go.RowKit

/-- What counts as true. -/
def VT.tru : VT → Bool
  | .mk k n s l => if k = 1 then decide (n ≠ 0) else if k = 2 then decide (s ≠ []) else if k = 3 then decide (l ≠ []) else false
def PartsC (n : Nat) : Prop := ∀ (t : VT), t.sz ≤ n → ∀ (w : World) (G : Nat → Prop) (cs : List Value), VAt w G t cs → t.sz ≤ 1000000000 → Calls Tryz.prog 5 #[.agg cs.toArray] w fun e w' => e = .returned (.int .i64 t.parts) ∧ Only (fun _ => False) w w'
mutual
theorem parts_sz : ∀ t : VT, t.parts ≤ t.sz
  | .mk k n s l => by rw [VT.parts, VT.sz]; have := partsL_sz l; split <;> omega
theorem partsL_sz : ∀ l : List VT, VT.partsL l ≤ VT.szL l
  | [] => by rw [VT.partsL]; omega
  | t :: ts => by rw [VT.partsL, VT.szL]; have := parts_sz t; have := partsL_sz ts; omega
end
theorem partsL_app : ∀ a b : List VT, VT.partsL (a ++ b) = VT.partsL a + VT.partsL b
  | [], b => by rw [VT.partsL]; simp
  | x :: xs, b => by rw [List.cons_append, VT.partsL, VT.partsL, partsL_app xs b]; omega
theorem partsL_take {l : List VT} {j : Nat} {t : VT} (h : l[j]? = some t) : VT.partsL (l.take (j + 1)) = VT.partsL (l.take j) + t.parts := by
  rw [List.take_add_one, h, partsL_app]
  show _ + VT.partsL [t] = _
  rw [VT.partsL, VT.partsL]; omega
theorem szL_take (l : List VT) (j : Nat) : VT.szL (l.take j) ≤ VT.szL l := by
  induction l generalizing j with
  | nil => simp
  | cons x xs ih =>
    cases j with
    | zero => rw [List.take_zero, VT.szL]; omega
    | succ j => rw [List.take_succ_cons, VT.szL, VT.szL]; have := ih j; omega
section
variable {w : World}
set_option maxRecDepth 100000 in
set_option maxHeartbeats 1600000 in
theorem parts_step (m : Nat) (ih : PartsC m) : PartsC (m + 1) := by
  intro t hsz w G cs hV hbig
  obtain ⟨k, n, s, l⟩ := t
  have hps := parts_sz (.mk k n s l)
  rw [VAt] at hV
  obtain ⟨a, cap, g, o, rfl, ha, hLs⟩ := hV
  rw [VT.sz] at hsz hbig
  have HA := hid ha; have HL := hid hLs
  have HO := hid (only_new w (.cells #[.int .i64 k, .int .i64 n, .string (strOf s), .slice a l.length cap] 24))
  have HB := hid (blk_new w (.cells #[.int .i64 k, .int .i64 n, .string (strOf s), .slice a l.length cap] 24))
  clear ha hLs hps
  by_cases hk3 : k = 3
  · subst hk3
    have HF : Hid ((VT.mk 3 n s l).parts = 1 + VT.partsL l) := hid (by rw [VT.parts]; simp)
    go_enter Tryz.func5, Tryz.ntmps5
    go_wp2_with fail
    go_loopw [12, 3] (fun i q wr => ∃ j : Nat, i = .int .i64 j ∧ j ≤ l.length ∧ q = .int .i64 (1 + VT.partsL (l.take j) : Nat) ∧ Only (fun _ => False) w wr) (fun i _ _ => l.length - (intOf i).toNat)
    case atStart => exact ⟨0, rfl, Nat.zero_le _, by rw [List.take_zero, VT.partsL]; rfl, HO.out⟩
    case round =>
      obtain ⟨j, rfl, hj, rfl, ho⟩ := hrel
      have HOW := hid ho
      clear ho
      have hpl : VT.partsL (l.take j) ≤ 1000000000 := by have := partsL_sz (l.take j); have := szL_take l j; omega
      obtain ⟨pj, hpj⟩ : ∃ p, VT.partsL (l.take j) = p := ⟨_, rfl⟩
      rw [hpj] at hpl
      rw [hpj]
      have HPJ := hid hpj
      clear hpj
      by_cases hjl : j < l.length
      · have hji : (j : Int) < l.length := by omega
        have hjb : (j : Int) ≤ 1000000000 := by have := szL_len l; omega
        obtain ⟨t, ht⟩ : ∃ t, l[j]? = some t := ⟨_, List.getElem?_eq_getElem hjl⟩
        obtain ⟨rfl, hGg⟩ := HA.out (by rintro rfl; simp at hjl)
        obtain ⟨cs, hcs, hVt⟩ := HL.out.get ht
        have htz := szL_get ht
        have hcw : ∀ i u, cs[i]? = some u → wr.cell? ⟨g, o + j * 4 + i, none⟩ = some u := fun i u hu =>
          (World.cell?_of_block (HOW.out.block g (World.block_lt_of_cell? _ _ (hcs i u hu)) (fun e => e))).trans (hcs i u hu)
        have hVw := hVt.only HOW.out (fun _ _ e => e)
        obtain ⟨kx, nx, sx, ax, mx, cx, rfl⟩ := hVt.form
        have e0 := hcw 0 _ rfl
        rw [Nat.add_zero] at e0
        have e1 := hcw 1 _ rfl
        have e2 := hcw 2 _ rfl
        have e3 := hcw 3 _ rfl
        have htk := partsL_take ht
        rw [HPJ.out] at htk
        have HTK := hid htk
        have htp := parts_sz t
        have HC := hid (ih t (by omega) (wr.alloc (.cells #[.int .i64 kx, .int .i64 nx, .string (strOf sx), .slice ax mx cx] 24)) G _ (hVw.same (only_new wr _)) (by omega))
        obtain ⟨tp, htpe⟩ : ∃ p, t.parts = p := ⟨_, rfl⟩
        rw [htpe] at HC HTK htp
        have htp2 : tp ≤ 1000000000 := by omega
        have hsum : pj + tp ≤ 1000000000 := by have h1 := partsL_sz (l.take (j + 1)); have h2 := szL_take l (j + 1); rw [HTK.out] at h1; omega
        clear hcs hVt hcw hVw ht htk htpe htz htp
        go_wp2_with fail
        refine HC.out.mono ?_
        rintro x w5 ⟨rfl, ho5⟩
        have HO5 := hid ((HOW.out.trans (only_new wr (.cells #[.int .i64 kx, .int .i64 nx, .string (strOf sx), .slice ax mx cx] 24)) (fun _ _ e => e)).trans ho5 (fun _ _ e => e))
        clear ho5
        go_wp2_with fail
        go_roundw
        case rel => exact ⟨j + 1, by go_num, by omega, by rw [HTK.out]; go_num, HO5.out⟩
        case measure => simp [intOf]; omega
      · have hjl2 : ¬ (j : Int) < l.length := by omega
        have hjj : l.take j = l := List.take_of_length_le (by omega)
        have HPE : Hid (VT.partsL l = pj) := hid (by rw [← HPJ.out, hjj])
        clear hjj
        go_wp2_with fail
        go_ret
        rw [HF.out, HPE.out]; exact ⟨rfl, HOW.out⟩
  · have b3 : (k == 3) = false := by simpa using hk3
    have HF : Hid ((VT.mk k n s l).parts = 1) := hid (by rw [VT.parts]; simp [hk3])
    clear hk3
    go_enter Tryz.func5, Tryz.ntmps5
    go_wp2_with fail
    go_ret
    rw [HF.out]; exact ⟨rfl, HO.out⟩
theorem partsC : ∀ m, PartsC m
  | 0 => fun t h => by have := sz_pos t; omega
  | m + 1 => parts_step m (partsC m)
set_option maxRecDepth 100000 in
/-- value.List: a list of clones. -/
theorem vlistP_c {G : Nat → Prop} {l : List VT} {a : Option Addr} {cap g o : Nat} (ha : l ≠ [] → a = some ⟨g, o, none⟩ ∧ G g) (hL : VLs w G l g o) (hG : ∀ k, G k → k < w.heap.size) (hr : VT.rgL l) (hl : l.length ≤ 9223372036854775807) (hz : VT.partsL l ≤ 100000000) :
    Calls Tryz.prog 7 #[.slice a l.length cap] w (MadeS w (.mk 3 0 [] (VT.clL l))) := by
  have ho := only_new w (.cells #[.int .i64 0, .int .i64 0, .string ⟨#[]⟩, .slice none 0 0] 24)
  have HZ := hid (blk_new w (.cells #[.int .i64 0, .int .i64 0, .string ⟨#[]⟩, .slice none 0 0] 24))
  have hv : VAt w G (.mk 3 0 [] l) [.int .i64 3, .int .i64 0, .string (strOf []), .slice a l.length cap] := by rw [VAt]; exact ⟨a, cap, g, o, rfl, ha, hL⟩
  have hc := clonePC _ (.mk 3 0 [] l) (Nat.le_refl _) (w.alloc (.cells #[.int .i64 0, .int .i64 0, .string ⟨#[]⟩, .slice none 0 0] 24)) G _ (hv.same ho) (fun k hk => by have := hG k hk; simp; omega) (by rw [VT.rg]; exact ⟨by decide, by decide, by decide, by decide, by simp, hl, hr⟩) (by rw [VT.parts]; simp; omega)
  have e : (VT.mk 3 0 [] l).cl = .mk 3 0 [] (VT.clL l) := by rw [VT.cl]; simp
  rw [e] at hc
  have HC := hid hc; have HO := hid ho
  clear ha hL hG hr hl hz hv hc ho e
  go_enter Tryz.func7, Tryz.ntmps7
  go_wp2_with fail
  refine HC.out.mono ?_
  rintro x w2 ⟨cs, rfl, hv2, ho2, hs2⟩
  obtain ⟨k, n, s, va, m, c, rfl⟩ := hv2.form
  have HZ2 := hid (blk_only HZ.out ho2 (fun e => e))
  have HO2 := hid (HO.out.trans ho2 (fun _ _ e => e))
  have HV2 := hid hv2; have HS2 := hid hs2
  have hsz2 := ho2.size
  rw [World.size_alloc] at hsz2
  have HSZ := hid hsz2
  clear hv2 ho2 hs2 hsz2
  go_wp2_with (refine wpList_store_all rfl 24 (.tmp 2) (.tmp 5) rfl w.heap.size #[.int .i64 k, .int .i64 n, .string (strOf s), .slice va m c] rfl rfl #[.int .i64 0, .int .i64 0, .string ⟨#[]⟩, .slice none 0 0] 24 HZ2.out rfl info_val (val_one _ _ _ _ _ _) ?_; intro w9 hb9 ho9 hs9; have HB9 := hid hb9; have HO9 := hid ho9; have HS9 := hid hs9; clear hb9 ho9 hs9)
  refine bodyPost_ret (results_cell_row rfl _ _ w.heap.size 24 #[.int .i64 k, .int .i64 n, .string (strOf s), .slice va m c] (0, 0) _ rfl HB9.out Tryz.underlying24 rfl info_val) rfl ⟨_, rfl, (HV2.out.only HO9.out (fun i hi e => by have e' : i = w.heap.size := e; have h1 := hi.1; rw [World.size_alloc] at h1; omega)).mono (fun i hi => ⟨by have h1 := hi.1; rw [World.size_alloc] at h1; omega, by have := hi.2; have := HS9.out; omega⟩), HO2.out.trans HO9.out (fun i hi e => by have e' : i = w.heap.size := e; omega), fun q o' m' c' h => ?_⟩
  obtain ⟨h1, h2⟩ := HS2.out q o' m' c' h
  have h3 := h1.1
  rw [World.size_alloc] at h3
  obtain ⟨arr, T, h4⟩ := h2
  exact ⟨⟨by omega, by have := h1.2; have := HS9.out; omega⟩, arr, T, blk_only h4 HO9.out (by show ¬ q = w.heap.size; omega)⟩
theorem vlist_c {G : Nat → Prop} {l : List VT} {a : Option Addr} {cap g o : Nat} (ha : l ≠ [] → a = some ⟨g, o, none⟩ ∧ G g) (hL : VLs w G l g o) (hG : ∀ k, G k → k < w.heap.size) (hr : VT.rgL l) (hl : l.length ≤ 9223372036854775807) (hz : VT.szL l ≤ 100000000) :
    Calls Tryz.prog 7 #[.slice a l.length cap] w (MadeS w (.mk 3 0 [] (VT.clL l))) :=
  vlistP_c ha hL hG hr hl (Nat.le_trans (partsLC_sz l) hz)
end
end Go.Proofs.YtokefeemhgcmhaaGreatDoor
