/- value.Compare, value.Same, event.Same. -/
import Derived.Test.YtokefeemhgcmhaaGreatDoorValH
import Derived.Test.YtokefeemhgcmhaaGreatDoorVMisc
import Derived.Test.YtokefeemhgcmhaaGreatDoorShelf
namespace Go.Proofs.YtokefeemhgcmhaaGreatDoor
open Go.RowKit

theorem cmpB : ∀ a b : List UInt8, Lib.compareBytes a b = cmpS a b
  | [], [] => rfl
  | [], _ :: _ => rfl
  | _ :: _, [] => rfl
  | x :: xs, y :: ys => by
    rw [Lib.compareBytes, cmpS, cmpB xs ys]
    by_cases e : x = y
    · subst e; simp [UInt8.lt_irrefl]
    · rw [if_neg e]
      by_cases h : x < y
      · rw [if_pos h, if_pos h]
      · have h2 : y < x := by
          rcases Nat.lt_trichotomy x.toNat y.toNat with g | g | g
          · exact absurd g h
          · exact absurd (UInt8.toNat_inj.1 g) e
          · exact g
        rw [if_neg h, if_neg h, if_pos h2]
def CompareC (n : Nat) : Prop := ∀ (t u : VT), t.sz ≤ n → ∀ (w : World) (G H : Nat → Prop) (cs ds : List Value), VAt w G t cs → VAt w H u ds → t.rg → u.rg →
    Calls Tryz.prog 29 #[.agg cs.toArray, .agg ds.toArray] w fun e w' => e = .returned (.int .i64 (t.cmp u)) ∧ Only (fun _ => False) w w'
section
variable {w : World}
set_option maxRecDepth 100000 in
theorem sign_t : Calls Tryz.prog 52 #[.bool true] w fun e w' => e = .returned (.int .i64 (-1)) ∧ w = w' := by
  go_enter Tryz.func52, Tryz.ntmps52
  go_wp2_with fail
  go_ret
  exact ⟨rfl, rfl⟩
set_option maxRecDepth 100000 in
theorem sign_f : Calls Tryz.prog 52 #[.bool false] w fun e w' => e = .returned (.int .i64 1) ∧ w = w' := by
  go_enter Tryz.func52, Tryz.ntmps52
  go_wp2_with fail
  go_ret
  exact ⟨rfl, rfl⟩
theorem scmp_c (a b : List UInt8) : Calls Tryz.prog 53 #[.string (strOf a), .string (strOf b)] w fun e w' => e = .returned (.int .i64 (cmpS a b)) ∧ w = w' :=
  (Tryz.strings_Compare (strOf a) (strOf b) w).mono fun e w' ⟨h1, h2⟩ => ⟨by rw [h1, strOf_data, strOf_data, cmpB], h2.symm⟩
set_option maxRecDepth 100000 in
set_option maxHeartbeats 3200000 in
theorem compare_step (m : Nat) (ih : CompareC m) : CompareC (m + 1) := by
  intro t u hsz w G H cs ds hV hU hg hh
  obtain ⟨k, n, s, l⟩ := t
  obtain ⟨k', n', s', l'⟩ := u
  rw [VAt] at hV hU
  obtain ⟨a, cap, g, o, rfl, ha, hLs⟩ := hV
  obtain ⟨a', cap', g', o', rfl, ha', hLs'⟩ := hU
  rw [VT.rg] at hg hh
  obtain ⟨-, -, -, -, -, hll, hgl⟩ := hg
  obtain ⟨-, -, -, -, -, hll', hgl'⟩ := hh
  rw [VT.sz] at hsz
  have HC : Hid ((VT.mk k n s l).cmp (.mk k' n' s' l') = if k ≠ k' then (if k < k' then -1 else 1) else if k = 1 then (if n ≠ n' then (if n < n' then -1 else 1) else 0) else if k = 2 then cmpS s s' else if k = 3 then VT.cmpL l l' else 0) := hid (cmp_mk _ _ _ _ _ _ _ _)
  have HA := hid ha; have HA' := hid ha'; have HL := hid hLs; have HL' := hid hLs'; have HG := hid hgl; have HG' := hid hgl'
  have HO0 := hid ((only_new w (.cells #[.int .i64 k, .int .i64 n, .string (strOf s), .slice a l.length cap] 24)).trans (only_new _ (.cells #[.int .i64 k', .int .i64 n', .string (strOf s'), .slice a' l'.length cap'] 24)) (fun _ _ e => e))
  clear ha ha' hLs hLs' hgl hgl'
  by_cases hk : k = k'
  · subst hk
    have kb : (k != k) = false := by simp
    by_cases hk1 : k = 1
    · subst hk1
      by_cases hn : n = n'
      · subst hn
        have HF : Hid ((VT.mk 1 n s l).cmp (.mk 1 n s' l') = 0) := hid (by rw [HC.out]; simp)
        go_enter Tryz.func29, Tryz.ntmps29
        go_wp2_with fail
        go_ret
        rw [HF.out]; exact ⟨rfl, HO0.out⟩
      · have nb : (n != n') = true := by simpa using hn
        have HF : Hid ((VT.mk 1 n s l).cmp (.mk 1 n' s' l') = if n < n' then -1 else 1) := hid (by rw [HC.out]; simp [hn])
        clear hn
        by_cases hlt : n < n'
        · have HFF := hid (HF.out.trans (if_pos hlt))
          go_enter Tryz.func29, Tryz.ntmps29
          go_wp2_with fail
          refine sign_t.mono ?_
          rintro e w2 ⟨rfl, rfl⟩
          go_wp2_with fail
          go_ret
          rw [HFF.out]; exact ⟨rfl, HO0.out⟩
        · have HFF := hid (HF.out.trans (if_neg hlt))
          go_enter Tryz.func29, Tryz.ntmps29
          go_wp2_with fail
          refine sign_f.mono ?_
          rintro e w2 ⟨rfl, rfl⟩
          go_wp2_with fail
          go_ret
          rw [HFF.out]; exact ⟨rfl, HO0.out⟩
    have kb1 : (k == 1) = false := by simpa using hk1
    by_cases hk2 : k = 2
    · subst hk2
      have HF : Hid ((VT.mk 2 n s l).cmp (.mk 2 n' s' l') = cmpS s s') := hid (by rw [HC.out]; simp)
      go_enter Tryz.func29, Tryz.ntmps29
      go_wp2_with fail
      refine (scmp_c _ _).mono ?_
      rintro e w2 ⟨rfl, rfl⟩
      go_wp2_with fail
      go_ret
      rw [HF.out]; exact ⟨rfl, HO0.out⟩
    have kb2 : (k == 2) = false := by simpa using hk2
    by_cases hk3 : k = 3
    · subst hk3
      have HF : Hid ((VT.mk 3 n s l).cmp (.mk 3 n' s' l') = VT.cmpL l l') := hid (by rw [HC.out]; simp)
      go_enter Tryz.func29, Tryz.ntmps29
      go_wp2_with fail
      have hbx : ∀ ob1 ob2 : Obj, ob1 = .cells #[.int .i64 3, .int .i64 n, .string (strOf s), .slice a l.length cap] 24 → ob2 = .cells #[.int .i64 3, .int .i64 n', .string (strOf s'), .slice a' l'.length cap'] 24 → ((w.alloc ob1).alloc ob2).heap[w.heap.size]? = some ob1 ∧ ((w.alloc ob1).alloc ob2).heap[w.heap.size + 1]? = some ob2 := fun ob1 ob2 _ _ => ⟨blk_alloc (blk_new w ob1), by have := blk_new (w.alloc ob1) ob2; rw [World.size_alloc] at this; exact this⟩
      have HBX := hid (hbx _ _ rfl rfl)
      clear hbx
      go_loopw [46] (fun i wr => ∃ j : Nat, i = .int .i64 j ∧ j ≤ l.length ∧ j ≤ l'.length ∧ VT.cmpL l l' = VT.cmpL (l.drop j) (l'.drop j) ∧ Only (fun _ => False) w wr ∧ wr.heap[w.heap.size]? = some (.cells #[.int .i64 3, .int .i64 n, .string (strOf s), .slice a l.length cap] 24 (0, 0)) ∧ wr.heap[w.heap.size + 1]? = some (.cells #[.int .i64 3, .int .i64 n', .string (strOf s'), .slice a' l'.length cap'] 24 (0, 0))) (fun i _ => l.length - (intOf i).toNat)
      case atStart => exact ⟨0, rfl, Nat.zero_le _, Nat.zero_le _, rfl, HO0.out, HBX.out.1, HBX.out.2⟩
      case round =>
        obtain ⟨j, rfl, hj, hj', hcm, ho, hb0, hb1⟩ := hrel
        have r0 : wr.cell? ⟨w.heap.size, 3, none⟩ = some (.slice a l.length cap) := cell_blk hb0 3
        have r1 : wr.cell? ⟨w.heap.size + 1, 3, none⟩ = some (.slice a' l'.length cap') := cell_blk hb1 3
        have hw1 := blk_lt hb1
        have HB0 := hid hb0; have HB1 := hid hb1; have HO := hid ho; have HCM := hid hcm
        clear hb0 hb1 ho hcm
        by_cases hjl : j < l.length
        · have hji : (j : Int) < l.length := by omega
          obtain ⟨t, ht⟩ : ∃ t, l[j]? = some t := ⟨_, List.getElem?_eq_getElem hjl⟩
          have hdl : l.drop j = t :: l.drop (j + 1) := by rw [List.drop_eq_getElem_cons hjl]; congr 1; rw [List.getElem?_eq_getElem hjl] at ht; exact Option.some.inj ht
          obtain ⟨rfl, -⟩ := HA.out (by rintro rfl; simp at hjl)
          obtain ⟨cs, hcs, hVt⟩ := HL.out.get ht
          have htz := szL_get ht
          have htg := rgL_get HG.out ht
          have hcw : ∀ i u, cs[i]? = some u → wr.cell? ⟨g, o + j * 4 + i, none⟩ = some u := fun i u hu =>
            (World.cell?_of_block (HO.out.block g (World.block_lt_of_cell? _ _ (hcs i u hu)) (fun e => e))).trans (hcs i u hu)
          have hVw := hVt.same HO.out
          obtain ⟨kx, nx, sx, ax, mx, cx, rfl⟩ := hVt.form
          have e0 := hcw 0 _ rfl
          rw [Nat.add_zero] at e0
          have e1 := hcw 1 _ rfl
          have e2 := hcw 2 _ rfl
          have e3 := hcw 3 _ rfl
          clear hcs hVt hcw
          by_cases hjl' : j < l'.length
          · have hji' : (j : Int) < l'.length := by omega
            have hje : ((j : Int) == (l'.length : Int)) = false := by simp; omega
            obtain ⟨u, hu⟩ : ∃ t, l'[j]? = some t := ⟨_, List.getElem?_eq_getElem hjl'⟩
            have hdl' : l'.drop j = u :: l'.drop (j + 1) := by rw [List.drop_eq_getElem_cons hjl']; congr 1; rw [List.getElem?_eq_getElem hjl'] at hu; exact Option.some.inj hu
            obtain ⟨rfl, -⟩ := HA'.out (by rintro rfl; simp at hjl')
            obtain ⟨ds, hds, hVu⟩ := HL'.out.get hu
            have hug := rgL_get HG'.out hu
            have hdw : ∀ i v, ds[i]? = some v → wr.cell? ⟨g', o' + j * 4 + i, none⟩ = some v := fun i v hv =>
              (World.cell?_of_block (HO.out.block g' (World.block_lt_of_cell? _ _ (hds i v hv)) (fun e => e))).trans (hds i v hv)
            have hVw' := hVu.same HO.out
            obtain ⟨ky, ny, sy, ay, my, cy, rfl⟩ := hVu.form
            have f0 := hdw 0 _ rfl
            rw [Nat.add_zero] at f0
            have f1 := hdw 1 _ rfl
            have f2 := hdw 2 _ rfl
            have f3 := hdw 3 _ rfl
            have hgl' : g' < wr.heap.size := World.block_lt_of_cell? _ _ f0
            have HI := hid (ih t u (by omega) (wr.alloc (.cells #[.int .i64 kx, .int .i64 nx, .string (strOf sx), .slice ax mx cx] 24)).drew G H _ _ (hVw.same (only_new wr _).drew) (hVw'.same (only_new wr _).drew) htg hug)
            have HCS : Hid (VT.cmpL l l' = if t.cmp u ≠ 0 then t.cmp u else VT.cmpL (l.drop (j + 1)) (l'.drop (j + 1))) := hid (by rw [HCM.out, hdl, hdl', VT.cmpL])
            clear hds hVu hug htg hdw hVw' hVw hu ht hdl hdl'
            obtain ⟨x, hx⟩ : ∃ x, t.cmp u = x := ⟨_, rfl⟩
            rw [hx] at HI HCS
            clear hx
            go_wp2_with fail
            go_region_law (first
              | (refine step_of rfl (wp_callc (o := ⟨some 62, _, _, _, _, _⟩) (f := 29) (args := #[.agg #[.int .i64 kx, .int .i64 nx, .string (strOf sx), .slice ax mx cx], .agg #[.int .i64 ky, .int .i64 ny, .string (strOf sy), .slice ay my cy]]) (by kernel_rfl) ?_); refine HI.out.mono ?_; rintro e w2 ⟨rfl, ho2⟩; refine ⟨_, rfl, ?_⟩; have HO2 := hid ho2; clear ho2))
            all_goals
              have HO3 : Hid (Only (fun _ => False) wr w2) := hid (((only_new wr _).drew).trans HO2.out (fun _ _ e => e))
              by_cases hx0 : x = 0
              · have hxb : (x != 0) = false := by simpa using hx0
                have HFF : Hid (VT.cmpL l l' = VT.cmpL (l.drop (j + 1)) (l'.drop (j + 1))) := hid (by rw [HCS.out, if_neg (by simpa using hx0)])
                clear hx0
                go_wp2_with fail
                go_roundw
                case rel => exact ⟨j + 1, by go_num, by omega, by omega, HFF.out, HO.out.trans HO3.out (fun _ _ e => e), blk_only HB0.out HO3.out (fun e => e), blk_only HB1.out HO3.out (fun e => e)⟩
                case measure => simp [intOf]; omega
              · have hxb : (x != 0) = true := by simpa using hx0
                have HFF : Hid (VT.cmpL l l' = x) := hid (by rw [HCS.out, if_pos hx0])
                clear hx0
                go_wp2_with fail
                go_ret
                rw [HF.out, HFF.out]; exact ⟨rfl, HO.out.trans HO3.out (fun _ _ e => e)⟩
          · have hje : ((j : Int) == (l'.length : Int)) = true := by simp; omega
            have HFF : Hid (VT.cmpL l l' = 1) := hid (by rw [HCM.out, hdl, List.drop_eq_nil_of_le (by omega : l'.length ≤ j), VT.cmpL])
            clear hdl ht hVw htg
            go_wp2_with fail
            go_ret
            rw [HF.out, HFF.out]; exact ⟨rfl, HO.out.trans (only_new _ _) (fun _ _ e => e)⟩
        · have hjl2 : ¬ (j : Int) < l.length := by omega
          by_cases hll2 : l.length < l'.length
          · have hli : (l.length : Int) < l'.length := by omega
            have HFF : Hid (VT.cmpL l l' = -1) := hid (by
              rw [HCM.out, List.drop_eq_nil_of_le (by omega : l.length ≤ j)]
              obtain ⟨y, ys, e⟩ := List.exists_cons_of_ne_nil (show l'.drop j ≠ [] from fun e => by have := List.drop_eq_nil_iff.1 e; omega)
              rw [e, VT.cmpL])
            go_wp2_with fail
            go_ret
            rw [HF.out, HFF.out]; exact ⟨rfl, HO.out⟩
          · have hli : ¬ (l.length : Int) < l'.length := by omega
            have HFF : Hid (VT.cmpL l l' = 0) := hid (by
              rw [HCM.out, List.drop_eq_nil_of_le (by omega : l.length ≤ j), List.drop_eq_nil_of_le (by omega : l'.length ≤ j), VT.cmpL])
            go_wp2_with fail
            go_ret
            rw [HF.out, HFF.out]; exact ⟨rfl, HO.out⟩
    · have kb3 : (k == 3) = false := by simpa using hk3
      have HF : Hid ((VT.mk k n s l).cmp (.mk k n' s' l') = 0) := hid (by rw [HC.out]; simp [hk1, hk2, hk3])
      clear hk1 hk2 hk3
      go_enter Tryz.func29, Tryz.ntmps29
      go_wp2_with fail
      go_ret
      rw [HF.out]; exact ⟨rfl, HO0.out⟩
  · have kb : (k != k') = true := by simpa using hk
    have HF : Hid ((VT.mk k n s l).cmp (.mk k' n' s' l') = if k < k' then -1 else 1) := hid (by rw [HC.out]; simp [hk])
    clear hk
    by_cases hlt : k < k'
    · have HFF := hid (HF.out.trans (if_pos hlt))
      go_enter Tryz.func29, Tryz.ntmps29
      go_wp2_with fail
      refine sign_t.mono ?_
      rintro e w2 ⟨rfl, rfl⟩
      go_wp2_with fail
      go_ret
      rw [HFF.out]; exact ⟨rfl, HO0.out⟩
    · have HFF := hid (HF.out.trans (if_neg hlt))
      go_enter Tryz.func29, Tryz.ntmps29
      go_wp2_with fail
      refine sign_f.mono ?_
      rintro e w2 ⟨rfl, rfl⟩
      go_wp2_with fail
      go_ret
      rw [HFF.out]; exact ⟨rfl, HO0.out⟩
theorem compareC : ∀ m, CompareC m
  | 0 => fun t u h => by have := sz_pos t; omega
  | m + 1 => compare_step m (compareC m)
theorem vcompare_c {t u : VT} {G H : Nat → Prop} {cs ds : List Value} (hV : VAt w G t cs) (hU : VAt w H u ds) (hg : t.rg) (hh : u.rg) :
    Calls Tryz.prog 29 #[.agg cs.toArray, .agg ds.toArray] w fun e w' => e = .returned (.int .i64 (t.cmp u)) ∧ Only (fun _ => False) w w' :=
  compareC t.sz t u (Nat.le_refl _) w G H cs ds hV hU hg hh
set_option maxRecDepth 100000 in
theorem vsame_c {t u : VT} {G H : Nat → Prop} {cs ds : List Value} (hV : VAt w G t cs) (hU : VAt w H u ds) (hg : t.rg) (hh : u.rg) :
    Calls Tryz.prog 13 #[.agg cs.toArray, .agg ds.toArray] w fun e w' => e = .returned (.bool (t.cmp u == 0)) ∧ Only (fun _ => False) w w' := by
  obtain ⟨kx, nx, sx, ax, mx, cx, rfl⟩ := hV.form
  obtain ⟨ky, ny, sy, ay, my, cy, rfl⟩ := hU.form
  have ho := ((only_new w (.cells #[.int .i64 kx, .int .i64 nx, .string (strOf sx), .slice ax mx cx] 24)).trans (only_new _ (.cells #[.int .i64 ky, .int .i64 ny, .string (strOf sy), .slice ay my cy] 24)) (fun _ _ e => e))
  have HI := hid (vcompare_c (hV.same ho) (hU.same ho) hg hh)
  have HO := hid ho
  clear ho hV hU hg hh
  go_enter Tryz.func13, Tryz.ntmps13
  go_wp2_with fail
  refine HI.out.mono ?_
  rintro e w2 ⟨rfl, ho2⟩
  have HO2 := hid ho2
  clear ho2
  go_wp2_with fail
  go_ret
  exact ⟨rfl, HO.out.trans HO2.out (fun _ _ e => e)⟩
end
end Go.Proofs.YtokefeemhgcmhaaGreatDoor
