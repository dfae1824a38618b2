/- foliotref03.Compare, foliotref09.Same. event.Same. foliotref09.Same. -/
import Derived.Test.YtnoopajedgllhaaCmp
import Derived.Test.YtnoopajedgllhaaEvA
namespace Go.Proofs.Ytnoopajedgllhaa
open Go.RowKit

theorem bless : ∀ a b : List UInt8, Op.bytesLess a b = decide (cmpS a b = -1)
  | [], [] => by simp [cmpS, Op.bytesLess]
  | [], y :: ys => by simp [cmpS, Op.bytesLess]
  | x :: xs, [] => by simp [cmpS, Op.bytesLess]
  | x :: xs, y :: ys => by
    rw [Op.bytesLess, cmpS, bless xs ys]
    by_cases e : x = y
    · subst e; rw [if_pos rfl]; simp [UInt8.lt_irrefl]
    · rw [if_neg e]
      by_cases g : x < y
      · rw [if_pos g]; simp [g]
      · rw [if_neg g]; simp [g, e]
theorem kdL_get : ∀ {l : List VT} {i : Nat} {t : VT}, VT.kdL l → l[i]? = some t → t.kd
  | [], _, _, _, h => by simp at h
  | x :: xs, 0, t, h, hi => by rw [VT.kdL] at h; simp only [List.getElem?_cons_zero, Option.some.injEq] at hi; subst hi; exact h.1
  | x :: xs, i + 1, t, h, hi => by rw [VT.kdL] at h; simp only [List.getElem?_cons_succ] at hi; exact kdL_get h.2 hi
def RCmpC (n : Nat) : Prop := ∀ (t u : VT), t.sz ≤ n → ∀ (w : World) (G H : Nat → Prop) (cs ds : List Value), VAt w G t cs → VAt w H u ds → t.rg → u.rg → t.kd → u.kd →
    Calls Try.prog 66 #[.agg cs.toArray, .agg ds.toArray] w fun e w' => e = .returned (.int .i64 (t.rc u)) ∧ Only (fun _ => False) w w'
section
variable {w : World}
set_option maxRecDepth 100000 in
set_option maxHeartbeats 3200000 in
theorem rcmp_step (m : Nat) (ih : RCmpC m) : RCmpC (m + 1) := by
  intro t u hsz w G H cs ds hV hU hg hh hkd hkd'
  obtain ⟨k, n, s, l⟩ := t
  obtain ⟨k', n', s', l'⟩ := u
  rw [VAt] at hV hU
  obtain ⟨a, cap, g, o, rfl, ha, hLs⟩ := hV
  obtain ⟨a', cap', g', o', rfl, ha', hLs'⟩ := hU
  rw [VT.rg] at hg hh
  obtain ⟨-, -, -, -, -, hll, hgl⟩ := hg
  obtain ⟨-, -, -, -, -, hll', hgl'⟩ := hh
  rw [VT.sz] at hsz
  rw [VT.kd] at hkd hkd'
  have hrc : (VT.mk k n s l).rc (.mk k' n' s' l') = if k ≠ k' then k - k' else if k = 1 then (if n < n' then -1 else if n' < n then 1 else 0) else if k = 2 then cmpS s s' else if k = 3 then VT.rcL l l' else 0 := by rw [VT.rc]; rfl
  have HC := hid hrc
  have HA := hid ha; have HA' := hid ha'; have HL := hid hLs; have HL' := hid hLs'; have HG := hid hgl; have HG' := hid hgl'; have HK := hid hkd.2.2; have HK' := hid hkd'.2.2
  have hk0 := hkd.1; have hk3 := hkd.2.1; have hk0' := hkd'.1; have hk3' := hkd'.2.1
  have HO0 := hid ((only_new w (.cells #[.int .i64 k, .int .i64 n, .string (strOf s), .slice a l.length cap] 42)).trans (only_new _ (.cells #[.int .i64 k', .int .i64 n', .string (strOf s'), .slice a' l'.length cap'] 42)) (fun _ _ e => e))
  have hbx : ∀ ob1 ob2 : Obj, ob1 = .cells #[.int .i64 k, .int .i64 n, .string (strOf s), .slice a l.length cap] 42 → ob2 = .cells #[.int .i64 k', .int .i64 n', .string (strOf s'), .slice a' l'.length cap'] 42 → ((w.alloc ob1).alloc ob2).heap[w.heap.size]? = some ob1 ∧ ((w.alloc ob1).alloc ob2).heap[w.heap.size + 1]? = some ob2 := fun ob1 ob2 _ _ => ⟨blk_alloc (blk_new w ob1), by have := blk_new (w.alloc ob1) ob2; rw [World.size_alloc] at this; exact this⟩
  have HBX := hid (hbx _ _ rfl rfl)
  clear ha ha' hLs hLs' hgl hgl' hkd hkd' hrc hbx
  by_cases hk : k = k'
  · subst hk
    have kb : (k != k) = false := by simp
    by_cases hk1 : k = 1
    · subst hk1
      by_cases hn : n < n'
      · have HF : Hid ((VT.mk 1 n s l).rc (.mk 1 n' s' l') = -1) := hid (by rw [HC.out]; simp [hn])
        go_enter Try.func66, Try.ntmps66
        go_wp2_with fail
        go_ret
        rw [HF.out]; exact ⟨rfl, HO0.out⟩
      by_cases hn2 : n' < n
      · have HF : Hid ((VT.mk 1 n s l).rc (.mk 1 n' s' l') = 1) := hid (by rw [HC.out]; simp [hn, hn2])
        go_enter Try.func66, Try.ntmps66
        go_wp2_with fail
        go_ret
        rw [HF.out]; exact ⟨rfl, HO0.out⟩
      have HF : Hid ((VT.mk 1 n s l).rc (.mk 1 n' s' l') = 0) := hid (by rw [HC.out]; simp [hn, hn2])
      go_enter Try.func66, Try.ntmps66
      go_wp2_with fail
      go_ret
      rw [HF.out]; exact ⟨rfl, HO0.out⟩
    have kb1 : (k == 1) = false := by simpa using hk1
    by_cases hk2 : k = 2
    · subst hk2
      have HF : Hid ((VT.mk 2 n s l).rc (.mk 2 n' s' l') = cmpS s s') := hid (by rw [HC.out]; simp)
      rcases cmpS_rng s s' with h | h | h
      · have HFF := hid (HF.out.trans h)
        have hb : Op.bytesLess (strOf s).toList (strOf s').toList = true := by rw [strOf_list, strOf_list, bless, h]; rfl
        clear h
        go_enter Try.func66, Try.ntmps66
        go_wp2_with fail
        go_ret
        rw [HFF.out]; exact ⟨rfl, HO0.out⟩
      · have HFF := hid (HF.out.trans h)
        have hb : Op.bytesLess (strOf s).toList (strOf s').toList = false := by rw [strOf_list, strOf_list, bless, h]; rfl
        have hq : ((strOf s).toList == (strOf s').toList) = true := by rw [strOf_list, strOf_list]; simpa using cmpS_eq s s' h
        clear h
        go_enter Try.func66, Try.ntmps66
        go_wp2_with fail
        go_ret
        rw [HFF.out]; exact ⟨rfl, HO0.out⟩
      · have HFF := hid (HF.out.trans h)
        have hb : Op.bytesLess (strOf s).toList (strOf s').toList = false := by rw [strOf_list, strOf_list, bless, h]; rfl
        have hq : ((strOf s).toList == (strOf s').toList) = false := by rw [strOf_list, strOf_list]; simpa using (fun e : s = s' => by subst e; rw [cmpS_self] at h; omega)
        clear h
        go_enter Try.func66, Try.ntmps66
        go_wp2_with fail
        go_ret
        rw [HFF.out]; exact ⟨rfl, HO0.out⟩
    have kb2 : (k == 2) = false := by simpa using hk2
    by_cases hk3e : k = 3
    · subst hk3e
      have HF : Hid ((VT.mk 3 n s l).rc (.mk 3 n' s' l') = VT.rcL l l') := hid (by rw [HC.out]; simp)
      clear hk1 hk2
      go_enter Try.func66, Try.ntmps66
      go_wp2_with fail
      go_loopw [5] (fun i wr => ∃ j : Nat, i = .int .i64 j ∧ j ≤ l.length ∧ j ≤ l'.length ∧ VT.rcL l l' = VT.rcL (l.drop j) (l'.drop j) ∧ Only (fun _ => False) w wr ∧ wr.heap[w.heap.size]? = some (.cells #[.int .i64 3, .int .i64 n, .string (strOf s), .slice a l.length cap] 42 (0, 0)) ∧ wr.heap[w.heap.size + 1]? = some (.cells #[.int .i64 3, .int .i64 n', .string (strOf s'), .slice a' l'.length cap'] 42 (0, 0))) (fun i _ => l.length - (intOf i).toNat)
      case atStart => exact ⟨0, rfl, Nat.zero_le _, Nat.zero_le _, rfl, HO0.out, HBX.out.1, HBX.out.2⟩
      case round =>
        obtain ⟨j, rfl, hj, hj', hcm, ho, hb0, hb1⟩ := hrel
        have r0 : wr.cell? ⟨w.heap.size, 3, none⟩ = some (.slice a l.length cap) := cell_blk hb0 3
        have r1 : wr.cell? ⟨w.heap.size + 1, 3, none⟩ = some (.slice a' l'.length cap') := cell_blk hb1 3
        have hw1 := blk_lt hb1
        have HB0 := hid hb0; have HB1 := hid hb1; have HO := hid ho; have HCM := hid hcm
        clear hb0 hb1 ho hcm
        by_cases hjl : j < l.length
        · have hji : (j : Int) < l.length := by omega
          by_cases hjl' : j < l'.length
          · have hji' : (j : Int) < l'.length := by omega
            obtain ⟨t, ht⟩ : ∃ t, l[j]? = some t := ⟨_, List.getElem?_eq_getElem hjl⟩
            have hdl : l.drop j = t :: l.drop (j + 1) := by rw [List.drop_eq_getElem_cons hjl]; congr 1; rw [List.getElem?_eq_getElem hjl] at ht; exact Option.some.inj ht
            obtain ⟨rfl, -⟩ := HA.out (by rintro rfl; simp at hjl)
            obtain ⟨cs, hcs, hVt⟩ := HL.out.get ht
            have htz := szL_get ht
            have htg := rgL_get HG.out ht
            have htk := kdL_get (HK.out (by trivial)) ht
            have hcw : ∀ i u, cs[i]? = some u → wr.cell? ⟨g, o + j * 4 + i, none⟩ = some u := fun i u hu =>
              (World.cell?_of_block (HO.out.block g (World.block_lt_of_cell? _ _ (hcs i u hu)) (fun e => e))).trans (hcs i u hu)
            have hVw := hVt.same HO.out
            obtain ⟨kx, nx, sx, ax, mx, cx, rfl⟩ := hVt.form
            have e0 := hcw 0 _ rfl
            rw [Nat.add_zero] at e0
            have e1 := hcw 1 _ rfl
            have e2 := hcw 2 _ rfl
            have e3 := hcw 3 _ rfl
            obtain ⟨u, hu⟩ : ∃ t, l'[j]? = some t := ⟨_, List.getElem?_eq_getElem hjl'⟩
            have hdl' : l'.drop j = u :: l'.drop (j + 1) := by rw [List.drop_eq_getElem_cons hjl']; congr 1; rw [List.getElem?_eq_getElem hjl'] at hu; exact Option.some.inj hu
            obtain ⟨rfl, -⟩ := HA'.out (by rintro rfl; simp at hjl')
            obtain ⟨ds, hds, hVu⟩ := HL'.out.get hu
            have hug := rgL_get HG'.out hu
            have huk := kdL_get (HK'.out (by trivial)) hu
            have hdw : ∀ i v, ds[i]? = some v → wr.cell? ⟨g', o' + j * 4 + i, none⟩ = some v := fun i v hv =>
              (World.cell?_of_block (HO.out.block g' (World.block_lt_of_cell? _ _ (hds i v hv)) (fun e => e))).trans (hds i v hv)
            have hVw' := hVu.same HO.out
            obtain ⟨ky, ny, sy, ay, my, cy, rfl⟩ := hVu.form
            have f0 := hdw 0 _ rfl
            rw [Nat.add_zero] at f0
            have f1 := hdw 1 _ rfl
            have f2 := hdw 2 _ rfl
            have f3 := hdw 3 _ rfl
            have HI := hid (ih t u (by omega) wr.drew G H _ _ (hVw.same (Only.refl (fun _ => False) wr).drew) (hVw'.same (Only.refl (fun _ => False) wr).drew) htg hug htk huk)
            have HCS : Hid (VT.rcL l l' = if t.rc u ≠ 0 then t.rc u else VT.rcL (l.drop (j + 1)) (l'.drop (j + 1))) := hid (by rw [HCM.out, hdl, hdl', VT.rcL])
            clear hcs hVt htg hcw hVw hds hVu hug hdw hVw' hu ht hdl hdl' htk huk
            obtain ⟨x, hx⟩ : ∃ x, t.rc u = x := ⟨_, rfl⟩
            rw [hx] at HI HCS
            clear hx
            go_wp2_with fail
            go_region_law (first
              | (refine step_of rfl (wp_callc (o := ⟨some 70, _, _, _, _, _⟩) (f := 66) (args := #[.agg #[.int .i64 kx, .int .i64 nx, .string (strOf sx), .slice ax mx cx], .agg #[.int .i64 ky, .int .i64 ny, .string (strOf sy), .slice ay my cy]]) (by kernel_rfl) ?_); refine HI.out.mono ?_; rintro e w2 ⟨rfl, ho2⟩; refine ⟨_, rfl, ?_⟩; have HO2 := hid ho2; clear ho2))
            all_goals
              have HO3 : Hid (Only (fun _ => False) wr w2) := hid (((Only.refl (fun _ => False) wr).drew).trans HO2.out (fun _ _ e => e))
              by_cases hx0 : x = 0
              · have hxb : (x != 0) = false := by simpa using hx0
                have HFF : Hid (VT.rcL l l' = VT.rcL (l.drop (j + 1)) (l'.drop (j + 1))) := hid (by rw [HCS.out, if_neg (by simpa using hx0)])
                clear hx0
                go_wp2_with fail
                go_roundw
                case rel => exact ⟨j + 1, by go_num, by omega, by omega, HFF.out, HO.out.trans HO3.out (fun _ _ e => e), blk_only HB0.out HO3.out (fun e => e), blk_only HB1.out HO3.out (fun e => e)⟩
                case measure => simp [intOf]; omega
              · have hxb : (x != 0) = true := by simpa using hx0
                have HFF : Hid (VT.rcL l l' = x) := hid (by rw [HCS.out, if_pos hx0])
                clear hx0
                go_wp2_with fail
                go_ret
                rw [HF.out, HFF.out]; exact ⟨rfl, HO.out.trans HO3.out (fun _ _ e => e)⟩
          · have hji' : ¬ (j : Int) < l'.length := by omega
            have hje : j = l'.length := by omega
            have HFF : Hid (VT.rcL l l' = (l.length : Int) - l'.length) := hid (by
              rw [HCM.out, List.drop_eq_nil_of_le (by omega : l'.length ≤ j)]
              obtain ⟨y, ys, e⟩ := List.exists_cons_of_ne_nil (show l.drop j ≠ [] from fun e => by have := List.drop_eq_nil_iff.1 e; omega)
              have hlen : (l.drop j).length = l.length - j := List.length_drop
              rw [e] at hlen ⊢
              rw [VT.rcL]
              · omega
              · simp)
            clear hje
            go_wp2_with fail
            go_ret
            rw [HF.out, HFF.out]; exact ⟨rfl, HO.out⟩
        · have hjl2 : ¬ (j : Int) < l.length := by omega
          have hje : j = l.length := by omega
          have HFF : Hid (VT.rcL l l' = (l.length : Int) - l'.length) := hid (by
            rw [HCM.out, List.drop_eq_nil_of_le (by omega : l.length ≤ j), VT.rcL]
            have hlen : (l'.drop j).length = l'.length - j := List.length_drop
            rw [hlen]; omega)
          clear hje
          go_wp2_with fail
          go_ret
          rw [HF.out, HFF.out]; exact ⟨rfl, HO.out⟩
    · have hk0' : k = 0 := by omega
      subst hk0'
      have HF : Hid ((VT.mk 0 n s l).rc (.mk 0 n' s' l') = 0) := hid (by rw [HC.out]; simp)
      go_enter Try.func66, Try.ntmps66
      go_wp2_with fail
      go_ret
      rw [HF.out]; exact ⟨rfl, HO0.out⟩
  · have kb : (k != k') = true := by simpa using hk
    have HF : Hid ((VT.mk k n s l).rc (.mk k' n' s' l') = k - k') := hid (by rw [HC.out, if_pos hk])
    clear hk
    go_enter Try.func66, Try.ntmps66
    go_wp2_with fail
    go_ret
    rw [HF.out]; exact ⟨rfl, HO0.out⟩
theorem rcmpC : ∀ m, RCmpC m
  | 0 => fun t u h => by have := sz_pos t; omega
  | m + 1 => rcmp_step m (rcmpC m)
end
end Go.Proofs.Ytnoopajedgllhaa
namespace Go.Proofs.Ytnoopajedgllhaa
open Go.RowKit
section
variable {w : World}
end
end Go.Proofs.Ytnoopajedgllhaa
namespace Go.Proofs.Ytnoopajedgllhaa
open Go.RowKit
section
variable {w : World}
set_option maxRecDepth 100000 in
set_option maxHeartbeats 3200000 in
theorem r9same_c {e f : EM} {G H : Nat → Prop} {cs ds : List Value} (hV : EAt w G e cs) (hU : EAt w H f ds) (hg : e.v.rg) (hh : f.v.rg) (hk : e.v.kd) (hk' : f.v.kd) :
    Calls Try.prog 37 #[.agg cs.toArray, .agg ds.toArray] w fun x w' => x = .returned (.bool (e.same f)) ∧ Only (fun _ => False) w w' := by
  obtain ⟨k, n, s, a, m, c, rfl, hv⟩ := hV.form
  obtain ⟨k', n', s', a', m', c', rfl, hu⟩ := hU.form
  obtain ⟨id, tm, kd, ea, eb, nm, tx, v⟩ := e
  obtain ⟨id', tm', kd', ea', eb', nm', tx', v'⟩ := f
  have ho := ((only_new w (.cells #[.int .i64 id, .int .i64 tm, .int .i64 kd, .int .i64 ea, .int .i64 eb, .string (strOf nm), .string (strOf tx), .int .i64 k, .int .i64 n, .string (strOf s), .slice a m c] 44)).trans (only_new _ (.cells #[.int .i64 id', .int .i64 tm', .int .i64 kd', .int .i64 ea', .int .i64 eb', .string (strOf nm'), .string (strOf tx'), .int .i64 k', .int .i64 n', .string (strOf s'), .slice a' m' c'] 44)) (fun _ _ e => e))
  have HI := hid (rcmpC _ v v' (Nat.le_refl _) _ _ _ _ _ (hv.same ho) (hu.same ho) hg hh hk hk')
  have HO := hid ho
  have HS : Hid ((⟨id, tm, kd, ea, eb, nm, tx, v⟩ : EM).same ⟨id', tm', kd', ea', eb', nm', tx', v'⟩ = (id == id' && tm == tm' && kd == kd' && ea == ea' && eb == eb' && nm == nm' && tx == tx' && v.cmp v' == 0)) := hid rfl
  have hzz : (v.cmp v' == 0) = (v.rc v' == 0) := by rw [Bool.eq_iff_iff]; simpa using (rc_zero v v').symm
  rw [hzz] at HS
  obtain ⟨y, hy⟩ : ∃ y, v.rc v' = y := ⟨_, rfl⟩
  rw [hy] at HI HS
  obtain ⟨z, hz⟩ : ∃ z, (y == 0) = z := ⟨_, rfl⟩
  rw [hz] at HS
  clear ho hV hU hg hh hv hu hzz hy hk' hk
  by_cases qid : id = id'
  · have bid : (id == id') = true := by simpa using qid
    have Sid := hid bid
    clear qid
    by_cases qtm : tm = tm'
    · have btm : (tm == tm') = true := by simpa using qtm
      have Stm := hid btm
      clear qtm
      by_cases qkd : kd = kd'
      · have bkd : (kd == kd') = true := by simpa using qkd
        have Skd := hid bkd
        clear qkd
        by_cases qea : ea = ea'
        · have bea : (ea == ea') = true := by simpa using qea
          have Sea := hid bea
          clear qea
          by_cases qeb : eb = eb'
          · have beb : (eb == eb') = true := by simpa using qeb
            have Seb := hid beb
            clear qeb
            by_cases qnm : nm = nm'
            · have bnm : ((strOf nm).toList == (strOf nm').toList) = true := by rw [strOf_list, strOf_list]; simpa using qnm
              have Snm := hid (show (nm == nm') = true by simpa using qnm)
              clear qnm
              by_cases qtx : tx = tx'
              · have btx : ((strOf tx).toList == (strOf tx').toList) = true := by rw [strOf_list, strOf_list]; simpa using qtx
                have Stx := hid (show (tx == tx') = true by simpa using qtx)
                clear qtx
                have HF := hid (show ((⟨id, tm, kd, ea, eb, nm, tx, v⟩ : EM).same ⟨id', tm', kd', ea', eb', nm', tx', v'⟩) = z by rw [HS.out, Sid.out, Stm.out, Skd.out, Sea.out, Seb.out, Snm.out, Stx.out]; simp)
                go_enter Try.func37, Try.ntmps37
                go_wp2_with fail
                refine HI.out.mono ?_
                rintro x w2 ⟨rfl, ho2⟩
                have HO2 := hid ho2
                clear ho2
                go_wp2_with fail
                go_ret
                rw [HF.out]; exact ⟨rfl, HO.out.trans HO2.out (fun _ _ e => e)⟩
              · have btx : ((strOf tx).toList == (strOf tx').toList) = false := by rw [strOf_list, strOf_list]; simpa using qtx
                have HF := hid (show ((⟨id, tm, kd, ea, eb, nm, tx, v⟩ : EM).same ⟨id', tm', kd', ea', eb', nm', tx', v'⟩) = false by rw [HS.out, show (tx == tx') = false by simpa using qtx]; simp)
                clear qtx
                go_enter Try.func37, Try.ntmps37
                go_wp2_with fail
                go_ret
                rw [HF.out]; exact ⟨rfl, HO.out⟩
            · have bnm : ((strOf nm).toList == (strOf nm').toList) = false := by rw [strOf_list, strOf_list]; simpa using qnm
              have HF := hid (show ((⟨id, tm, kd, ea, eb, nm, tx, v⟩ : EM).same ⟨id', tm', kd', ea', eb', nm', tx', v'⟩) = false by rw [HS.out, show (nm == nm') = false by simpa using qnm]; simp)
              clear qnm
              go_enter Try.func37, Try.ntmps37
              go_wp2_with fail
              go_ret
              rw [HF.out]; exact ⟨rfl, HO.out⟩
          · have beb : (eb == eb') = false := by simpa using qeb
            have HF := hid (show ((⟨id, tm, kd, ea, eb, nm, tx, v⟩ : EM).same ⟨id', tm', kd', ea', eb', nm', tx', v'⟩) = false by rw [HS.out, show (eb == eb') = false by simpa using qeb]; simp)
            clear qeb
            go_enter Try.func37, Try.ntmps37
            go_wp2_with fail
            go_ret
            rw [HF.out]; exact ⟨rfl, HO.out⟩
        · have bea : (ea == ea') = false := by simpa using qea
          have HF := hid (show ((⟨id, tm, kd, ea, eb, nm, tx, v⟩ : EM).same ⟨id', tm', kd', ea', eb', nm', tx', v'⟩) = false by rw [HS.out, show (ea == ea') = false by simpa using qea]; simp)
          clear qea
          go_enter Try.func37, Try.ntmps37
          go_wp2_with fail
          go_ret
          rw [HF.out]; exact ⟨rfl, HO.out⟩
      · have bkd : (kd == kd') = false := by simpa using qkd
        have HF := hid (show ((⟨id, tm, kd, ea, eb, nm, tx, v⟩ : EM).same ⟨id', tm', kd', ea', eb', nm', tx', v'⟩) = false by rw [HS.out, show (kd == kd') = false by simpa using qkd]; simp)
        clear qkd
        go_enter Try.func37, Try.ntmps37
        go_wp2_with fail
        go_ret
        rw [HF.out]; exact ⟨rfl, HO.out⟩
    · have btm : (tm == tm') = false := by simpa using qtm
      have HF := hid (show ((⟨id, tm, kd, ea, eb, nm, tx, v⟩ : EM).same ⟨id', tm', kd', ea', eb', nm', tx', v'⟩) = false by rw [HS.out, show (tm == tm') = false by simpa using qtm]; simp)
      clear qtm
      go_enter Try.func37, Try.ntmps37
      go_wp2_with fail
      go_ret
      rw [HF.out]; exact ⟨rfl, HO.out⟩
  · have bid : (id == id') = false := by simpa using qid
    have HF := hid (show ((⟨id, tm, kd, ea, eb, nm, tx, v⟩ : EM).same ⟨id', tm', kd', ea', eb', nm', tx', v'⟩) = false by rw [HS.out, show (id == id') = false by simpa using qid]; simp)
    clear qid
    go_enter Try.func37, Try.ntmps37
    go_wp2_with fail
    go_ret
    rw [HF.out]; exact ⟨rfl, HO.out⟩
end
end Go.Proofs.Ytnoopajedgllhaa
