/- foliotref03.Print. -/
import Derived.Test.YtihidpfkdpjdpaaDoorValQ
import Derived.Test.YtihidpfkdpjdpaaDoorRf03D
import Derived.Test.YtihidpfkdpjdpaaDoorRf03Q
namespace Go.Proofs.YtihidpfkdpjdpaaDoor
open Go.RowKit

def RPrC (n : Nat) : Prop := ∀ (t : VT), t.sz ≤ n → ∀ (w : World) (G : Nat → Prop) (cs : List Value), VAt w G t cs → t.rg → t.pr.length ≤ 1000000000 →
    Calls Tryd.prog 51 #[.agg cs.toArray] w fun x w' => x = .returned (.string (strOf t.pr)) ∧ Only (fun _ => False) w w'
section
variable {w : World}
set_option maxRecDepth 100000 in
set_option maxHeartbeats 3200000 in
theorem rpr_step (m : Nat) (ih : RPrC m) : RPrC (m + 1) := by
  intro t hsz w G cs hV hg hbig
  obtain ⟨k, n, s, l⟩ := t
  rw [VAt] at hV
  obtain ⟨a, cap, g, o, rfl, ha, hLs⟩ := hV
  rw [VT.sz] at hsz
  rw [VT.rg] at hg
  obtain ⟨-, -, hn0, hn1, hs, hll, hgl⟩ := hg
  have HA := hid ha; have HL := hid hLs; have HG := hid hgl
  have HO0 := hid (only_new w (.cells #[.int .i64 k, .int .i64 n, .string (strOf s), .slice a l.length cap] 27))
  clear ha hLs hgl
  by_cases hk1 : k = 1
  · subst hk1
    have HF : Hid ((VT.mk 1 n s l).pr = Lib.itoa n) := hid (pr1 n s l)
    have HC := hid (rfnumber_c (w := w.alloc (.cells #[.int .i64 1, .int .i64 n, .string (strOf s), .slice a l.length cap] 27)) n hn0 hn1)
    go_enter Tryd.func51, Tryd.ntmps51
    go_wp2_with fail
    refine HC.out.mono ?_
    rintro x w2 ⟨rfl, ho2⟩
    have HO2 := hid ho2
    clear ho2
    go_wp2_with fail
    go_ret
    rw [HF.out]; exact ⟨rfl, HO0.out.trans HO2.out (fun _ _ e => e)⟩
  have b1 : (k == 1) = false := by simpa using hk1
  by_cases hk2 : k = 2
  · subst hk2
    have HF : Hid ((VT.mk 2 n s l).pr = quo s) := hid (pr2 n s l)
    have HC := hid (rquote_c (w := w.alloc (.cells #[.int .i64 2, .int .i64 n, .string (strOf s), .slice a l.length cap] 27)) s (by have := quo_le' s; rw [pr2] at hbig; omega))
    go_enter Tryd.func51, Tryd.ntmps51
    go_wp2_with fail
    refine HC.out.mono ?_
    rintro x w2 ⟨rfl, ho2⟩
    have HO2 := hid ho2
    clear ho2
    go_wp2_with fail
    go_ret
    rw [HF.out]; exact ⟨rfl, HO0.out.trans HO2.out (fun _ _ e => e)⟩
  have b2 : (k == 2) = false := by simpa using hk2
  by_cases hk3 : k = 3
  · subst hk3
    have HF : Hid ((VT.mk 3 n s l).pr = 91 :: (VT.prL l ++ [93])) := hid (pr3 n s l)
    have hpl : (VT.prL l).length ≤ 1000000000 := by rw [pr3] at hbig; simp at hbig; omega
    have HB0 := hid (blk_new w (.cells #[.int .i64 3, .int .i64 n, .string (strOf s), .slice a l.length cap] 27))
    clear hbig
    go_enter Tryd.func51, Tryd.ntmps51
    go_wp2_with fail
    go_loopw [4, 3] (fun i v wr => ∃ (j : Nat) (q : List UInt8), i = .int .i64 j ∧ j ≤ l.length ∧ v = .string (strOf q) ∧ VT.prL l = q ++ (if j = 0 then VT.prL l else VT.prT (l.drop j)) ∧ wr.heap[w.heap.size]? = some (.cells #[.int .i64 3, .int .i64 n, .string (strOf s), .slice a l.length cap] 27 (0, 0)) ∧ Only (fun _ => False) w wr) (fun i _ _ => l.length - (intOf i).toNat)
    case atStart => exact ⟨0, [], rfl, Nat.zero_le _, rfl, by simp, HB0.out, HO0.out⟩
    case round =>
      obtain ⟨j, q, rfl, hj, rfl, hq, hb, ho⟩ := hrel
      have hql : q.length ≤ (VT.prL l).length := by have := congrArg List.length hq; rw [List.length_append] at this; omega
      have r3 : wr.cell? ⟨w.heap.size, 3, none⟩ = some (.slice a l.length cap) := cell_blk hb 3
      have hwl := blk_lt hb
      have HB := hid hb; have HO := hid ho; have HQ := hid hq
      clear hb ho hq
      by_cases hjl : j < l.length
      · have hji : (j : Int) < l.length := by omega
        obtain ⟨t, ht⟩ : ∃ t, l[j]? = some t := ⟨_, List.getElem?_eq_getElem hjl⟩
        obtain ⟨rfl, hGg⟩ := HA.out (by rintro rfl; simp at hjl)
        obtain ⟨cs, hcs, hVt⟩ := HL.out.get ht
        have htz := szL_get ht
        have htg := rgL_get HG.out ht
        have htp := prL_get ht
        have hcw : ∀ i u, cs[i]? = some u → wr.cell? ⟨g, o + j * 4 + i, none⟩ = some u := fun i u hu =>
          (World.cell?_of_block (HO.out.block g (World.block_lt_of_cell? _ _ (hcs i u hu)) (fun e => e))).trans (hcs i u hu)
        have hVw := hVt.only HO.out (fun _ _ e => e)
        obtain ⟨kx, nx, sx, ax, mx, cx, rfl⟩ := hVt.form
        have e0 := hcw 0 _ rfl
        rw [Nat.add_zero] at e0
        have e1 := hcw 1 _ rfl
        have e2 := hcw 2 _ rfl
        have e3 := hcw 3 _ rfl
        have hdl : l.drop j = t :: l.drop (j + 1) := by
          have hj' : j < l.length := hjl
          rw [List.getElem?_eq_getElem hj'] at ht
          rw [List.drop_eq_getElem_cons hj', Option.some.inj ht]
        have HC := hid (ih t (by omega) wr G _ hVw htg (by omega))
        obtain ⟨p, hp⟩ : ∃ p, t.pr = p := ⟨_, rfl⟩
        rw [hp] at htp HC
        rcases Nat.eq_zero_or_pos j with h0 | h0
        · subst h0
          have hl0 : VT.prL l = p ++ VT.prT (l.drop 1) := by rw [List.drop_zero] at hdl; conv => lhs; rw [hdl, VT.prL, hp]
          have hq0 : q = [] := by
            have := HQ.out
            rw [if_pos rfl] at this
            have h2 := congrArg List.length this
            rw [List.length_append] at h2
            exact List.eq_nil_of_length_eq_zero (by omega)
          have HNX : Hid (VT.prL l = (q ++ p) ++ (if 0 + 1 = 0 then VT.prL l else VT.prT (l.drop (0 + 1)))) := hid (by rw [if_neg (by omega), hq0]; exact hl0)
          have cc : strOf q ++ strOf p = strOf (q ++ p) := strOf_app _ _
          have zz : ¬ 9223372036854775807 < (strOf q).size + (strOf p).size := by have h1 : (strOf q).size = q.length := rfl; have h2 : (strOf p).size = p.length := rfl; omega
          simp only [Nat.zero_mul, Nat.add_zero] at e0 e1 e2 e3
          clear hcs hVt htg hcw hVw ht hdl hp hl0 hq0
          go_wp2_with fail
          refine HC.out.mono ?_
          rintro x w2 ⟨rfl, ho2⟩
          have HO2 := hid ho2
          clear ho2 e0 e1 e2 e3
          go_wp2_with fail
          go_roundw
          case rel => exact ⟨0 + 1, _, by go_num, by omega, rfl, HNX.out, blk_only HB.out HO2.out (fun e => e), HO.out.trans HO2.out (fun _ _ e => e)⟩
          case measure => simp [intOf]; omega
        · have hj0 : (0 : Int) < j := by omega
          have HNX : Hid (VT.prL l = (q ++ [32] ++ p) ++ (if j + 1 = 0 then VT.prL l else VT.prT (l.drop (j + 1)))) := hid (by
            conv => lhs; rw [HQ.out]
            rw [if_neg (by omega), if_neg (by omega), hdl, VT.prT, hp]; simp)
          have hql2 : q.length + 1 + p.length ≤ (VT.prL l).length := by have := congrArg List.length HNX.out; simp only [List.length_append, List.length_cons, List.length_nil] at this; omega
          have cc0 : strOf q ++ (⟨#[32]⟩ : ByteArray) = strOf (q ++ [32]) := strOf_app _ [32]
          have zz0 : ¬ 9223372036854775807 < (strOf q).size + 1 := by have h1 : (strOf q).size = q.length := rfl; omega
          have cc : strOf (q ++ [32]) ++ strOf p = strOf (q ++ [32] ++ p) := strOf_app _ _
          have zz : ¬ 9223372036854775807 < (strOf (q ++ [32])).size + (strOf p).size := by (have h1 : (strOf (q ++ [32])).size = q.length + 1 := by show (q ++ [32]).length = _; simp); have h2 : (strOf p).size = p.length := rfl; omega
          clear hcs hVt htg hcw hVw ht hdl hp
          go_wp2_with fail
          refine HC.out.mono ?_
          rintro x w2 ⟨rfl, ho2⟩
          have HO2 := hid ho2
          clear ho2 e0 e1 e2 e3
          go_wp2_with fail
          go_roundw
          case rel => exact ⟨j + 1, q ++ [32] ++ p, by go_num, by omega, by simp, HNX.out, blk_only HB.out HO2.out (fun e => e), HO.out.trans HO2.out (fun _ _ e => e)⟩
          case measure => simp [intOf]; omega
      · have hje : j = l.length := by omega
        have hji : ¬ (j : Int) < l.length := by omega
        have hqe : VT.prL l = q := by
          have := HQ.out
          rcases Nat.eq_zero_or_pos j with h0 | h0
          · have hl : l = [] := List.eq_nil_of_length_eq_zero (by omega)
            subst hl
            rw [if_pos h0, VT.prL, List.append_nil] at this
            rw [VT.prL]; exact this
          · rw [if_neg (by omega), List.drop_eq_nil_of_le (by omega), VT.prT, List.append_nil] at this
            exact this
        rw [hqe] at HF
        have cc1 : (⟨#[91]⟩ : ByteArray) ++ strOf q = strOf (91 :: q) := strOf_app [91] _
        have cc2 : strOf (91 :: q) ++ (⟨#[93]⟩ : ByteArray) = strOf (91 :: q ++ [93]) := strOf_app _ [93]
        have zz1 : ¬ 9223372036854775807 < 1 + (strOf q).size := by have : (strOf q).size = q.length := rfl; omega
        have zz2 : ¬ 9223372036854775807 < (strOf (91 :: q)).size + 1 := by have : (strOf (91 :: q)).size = q.length + 1 := rfl; omega
        clear hqe hje
        go_wp2_with fail
        go_ret
        rw [HF.out]; exact ⟨rfl, HO.out⟩
  · have b3 : (k == 3) = false := by simpa using hk3
    have HF : Hid ((VT.mk k n s l).pr = [110, 105, 108]) := hid (by rw [VT.pr]; simp [hk1, hk2, hk3])
    have b3' : (k != 3) = true := by simpa using hk3
    clear hk1 hk2 hk3
    go_enter Tryd.func51, Tryd.ntmps51
    go_wp2_with fail
    go_ret
    rw [HF.out]; exact ⟨rfl, HO0.out⟩
theorem rprC : ∀ m, RPrC m
  | 0 => fun t h => by have := sz_pos t; omega
  | m + 1 => rpr_step m (rprC m)
theorem rprint_c {t : VT} {G : Nat → Prop} {cs : List Value} (hV : VAt w G t cs) (hg : t.rg) (hl : t.pr.length ≤ 1000000000) : Calls Tryd.prog 51 #[.agg cs.toArray] w fun x w' => x = .returned (.string (strOf t.pr)) ∧ Only (fun _ => False) w w' :=
  rprC t.sz t (Nat.le_refl _) w G cs hV hg hl
end
end Go.Proofs.YtihidpfkdpjdpaaDoor
