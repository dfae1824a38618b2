/- value.Print. -/
import Derived.Test.YtokefeemhgcmhaaGreatDoorValP
import Derived.Test.YtokefeemhgcmhaaGreatDoorShelfJ
namespace Go.Proofs.YtokefeemhgcmhaaGreatDoor
open Go.RowKit

theorem prT_join : ∀ l : List VT, Lib.joinTail [32] (l.map VT.pr) = VT.prT l
  | [] => by rw [VT.prT]; rfl
  | t :: ts => by
    rw [VT.prT, ← prT_join ts]
    simp [Lib.joinTail]
theorem prL_join (l : List VT) : Lib.join (l.map VT.pr) [32] = VT.prL l := by
  cases l with
  | nil => rw [VT.prL]; rfl
  | cons t ts => rw [List.map_cons, Lib.join_cons, prT_join, VT.prL]
theorem prT_get : ∀ {l : List VT} {j : Nat} {t : VT}, l[j]? = some t → t.pr.length ≤ (VT.prT l).length
  | [], _, _, h => by simp at h
  | x :: xs, 0, t, h => by simp only [List.getElem?_cons_zero, Option.some.injEq] at h; subst h; rw [VT.prT]; simp; omega
  | x :: xs, j + 1, t, h => by simp only [List.getElem?_cons_succ] at h; have := prT_get h; rw [VT.prT]; simp; omega
theorem prL_get {l : List VT} {j : Nat} {t : VT} (h : l[j]? = some t) : t.pr.length ≤ (VT.prL l).length := by
  cases l with
  | nil => simp at h
  | cons x xs =>
    cases j with
    | zero => simp only [List.getElem?_cons_zero, Option.some.injEq] at h; subst h; rw [VT.prL]; simp
    | succ j => simp only [List.getElem?_cons_succ] at h; have := prT_get h; rw [VT.prL]; simp; omega
theorem quo_le' (s : List UInt8) : s.length ≤ (quo s).length := by
  have h : ∀ s : List UInt8, s.length ≤ (s.flatMap qB).length := by
    intro s
    induction s with
    | nil => simp
    | cons c s ih =>
      rw [List.flatMap_cons, List.length_append, List.length_cons]
      have : 1 ≤ (qB c).length := by unfold qB; split; simp; split; simp; simp
      omega
  have := h s
  unfold quo; rw [List.length_cons, List.length_append]; omega
theorem prQT_len : ∀ l : List VT, l.length ≤ (VT.prT l).length
  | [] => by simp
  | t :: ts => by rw [VT.prT]; have := prQT_len ts; simp; omega
theorem prQL_len (l : List VT) : l.length ≤ (VT.prL l).length + 1 := by
  cases l with
  | nil => simp
  | cons t ts => rw [VT.prL]; have := prQT_len ts; simp; omega
theorem Below.only' {w w' : World} (h : Below w.heap.size w w') : Only (fun _ => False) w w' := ⟨h.os, h.tape, h.output, h.size, fun k hk _ => h.block k hk⟩
theorem elS : Elem Tryz.prog 66 9 1 16 := .mk Tryz.underlying66 (z := .string ⟨#[]⟩) (by kernel_rfl) rfl
def PrC (n : Nat) : Prop := ∀ (t : VT), t.sz ≤ n → ∀ (w : World) (G : Nat → Prop) (cs : List Value), VAt w G t cs → (∀ k, G k → k < w.heap.size) → t.rg → Tab w → t.pr.length ≤ 1000000000 →
    Calls Tryz.prog 12 #[.agg cs.toArray] w fun x w' => x = .returned (.string (strOf t.pr)) ∧ Only (fun _ => False) w w'
section
variable {w : World}
set_option maxRecDepth 100000 in
set_option maxHeartbeats 3200000 in
theorem pr_step (m : Nat) (ih : PrC m) : PrC (m + 1) := by
  intro t hsz w G cs hV hGl hg hT hbig
  obtain ⟨k, n, s, l⟩ := t
  rw [VAt] at hV
  obtain ⟨a, cap, g, o, rfl, ha, hLs⟩ := hV
  rw [VT.sz] at hsz
  rw [VT.rg] at hg
  obtain ⟨-, -, hn0, hn1, hs, hll, hgl⟩ := hg
  have HA := hid ha; have HL := hid hLs; have HGl := hid hGl; have HG := hid hgl; have HT := hid hT
  have ho0 := only_new w (.cells #[.int .i64 k, .int .i64 n, .string (strOf s), .slice a l.length cap] 24)
  have HO0 := hid ho0
  have HT0 := hid (hT.only ho0)
  clear ha hLs hGl hgl hT ho0
  by_cases hk1 : k = 1
  · subst hk1
    have HF : Hid ((VT.mk 1 n s l).pr = Lib.itoa n) := hid (pr1 n s l)
    have HC := hid (fmt_c n hn0 hn1 HT0.out)
    go_enter Tryz.func12, Tryz.ntmps12
    go_wp2_with fail
    refine HC.out.mono ?_
    rintro x w2 ⟨rfl, ho2⟩
    have HO2 := hid ho2
    clear ho2
    go_wp2_with fail
    go_ret
    rw [HF.out]; exact ⟨rfl, HO0.out.trans HO2.out (fun _ _ e => e)⟩
  have b1 : (k == 1) = false := by simpa using hk1
  by_cases hk2 : k = 2
  · subst hk2
    have HF : Hid ((VT.mk 2 n s l).pr = quo s) := hid (pr2 n s l)
    have HC := hid (quote_c (w := w.alloc (.cells #[.int .i64 2, .int .i64 n, .string (strOf s), .slice a l.length cap] 24)) s (by have := quo_le' s; rw [pr2] at hbig; omega))
    go_enter Tryz.func12, Tryz.ntmps12
    go_wp2_with fail
    refine HC.out.mono ?_
    rintro x w2 ⟨rfl, ho2⟩
    have HO2 := hid ho2
    clear ho2
    go_wp2_with fail
    go_ret
    rw [HF.out]; exact ⟨rfl, HO0.out.trans HO2.out (fun _ _ e => e)⟩
  have b2 : (k == 2) = false := by simpa using hk2
  by_cases hk3 : k = 3
  · subst hk3
    have HF : Hid ((VT.mk 3 n s l).pr = 91 :: (VT.prL l ++ [93])) := hid (pr3 n s l)
    have hpl : (VT.prL l).length ≤ 1000000000 := by rw [pr3] at hbig; simp at hbig; omega
    have hlz := szL_len l
    have hlb := prQL_len l
    clear hbig
    go_enter Tryz.func12, Tryz.ntmps12
    go_wp2_with fail
    go_loopw [23, 3] (fun i v wr => ∃ (j cp : Nat) (ao : Option Addr), i = .int .i64 j ∧ j ≤ l.length ∧ v = .slice ao j cp ∧ Gr wr 9 1 ao j cp ((l.take j).map fun t => .string (strOf t.pr)) ∧ (∀ q, ao = some ⟨q, 0, none⟩ → w.heap.size ≤ q) ∧ Only (fun _ => False) w wr) (fun i _ _ => l.length - (intOf i).toNat)
    case atStart => exact ⟨0, 0, none, rfl, Nat.zero_le _, rfl, Gr.nil, by simp, HO0.out⟩
    case round =>
      obtain ⟨j, cp, ao, rfl, hj, rfl, hgr, hao, ho⟩ := hrel
      have HGR := hid hgr; have HAO := hid hao; have HO := hid ho
      clear hgr hao ho
      by_cases hjl : j < l.length
      · have hji : (j : Int) < l.length := by omega
        obtain ⟨t, ht⟩ : ∃ t, l[j]? = some t := ⟨_, List.getElem?_eq_getElem hjl⟩
        obtain ⟨rfl, hGg⟩ := HA.out (by rintro rfl; simp at hjl)
        obtain ⟨cs, hcs, hVt⟩ := HL.out.get ht
        have htz := szL_get ht
        have htg := rgL_get HG.out ht
        have htp := prL_get ht
        have hcw : ∀ i u, cs[i]? = some u → wr.cell? ⟨g, o + j * 4 + i, none⟩ = some u := fun i u hu =>
          (World.cell?_of_block (HO.out.block g (World.block_lt_of_cell? _ _ (hcs i u hu)) (fun e => e))).trans (hcs i u hu)
        have hVw := hVt.only HO.out (fun _ _ e => e)
        obtain ⟨kx, nx, sx, ax, mx, cx, rfl⟩ := hVt.form
        have e0 := hcw 0 _ rfl
        rw [Nat.add_zero] at e0
        have e1 := hcw 1 _ rfl
        have e2 := hcw 2 _ rfl
        have e3 := hcw 3 _ rfl
        have hnx : (l.take (j + 1)).map (fun t => Value.string (strOf t.pr)) = (l.take j).map (fun t => Value.string (strOf t.pr)) ++ [.string (strOf t.pr)] := by rw [List.take_add_one, ht]; simp
        have hal := only_new wr (.cells #[.int .i64 kx, .int .i64 nx, .string (strOf sx), .slice ax mx cx] 24)
        have HC := hid (ih t (by omega) (wr.alloc (.cells #[.int .i64 kx, .int .i64 nx, .string (strOf sx), .slice ax mx cx] 24)) G _ (hVw.same hal) (fun i hi => by have := HGl.out i hi; have := HO.out.size; simp; omega) htg (HT.out.only (HO.out.trans hal (fun _ _ e => e))) (by omega))
        have HNX := hid hnx
        have HAL := hid hal
        clear hcs hVt htg hcw hVw ht hnx hal
        go_wp2_with fail
        refine HC.out.mono ?_
        rintro x w2 ⟨rfl, ho2⟩
        have HO2 := hid (HAL.out.trans ho2 (fun _ _ e => e))
        obtain ⟨p, hp⟩ : ∃ p, t.pr = p := ⟨_, rfl⟩
        rw [hp] at HNX ⊢
        clear ho2 e0 e1 e2 e3 hp
        go_wp2_with ((guard_target =~ wpList _ _ _ (⟨some 31, _, _, _, _, _⟩ :: _) _ _); refine wpList_gr (o := ⟨some 31, _, _, _, _, _⟩) rfl elS (.tmp 27) (.tmp 30) rfl (HGR.out.only (HO2.out.trans (only_new w2 _) (fun _ _ e => e)) (fun _ _ e => e)) rfl (some ⟨w2.heap.size, 0, none⟩) 1 1 rfl [.string (strOf p)] (SrcG.new (blk_new w2 _) rfl (by simp [Value.oneCell'])) (by omega) (by omega) ?_; intro ao' cp' w5 hg5 ha5 ho5; have HG5 := hid hg5; have HA5 := hid ha5; have HO5 := hid ho5; clear hg5 ha5 ho5)
        go_roundw
        case rel =>
          have h2 := HO2.out.size
          have h0 := HO.out.size
          have hoB : Only (fun i => ao = some ⟨i, 0, none⟩) wr w5 := ((HO2.out.trans (only_new w2 _) (fun _ _ e => e)).mono (G := fun i => ao = some ⟨i, 0, none⟩) (fun _ _ e => e.elim)).trans HO5.out (fun _ _ e => e)
          refine ⟨j + 1, cp', ao', by go_num, by omega, rfl, by rw [HNX.out]; exact HG5.out, fun q hq => ?_, HO.out.trans hoB (fun k hk e => by have := HAO.out k e; omega)⟩
          rcases HA5.out with e | e
          · exact HAO.out q (by rw [← e]; exact hq)
          · rw [hq] at e; simp only [Option.some.injEq, Addr.mk.injEq, and_true, World.size_alloc] at e
            omega
        case measure => simp [intOf]; omega
      · obtain rfl : j = l.length := by omega
        have hgr := HGR.out
        rw [List.take_length] at hgr
        have hji : ¬ (l.length : Int) < l.length := by omega
        have HJ : Hid (Calls Tryz.prog 28 #[.slice ao l.length cp, .string ⟨#[32]⟩] wr fun x w' => x = .returned (.string (strOf (VT.prL l))) ∧ Only (fun _ => False) wr w') := hid (by
          rcases Nat.eq_zero_or_pos l.length with h0 | h0
          · obtain rfl := List.eq_nil_of_length_eq_zero h0
            exact (Tryz.strings_Join_none ao cp ⟨#[32]⟩ wr).mono fun e w' ⟨h1, h2⟩ => ⟨by rw [h1, VT.prL]; rfl, by rw [h2]; exact Only.refl _ _⟩
          · obtain ⟨q, hq, hcells⟩ := hgr.cells h0
            subst hq
            have hj := prL_join l
            have hmm : ((l.map fun t => strOf t.pr).map (·.data.toList)) = l.map VT.pr := by rw [List.map_map]; exact List.map_congr_left fun x _ => by simp [strOf]
            have h := Tryz.strings_Join q 0 cp (l.map fun t => strOf t.pr) ⟨#[32]⟩ wr (fun i x hx => by
              rw [Nat.zero_add]
              rw [List.getElem?_map] at hx
              refine hcells i _ ?_
              rw [List.getElem?_map]
              cases h : l[i]? with
              | none => rw [h] at hx; simp at hx
              | some t => rw [h] at hx; simp at hx; simp [hx]) (hgr.lt rfl) (by simp; omega) (by simpa using hgr.2.1) (by rw [hmm]; show (Lib.join (l.map VT.pr) [32]).length ≤ _; rw [hj]; omega)
            rw [hmm, List.length_map] at h
            refine h.mono fun e w' ⟨h1, h2⟩ => ⟨?_, Below.only' h2⟩
            rw [h1]
            show Ending.returned (.string (strOf (Lib.join (l.map VT.pr) [32]))) = _
            rw [hj])
        obtain ⟨p, hp⟩ : ∃ p, VT.prL l = p := ⟨_, rfl⟩
        rw [hp] at HJ HF hpl
        have cc1 : (⟨#[91]⟩ : ByteArray) ++ strOf p = strOf (91 :: p) := strOf_app [91] _
        have cc2 : strOf (91 :: p) ++ (⟨#[93]⟩ : ByteArray) = strOf (91 :: p ++ [93]) := strOf_app _ [93]
        have zz1 : ¬ 9223372036854775807 < 1 + (strOf p).size := by have : (strOf p).size = p.length := rfl; omega
        have zz2 : ¬ 9223372036854775807 < (strOf (91 :: p)).size + 1 := by have : (strOf (91 :: p)).size = p.length + 1 := rfl; omega
        clear hgr hp
        go_wp2_with fail
        refine HJ.out.mono ?_
        rintro x w2 ⟨rfl, ho2⟩
        have HO2 := hid ho2
        clear ho2
        go_wp2_with fail
        go_ret
        rw [HF.out]; exact ⟨rfl, HO.out.trans HO2.out (fun _ _ e => e)⟩
  · have b3 : (k == 3) = false := by simpa using hk3
    have HF : Hid ((VT.mk k n s l).pr = [110, 105, 108]) := hid (by rw [VT.pr]; simp [hk1, hk2, hk3])
    clear hk1 hk2 hk3
    go_enter Tryz.func12, Tryz.ntmps12
    go_wp2_with fail
    go_ret
    rw [HF.out]; exact ⟨rfl, HO0.out⟩
theorem prC : ∀ m, PrC m
  | 0 => fun t h => by have := sz_pos t; omega
  | m + 1 => pr_step m (prC m)
theorem vprint_c {t : VT} {G : Nat → Prop} {cs : List Value} (hV : VAt w G t cs) (hG : ∀ k, G k → k < w.heap.size) (hg : t.rg) (hT : Tab w) (hl : t.pr.length ≤ 1000000000) : Calls Tryz.prog 12 #[.agg cs.toArray] w fun x w' => x = .returned (.string (strOf t.pr)) ∧ Only (fun _ => False) w w' :=
  prC t.sz t (Nat.le_refl _) w G cs hV hG hg hT hl
end
end Go.Proofs.YtokefeemhgcmhaaGreatDoor
