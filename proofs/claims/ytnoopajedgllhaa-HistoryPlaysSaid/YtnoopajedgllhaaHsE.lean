/- (*History).Append. -/
import Derived.Test.YtnoopajedgllhaaHsD
import Derived.Test.YtnoopajedgllhaaPt
import Derived.Test.YtnoopajedgllhaaCell1
namespace Go.Proofs.Ytnoopajedgllhaa
open Go.RowKit
mutual
theorem cl_sz3 : ∀ t : VT, t.cl.sz ≤ t.sz
  | .mk k n s l => by
    rw [VT.cl, VT.sz, VT.sz]
    split
    · have := clL_sz3 l; omega
    · rw [VT.szL]; omega
theorem clL_sz3 : ∀ l : List VT, VT.szL (VT.clL l) ≤ VT.szL l
  | [] => by rw [VT.clL]; exact Nat.le_refl _
  | t :: ts => by rw [VT.clL, VT.szL, VT.szL]; have := cl_sz3 t; have := clL_sz3 ts; omega
end
theorem hc_set0 (l : Option Addr) (n c : Nat) (l' : Option Addr) (n' c' : Nat) (s : List UInt8) (t : Int) (a : Option Addr) (m d : Nat) : ((hcells l n c l' n' c' s t).toArray).setIfInBounds 0 (.slice a m d) = (hcells a m d l' n' c' s t).toArray := by simp [hcells]
theorem hc_set1 (l : Option Addr) (n c : Nat) (l' : Option Addr) (n' c' : Nat) (s : List UInt8) (t : Int) (a : Option Addr) (m d : Nat) : ((hcells l n c l' n' c' s t).toArray).setIfInBounds 1 (.slice a m d) = (hcells l n c a m d s t).toArray := by simp [hcells]
theorem hc_set34 (l : Option Addr) (n c : Nat) (l' : Option Addr) (n' c' : Nat) {s : List UInt8} (hs : s.length = 32) (t u : Int) : ((hcells l n c l' n' c' s t).toArray).setIfInBounds 34 (.int .i64 u) = (hcells l n c l' n' c' s u).toArray := by
  apply Array.ext'
  simp only [Array.toList_setIfInBounds, hcells]
  rw [List.set_append_right _ _ (by simp), List.set_append_right _ _ (by simp [hs])]
  simp [hs]
theorem hc_size (l : Option Addr) (n c : Nat) (l' : Option Addr) (n' c' : Nat) {s : List UInt8} (hs : s.length = 32) (t : Int) : ((hcells l n c l' n' c' s t).toArray).size = 35 := by simp [hcells, hs]
theorem hok_snoc {es : List EM} (h : HOk es) {e : EM} (h1 : e.id = ((es.length + 1 : Nat) : Int)) (h2 : e.Good) (h3 : e.rg) (h4 : e.v.cl = e.v) (h5 : e.v.sz ≤ 1000000) : HOk (es ++ [e]) := by
  intro i x hi
  rcases Nat.lt_or_ge i es.length with g | g
  · rw [List.getElem?_append_left g] at hi; exact h i x hi
  · rw [List.getElem?_append_right g] at hi
    cases hk : i - es.length with
    | zero =>
      rw [hk] at hi
      simp only [List.getElem?_cons_zero, Option.some.injEq] at hi
      subst hi
      refine ⟨?_, h2, h3, h4, h5⟩
      rw [h1, show i = es.length from by omega]
    | succ k => rw [hk] at hi; simp at hi
theorem lastT_snoc (t : Int) (es : List EM) (e : EM) : lastT t (es ++ [e]) = if outsideB e.k = true then e.tm else lastT t es := by rw [lastT_app]; rfl
theorem info_1 : (Try.prog.info? 3).map (·.size) = some 1 := by kernel_rfl
theorem info_64 : (Try.prog.info? 2).map (·.size) = some 1 := by kernel_rfl
theorem info_es : (Try.prog.info? 22).map (·.size) = some 1 := by kernel_rfl
theorem info_ss : (Try.prog.info? 64).map (·.size) = some 1 := by kernel_rfl
/-- A history behind one more event. -/
theorem HRep.snoc {wy wz : World} {hb : Nat} {F : Nat → Prop} {s : List UInt8} {es : List EM} {lo so lo' so' : Option Addr} {lc sc lc' sc' a b : Nat} {xs cs : List Value} {e : EM} (h : HRep wy hb F s es lo lc xs so sc)
    (hw : Only (fun k => k = hb ∨ lo = some ⟨k, 0, none⟩ ∨ so = some ⟨k, 0, none⟩) wy wz)
    (hblk : wz.heap[hb]? = some (.cells (hcells lo' (es.length + 1) lc' so' (es.length + 1) sc' s (lastT 0 (es ++ [e]))).toArray 88 (0, 0)))
    (h1 : e.id = ((es.length + 1 : Nat) : Int)) (h2 : e.Good) (h3 : e.rg) (h4 : e.v.cl = e.v) (h5 : e.v.sz ≤ 1000000) (hn : es.length + 1 ≤ 4096)
    (hl : Gc wz 44 11 lo' (es.length + 1) lc' (xs ++ cs)) (hs : Gc wz 29 32 so' (es.length + 1) sc' ((chainS s es).flatMap bytesV ++ bytesV (link (sumS s es) e)))
    (he : EAt wz (fun k => a ≤ k ∧ k < b) e cs) (ha : wy.heap.size < a) (hb' : b ≤ wz.heap.size)
    (hlo : lo' = lo ∨ ∃ q, lo' = some ⟨q, 0, none⟩ ∧ b ≤ q ∧ q < wz.heap.size ∧ so' ≠ some ⟨q, 0, none⟩) (hso : so' = so ∨ ∃ q, so' = some ⟨q, 0, none⟩ ∧ b ≤ q ∧ q < wz.heap.size ∧ lo' ≠ some ⟨q, 0, none⟩) (hab : a ≤ b) :
    HRep wz hb (fun k => F k ∨ (wy.heap.size < k ∧ k < wz.heap.size)) s (es ++ [e]) lo' lc' (xs ++ cs) so' sc' := by
  have hlen : (es ++ [e]).length = es.length + 1 := by simp
  have hbl := h.lt hb h.fb
  have hflt := h.lt
  have hfl : ∀ q, lo' = some ⟨q, 0, none⟩ → (F q ∨ (wy.heap.size < q ∧ q < wz.heap.size)) ∧ q ≠ hb ∧ so' ≠ some ⟨q, 0, none⟩ := by
    intro q hq
    rcases hlo with e | ⟨q', e, g1, g2, g3⟩
    · rw [e] at hq
      obtain ⟨k1, k2, k3⟩ := h.fl q hq
      refine ⟨.inl k1, k2, ?_⟩
      rcases hso with e' | ⟨q2, e', g4, g5, g6⟩
      · rw [e']; exact k3
      · rw [e']; intro e2
        simp only [Option.some.injEq, Addr.mk.injEq, and_true] at e2
        have := hflt q k1; omega
    · rw [e] at hq
      simp only [Option.some.injEq, Addr.mk.injEq, and_true] at hq
      subst hq
      exact ⟨.inr ⟨by omega, g2⟩, by omega, g3⟩
  have hfs : ∀ q, so' = some ⟨q, 0, none⟩ → (F q ∨ (wy.heap.size < q ∧ q < wz.heap.size)) ∧ q ≠ hb ∧ lo' ≠ some ⟨q, 0, none⟩ := by
    intro q hq
    refine ⟨?_, ?_, fun e => (hfl q e).2.2 hq⟩
    · rcases hso with e | ⟨q', e, g1, g2, g3⟩
      · rw [e] at hq; exact .inl (h.fs q hq).1
      · rw [e] at hq
        simp only [Option.some.injEq, Addr.mk.injEq, and_true] at hq
        subst hq
        exact .inr ⟨by omega, g2⟩
    · rcases hso with e | ⟨q', e, g1, g2, g3⟩
      · rw [e] at hq; exact (h.fs q hq).2.1
      · rw [e] at hq
        simp only [Option.some.injEq, Addr.mk.injEq, and_true] at hq
        omega
  have hne : ∀ k, k < wy.heap.size → lo ≠ some ⟨k, 0, none⟩ → lo' ≠ some ⟨k, 0, none⟩ := by
    intro k hk hn e
    rcases hlo with e' | ⟨q, e', g1, g2, g3⟩
    · exact hn (by rw [← e', e])
    · rw [e'] at e
      simp only [Option.some.injEq, Addr.mk.injEq, and_true] at e
      omega
  have hne2 : ∀ k, k < wy.heap.size → so ≠ some ⟨k, 0, none⟩ → so' ≠ some ⟨k, 0, none⟩ := by
    intro k hk hn e
    rcases hso with e' | ⟨q, e', g1, g2, g3⟩
    · exact hn (by rw [← e', e])
    · rw [e'] at e
      simp only [Option.some.injEq, Addr.mk.injEq, and_true] at e
      omega
  refine ⟨by rw [hlen]; exact hblk, h.len, by rw [hlen]; exact hn, hok_snoc h.ok h1 h2 h3 h4 h5, by rw [hlen]; exact hl, ?_, by rw [hlen, chainS_snoc, List.flatMap_append]; simpa using hs, .inl h.fb, hfl, hfs, fun k hk => ?_⟩
  · refine EXs.snoc ?_ ?_
    · refine he.mono fun k hk => ⟨.inr ⟨by omega, by omega⟩, by omega, ?_, ?_⟩
      · intro e
        rcases hlo with e' | ⟨q, e', g1, g2, g3⟩
        · rw [e'] at e; have := hflt k (h.fl k e).1; omega
        · rw [e'] at e
          simp only [Option.some.injEq, Addr.mk.injEq, and_true] at e
          omega
      · intro e
        rcases hso with e' | ⟨q, e', g1, g2, g3⟩
        · rw [e'] at e; have := hflt k (h.fs k e).1; omega
        · rw [e'] at e
          simp only [Option.some.injEq, Addr.mk.injEq, and_true] at e
          omega
    · refine (h.exs.only hw (fun k hk e => ?_)).mono (fun k hk => ⟨.inl hk.1, hk.2.1, hne k (hflt k hk.1) hk.2.2.1, hne2 k (hflt k hk.1) hk.2.2.2⟩)
      rcases e with e | e | e
      · exact hk.2.1 e
      · exact hk.2.2.1 e
      · exact hk.2.2.2 e
  · rcases hk with hk | hk
    · have := hflt k hk; have := hw.size; omega
    · exact hk.2
/-- What Append answers. -/
def AppPost (w : World) (hb : Nat) (F : Nat → Prop) (s : List UInt8) (es l : List EM) (x : Ending) (w' : World) : Prop :=
  (hchk (closedL es) es.length (lastT 0 es) l = 0 ∧ ∃ ad cap xs F' B, x = .returned (.tuple #[.slice ad l.length cap, .int .i64 0]) ∧ HistAt w' hb F' s (es ++ numb es.length l) ∧ OutE B w' ad l.length cap xs (numb es.length l) ∧ (∀ k, B k → ¬ F' k) ∧ (∀ k, F' k → F k ∨ w.heap.size ≤ k) ∧ (∀ k, B k → w.heap.size ≤ k) ∧ Only F w w') ∨
  (hchk (closedL es) es.length (lastT 0 es) l ≠ 0 ∧ x = .returned (.tuple #[.slice none 0 0, .int .i64 (hchk (closedL es) es.length (lastT 0 es) l)]) ∧ Only (fun _ => False) w w')
section
variable {w : World} {hb : Nat} {F G : Nat → Prop} {s : List UInt8} {es : List EM}
set_option maxRecDepth 100000 in
set_option maxHeartbeats 12800000 in
theorem happend_c (h : HistAt w hb F s es) {v : Value} {l : List EM} (hE : EvsV w G v l) (hG : ∀ k, G k → k < w.heap.size ∧ ¬ F k) (hg : ∀ e ∈ l, e.rg) (hz : ∀ e ∈ l, e.v.sz ≤ 1000000) (hll : l.length ≤ 1000000) :
    Calls Try.prog 14 #[.pointer (some ⟨hb, 0, none⟩), v] w (AppPost w hb F s es l) := by
  have HCK := hid (hcheck_c h hE (fun k hk => (hG k hk).1) hg hll)
  have HH := hid h
  have HGl := hid hG; have Hg := hid hg; have Hz := hid hz
  obtain ⟨ad, cap, g, o, rfl, hne, hel⟩ := hE
  have HNE := hid hne; have HEL := hid hel
  obtain ⟨ck, hck⟩ : ∃ x, hchk (closedL es) es.length (lastT 0 es) l = x := ⟨_, rfl⟩
  rw [hck] at HCK
  have HCE := hid hck
  clear h hG hg hz hne hel hck
  by_cases hck0 : ck = 0
  · subst hck0
    go_enter Try.func14, Try.ntmps14
    go_wp2_with fail
    refine HCK.out.mono ?_
    rintro x w0 ⟨rfl, ho0⟩
    have HO0 := hid ho0
    clear ho0 HCK
    go_wp2_with fail
    go_loopw [20, 7] (fun i v wr => ∃ (j cp : Nat) (ao : Option Addr) (xs : List Value) (Fj Bj : Nat → Prop), i = .int .i64 j ∧ j ≤ l.length ∧ v = .slice ao j cp ∧ HistAt wr hb Fj s (es ++ numb es.length (l.take j)) ∧ OutE Bj wr ao j cp xs (numb es.length (l.take j)) ∧ (∀ k, Bj k → ¬ Fj k) ∧ (∀ k, Fj k → F k ∨ w.heap.size ≤ k) ∧ (∀ k, Bj k → w.heap.size ≤ k ∧ k < wr.heap.size) ∧ Only F w wr) (fun i _ _ => l.length - (intOf i).toNat)
    case atStart => exact ⟨0, 0, none, [], F, (fun _ => False), rfl, Nat.zero_le _, rfl, by rw [List.take_zero, numb, List.append_nil]; exact HH.out.same HO0.out, by rw [List.take_zero, numb]; exact OutE.nil _ _, fun k hk => hk.elim, fun k hk => .inl hk, fun k hk => hk.elim, HO0.out.mono (fun _ _ e => e.elim)⟩
    case round =>
      obtain ⟨j, cp, ao, xs, Fj, Bj, rfl, hj, rfl, hh, hout, hdis, hFj, hBj, ho⟩ := hrel
      have HO := hid ho; have HDI := hid hdis; have HFJ := hid hFj; have HBJ := hid hBj; have HOUT := hid hout
      have hso := ho.size
      by_cases hjl : j < l.length
      · have hji : (j : Int) < l.length := by omega
        obtain ⟨e, he⟩ : ∃ t, l[j]? = some t := ⟨_, List.getElem?_eq_getElem hjl⟩
        obtain ⟨wy, hwy⟩ : ∃ x, x = wr := ⟨wr, rfl⟩
        subst hwy
        obtain ⟨rfl, hGg⟩ := HNE.out (by rintro rfl; simp at hjl)
        obtain ⟨cs, hcs, hEe⟩ := HEL.out j e he
        have hcw : ∀ i u, cs[i]? = some u → wy.cell? ⟨g, o + j * 11 + i, none⟩ = some u := fun i u hu =>
          (World.cell?_of_block (HO.out.block g (World.block_lt_of_cell? _ _ (hcs i u hu)) (HGl.out g hGg).2)).trans (hcs i u hu)
        have hEw := hEe.only HO.out (fun k hk => (HGl.out k hk).2)
        obtain ⟨vk, vn, vs, va, vm, vc, rfl, hV⟩ := hEw.form
        have e0 := hcw 0 _ rfl
        rw [Nat.add_zero] at e0
        have e1 := hcw 1 _ rfl
        have e2 := hcw 2 _ rfl
        have e3 := hcw 3 _ rfl
        have e4 := hcw 4 _ rfl
        have e5 := hcw 5 _ rfl
        have e6 := hcw 6 _ rfl
        have e7 := hcw 7 _ rfl
        have e8 := hcw 8 _ rfl
        have e9 := hcw 9 _ rfl
        have e10 := hcw 10 _ rfl
        obtain ⟨lo, lc, xl, so, sc, H⟩ := hh
        obtain ⟨hgood, hn4⟩ := hchk_good HCE.out j e he
        have hlj : (es ++ numb es.length (l.take j)).length = es.length + j := by rw [List.length_append, numb_len, List.length_take]; omega
        have hrg := Hg.out e (List.mem_of_getElem? he)
        have hzz := Hz.out e (List.mem_of_getElem? he)
        have HT1 := hid (numb_take1 (n := es.length) he)
        obtain ⟨N, hN⟩ : ∃ N, es.length + j = N := ⟨_, rfl⟩
        obtain ⟨ej, hej⟩ : ∃ x, es ++ numb es.length (l.take j) = x := ⟨_, rfl⟩
        rw [hN] at hgood hn4 hlj HT1
        rw [hej] at hlj H
        have HEJ := hid hej
        have HH1 := hid H; have HGD := hid hgood; have HRG := hid hrg; have HV := hid hV
        have hxb : hb < wy.heap.size := H.lt hb H.fb
        have H34 := H.ct
        have HC0 : Hid (∀ W, Only (fun _ => False) wy W → W.cell? ⟨hb, 0, none⟩ = some (.slice lo N lc)) := hid fun W hW => by have := (H.same hW).c0; rw [hlj] at this; exact this
        have HLN := hid hlj
        have HEm := hid he
        clear hEe hEw hcs hcw hGg hgood hrg hV H hej hN hout hdis hFj hBj ho he hlj H34
        go_wp2_with fail
        obtain ⟨w1, hw1⟩ : ∃ x, wy.alloc (.cells #[.int .i64 e.id, .int .i64 e.tm, .int .i64 e.k, .int .i64 e.a, .int .i64 e.b, .string (strOf e.name), .string (strOf e.text), .int .i64 vk, .int .i64 vn, .string (strOf vs), .slice va vm vc] 44) = x := ⟨_, rfl⟩
        have ho1 : Only (fun _ => False) wy w1 := by rw [← hw1]; exact only_new _ _
        have hb1 : w1.heap[wy.heap.size]? = some (.cells #[.int .i64 e.id, .int .i64 e.tm, .int .i64 e.k, .int .i64 e.a, .int .i64 e.b, .string (strOf e.name), .string (strOf e.text), .int .i64 vk, .int .i64 vn, .string (strOf vs), .slice va vm vc] 44 (0, 0)) := by rw [← hw1]; exact blk_new _ _
        have hs1 : w1.heap.size = wy.heap.size + 1 := by rw [← hw1]; simp
        rw [hw1]
        have HO1 := hid ho1; have HB1 := hid hb1; have HS1 := hid hs1
        have HCL : Hid (∀ W, Only (fun _ => False) w1 W → Calls Try.prog 22 #[.agg #[.int .i64 vk, .int .i64 vn, .string (strOf vs), .slice va vm vc]] W (MadeS W e.v.cl)) := hid fun W hW => cloneC _ e.v (Nat.le_refl _) W _ _ (HV.out.same (HO1.out.trans hW (fun _ _ e => e))) (fun i hi => by have h1 := (HGl.out i hi).1; have h2 := hW.size; omega) HRG.out.2.2.2.2.2.2.2 (by omega)
        clear hw1 ho1 hb1 hs1 e0 e1 e2 e3 e4 e5 e6 e7 e8 e9 e10 hzz
        refine region_pt 10 [] (by kernel_rfl) (by kernel_rfl) (by kernel_rfl) [(24, fun _ v => v = .pointer (some ⟨hb, 0, none⟩)), (25, fun _ v => v = .pointer (some ⟨hb, 0, none⟩)), (26, fun _ v => v = .pointer (some ⟨hb, 0, none⟩)), (27, fun _ v => v = .slice lo N lc), (28, fun _ v => v = .int .i64 N), (29, fun _ v => v = .int .i64 ((N : Int) + 1)), (30, fun _ v => v = .pointer (some ⟨wy.heap.size, 7, none⟩)), (31, fun _ v => v = .agg ([.int .i64 vk, .int .i64 vn, .string (strOf vs), .slice va vm vc]).toArray), (32, fun W v => ∃ cs6, v = .agg cs6.toArray ∧ VAt W (New w1 W) e.v.cl cs6), (33, fun _ v => v = .pointer (some ⟨wy.heap.size, 0, none⟩))] (fun _ W => Only (fun _ => False) w1 W) (by show [24, 25, 26, 27, 28, 29, 30, 31, 32, 33].Nodup; decide) (by show ∀ d ∈ [24, 25, 26, 27, 28, 29, 30, 31, 32, 33], d < 79; decide) ((Only.refl _ _).drew) (.inl rfl) ?_ ?_ ?_
        · exact trivial
        · have hstab : PtStabs (Only (fun _ => False)) [(24, fun _ v => v = .pointer (some ⟨hb, 0, none⟩)), (25, fun _ v => v = .pointer (some ⟨hb, 0, none⟩)), (26, fun _ v => v = .pointer (some ⟨hb, 0, none⟩)), (27, fun _ v => v = .slice lo N lc), (28, fun _ v => v = .int .i64 N), (29, fun _ v => v = .int .i64 ((N : Int) + 1)), (30, fun _ v => v = .pointer (some ⟨wy.heap.size, 7, none⟩)), (31, fun _ v => v = .agg ([.int .i64 vk, .int .i64 vn, .string (strOf vs), .slice va vm vc]).toArray), (32, fun W v => ∃ cs6, v = .agg cs6.toArray ∧ VAt W (New w1 W) e.v.cl cs6), (33, fun _ v => v = .pointer (some ⟨wy.heap.size, 0, none⟩))] := ⟨fun _ _ _ _ h => h, fun _ _ _ _ h => h, fun _ _ _ _ h => h, fun _ _ _ _ h => h, fun _ _ _ _ h => h, fun _ _ _ _ h => h, fun _ _ _ _ h => h, fun _ _ _ _ h => h, fun W W' v hr ⟨cs6, h1, h2⟩ => ⟨cs6, h1, (h2.same hr).mono (fun k hk => ⟨hk.1, Nat.lt_of_lt_of_le hk.2 hr.size⟩)⟩, fun _ _ _ _ h => h, trivial⟩
          refine PtAllS.cons rfl ⟨rfl, rfl⟩ ?_ (PtAllS.cons rfl ⟨rfl, rfl⟩ ?_ (PtAllS.cons rfl ⟨rfl, rfl⟩ ?_ (PtAllS.cons rfl ⟨rfl, rfl⟩ ?_ (PtAllS.cons rfl ⟨rfl, rfl⟩ ?_ (PtAllS.cons rfl ⟨rfl, rfl⟩ ?_ (PtAllS.cons rfl ⟨rfl, rfl⟩ ?_ (PtAllS.cons rfl ⟨rfl, rfl⟩ ?_ (PtAllS.cons rfl ⟨rfl, rfl⟩ ?_ (PtAllS.cons rfl ⟨rfl, rfl⟩ ?_ (PtAllS.nil rfl))))))))))
          · intro L a W K hI hn hd hK
            have e0 : a.eval (.tmp 0) = .pointer (some ⟨hb, 0, none⟩) := hI.ev 0 (by show ¬ (0 ∈ [24, 25, 26, 27, 28, 29, 30, 31, 32, 33]); decide) rfl
            exact pt_move _ (by first | exact .inl rfl | exact .inr rfl) _ e0 (hK _ _ hI.j PtKeep.refl rfl)
          · intro L a W K hI hn hd hK
            have e24 : a.eval (.tmp 24) = .pointer (some ⟨hb, 0, none⟩) := hI.fact 0 24 _ rfl (dep_of hd 0 (by kernel_rfl))
            exact pt_val (v := .pointer (some ⟨hb, 0, none⟩)) (by unfold execOp; simp only [e24]; kernel_rfl) (hK _ _ hI.j PtKeep.refl rfl)
          · intro L a W K hI hn hd hK
            have e25 : a.eval (.tmp 25) = .pointer (some ⟨hb, 0, none⟩) := hI.fact 1 25 _ rfl (dep_of hd 1 (by kernel_rfl))
            exact pt_val (v := .pointer (some ⟨hb, 0, none⟩)) (by unfold execOp; simp only [e25]; kernel_rfl) (hK _ _ hI.j PtKeep.refl rfl)
          · intro L a W K hI hn hd hK
            have e26 : a.eval (.tmp 26) = .pointer (some ⟨hb, 0, none⟩) := hI.fact 2 26 _ rfl (dep_of hd 2 (by kernel_rfl))
            exact pt_load _ (.tmp 26) rfl ⟨hb, 0, none⟩ (.slice lo N lc) _ e26 (HC0.out _ (HO1.out.trans hI.j (fun _ _ e => e))) Try.underlying22 rfl (hK _ _ hI.j PtKeep.refl rfl)
          · intro L a W K hI hn hd hK
            have e27 : a.eval (.tmp 27) = .slice lo N lc := hI.fact 3 27 _ rfl (dep_of hd 3 (by kernel_rfl))
            exact pt_val (v := .int .i64 N) (by unfold execOp; simp only [resolve, invoke, builtin, Sem.run_bind, Sem.run_pure, Result.andThen_ok, List.map_toArray, List.map_cons, List.map_nil, e27]; kernel_rfl) (hK _ _ hI.j PtKeep.refl rfl)
          · intro L a W K hI hn hd hK
            have e28 : a.eval (.tmp 28) = .int .i64 N := hI.fact 4 28 _ rfl (dep_of hd 4 (by kernel_rfl))
            exact pt_val (v := .int .i64 ((N : Int) + 1)) (by unfold execOp; simp only [e28]; go_simp; exact IntWalk.i64_in _ (by omega)) (hK _ _ hI.j PtKeep.refl rfl)
          · intro L a W K hI hn hd hK
            have e9 : a.eval (.tmp 9) = .pointer (some ⟨wy.heap.size, 0, none⟩) := hI.ev 9 (by show ¬ (9 ∈ [24, 25, 26, 27, 28, 29, 30, 31, 32, 33]); decide) rfl
            exact pt_val (v := .pointer (some ⟨wy.heap.size, 7, none⟩)) (by unfold execOp; simp only [e9]; kernel_rfl) (hK _ _ hI.j PtKeep.refl rfl)
          · intro L a W K hI hn hd hK
            have e30 : a.eval (.tmp 30) = .pointer (some ⟨wy.heap.size, 7, none⟩) := hI.fact 6 30 _ rfl (dep_of hd 6 (by kernel_rfl))
            exact wp_load_mid _ (.tmp 30) rfl (wy.heap.size) 7 e30 ([.int .i64 vk, .int .i64 vn, .string (strOf vs), .slice va vm vc]) _ (World.rangeAt_of_block (blk_only HB1.out hI.j (fun e => e)) 7 4) Try.underlying42 rfl (info_val) (hK _ _ hI.j PtKeep.refl rfl)
          · intro L a W K hI hn hd hK
            have e31 : a.eval (.tmp 31) = .agg ([.int .i64 vk, .int .i64 vn, .string (strOf vs), .slice va vm vc]).toArray := hI.fact 7 31 _ rfl (dep_of hd 7 (by kernel_rfl))
            refine wp_callc (f := 22) (args := #[a.eval (.tmp 31)]) (by kernel_rfl) ?_
            rw [e31]
            refine (HCL.out _ hI.j).mono ?_
            rintro x W' ⟨cs6, rfl, hv6, ho6, hs6⟩
            have hsz := hI.j.size
            exact ⟨_, rfl, hK _ _ (hI.j.trans ho6 (fun _ _ e => e)) (hstab.keep ho6) ⟨cs6, rfl, hv6.mono (fun k hk => ⟨Nat.le_trans hsz hk.1, hk.2⟩)⟩⟩
          · intro L a W K hI hn hd hK
            have e9 : a.eval (.tmp 9) = .pointer (some ⟨wy.heap.size, 0, none⟩) := hI.ev 9 (by show ¬ (9 ∈ [24, 25, 26, 27, 28, 29, 30, 31, 32, 33]); decide) rfl
            exact pt_val (v := .pointer (some ⟨wy.heap.size, 0, none⟩)) (by unfold execOp; simp only [e9]; kernel_rfl) (hK _ _ hI.j PtKeep.refl rfl)
        · intro L a W8 hal hj hfs
          dsimp only [PtAll] at hfs
          obtain ⟨f24, f25, f26, f27, f28, f29, f30, f31, f32, f33, -⟩ := hfs
          obtain ⟨cs6, f32, hv6⟩ := f32
          have hA := hal.turned
          simp only [List.map_cons, List.map_nil, Act.turned, f24, f25, f26, f27, f28, f29, f30, f31, f32, f33] at hA
          simp only [Act.put, List.setIfInBounds_toArray, List.set_cons_zero, List.set_cons_succ] at hA
          clear hal f24 f25 f26 f27 f28 f29 f30 f31 f32 f33
          subst hA
          change wpList _ _ _ [_, _, _] _ _
          obtain ⟨uk, un, us, ua, um, uc, rfl⟩ := hv6.form
          have hb8 := blk_only HB1.out hj (fun e => e)
          have HJ8 := hid hj; have HV6 := hid hv6; have HB8 := hid hb8
          have hz8 := hj.size
          have hs1a : wy.heap.size < w1.heap.size := by have := HS1.out; omega
          clear hj hv6 hb8
          go_wp2_with (first
            | ((guard_target =~ wpList _ _ _ (⟨none, .store 3 _ _, _, _, _, _⟩ :: _) _ _); refine wpList_store_1 rfl 3 (.tmp 33) (.tmp 29) rfl wy.heap.size 0 (.int .i64 ((N : Int) + 1)) rfl rfl info_1 rfl #[.int .i64 e.id, .int .i64 e.tm, .int .i64 e.k, .int .i64 e.a, .int .i64 e.b, .string (strOf e.name), .string (strOf e.text), .int .i64 vk, .int .i64 vn, .string (strOf vs), .slice va vm vc] 44 HB8.out (Nat.succ_pos 10) ?_; intro w8a hb8a ho8a hs8a; have hb8a : w8a.heap[wy.heap.size]? = some (.cells #[.int .i64 ((N : Int) + 1), .int .i64 e.tm, .int .i64 e.k, .int .i64 e.a, .int .i64 e.b, .string (strOf e.name), .string (strOf e.text), .int .i64 vk, .int .i64 vn, .string (strOf vs), .slice va vm vc] 44 (0, 0)) := hb8a; have HB8a := hid hb8a; have HO8a := hid ho8a; have HS8a := hid hs8a; clear hb8a ho8a hs8a)
            | ((guard_target =~ wpList _ _ _ (⟨none, .store 42 _ _, _, _, _, _⟩ :: _) _ _); refine wpList_store_in rfl 42 (.tmp 34) (.tmp 32) rfl wy.heap.size 7 #[.int .i64 uk, .int .i64 un, .string (strOf us), .slice ua um uc] rfl rfl #[.int .i64 ((N : Int) + 1), .int .i64 e.tm, .int .i64 e.k, .int .i64 e.a, .int .i64 e.b, .string (strOf e.name), .string (strOf e.text), .int .i64 vk, .int .i64 vn, .string (strOf vs), .slice va vm vc] 44 HB8a.out (Nat.le_refl 11) info_val (val_one uk un (strOf us) ua um uc) ?_; intro w9 hb9 ho9 hs9; have hb9 : w9.heap[wy.heap.size]? = some (.cells #[.int .i64 ((N : Int) + 1), .int .i64 e.tm, .int .i64 e.k, .int .i64 e.a, .int .i64 e.b, .string (strOf e.name), .string (strOf e.text), .int .i64 uk, .int .i64 un, .string (strOf us), .slice ua um uc] 44 (0, 0)) := hb9; have HB9 := hid hb9; have HO9 := hid ho9; have HS9 := hid hs9; clear hb9 ho9 hs9))
          have hz9 : w9.heap.size = W8.heap.size := by rw [HS9.out, HS8a.out]
          have hC : Only (fun _ => False) wy w9 := (HO1.out.trans HJ8.out (fun _ _ e => e)).trans (HO8a.out.trans HO9.out (fun _ _ e => e)) (fun k hk e => by have e' : k = wy.heap.size := e; omega)
          have hV9 : VAt w9 (New w1 w9) e.v.cl [.int .i64 uk, .int .i64 un, .string (strOf us), .slice ua um uc] := (HV6.out.only (HO8a.out.trans HO9.out (fun _ _ e => e)) (fun k hk e => by have e' : k = wy.heap.size := e; have h1 := hk.1; omega)).mono (fun k hk => ⟨hk.1, by rw [hz9]; exact hk.2⟩)
          obtain ⟨e', he'⟩ : ∃ x, (e.nth N).cl = x := ⟨_, rfl⟩
          have hE9 : EAt w9 (New w1 w9) e' [.int .i64 ((N : Int) + 1), .int .i64 e.tm, .int .i64 e.k, .int .i64 e.a, .int .i64 e.b, .string (strOf e.name), .string (strOf e.text), .int .i64 uk, .int .i64 un, .string (strOf us), .slice ua um uc] := by rw [← he']; exact ⟨_, rfl, hV9⟩
          have hgd' : e'.Good := by rw [← he']; exact cl_good HGD.out
          have hrg' : e'.rg := by
            rw [← he']
            have h1 := HRG.out
            exact ⟨⟨by show (_ : Int) ≤ ((N + 1 : Nat) : Int); omega, by show ((N + 1 : Nat) : Int) ≤ _; omega⟩, h1.2.1, h1.2.2.1, h1.2.2.2.1, h1.2.2.2.2.1, h1.2.2.2.2.2.1, h1.2.2.2.2.2.2.1, cl_rg _ h1.2.2.2.2.2.2.2⟩
          have h32 := sumS_len HH1.out.len ej
          obtain ⟨SL, hSL⟩ : ∃ x, bytesV (sumS s ej) = x := ⟨_, rfl⟩
          obtain ⟨LL, hLL⟩ : ∃ x, bytesV (link (sumS s ej) e') = x := ⟨_, rfl⟩
          have HSU : Hid (∀ W, Only (fun _ => False) w9 W → Calls Try.prog 19 #[.pointer (some ⟨hb, 0, none⟩)] W fun x w' => x = .returned (.agg SL.toArray) ∧ Only (fun _ => False) W w') := hid fun W hW => by rw [← hSL]; exact hsum2_c ⟨lo, lc, xl, so, sc, HH1.out.same (hC.trans hW (fun _ _ e => e))⟩
          have HLK : Hid (∀ W, Only (fun _ => False) w9 W → Calls Try.prog 50 #[.agg SL.toArray, .agg #[.int .i64 ((N : Int) + 1), .int .i64 e.tm, .int .i64 e.k, .int .i64 e.a, .int .i64 e.b, .string (strOf e.name), .string (strOf e.text), .int .i64 uk, .int .i64 un, .string (strOf us), .slice ua um uc]] W fun x w' => x = .returned (.tuple #[.agg LL.toArray, .int .i64 0]) ∧ Only (fun _ => False) W w') := hid fun W hW => by
            have h1 := elink_c (w := W) (G := New w1 w9) h32 (hE9.same hW) (fun k hk => Nat.lt_of_lt_of_le hk.2 hW.size) hrg'
            rw [linkR, if_pos (good_chk hgd'), good_chk hgd', hSL, hLL] at h1
            exact h1
          have HLLs : Hid (LL.length = 32) := hid (by rw [← hLL]; simp [link_len])
          have HLL1 : Hid (LL.toArray.all (·.oneCell') = true) := hid (by rw [← hLL]; exact bytesV_one' _)
          have HLLo : Hid (∀ u ∈ LL, u.oneCell' = true) := hid (by rw [← hLL]; exact oneCell_bytesV _)
          have HLLi : Hid ((Try.prog.info? 29).map (·.size) = some LL.toArray.size) := hid (by rw [info32, List.size_toArray, HLLs.out])
          have HLLz : Hid (LL.toArray.size = (byA st0 0).size) := hid (by rw [List.size_toArray, HLLs.out]; rfl)
          have HBS : Hid (∀ W : World, (Instr.buildSlice 64 1 #[(0, .agg LL.toArray)]).run Try.prog W = .ok (.slice (some ⟨W.heap.size, 0, none⟩) 1 1) (W.alloc (.cells LL.toArray 29))) := hid fun W => by rw [← hLL]; exact bslice_sum W _ (link_len _ _)
          have HLLe := hid hLL; have HE' := hid he'; have HC9 := hid hC; have HV9 := hid hV9; have HE9 := hid hE9; have HGD' := hid hgd'; have HRG' := hid hrg'
          clear hC hV9 hE9 hgd' hrg' h32 hSL hLL he' HV6
          refine wp_region_noPanic ?_
          refine region_pt 8 [6] (by kernel_rfl) (by kernel_rfl) (by kernel_rfl) [(36, fun _ v => v = .pointer (some ⟨hb, 0, none⟩)), (37, fun _ v => v = .agg SL.toArray), (38, fun _ v => v = .agg #[.int .i64 ((N : Int) + 1), .int .i64 e.tm, .int .i64 e.k, .int .i64 e.a, .int .i64 e.b, .string (strOf e.name), .string (strOf e.text), .int .i64 uk, .int .i64 un, .string (strOf us), .slice ua um uc]), (39, fun _ v => v = .tuple #[.agg LL.toArray, .int .i64 0]), (35, fun _ v => v = .tuple #[.agg LL.toArray, .int .i64 0]), (40, fun _ v => v = .agg LL.toArray), (41, fun _ v => v = .int .i64 0), (10, fun W v => ∃ gs, v = .pointer (some ⟨gs, 0, none⟩) ∧ w9.heap.size ≤ gs ∧ W.heap[gs]? = some (.cells (byA st0 0) 29 (0, 0)))] (fun _ W => Only (fun _ => False) w9 W) (by show [36, 37, 38, 39, 35, 40, 41, 10].Nodup; decide) (by show ∀ d ∈ [36, 37, 38, 39, 35, 40, 41, 10], d < 79; decide) ((Only.refl _ _).drew) (.inr (fun _ _ _ _ _ h => h)) ?_ ?_ ?_
          · refine ⟨?_, trivial⟩
            · refine ⟨_, _, _, _, rfl, rfl, rfl, fun _ _ h => h, fun L a W hI hd => ?_⟩
              have e35 : a.eval (.tmp 35) = .tuple #[.agg LL.toArray, .int .i64 0] := hI.fact 4 35 _ rfl (dep_of hd 4 (by kernel_rfl))
              exact ⟨.int .i64 0, fun W => by unfold execOp; simp only [e35]; kernel_rfl, fun W => rfl⟩
          · have hstab : PtStabs (Only (fun _ => False)) [(36, fun _ v => v = .pointer (some ⟨hb, 0, none⟩)), (37, fun _ v => v = .agg SL.toArray), (38, fun _ v => v = .agg #[.int .i64 ((N : Int) + 1), .int .i64 e.tm, .int .i64 e.k, .int .i64 e.a, .int .i64 e.b, .string (strOf e.name), .string (strOf e.text), .int .i64 uk, .int .i64 un, .string (strOf us), .slice ua um uc]), (39, fun _ v => v = .tuple #[.agg LL.toArray, .int .i64 0]), (35, fun _ v => v = .tuple #[.agg LL.toArray, .int .i64 0]), (40, fun _ v => v = .agg LL.toArray), (41, fun _ v => v = .int .i64 0), (10, fun W v => ∃ gs, v = .pointer (some ⟨gs, 0, none⟩) ∧ w9.heap.size ≤ gs ∧ W.heap[gs]? = some (.cells (byA st0 0) 29 (0, 0)))] := ⟨fun _ _ _ _ h => h, fun _ _ _ _ h => h, fun _ _ _ _ h => h, fun _ _ _ _ h => h, fun _ _ _ _ h => h, fun _ _ _ _ h => h, fun _ _ _ _ h => h, fun W W' v hr ⟨gs, h1, h2, h3⟩ => ⟨gs, h1, h2, blk_only h3 hr (fun e => e)⟩, trivial⟩
            refine PtAllS.cons rfl ⟨rfl, rfl⟩ ?_ (PtAllS.cons rfl ⟨rfl, rfl⟩ ?_ (PtAllS.cons rfl ⟨rfl, rfl⟩ ?_ (PtAllS.cons rfl ⟨rfl, rfl⟩ ?_ (PtAllS.cons rfl ⟨rfl, rfl⟩ ?_ (PtAllS.cons rfl ⟨rfl, rfl⟩ ?_ (PtAllS.cons rfl ⟨rfl, rfl⟩ ?_ (PtAllS.cons rfl ⟨rfl, rfl⟩ ?_ (PtAllS.nil rfl))))))))
            · intro L a W K hI hn hd hK
              have e0 : a.eval (.tmp 0) = .pointer (some ⟨hb, 0, none⟩) := hI.ev 0 (by show ¬ (0 ∈ [36, 37, 38, 39, 35, 40, 41, 10]); decide) rfl
              exact pt_move _ (by first | exact .inl rfl | exact .inr rfl) _ e0 (hK _ _ hI.j PtKeep.refl rfl)
            · intro L a W K hI hn hd hK
              have e36 : a.eval (.tmp 36) = .pointer (some ⟨hb, 0, none⟩) := hI.fact 0 36 _ rfl (dep_of hd 0 (by kernel_rfl))
              refine wp_callc (f := 19) (args := #[a.eval (.tmp 36)]) (by kernel_rfl) ?_
              rw [e36]
              refine (HSU.out _ hI.j).mono ?_
              rintro x W' ⟨rfl, ho⟩
              exact ⟨_, rfl, hK _ _ (hI.j.trans ho (fun _ _ e => e.elim)) (hstab.keep ho) rfl⟩
            · intro L a W K hI hn hd hK
              have e9 : a.eval (.tmp 9) = .pointer (some ⟨wy.heap.size, 0, none⟩) := hI.ev 9 (by show ¬ (9 ∈ [36, 37, 38, 39, 35, 40, 41, 10]); decide) rfl
              exact wp_load_row _ (.tmp 9) rfl (wy.heap.size) e9 44 (#[.int .i64 ((N : Int) + 1), .int .i64 e.tm, .int .i64 e.k, .int .i64 e.a, .int .i64 e.b, .string (strOf e.name), .string (strOf e.text), .int .i64 uk, .int .i64 un, .string (strOf us), .slice ua um uc]) (0, 0) _ (blk_only HB9.out hI.j (fun e => e)) Try.underlying44 rfl (info_ev) (hK _ _ hI.j PtKeep.refl rfl)
            · intro L a W K hI hn hd hK
              have e37 : a.eval (.tmp 37) = .agg SL.toArray := hI.fact 1 37 _ rfl (dep_of hd 1 (by kernel_rfl))
              have e38 : a.eval (.tmp 38) = .agg #[.int .i64 ((N : Int) + 1), .int .i64 e.tm, .int .i64 e.k, .int .i64 e.a, .int .i64 e.b, .string (strOf e.name), .string (strOf e.text), .int .i64 uk, .int .i64 un, .string (strOf us), .slice ua um uc] := hI.fact 2 38 _ rfl (dep_of hd 2 (by kernel_rfl))
              refine wp_callc (f := 50) (args := #[a.eval (.tmp 37), a.eval (.tmp 38)]) (by kernel_rfl) ?_
              rw [e37, e38]
              refine (HLK.out _ hI.j).mono ?_
              rintro x W' ⟨rfl, ho⟩
              exact ⟨_, rfl, hK _ _ (hI.j.trans ho (fun _ _ e => e.elim)) (hstab.keep ho) rfl⟩
            · intro L a W K hI hn hd hK
              have e39 : a.eval (.tmp 39) = .tuple #[.agg LL.toArray, .int .i64 0] := hI.fact 3 39 _ rfl (dep_of hd 3 (by kernel_rfl))
              exact pt_move _ (by first | exact .inl rfl | exact .inr rfl) _ e39 (hK _ _ hI.j PtKeep.refl rfl)
            · intro L a W K hI hn hd hK
              have e35 : a.eval (.tmp 35) = .tuple #[.agg LL.toArray, .int .i64 0] := hI.fact 4 35 _ rfl (dep_of hd 4 (by kernel_rfl))
              exact pt_val (v := .agg LL.toArray) (by unfold execOp; simp only [e35]; kernel_rfl) (hK _ _ hI.j PtKeep.refl rfl)
            · intro L a W K hI hn hd hK
              have e35 : a.eval (.tmp 35) = .tuple #[.agg LL.toArray, .int .i64 0] := hI.fact 4 35 _ rfl (dep_of hd 4 (by kernel_rfl))
              exact pt_val (v := .int .i64 0) (by unfold execOp; simp only [e35]; kernel_rfl) (hK _ _ hI.j PtKeep.refl rfl)
            · intro L a W K hI hn hd hK
              have ho := only_new W (.cells (byA st0 0) 29)
              exact wp_value (w' := W.alloc (.cells (byA st0 0) 29)) (v := .pointer (some ⟨W.heap.size, 0, none⟩)) (by kernel_rfl) (hK _ _ (hI.j.trans ho (fun _ _ e => e)) (hstab.keep ho) ⟨W.heap.size, rfl, hI.j.size, blk_new W _⟩)
          · intro L a W9 hal hj hfs
            dsimp only [PtAll] at hfs
            obtain ⟨f36, f37, f38, f39, f35, f40, f41, f10, -⟩ := hfs
            obtain ⟨gs, f10, hgs, hsb⟩ := f10
            have hA := hal.turned
            simp only [List.map_cons, List.map_nil, Act.turned, f36, f37, f38, f39, f35, f40, f41, f10] at hA
            simp only [Act.put, List.setIfInBounds_toArray, List.set_cons_zero, List.set_cons_succ] at hA
            clear hal f36 f37 f38 f39 f35 f40 f41 f10
            subst hA
            change wpList _ _ _ [_, _] _ _
            have HJ9 := hid hj; have HSB := hid hsb
            have hz9b := hj.size
            have hgl := blk_lt hsb
            clear hj hsb
            go_wp2_with ((guard_target =~ wpList _ _ _ (⟨none, .store 29 _ _, _, _, _, _⟩ :: _) _ _); refine wpList_store_all rfl 29 (.tmp 10) (.tmp 40) rfl gs LL.toArray rfl rfl (byA st0 0) 29 HSB.out HLLz.out HLLi.out HLL1.out ?_; intro w10 hb10 ho10 hs10; have HS10B := hid hb10; have HO10 := hid ho10; have HS10 := hid hs10; clear hb10 ho10 hs10)
            refine NoPanic.normal ?_
            go_wp2_with fail
            have hz10 : w10.heap.size = W9.heap.size := HS10.out
            have hD : Only (fun _ => False) wy w10 := (HC9.out.trans HJ9.out (fun _ _ e => e)).trans HO10.out (fun k hk e => by have e' : k = gs := e; omega)
            have hX10 : w10.heap[wy.heap.size]? = some (.cells #[.int .i64 ((N : Int) + 1), .int .i64 e.tm, .int .i64 e.k, .int .i64 e.a, .int .i64 e.b, .string (strOf e.name), .string (strOf e.text), .int .i64 uk, .int .i64 un, .string (strOf us), .slice ua um uc] 44 (0, 0)) := blk_only (blk_only HB9.out HJ9.out (fun e => e)) HO10.out (fun e => by have e' : wy.heap.size = gs := e; omega)
            have h10 := HH1.out.same hD
            have HLO : Hid (∀ k, lo = some ⟨k, 0, none⟩ → k < wy.heap.size ∧ k ≠ hb ∧ so ≠ some ⟨k, 0, none⟩) := hid fun k hk => ⟨HH1.out.lt k (HH1.out.fl k hk).1, (HH1.out.fl k hk).2⟩
            have HSO : Hid (∀ k, so = some ⟨k, 0, none⟩ → k < wy.heap.size ∧ k ≠ hb ∧ lo ≠ some ⟨k, 0, none⟩) := hid fun k hk => ⟨HH1.out.lt k (HH1.out.fs k hk).1, (HH1.out.fs k hk).2⟩
            have h34 := HH1.out.len
            obtain ⟨T, hT⟩ : ∃ x, lastT 0 ej = x := ⟨_, rfl⟩
            have hB10 := h10.blk
            rw [HLN.out, hT] at hB10
            have hL10 := h10.list
            have hS10 := h10.sums
            rw [HLN.out] at hL10 hS10
            obtain ⟨CS, hCS⟩ : ∃ x, (chainS s ej).flatMap bytesV = x := ⟨_, rfl⟩
            rw [hCS] at hS10
            have HT := hid hT; have HCS := hid hCS; have HD10 := hid hD; have HX10 := hid hX10; have HB10 := hid hB10; have HL10 := hid hL10; have HSM10 := hid hS10; have H34 := hid h34
            clear hD hX10 h10 h34 hT hB10 hL10 hS10 hCS
            refine region_pt 8 [] (by kernel_rfl) (by kernel_rfl) (by kernel_rfl) [(42, fun _ v => v = .pointer (some ⟨hb, 0, none⟩)), (43, fun _ v => v = .pointer (some ⟨hb, 0, none⟩)), (44, fun _ v => v = .pointer (some ⟨hb, 0, none⟩)), (45, fun _ v => v = .pointer (some ⟨hb, 0, none⟩)), (46, fun _ v => v = .slice lo N lc), (47, fun _ v => v = .agg #[.int .i64 ((N : Int) + 1), .int .i64 e.tm, .int .i64 e.k, .int .i64 e.a, .int .i64 e.b, .string (strOf e.name), .string (strOf e.text), .int .i64 uk, .int .i64 un, .string (strOf us), .slice ua um uc]), (48, fun W v => ∃ gb, v = .slice (some ⟨gb, 0, none⟩) 1 1 ∧ w10.heap.size ≤ gb ∧ W.heap[gb]? = some (.cells #[.int .i64 ((N : Int) + 1), .int .i64 e.tm, .int .i64 e.k, .int .i64 e.a, .int .i64 e.b, .string (strOf e.name), .string (strOf e.text), .int .i64 uk, .int .i64 un, .string (strOf us), .slice ua um uc] 44 (0, 0))), (49, fun W v => ∃ ao' cap', v = .slice ao' (N + 1) cap' ∧ Gc W 44 11 ao' (N + 1) cap' (xl ++ [.int .i64 ((N : Int) + 1), .int .i64 e.tm, .int .i64 e.k, .int .i64 e.a, .int .i64 e.b, .string (strOf e.name), .string (strOf e.text), .int .i64 uk, .int .i64 un, .string (strOf us), .slice ua um uc]) ∧ (ao' = lo ∨ ∃ q, ao' = some ⟨q, 0, none⟩ ∧ w10.heap.size ≤ q))] (fun L W => (L 7 = false → Only (fun _ => False) w10 W) ∧ Only (fun k => lo = some ⟨k, 0, none⟩) w10 W) (by show [42, 43, 44, 45, 46, 47, 48, 49].Nodup; decide) (by show ∀ d ∈ [42, 43, 44, 45, 46, 47, 48, 49], d < 79; decide) ⟨fun _ => (Only.refl _ _).drew, (Only.refl _ _).drew⟩ (.inl rfl) ?_ ?_ ?_
            · exact trivial
            · have hstab : PtStabs (Only (fun _ => False)) [(42, fun _ v => v = .pointer (some ⟨hb, 0, none⟩)), (43, fun _ v => v = .pointer (some ⟨hb, 0, none⟩)), (44, fun _ v => v = .pointer (some ⟨hb, 0, none⟩)), (45, fun _ v => v = .pointer (some ⟨hb, 0, none⟩)), (46, fun _ v => v = .slice lo N lc), (47, fun _ v => v = .agg #[.int .i64 ((N : Int) + 1), .int .i64 e.tm, .int .i64 e.k, .int .i64 e.a, .int .i64 e.b, .string (strOf e.name), .string (strOf e.text), .int .i64 uk, .int .i64 un, .string (strOf us), .slice ua um uc]), (48, fun W v => ∃ gb, v = .slice (some ⟨gb, 0, none⟩) 1 1 ∧ w10.heap.size ≤ gb ∧ W.heap[gb]? = some (.cells #[.int .i64 ((N : Int) + 1), .int .i64 e.tm, .int .i64 e.k, .int .i64 e.a, .int .i64 e.b, .string (strOf e.name), .string (strOf e.text), .int .i64 uk, .int .i64 un, .string (strOf us), .slice ua um uc] 44 (0, 0))), (49, fun W v => ∃ ao' cap', v = .slice ao' (N + 1) cap' ∧ Gc W 44 11 ao' (N + 1) cap' (xl ++ [.int .i64 ((N : Int) + 1), .int .i64 e.tm, .int .i64 e.k, .int .i64 e.a, .int .i64 e.b, .string (strOf e.name), .string (strOf e.text), .int .i64 uk, .int .i64 un, .string (strOf us), .slice ua um uc]) ∧ (ao' = lo ∨ ∃ q, ao' = some ⟨q, 0, none⟩ ∧ w10.heap.size ≤ q))] := ⟨fun _ _ _ _ h => h, fun _ _ _ _ h => h, fun _ _ _ _ h => h, fun _ _ _ _ h => h, fun _ _ _ _ h => h, fun _ _ _ _ h => h, fun W W' v hr ⟨gb, h1, h2, h3⟩ => ⟨gb, h1, h2, blk_only h3 hr (fun e => e)⟩, fun W W' v hr ⟨ao', cap', h1, h2, h3⟩ => ⟨ao', cap', h1, h2.only hr (fun _ _ e => e), h3⟩, trivial⟩
              refine PtAllS.cons rfl ⟨rfl, rfl⟩ ?_ (PtAllS.cons rfl ⟨rfl, rfl⟩ ?_ (PtAllS.cons rfl ⟨rfl, rfl⟩ ?_ (PtAllS.cons rfl ⟨rfl, rfl⟩ ?_ (PtAllS.cons rfl ⟨rfl, rfl⟩ ?_ (PtAllS.cons rfl ⟨rfl, rfl⟩ ?_ (PtAllS.cons rfl ⟨rfl, rfl⟩ ?_ (PtAllS.cons rfl ⟨rfl, rfl⟩ ?_ (PtAllS.nil rfl))))))))
              · intro L a W K hI hn hd hK
                have e0 : a.eval (.tmp 0) = .pointer (some ⟨hb, 0, none⟩) := hI.ev 0 (by show ¬ (0 ∈ [42, 43, 44, 45, 46, 47, 48, 49]); decide) rfl
                exact pt_move _ (by first | exact .inl rfl | exact .inr rfl) _ e0 (hK _ _ ⟨fun h => hI.j.1 (by simpa using h), hI.j.2⟩ PtKeep.refl rfl)
              · intro L a W K hI hn hd hK
                have e0 : a.eval (.tmp 0) = .pointer (some ⟨hb, 0, none⟩) := hI.ev 0 (by show ¬ (0 ∈ [42, 43, 44, 45, 46, 47, 48, 49]); decide) rfl
                exact pt_move _ (by first | exact .inl rfl | exact .inr rfl) _ e0 (hK _ _ ⟨fun h => hI.j.1 (by simpa using h), hI.j.2⟩ PtKeep.refl rfl)
              · intro L a W K hI hn hd hK
                have e43 : a.eval (.tmp 43) = .pointer (some ⟨hb, 0, none⟩) := hI.fact 1 43 _ rfl (dep_of hd 1 (by kernel_rfl))
                exact pt_val (v := .pointer (some ⟨hb, 0, none⟩)) (by unfold execOp; simp only [e43]; kernel_rfl) (hK _ _ ⟨fun h => hI.j.1 (by simpa using h), hI.j.2⟩ PtKeep.refl rfl)
              · intro L a W K hI hn hd hK
                have e44 : a.eval (.tmp 44) = .pointer (some ⟨hb, 0, none⟩) := hI.fact 2 44 _ rfl (dep_of hd 2 (by kernel_rfl))
                exact pt_val (v := .pointer (some ⟨hb, 0, none⟩)) (by unfold execOp; simp only [e44]; kernel_rfl) (hK _ _ ⟨fun h => hI.j.1 (by simpa using h), hI.j.2⟩ PtKeep.refl rfl)
              · intro L a W K hI hn hd hK
                have e45 : a.eval (.tmp 45) = .pointer (some ⟨hb, 0, none⟩) := hI.fact 3 45 _ rfl (dep_of hd 3 (by kernel_rfl))
                exact pt_load _ (.tmp 45) rfl ⟨hb, 0, none⟩ (.slice lo N lc) _ e45 (cell_blk (blk_only HB10.out hI.j.2 (fun e => (HLO.out hb e).2.1 rfl)) 0) Try.underlying22 rfl (hK _ _ ⟨fun h => hI.j.1 (by simpa using h), hI.j.2⟩ PtKeep.refl rfl)
              · intro L a W K hI hn hd hK
                have e9 : a.eval (.tmp 9) = .pointer (some ⟨wy.heap.size, 0, none⟩) := hI.ev 9 (by show ¬ (9 ∈ [42, 43, 44, 45, 46, 47, 48, 49]); decide) rfl
                exact wp_load_row _ (.tmp 9) rfl (wy.heap.size) e9 44 (#[.int .i64 ((N : Int) + 1), .int .i64 e.tm, .int .i64 e.k, .int .i64 e.a, .int .i64 e.b, .string (strOf e.name), .string (strOf e.text), .int .i64 uk, .int .i64 un, .string (strOf us), .slice ua um uc]) (0, 0) _ (blk_only HX10.out hI.j.2 (fun e => by have := (HLO.out _ e).1; omega)) Try.underlying44 rfl (info_ev) (hK _ _ ⟨fun h => hI.j.1 (by simpa using h), hI.j.2⟩ PtKeep.refl rfl)
              · intro L a W K hI hn hd hK
                have e47 : a.eval (.tmp 47) = .agg #[.int .i64 ((N : Int) + 1), .int .i64 e.tm, .int .i64 e.k, .int .i64 e.a, .int .i64 e.b, .string (strOf e.name), .string (strOf e.text), .int .i64 uk, .int .i64 un, .string (strOf us), .slice ua um uc] := hI.fact 5 47 _ rfl (dep_of hd 5 (by kernel_rfl))
                have ho := only_new W (.cells #[.int .i64 ((N : Int) + 1), .int .i64 e.tm, .int .i64 e.k, .int .i64 e.a, .int .i64 e.b, .string (strOf e.name), .string (strOf e.text), .int .i64 uk, .int .i64 un, .string (strOf us), .slice ua um uc] 44)
                exact wp_bldS _ 0 (.tmp 47) rfl (.agg #[.int .i64 ((N : Int) + 1), .int .i64 e.tm, .int .i64 e.k, .int .i64 e.a, .int .i64 e.b, .string (strOf e.name), .string (strOf e.text), .int .i64 uk, .int .i64 un, .string (strOf us), .slice ua um uc]) e47 _ _ (by kernel_rfl) (hK _ _ ⟨fun h => (hI.j.1 (by simpa using h)).trans ho (fun _ _ e => e), hI.j.2.trans ho (fun _ _ e => e.elim)⟩ (hstab.keep ho) ⟨W.heap.size, rfl, hI.j.2.size, blk_new W _⟩)
              · intro L a W K hI hn hd hK
                have e46 : a.eval (.tmp 46) = .slice lo N lc := hI.fact 4 46 _ rfl (dep_of hd 4 (by kernel_rfl))
                have f48 := hI.fact 6 48 _ rfl (dep_of hd 6 (by kernel_rfl))
                obtain ⟨gb, e48, h2, h3⟩ := f48
                refine wp_gc elE (by decide) (.tmp 46) (.tmp 48) rfl (HL10.out.only (hI.j.1 hn) (fun _ _ e => e)) e46 (some ⟨gb, 0, none⟩) 1 e48 [.int .i64 ((N : Int) + 1), .int .i64 e.tm, .int .i64 e.k, .int .i64 e.a, .int .i64 e.b, .string (strOf e.name), .string (strOf e.text), .int .i64 uk, .int .i64 un, .string (strOf us), .slice ua um uc] (SrcG.new h3 rfl (ev_ones _ _ _ _ _ _ _ _ _ _ _ _ _)) (by omega) (by decide) ?_
                intro ao' cap' W' g1 g2 g3
                refine hK _ _ ⟨fun h => absurd h (by simp), hI.j.2.trans g3 (fun _ _ e => e)⟩ ?_ ⟨ao', cap', rfl, g1, g2.imp id (fun ⟨q, h1, h2⟩ => ⟨q, h1, Nat.le_trans hI.j.2.size h2⟩)⟩
                exact PtStab.keep (R := Only (fun k => lo = some ⟨k, 0, none⟩)) (n := 7) ⟨fun _ _ _ _ _ h => h, fun _ _ _ _ _ h => h, fun _ _ _ _ _ h => h, fun _ _ _ _ _ h => h, fun _ _ _ _ _ h => h, fun _ _ _ _ _ h => h, fun _ W W' v hr ⟨gb, h1, h2, h3⟩ => ⟨gb, h1, h2, blk_only h3 hr (fun e => by have := (HLO.out gb e).1; omega)⟩, fun h => absurd rfl h, trivial⟩ g3
            · intro L a Wa hal hj hfs
              dsimp only [PtAll] at hfs
              obtain ⟨f42, f43, f44, f45, f46, f47, f48, f49, -⟩ := hfs
              obtain ⟨gb0, f48, -, -⟩ := f48
              obtain ⟨lo', lc', f49, hgc, hlo'⟩ := f49
              have hA := hal.turned
              simp only [List.map_cons, List.map_nil, Act.turned, f42, f43, f44, f45, f46, f47, f48, f49] at hA
              simp only [Act.put, List.setIfInBounds_toArray, List.set_cons_zero, List.set_cons_succ] at hA
              clear hal f42 f43 f44 f45 f46 f47 f48 f49
              subst hA
              change wpList _ _ _ [_, _, _] _ _
              obtain ⟨-, hj⟩ := hj
              have hza := hj.size
              have hba := blk_only HB10.out hj (fun e => (HLO.out hb e).2.1 rfl)
              have HJA := hid hj; have HBA := hid hba; have HGC := hid hgc; have HLO' := hid hlo'
              have h34 := H34.out
              clear hj hba hgc hlo'
              go_wp2_with ((guard_target =~ wpList _ _ _ (⟨none, .store 22 _ _, _, _, _, _⟩ :: _) _ _); refine wpList_store_1 rfl 22 (.tmp 51) (.tmp 49) rfl hb 0 (.slice lo' (N + 1) lc') rfl rfl info_es rfl _ 88 HBA.out (by rw [hc_size _ _ _ _ _ _ H34.out]; decide) ?_; intro w11 hb11 ho11 hs11; rw [hc_set0] at hb11; have HB11 := hid hb11; have HO11 := hid ho11; have HS11 := hid hs11; clear hb11 ho11 hs11)
              clear h34
              have hz11 : w11.heap.size = Wa.heap.size := HS11.out
              have hsm : Gc w11 29 32 so N sc CS := (HSM10.out.only HJA.out (fun g hg e => (HSO.out g hg).2.2 e)).only HO11.out (fun g hg e => (HSO.out g hg).2.1 e)
              have hgl1 : w11.heap[gs]? = some (.cells LL.toArray 29 (0, 0)) := blk_only (blk_only HS10B.out HJA.out (fun e => by have := (HLO.out gs e).1; omega)) HO11.out (fun e => by have e' : gs = hb := e; omega)
              have HSM11 := hid hsm; have HGS := hid hgl1
              clear hsm hgl1
              refine region_pt 8 [] (by kernel_rfl) (by kernel_rfl) (by kernel_rfl) [(52, fun _ v => v = .pointer (some ⟨hb, 0, none⟩)), (53, fun _ v => v = .pointer (some ⟨hb, 0, none⟩)), (54, fun _ v => v = .pointer (some ⟨hb, 0, none⟩)), (55, fun _ v => v = .pointer (some ⟨hb, 1, none⟩)), (56, fun _ v => v = .slice so N sc), (57, fun _ v => v = .agg LL.toArray), (58, fun W v => ∃ gb, v = .slice (some ⟨gb, 0, none⟩) 1 1 ∧ w11.heap.size ≤ gb ∧ W.heap[gb]? = some (.cells LL.toArray 29 (0, 0))), (59, fun W v => ∃ ao' cap', v = .slice ao' (N + 1) cap' ∧ Gc W 29 32 ao' (N + 1) cap' (CS ++ LL) ∧ (ao' = so ∨ ∃ q, ao' = some ⟨q, 0, none⟩ ∧ w11.heap.size ≤ q))] (fun L W => (L 7 = false → Only (fun _ => False) w11 W) ∧ Only (fun k => so = some ⟨k, 0, none⟩) w11 W) (by show [52, 53, 54, 55, 56, 57, 58, 59].Nodup; decide) (by show ∀ d ∈ [52, 53, 54, 55, 56, 57, 58, 59], d < 79; decide) ⟨fun _ => (Only.refl _ _).drew, (Only.refl _ _).drew⟩ (.inl rfl) ?_ ?_ ?_
              · exact trivial
              · have hstab : PtStabs (Only (fun _ => False)) [(52, fun _ v => v = .pointer (some ⟨hb, 0, none⟩)), (53, fun _ v => v = .pointer (some ⟨hb, 0, none⟩)), (54, fun _ v => v = .pointer (some ⟨hb, 0, none⟩)), (55, fun _ v => v = .pointer (some ⟨hb, 1, none⟩)), (56, fun _ v => v = .slice so N sc), (57, fun _ v => v = .agg LL.toArray), (58, fun W v => ∃ gb, v = .slice (some ⟨gb, 0, none⟩) 1 1 ∧ w11.heap.size ≤ gb ∧ W.heap[gb]? = some (.cells LL.toArray 29 (0, 0))), (59, fun W v => ∃ ao' cap', v = .slice ao' (N + 1) cap' ∧ Gc W 29 32 ao' (N + 1) cap' (CS ++ LL) ∧ (ao' = so ∨ ∃ q, ao' = some ⟨q, 0, none⟩ ∧ w11.heap.size ≤ q))] := ⟨fun _ _ _ _ h => h, fun _ _ _ _ h => h, fun _ _ _ _ h => h, fun _ _ _ _ h => h, fun _ _ _ _ h => h, fun _ _ _ _ h => h, fun W W' v hr ⟨gb, h1, h2, h3⟩ => ⟨gb, h1, h2, blk_only h3 hr (fun e => e)⟩, fun W W' v hr ⟨ao', cap', h1, h2, h3⟩ => ⟨ao', cap', h1, h2.only hr (fun _ _ e => e), h3⟩, trivial⟩
                refine PtAllS.cons rfl ⟨rfl, rfl⟩ ?_ (PtAllS.cons rfl ⟨rfl, rfl⟩ ?_ (PtAllS.cons rfl ⟨rfl, rfl⟩ ?_ (PtAllS.cons rfl ⟨rfl, rfl⟩ ?_ (PtAllS.cons rfl ⟨rfl, rfl⟩ ?_ (PtAllS.cons rfl ⟨rfl, rfl⟩ ?_ (PtAllS.cons rfl ⟨rfl, rfl⟩ ?_ (PtAllS.cons rfl ⟨rfl, rfl⟩ ?_ (PtAllS.nil rfl))))))))
                · intro L a W K hI hn hd hK
                  have e0 : a.eval (.tmp 0) = .pointer (some ⟨hb, 0, none⟩) := hI.ev 0 (by show ¬ (0 ∈ [52, 53, 54, 55, 56, 57, 58, 59]); decide) rfl
                  exact pt_move _ (by first | exact .inl rfl | exact .inr rfl) _ e0 (hK _ _ ⟨fun h => hI.j.1 (by simpa using h), hI.j.2⟩ PtKeep.refl rfl)
                · intro L a W K hI hn hd hK
                  have e0 : a.eval (.tmp 0) = .pointer (some ⟨hb, 0, none⟩) := hI.ev 0 (by show ¬ (0 ∈ [52, 53, 54, 55, 56, 57, 58, 59]); decide) rfl
                  exact pt_move _ (by first | exact .inl rfl | exact .inr rfl) _ e0 (hK _ _ ⟨fun h => hI.j.1 (by simpa using h), hI.j.2⟩ PtKeep.refl rfl)
                · intro L a W K hI hn hd hK
                  have e53 : a.eval (.tmp 53) = .pointer (some ⟨hb, 0, none⟩) := hI.fact 1 53 _ rfl (dep_of hd 1 (by kernel_rfl))
                  exact pt_val (v := .pointer (some ⟨hb, 0, none⟩)) (by unfold execOp; simp only [e53]; kernel_rfl) (hK _ _ ⟨fun h => hI.j.1 (by simpa using h), hI.j.2⟩ PtKeep.refl rfl)
                · intro L a W K hI hn hd hK
                  have e54 : a.eval (.tmp 54) = .pointer (some ⟨hb, 0, none⟩) := hI.fact 2 54 _ rfl (dep_of hd 2 (by kernel_rfl))
                  exact pt_val (v := .pointer (some ⟨hb, 1, none⟩)) (by unfold execOp; simp only [e54]; kernel_rfl) (hK _ _ ⟨fun h => hI.j.1 (by simpa using h), hI.j.2⟩ PtKeep.refl rfl)
                · intro L a W K hI hn hd hK
                  have e55 : a.eval (.tmp 55) = .pointer (some ⟨hb, 1, none⟩) := hI.fact 3 55 _ rfl (dep_of hd 3 (by kernel_rfl))
                  exact pt_load _ (.tmp 55) rfl ⟨hb, 1, none⟩ (.slice so N sc) _ e55 (cell_blk (blk_only HB11.out hI.j.2 (fun e => (HSO.out hb e).2.1 rfl)) 1) Try.underlying64 rfl (hK _ _ ⟨fun h => hI.j.1 (by simpa using h), hI.j.2⟩ PtKeep.refl rfl)
                · intro L a W K hI hn hd hK
                  have e10 : a.eval (.tmp 10) = .pointer (some ⟨gs, 0, none⟩) := hI.ev 10 (by show ¬ (10 ∈ [52, 53, 54, 55, 56, 57, 58, 59]); decide) rfl
                  exact wp_load_row _ (.tmp 10) rfl (gs) e10 29 (LL.toArray) (0, 0) _ (blk_only HGS.out hI.j.2 (fun e => by have := (HSO.out _ e).1; omega)) Try.underlying29 rfl (HLLi.out) (hK _ _ ⟨fun h => hI.j.1 (by simpa using h), hI.j.2⟩ PtKeep.refl rfl)
                · intro L a W K hI hn hd hK
                  have e57 : a.eval (.tmp 57) = .agg LL.toArray := hI.fact 5 57 _ rfl (dep_of hd 5 (by kernel_rfl))
                  have ho := only_new W (.cells LL.toArray 29)
                  exact wp_bldS _ 0 (.tmp 57) rfl (.agg LL.toArray) e57 _ _ (HBS.out _) (hK _ _ ⟨fun h => (hI.j.1 (by simpa using h)).trans ho (fun _ _ e => e), hI.j.2.trans ho (fun _ _ e => e.elim)⟩ (hstab.keep ho) ⟨W.heap.size, rfl, hI.j.2.size, blk_new W _⟩)
                · intro L a W K hI hn hd hK
                  have e56 : a.eval (.tmp 56) = .slice so N sc := hI.fact 4 56 _ rfl (dep_of hd 4 (by kernel_rfl))
                  have f58 := hI.fact 6 58 _ rfl (dep_of hd 6 (by kernel_rfl))
                  obtain ⟨gb, e58, h2, h3⟩ := f58
                  refine wp_gc elS (by decide) (.tmp 56) (.tmp 58) rfl (HSM11.out.only (hI.j.1 hn) (fun _ _ e => e)) e56 (some ⟨gb, 0, none⟩) 1 e58 LL (SrcG.new h3 (by rw [HLLs.out]) HLLo.out) (by omega) (by decide) ?_
                  intro ao' cap' W' g1 g2 g3
                  refine hK _ _ ⟨fun h => absurd h (by simp), hI.j.2.trans g3 (fun _ _ e => e)⟩ ?_ ⟨ao', cap', rfl, g1, g2.imp id (fun ⟨q, h1, h2⟩ => ⟨q, h1, Nat.le_trans hI.j.2.size h2⟩)⟩
                  exact PtStab.keep (R := Only (fun k => so = some ⟨k, 0, none⟩)) (n := 7) ⟨fun _ _ _ _ _ h => h, fun _ _ _ _ _ h => h, fun _ _ _ _ _ h => h, fun _ _ _ _ _ h => h, fun _ _ _ _ _ h => h, fun _ _ _ _ _ h => h, fun _ W W' v hr ⟨gb, h1, h2, h3⟩ => ⟨gb, h1, h2, blk_only h3 hr (fun e => by have := (HSO.out gb e).1; omega)⟩, fun h => absurd rfl h, trivial⟩ g3
              · intro L a Wb hal hj hfs
                dsimp only [PtAll] at hfs
                obtain ⟨f52, f53, f54, f55, f56, f57, f58, f59, -⟩ := hfs
                obtain ⟨gb1, f58, -, -⟩ := f58
                obtain ⟨so', sc', f59, hgs2, hso'⟩ := f59
                have hA := hal.turned
                simp only [List.map_cons, List.map_nil, Act.turned, f52, f53, f54, f55, f56, f57, f58, f59] at hA
                simp only [Act.put, List.setIfInBounds_toArray, List.set_cons_zero, List.set_cons_succ] at hA
                clear hal f52 f53 f54 f55 f56 f57 f58 f59
                subst hA
                change wpList _ _ _ [_, _, _] _ _
                obtain ⟨-, hj⟩ := hj
                have hzb := hj.size
                have hbb := blk_only HB11.out hj (fun e => (HSO.out hb e).2.1 rfl)
                have hxb2 : Wb.heap[wy.heap.size]? = some (.cells #[.int .i64 ((N : Int) + 1), .int .i64 e.tm, .int .i64 e.k, .int .i64 e.a, .int .i64 e.b, .string (strOf e.name), .string (strOf e.text), .int .i64 uk, .int .i64 un, .string (strOf us), .slice ua um uc] 44 (0, 0)) := blk_only (blk_only (blk_only HX10.out HJA.out (fun e => by have := (HLO.out _ e).1; omega)) HO11.out (fun e => by have e' : wy.heap.size = hb := e; omega)) hj (fun e => by have := (HSO.out _ e).1; omega)
                have HJB := hid hj; have HBB := hid hbb; have HGS2 := hid hgs2; have HSO' := hid hso'; have HXB := hid hxb2
                clear hj hbb hgs2 hso' hxb2
                have HOT : Hid (∀ W, Only (fun k => k = hb) Wb W → W.heap.size = Wb.heap.size → Calls Try.prog 51 #[.agg #[.int .i64 ((N : Int) + 1), .int .i64 e.tm, .int .i64 e.k, .int .i64 e.a, .int .i64 e.b, .string (strOf e.name), .string (strOf e.text), .int .i64 uk, .int .i64 un, .string (strOf us), .slice ua um uc]] W fun x w' => x = .returned (.bool (outsideB e'.k)) ∧ Only (fun _ => False) W w') := hid fun W hW hs => outside_c (w := W) (G := New w1 w9) (e := e') (cs := [.int .i64 ((N : Int) + 1), .int .i64 e.tm, .int .i64 e.k, .int .i64 e.a, .int .i64 e.b, .string (strOf e.name), .string (strOf e.text), .int .i64 uk, .int .i64 un, .string (strOf us), .slice ua um uc]) (((((HE9.out.same HJ9.out).only HO10.out (fun k hk e => by have e' : k = gs := e; have h2 : k < w9.heap.size := hk.2; omega)).only HJA.out (fun k hk e => by have h1 := (HLO.out k e).1; have h2 : w1.heap.size ≤ k := hk.1; omega)).only HO11.out (fun k hk e => by have e' : k = hb := e; have h2 : w1.heap.size ≤ k := hk.1; omega) |>.only HJB.out (fun k hk e => by have h1 := (HSO.out k e).1; have h2 : w1.heap.size ≤ k := hk.1; omega)) |>.only hW (fun k hk e => by have e' : k = hb := e; have h2 : w1.heap.size ≤ k := hk.1; omega))
                
                go_wp2_with (first
                  | ((guard_target =~ wpList _ _ _ (⟨none, .store 64 _ _, _, _, _, _⟩ :: _) _ _); refine wpList_store_1 rfl 64 (.tmp 61) (.tmp 59) rfl hb 1 (.slice so' (N + 1) sc') rfl rfl info_ss rfl _ 88 HBB.out (by rw [hc_size _ _ _ _ _ _ H34.out]; decide) ?_; intro w12 hb12 ho12 hs12; rw [hc_set1] at hb12; have HB12 := hid hb12; have HO12 := hid ho12; have HS12 := hid hs12; have HX12 := hid (blk_only HXB.out ho12 (fun e => by have e' : wy.heap.size = hb := e; omega)); clear hb12 ho12 hs12)
                  | ((guard_target =~ wpList _ _ _ (⟨some 62, _, _, _, _, _⟩ :: _) _ _); refine wpList_load_row rfl 44 (.tmp 9) rfl wy.heap.size rfl 44 #[.int .i64 ((N : Int) + 1), .int .i64 e.tm, .int .i64 e.k, .int .i64 e.a, .int .i64 e.b, .string (strOf e.name), .string (strOf e.text), .int .i64 uk, .int .i64 un, .string (strOf us), .slice ua um uc] (0, 0) _ HX12.out Try.underlying44 rfl info_ev ?_))
                refine (HOT.out w12 HO12.out HS12.out).mono ?_
                rintro x w13 ⟨rfl, ho13⟩
                have HB13 := hid (blk_only HB12.out ho13 (fun e => e)); have HX13 := hid (blk_only HX12.out ho13 (fun e => e)); have HO13 := hid ho13
                have hz12 : w12.heap.size = Wb.heap.size := HS12.out
                have hz13 := ho13.size
                clear ho13
                obtain ⟨ob, hob⟩ : ∃ x, outsideB e'.k = x := ⟨_, rfl⟩
                rw [hob]
                have HOB := hid hob
                clear hob
                cases ob with
                | false =>
                  obtain ⟨w14, hw14⟩ : ∃ x, x = w13 := ⟨w13, rfl⟩
                  subst hw14
                  have HB14 := hid HB13.out; have HX14 := hid HX13.out; have HO14 := hid (Only.refl (fun k => k = hb) w14); have HS14 := hid (rfl : w14.heap.size = w14.heap.size)
                  have c0 : w14.cell? ⟨wy.heap.size, 0, none⟩ = some (.int .i64 ((N : Int) + 1)) := cell_blk HX14.out 0
                  have c1 : w14.cell? ⟨wy.heap.size, 1, none⟩ = some (.int .i64 e.tm) := cell_blk HX14.out 1
                  have c2 : w14.cell? ⟨wy.heap.size, 2, none⟩ = some (.int .i64 e.k) := cell_blk HX14.out 2
                  have c3 : w14.cell? ⟨wy.heap.size, 3, none⟩ = some (.int .i64 e.a) := cell_blk HX14.out 3
                  have c4 : w14.cell? ⟨wy.heap.size, 4, none⟩ = some (.int .i64 e.b) := cell_blk HX14.out 4
                  have c5 : w14.cell? ⟨wy.heap.size, 5, none⟩ = some (.string (strOf e.name)) := cell_blk HX14.out 5
                  have c6 : w14.cell? ⟨wy.heap.size, 6, none⟩ = some (.string (strOf e.text)) := cell_blk HX14.out 6
                  have c7 : w14.cell? ⟨wy.heap.size, 7, none⟩ = some (.int .i64 uk) := cell_blk HX14.out 7
                  have c8 : w14.cell? ⟨wy.heap.size, 8, none⟩ = some (.int .i64 un) := cell_blk HX14.out 8
                  have c9 : w14.cell? ⟨wy.heap.size, 9, none⟩ = some (.string (strOf us)) := cell_blk HX14.out 9
                  have c10 : w14.cell? ⟨wy.heap.size, 10, none⟩ = some (.slice ua um uc) := cell_blk HX14.out 10
                  have HTL : Hid (lastT 0 (ej ++ [e']) = T) := hid (by rw [lastT_snoc, HOB.out, if_neg (by simp), HT.out])
                  go_wp2_with fail
                  have hz14 : w14.heap.size = w14.heap.size := rfl
                  have hT3 : Only (fun k => k = hb ∨ lo = some ⟨k, 0, none⟩ ∨ so = some ⟨k, 0, none⟩) wy w14 := (((((((HD10.out.mono (G := fun k => k = hb ∨ lo = some ⟨k, 0, none⟩ ∨ so = some ⟨k, 0, none⟩) (fun _ _ e => e.elim)).trans HJA.out (fun _ _ e => .inr (.inl e))).trans HO11.out (fun _ _ e => .inl e)).trans HJB.out (fun _ _ e => .inr (.inr e))).trans HO12.out (fun _ _ e => .inl e)).trans HO13.out (fun _ _ e => e.elim)).trans HO14.out (fun _ _ e => .inl e))
                  have hE14 : EAt w14 (New w1 w9) e' [.int .i64 ((N : Int) + 1), .int .i64 e.tm, .int .i64 e.k, .int .i64 e.a, .int .i64 e.b, .string (strOf e.name), .string (strOf e.text), .int .i64 uk, .int .i64 un, .string (strOf us), .slice ua um uc] := ((((((HE9.out.same HJ9.out).only HO10.out (fun k hk e => by have e' : k = gs := e; have h2 : k < w9.heap.size := hk.2; omega)).only HJA.out (fun k hk e => by have h1 := (HLO.out k e).1; have h2 : w1.heap.size ≤ k := hk.1; omega)).only HO11.out (fun k hk e => by have e' : k = hb := e; have h2 : w1.heap.size ≤ k := hk.1; omega)).only HJB.out (fun k hk e => by have h1 := (HSO.out k e).1; have h2 : w1.heap.size ≤ k := hk.1; omega)).only HO12.out (fun k hk e => by have e' : k = hb := e; have h2 : w1.heap.size ≤ k := hk.1; omega)).same HO13.out |>.only HO14.out (fun k hk e => by have e' : k = hb := e; have h2 : w1.heap.size ≤ k := hk.1; omega)
                  have hH14 : HRep w14 hb (fun k => Fj k ∨ (wy.heap.size < k ∧ k < w14.heap.size)) s (ej ++ [e']) lo' lc' (xl ++ [.int .i64 ((N : Int) + 1), .int .i64 e.tm, .int .i64 e.k, .int .i64 e.a, .int .i64 e.b, .string (strOf e.name), .string (strOf e.text), .int .i64 uk, .int .i64 un, .string (strOf us), .slice ua um uc]) so' sc' := by
                    have hln := HLN.out
                    refine HH1.out.snoc (a := w1.heap.size) (b := w9.heap.size) hT3 (by rw [hln, HTL.out]; exact HB14.out) (by rw [← HE'.out, hln]; rfl) HGD'.out HRG'.out (by rw [← HE'.out]; exact cl_cl _) (by rw [← HE'.out]; exact Nat.le_trans (cl_sz3 _) (Hz.out e (List.mem_of_getElem? HEm.out))) (by omega) ?_ ?_ hE14 (by omega) (by omega) ?_ ?_ (by omega)
                    · rw [hln]; refine ((((HGC.out.only HO11.out (fun g hg e => ?_)).only HJB.out (fun g hg e => ?_)).only HO12.out (fun g hg e => ?_)).only HO13.out (fun _ _ e => e)).only HO14.out (fun g hg e => ?_)
                      all_goals
                        rcases HLO'.out with h | ⟨q, h, hq⟩
                        · rw [h] at hg
                          first | exact (HLO.out g hg).2.1 e | exact (HLO.out g hg).2.2 e
                        · rw [h] at hg
                          simp only [Option.some.injEq, Addr.mk.injEq, and_true] at hg
                          first | (have e' : g = hb := e; omega) | (have := (HSO.out g e).1; omega)
                    · rw [hln, HCS.out, HLLe.out]; refine ((HGS2.out.only HO12.out (fun g hg e => ?_)).only HO13.out (fun _ _ e => e)).only HO14.out (fun g hg e => ?_)
                      all_goals
                        rcases HSO'.out with h | ⟨q, h, hq⟩
                        · rw [h] at hg
                          exact (HSO.out g hg).2.1 e
                        · rw [h] at hg
                          simp only [Option.some.injEq, Addr.mk.injEq, and_true] at hg
                          have e' : g = hb := e
                          omega
                    · rcases HLO'.out with h | ⟨q, h, hq⟩
                      · exact .inl h
                      · have hql := HGC.out.lt h
                        refine .inr ⟨q, h, by omega, by omega, fun e => ?_⟩
                        rcases HSO'.out with h2 | ⟨q2, h2, hq2⟩
                        · rw [h2] at e
                          have := (HSO.out q e).1; omega
                        · rw [h2] at e
                          simp only [Option.some.injEq, Addr.mk.injEq, and_true] at e
                          omega
                    · rcases HSO'.out with h | ⟨q, h, hq⟩
                      · exact .inl h
                      · have hql := HGS2.out.lt h
                        refine .inr ⟨q, h, by omega, by omega, fun e => ?_⟩
                        have := HGC.out.lt e; omega
                  have HV14 : Hid (VAt w14 (New w1 w9) e.v.cl [.int .i64 uk, .int .i64 un, .string (strOf us), .slice ua um uc]) := hid (by
                    obtain ⟨vc', h1, h2⟩ := hE14
                    rw [← HE'.out] at h1 h2
                    have h3 : [.int .i64 uk, .int .i64 un, .string (strOf us), .slice ua um uc] = vc' := by simpa [EM.cells, EM.cl, EM.nth] using h1
                    rw [h3]; exact h2)
                  have HT3 := hid hT3; have HH14 := hid hH14
                  have HC14 := hid (cloneC _ e.v.cl (Nat.le_refl _) w14 _ _ HV14.out (fun i hi => by have h1 : i < w9.heap.size := hi.2; omega) (cl_rg _ HRG.out.2.2.2.2.2.2.2) (by have h1 := cl_sz3 e.v; have h2 := Hz.out e (List.mem_of_getElem? HEm.out); omega))
                  clear hT3 hE14 hH14
                  refine HC14.out.mono ?_
                  rintro x w15 ⟨cs15, rfl, hv15, ho15, hs15⟩
                  rw [cl_cl] at hv15
                  obtain ⟨tk, tn, ts, ta, tm, tc, rfl⟩ := hv15.form
                  have hx15 := blk_only HX14.out ho15 (fun e => e)
                  clear c0 c1 c2 c3 c4 c5 c6 c7 c8 c9 c10
                  have c0 : w15.cell? ⟨wy.heap.size, 0, none⟩ = some (.int .i64 ((N : Int) + 1)) := cell_blk hx15 0
                  have c1 : w15.cell? ⟨wy.heap.size, 1, none⟩ = some (.int .i64 e.tm) := cell_blk hx15 1
                  have c2 : w15.cell? ⟨wy.heap.size, 2, none⟩ = some (.int .i64 e.k) := cell_blk hx15 2
                  have c3 : w15.cell? ⟨wy.heap.size, 3, none⟩ = some (.int .i64 e.a) := cell_blk hx15 3
                  have c4 : w15.cell? ⟨wy.heap.size, 4, none⟩ = some (.int .i64 e.b) := cell_blk hx15 4
                  have c5 : w15.cell? ⟨wy.heap.size, 5, none⟩ = some (.string (strOf e.name)) := cell_blk hx15 5
                  have c6 : w15.cell? ⟨wy.heap.size, 6, none⟩ = some (.string (strOf e.text)) := cell_blk hx15 6
                  have c7 : w15.cell? ⟨wy.heap.size, 7, none⟩ = some (.int .i64 uk) := cell_blk hx15 7
                  have c8 : w15.cell? ⟨wy.heap.size, 8, none⟩ = some (.int .i64 un) := cell_blk hx15 8
                  have c9 : w15.cell? ⟨wy.heap.size, 9, none⟩ = some (.string (strOf us)) := cell_blk hx15 9
                  have c10 : w15.cell? ⟨wy.heap.size, 10, none⟩ = some (.slice ua um uc) := cell_blk hx15 10
                  have hz15 := ho15.size
                  have HX15 := hid hx15; have HV15 := hid hv15; have HO15 := hid ho15; have HS15 := hid hs15
                  clear hx15 hv15 ho15 hs15
                  go_wp2_with (first
                    | ((guard_target =~ wpList _ _ _ (⟨none, .store 42 _ _, _, _, _, _⟩ :: _) _ _); refine wpList_store_in rfl 42 (.tmp 72) (.tmp 71) rfl wy.heap.size 7 #[.int .i64 tk, .int .i64 tn, .string (strOf ts), .slice ta tm tc] rfl rfl #[.int .i64 ((N : Int) + 1), .int .i64 e.tm, .int .i64 e.k, .int .i64 e.a, .int .i64 e.b, .string (strOf e.name), .string (strOf e.text), .int .i64 uk, .int .i64 un, .string (strOf us), .slice ua um uc] 44 HX15.out (Nat.le_refl 11) info_val (val_one tk tn (strOf ts) ta tm tc) ?_; intro w16 hb16 ho16 hs16; have hb16 : w16.heap[wy.heap.size]? = some (.cells #[.int .i64 ((N : Int) + 1), .int .i64 e.tm, .int .i64 e.k, .int .i64 e.a, .int .i64 e.b, .string (strOf e.name), .string (strOf e.text), .int .i64 tk, .int .i64 tn, .string (strOf ts), .slice ta tm tc] 44 (0, 0)) := hb16; clear c0 c1 c2 c3 c4 c5 c6 c7 c8 c9 c10; have c0 : w16.cell? ⟨wy.heap.size, 0, none⟩ = some (.int .i64 ((N : Int) + 1)) := cell_blk hb16 0; have c1 : w16.cell? ⟨wy.heap.size, 1, none⟩ = some (.int .i64 e.tm) := cell_blk hb16 1; have c2 : w16.cell? ⟨wy.heap.size, 2, none⟩ = some (.int .i64 e.k) := cell_blk hb16 2; have c3 : w16.cell? ⟨wy.heap.size, 3, none⟩ = some (.int .i64 e.a) := cell_blk hb16 3; have c4 : w16.cell? ⟨wy.heap.size, 4, none⟩ = some (.int .i64 e.b) := cell_blk hb16 4; have c5 : w16.cell? ⟨wy.heap.size, 5, none⟩ = some (.string (strOf e.name)) := cell_blk hb16 5; have c6 : w16.cell? ⟨wy.heap.size, 6, none⟩ = some (.string (strOf e.text)) := cell_blk hb16 6; have c7 : w16.cell? ⟨wy.heap.size, 7, none⟩ = some (.int .i64 tk) := cell_blk hb16 7; have c8 : w16.cell? ⟨wy.heap.size, 8, none⟩ = some (.int .i64 tn) := cell_blk hb16 8; have c9 : w16.cell? ⟨wy.heap.size, 9, none⟩ = some (.string (strOf ts)) := cell_blk hb16 9; have c10 : w16.cell? ⟨wy.heap.size, 10, none⟩ = some (.slice ta tm tc) := cell_blk hb16 10; have hlx : wy.heap.size < w16.heap.size := blk_lt hb16; have HB16 := hid hb16; have HO16 := hid ho16; have HS16 := hid hs16; clear hb16 ho16 hs16)
                    | ((guard_target =~ wpList _ _ _ (⟨some 76, _, _, _, _, _⟩ :: _) _ _); refine wpList_gr rfl elE (.tmp 73) (.tmp 75) rfl ((HOUT.out.only (HT3.out.trans ((HO15.out.mono (G := fun k => k = wy.heap.size) (fun _ _ e => e.elim)).trans (HO16.out.trans ((only_new w16 _).mono (fun _ _ e => e.elim)) (fun _ _ e => e)) (fun _ _ e => e)) (fun k hk e => by have e' : k = wy.heap.size := e; omega)) (fun k hk _ e => by rcases e with e | e | e; exact HDI.out k hk (by rw [e]; exact HH1.out.fb); exact HDI.out k hk (HH1.out.fl k e).1; exact HDI.out k hk (HH1.out.fs k e).1)).gr) rfl (some ⟨w16.heap.size, 0, none⟩) 1 1 rfl [.int .i64 ((N : Int) + 1), .int .i64 e.tm, .int .i64 e.k, .int .i64 e.a, .int .i64 e.b, .string (strOf e.name), .string (strOf e.text), .int .i64 tk, .int .i64 tn, .string (strOf ts), .slice ta tm tc] (SrcG.new (blk_new w16 _) rfl (ev_ones _ _ _ _ _ _ _ _ _ _ _ _ _)) (by omega) (by omega) ?_; intro ao' cp' w17 hg17 ha17 ho17; have HG17 := hid hg17; have HA17 := hid ha17; have HO17 := hid ho17; clear hg17 ha17 ho17))
                  go_roundw
                  case rel =>
                    have hT4 := HT3.out.trans ((HO15.out.mono (G := fun k => k = wy.heap.size) (fun _ _ e => e.elim)).trans (HO16.out.trans ((only_new w16 (.cells #[.int .i64 ((N : Int) + 1), .int .i64 e.tm, .int .i64 e.k, .int .i64 e.a, .int .i64 e.b, .string (strOf e.name), .string (strOf e.text), .int .i64 tk, .int .i64 tn, .string (strOf ts), .slice ta tm tc] 44)).mono (fun _ _ e => e.elim)) (fun _ _ e => e)) (fun _ _ e => e)) (fun k hk e => by have e' : k = wy.heap.size := e; omega)
                    have h6b : Only (fun k => k = wy.heap.size) w15 (w16.alloc (.cells #[.int .i64 ((N : Int) + 1), .int .i64 e.tm, .int .i64 e.k, .int .i64 e.a, .int .i64 e.b, .string (strOf e.name), .string (strOf e.text), .int .i64 tk, .int .i64 tn, .string (strOf ts), .slice ta tm tc] 44)) := HO16.out.trans ((only_new w16 _).mono (fun _ _ e => e.elim)) (fun _ _ e => e)
                    have hz16 : w16.heap.size = w15.heap.size := HS16.out
                    have hz17 := HO17.out.size
                    simp only [World.size_alloc] at hz17
                    have hFh := HH1.out.fb; have hFl := HH1.out.fl; have hFs := HH1.out.fs; have hFlt := HH1.out.lt
                    have hao : ∀ q, ao = some ⟨q, 0, none⟩ → Bj q ∧ q < wy.heap.size := fun q hq => ⟨HOUT.out.new q hq, HOUT.out.gr.lt hq⟩
                    have hDJ : ∀ k, Bj k → k < wy.heap.size → ¬ (k = hb ∨ lo = some ⟨k, 0, none⟩ ∨ so = some ⟨k, 0, none⟩) := fun k hk _ e => by
                      rcases e with e | e | e
                      · exact HDI.out k hk (by rw [e]; exact hFh)
                      · exact HDI.out k hk (hFl k e).1
                      · exact HDI.out k hk (hFs k e).1
                    have hsn := (HOUT.out.turn (B' := fun k => Bj k ∨ w14.heap.size ≤ k) (fun k _ hk => .inl hk)).snoc (e := e') (vc := [.int .i64 tk, .int .i64 tn, .string (strOf ts), .slice ta tm tc]) hT4 (fun k hk hl => hDJ k (by rcases hk with hk | hk; exact hk; omega) hl) (by omega) (fun k hk => .inr hk) (by rw [← HE'.out]; exact HV15.out) HS15.out h6b (by omega) (fun k hk e => by have e' : k = wy.heap.size := e; omega) (by rw [← HE'.out]; exact HG17.out) HA17.out HO17.out
                    refine ⟨j + 1, cp', ao', xs ++ e'.cells [.int .i64 tk, .int .i64 tn, .string (strOf ts), .slice ta tm tc], (fun k => Fj k ∨ (wy.heap.size < k ∧ k < w14.heap.size)), (fun k => (Bj k ∨ w14.heap.size ≤ k) ∧ k < w17.heap.size), by go_num, by omega, rfl, ?_, ?_, ?_, ?_, ?_, ?_⟩
                    · rw [HT1.out, HE'.out, ← List.append_assoc, HEJ.out]
                      refine ⟨lo', lc', _, so', sc', ((HH14.out.same HO15.out).only h6b (fun k hk e => ?_)).only HO17.out (fun k hk e => ?_)⟩
                      · have e' : k = wy.heap.size := e
                        rcases hk with hk | hk
                        · have := hFlt k hk; omega
                        · omega
                      · obtain ⟨h1, h2⟩ := hao k e
                        rcases hk with hk | hk
                        · exact HDI.out k h1 hk
                        · omega
                    · rw [HT1.out, HE'.out]
                      exact hsn.turn (fun k h1 h2 => ⟨h2, h1⟩)
                    · intro k hk hf
                      rcases hk.1 with hk1 | hk1
                      · rcases hf with hf | hf
                        · exact HDI.out k hk1 hf
                        · have := (HBJ.out k hk1).2; omega
                      · rcases hf with hf | hf
                        · have := hFlt k hf; omega
                        · omega
                    · intro k hk
                      rcases hk with hk | hk
                      · exact HFJ.out k hk
                      · right; omega
                    · intro k hk
                      refine ⟨?_, hk.2⟩
                      rcases hk.1 with hk1 | hk1
                      · exact (HBJ.out k hk1).1
                      · omega
                    · refine (HO.out.trans hT4 (fun k hk e => ?_)).trans HO17.out (fun k hk e => ?_)
                      · rcases e with e | e | e
                        · rw [e] at hk ⊢; exact (HFJ.out hb hFh).elim id (fun h => by omega)
                        · exact (HFJ.out k (hFl k e).1).elim id (fun h => by omega)
                        · exact (HFJ.out k (hFs k e).1).elim id (fun h => by omega)
                      · have h1 := (HBJ.out k (hao k e).1).1; omega
                  case measure => simp [intOf]; omega
                | true =>
                  have c0 : w13.cell? ⟨wy.heap.size, 0, none⟩ = some (.int .i64 ((N : Int) + 1)) := cell_blk HX13.out 0
                  have c1 : w13.cell? ⟨wy.heap.size, 1, none⟩ = some (.int .i64 e.tm) := cell_blk HX13.out 1
                  have c2 : w13.cell? ⟨wy.heap.size, 2, none⟩ = some (.int .i64 e.k) := cell_blk HX13.out 2
                  have c3 : w13.cell? ⟨wy.heap.size, 3, none⟩ = some (.int .i64 e.a) := cell_blk HX13.out 3
                  have c4 : w13.cell? ⟨wy.heap.size, 4, none⟩ = some (.int .i64 e.b) := cell_blk HX13.out 4
                  have c5 : w13.cell? ⟨wy.heap.size, 5, none⟩ = some (.string (strOf e.name)) := cell_blk HX13.out 5
                  have c6 : w13.cell? ⟨wy.heap.size, 6, none⟩ = some (.string (strOf e.text)) := cell_blk HX13.out 6
                  have c7 : w13.cell? ⟨wy.heap.size, 7, none⟩ = some (.int .i64 uk) := cell_blk HX13.out 7
                  have c8 : w13.cell? ⟨wy.heap.size, 8, none⟩ = some (.int .i64 un) := cell_blk HX13.out 8
                  have c9 : w13.cell? ⟨wy.heap.size, 9, none⟩ = some (.string (strOf us)) := cell_blk HX13.out 9
                  have c10 : w13.cell? ⟨wy.heap.size, 10, none⟩ = some (.slice ua um uc) := cell_blk HX13.out 10
                  go_wp2_with ((guard_target =~ wpList _ _ _ (⟨none, .store 2 _ _, _, _, _, _⟩ :: _) _ _); refine wpList_store_1 rfl 2 (.tmp 68) (.tmp 66) rfl hb 34 (.int .i64 e.tm) rfl rfl info_64 rfl _ 88 HB13.out (by rw [hc_size _ _ _ _ _ _ H34.out]; decide) ?_; intro w14 hb14 ho14 hs14; rw [hc_set34 _ _ _ _ _ _ H34.out] at hb14; have HB14 := hid hb14; have HO14 := hid ho14; have HS14 := hid hs14; have HX14 := hid (blk_only HX13.out ho14 (fun e => by have e' : wy.heap.size = hb := e; omega)); clear hb14 ho14 hs14 c0 c1 c2 c3 c4 c5 c6 c7 c8 c9 c10; have c0 : w14.cell? ⟨wy.heap.size, 0, none⟩ = some (.int .i64 ((N : Int) + 1)) := cell_blk HX14.out 0; have c1 : w14.cell? ⟨wy.heap.size, 1, none⟩ = some (.int .i64 e.tm) := cell_blk HX14.out 1; have c2 : w14.cell? ⟨wy.heap.size, 2, none⟩ = some (.int .i64 e.k) := cell_blk HX14.out 2; have c3 : w14.cell? ⟨wy.heap.size, 3, none⟩ = some (.int .i64 e.a) := cell_blk HX14.out 3; have c4 : w14.cell? ⟨wy.heap.size, 4, none⟩ = some (.int .i64 e.b) := cell_blk HX14.out 4; have c5 : w14.cell? ⟨wy.heap.size, 5, none⟩ = some (.string (strOf e.name)) := cell_blk HX14.out 5; have c6 : w14.cell? ⟨wy.heap.size, 6, none⟩ = some (.string (strOf e.text)) := cell_blk HX14.out 6; have c7 : w14.cell? ⟨wy.heap.size, 7, none⟩ = some (.int .i64 uk) := cell_blk HX14.out 7; have c8 : w14.cell? ⟨wy.heap.size, 8, none⟩ = some (.int .i64 un) := cell_blk HX14.out 8; have c9 : w14.cell? ⟨wy.heap.size, 9, none⟩ = some (.string (strOf us)) := cell_blk HX14.out 9; have c10 : w14.cell? ⟨wy.heap.size, 10, none⟩ = some (.slice ua um uc) := cell_blk HX14.out 10)
                  have HTL : Hid (lastT 0 (ej ++ [e']) = e.tm) := hid (by rw [lastT_snoc, HOB.out, if_pos rfl, ← HE'.out]; rfl)
                  have hz14 : w14.heap.size = w13.heap.size := HS14.out
                  have hT3 : Only (fun k => k = hb ∨ lo = some ⟨k, 0, none⟩ ∨ so = some ⟨k, 0, none⟩) wy w14 := (((((((HD10.out.mono (G := fun k => k = hb ∨ lo = some ⟨k, 0, none⟩ ∨ so = some ⟨k, 0, none⟩) (fun _ _ e => e.elim)).trans HJA.out (fun _ _ e => .inr (.inl e))).trans HO11.out (fun _ _ e => .inl e)).trans HJB.out (fun _ _ e => .inr (.inr e))).trans HO12.out (fun _ _ e => .inl e)).trans HO13.out (fun _ _ e => e.elim)).trans HO14.out (fun _ _ e => .inl e))
                  have hE14 : EAt w14 (New w1 w9) e' [.int .i64 ((N : Int) + 1), .int .i64 e.tm, .int .i64 e.k, .int .i64 e.a, .int .i64 e.b, .string (strOf e.name), .string (strOf e.text), .int .i64 uk, .int .i64 un, .string (strOf us), .slice ua um uc] := ((((((HE9.out.same HJ9.out).only HO10.out (fun k hk e => by have e' : k = gs := e; have h2 : k < w9.heap.size := hk.2; omega)).only HJA.out (fun k hk e => by have h1 := (HLO.out k e).1; have h2 : w1.heap.size ≤ k := hk.1; omega)).only HO11.out (fun k hk e => by have e' : k = hb := e; have h2 : w1.heap.size ≤ k := hk.1; omega)).only HJB.out (fun k hk e => by have h1 := (HSO.out k e).1; have h2 : w1.heap.size ≤ k := hk.1; omega)).only HO12.out (fun k hk e => by have e' : k = hb := e; have h2 : w1.heap.size ≤ k := hk.1; omega)).same HO13.out |>.only HO14.out (fun k hk e => by have e' : k = hb := e; have h2 : w1.heap.size ≤ k := hk.1; omega)
                  have hH14 : HRep w14 hb (fun k => Fj k ∨ (wy.heap.size < k ∧ k < w14.heap.size)) s (ej ++ [e']) lo' lc' (xl ++ [.int .i64 ((N : Int) + 1), .int .i64 e.tm, .int .i64 e.k, .int .i64 e.a, .int .i64 e.b, .string (strOf e.name), .string (strOf e.text), .int .i64 uk, .int .i64 un, .string (strOf us), .slice ua um uc]) so' sc' := by
                    have hln := HLN.out
                    refine HH1.out.snoc (a := w1.heap.size) (b := w9.heap.size) hT3 (by rw [hln, HTL.out]; exact HB14.out) (by rw [← HE'.out, hln]; rfl) HGD'.out HRG'.out (by rw [← HE'.out]; exact cl_cl _) (by rw [← HE'.out]; exact Nat.le_trans (cl_sz3 _) (Hz.out e (List.mem_of_getElem? HEm.out))) (by omega) ?_ ?_ hE14 (by omega) (by omega) ?_ ?_ (by omega)
                    · rw [hln]; refine ((((HGC.out.only HO11.out (fun g hg e => ?_)).only HJB.out (fun g hg e => ?_)).only HO12.out (fun g hg e => ?_)).only HO13.out (fun _ _ e => e)).only HO14.out (fun g hg e => ?_)
                      all_goals
                        rcases HLO'.out with h | ⟨q, h, hq⟩
                        · rw [h] at hg
                          first | exact (HLO.out g hg).2.1 e | exact (HLO.out g hg).2.2 e
                        · rw [h] at hg
                          simp only [Option.some.injEq, Addr.mk.injEq, and_true] at hg
                          first | (have e' : g = hb := e; omega) | (have := (HSO.out g e).1; omega)
                    · rw [hln, HCS.out, HLLe.out]; refine ((HGS2.out.only HO12.out (fun g hg e => ?_)).only HO13.out (fun _ _ e => e)).only HO14.out (fun g hg e => ?_)
                      all_goals
                        rcases HSO'.out with h | ⟨q, h, hq⟩
                        · rw [h] at hg
                          exact (HSO.out g hg).2.1 e
                        · rw [h] at hg
                          simp only [Option.some.injEq, Addr.mk.injEq, and_true] at hg
                          have e' : g = hb := e
                          omega
                    · rcases HLO'.out with h | ⟨q, h, hq⟩
                      · exact .inl h
                      · have hql := HGC.out.lt h
                        refine .inr ⟨q, h, by omega, by omega, fun e => ?_⟩
                        rcases HSO'.out with h2 | ⟨q2, h2, hq2⟩
                        · rw [h2] at e
                          have := (HSO.out q e).1; omega
                        · rw [h2] at e
                          simp only [Option.some.injEq, Addr.mk.injEq, and_true] at e
                          omega
                    · rcases HSO'.out with h | ⟨q, h, hq⟩
                      · exact .inl h
                      · have hql := HGS2.out.lt h
                        refine .inr ⟨q, h, by omega, by omega, fun e => ?_⟩
                        have := HGC.out.lt e; omega
                  have HV14 : Hid (VAt w14 (New w1 w9) e.v.cl [.int .i64 uk, .int .i64 un, .string (strOf us), .slice ua um uc]) := hid (by
                    obtain ⟨vc', h1, h2⟩ := hE14
                    rw [← HE'.out] at h1 h2
                    have h3 : [.int .i64 uk, .int .i64 un, .string (strOf us), .slice ua um uc] = vc' := by simpa [EM.cells, EM.cl, EM.nth] using h1
                    rw [h3]; exact h2)
                  have HT3 := hid hT3; have HH14 := hid hH14
                  have HC14 := hid (cloneC _ e.v.cl (Nat.le_refl _) w14 _ _ HV14.out (fun i hi => by have h1 : i < w9.heap.size := hi.2; omega) (cl_rg _ HRG.out.2.2.2.2.2.2.2) (by have h1 := cl_sz3 e.v; have h2 := Hz.out e (List.mem_of_getElem? HEm.out); omega))
                  clear hT3 hE14 hH14
                  refine HC14.out.mono ?_
                  rintro x w15 ⟨cs15, rfl, hv15, ho15, hs15⟩
                  rw [cl_cl] at hv15
                  obtain ⟨tk, tn, ts, ta, tm, tc, rfl⟩ := hv15.form
                  have hx15 := blk_only HX14.out ho15 (fun e => e)
                  clear c0 c1 c2 c3 c4 c5 c6 c7 c8 c9 c10
                  have c0 : w15.cell? ⟨wy.heap.size, 0, none⟩ = some (.int .i64 ((N : Int) + 1)) := cell_blk hx15 0
                  have c1 : w15.cell? ⟨wy.heap.size, 1, none⟩ = some (.int .i64 e.tm) := cell_blk hx15 1
                  have c2 : w15.cell? ⟨wy.heap.size, 2, none⟩ = some (.int .i64 e.k) := cell_blk hx15 2
                  have c3 : w15.cell? ⟨wy.heap.size, 3, none⟩ = some (.int .i64 e.a) := cell_blk hx15 3
                  have c4 : w15.cell? ⟨wy.heap.size, 4, none⟩ = some (.int .i64 e.b) := cell_blk hx15 4
                  have c5 : w15.cell? ⟨wy.heap.size, 5, none⟩ = some (.string (strOf e.name)) := cell_blk hx15 5
                  have c6 : w15.cell? ⟨wy.heap.size, 6, none⟩ = some (.string (strOf e.text)) := cell_blk hx15 6
                  have c7 : w15.cell? ⟨wy.heap.size, 7, none⟩ = some (.int .i64 uk) := cell_blk hx15 7
                  have c8 : w15.cell? ⟨wy.heap.size, 8, none⟩ = some (.int .i64 un) := cell_blk hx15 8
                  have c9 : w15.cell? ⟨wy.heap.size, 9, none⟩ = some (.string (strOf us)) := cell_blk hx15 9
                  have c10 : w15.cell? ⟨wy.heap.size, 10, none⟩ = some (.slice ua um uc) := cell_blk hx15 10
                  have hz15 := ho15.size
                  have HX15 := hid hx15; have HV15 := hid hv15; have HO15 := hid ho15; have HS15 := hid hs15
                  clear hx15 hv15 ho15 hs15
                  go_wp2_with (first
                    | ((guard_target =~ wpList _ _ _ (⟨none, .store 42 _ _, _, _, _, _⟩ :: _) _ _); refine wpList_store_in rfl 42 (.tmp 72) (.tmp 71) rfl wy.heap.size 7 #[.int .i64 tk, .int .i64 tn, .string (strOf ts), .slice ta tm tc] rfl rfl #[.int .i64 ((N : Int) + 1), .int .i64 e.tm, .int .i64 e.k, .int .i64 e.a, .int .i64 e.b, .string (strOf e.name), .string (strOf e.text), .int .i64 uk, .int .i64 un, .string (strOf us), .slice ua um uc] 44 HX15.out (Nat.le_refl 11) info_val (val_one tk tn (strOf ts) ta tm tc) ?_; intro w16 hb16 ho16 hs16; have hb16 : w16.heap[wy.heap.size]? = some (.cells #[.int .i64 ((N : Int) + 1), .int .i64 e.tm, .int .i64 e.k, .int .i64 e.a, .int .i64 e.b, .string (strOf e.name), .string (strOf e.text), .int .i64 tk, .int .i64 tn, .string (strOf ts), .slice ta tm tc] 44 (0, 0)) := hb16; clear c0 c1 c2 c3 c4 c5 c6 c7 c8 c9 c10; have c0 : w16.cell? ⟨wy.heap.size, 0, none⟩ = some (.int .i64 ((N : Int) + 1)) := cell_blk hb16 0; have c1 : w16.cell? ⟨wy.heap.size, 1, none⟩ = some (.int .i64 e.tm) := cell_blk hb16 1; have c2 : w16.cell? ⟨wy.heap.size, 2, none⟩ = some (.int .i64 e.k) := cell_blk hb16 2; have c3 : w16.cell? ⟨wy.heap.size, 3, none⟩ = some (.int .i64 e.a) := cell_blk hb16 3; have c4 : w16.cell? ⟨wy.heap.size, 4, none⟩ = some (.int .i64 e.b) := cell_blk hb16 4; have c5 : w16.cell? ⟨wy.heap.size, 5, none⟩ = some (.string (strOf e.name)) := cell_blk hb16 5; have c6 : w16.cell? ⟨wy.heap.size, 6, none⟩ = some (.string (strOf e.text)) := cell_blk hb16 6; have c7 : w16.cell? ⟨wy.heap.size, 7, none⟩ = some (.int .i64 tk) := cell_blk hb16 7; have c8 : w16.cell? ⟨wy.heap.size, 8, none⟩ = some (.int .i64 tn) := cell_blk hb16 8; have c9 : w16.cell? ⟨wy.heap.size, 9, none⟩ = some (.string (strOf ts)) := cell_blk hb16 9; have c10 : w16.cell? ⟨wy.heap.size, 10, none⟩ = some (.slice ta tm tc) := cell_blk hb16 10; have hlx : wy.heap.size < w16.heap.size := blk_lt hb16; have HB16 := hid hb16; have HO16 := hid ho16; have HS16 := hid hs16; clear hb16 ho16 hs16)
                    | ((guard_target =~ wpList _ _ _ (⟨some 76, _, _, _, _, _⟩ :: _) _ _); refine wpList_gr rfl elE (.tmp 73) (.tmp 75) rfl ((HOUT.out.only (HT3.out.trans ((HO15.out.mono (G := fun k => k = wy.heap.size) (fun _ _ e => e.elim)).trans (HO16.out.trans ((only_new w16 _).mono (fun _ _ e => e.elim)) (fun _ _ e => e)) (fun _ _ e => e)) (fun k hk e => by have e' : k = wy.heap.size := e; omega)) (fun k hk _ e => by rcases e with e | e | e; exact HDI.out k hk (by rw [e]; exact HH1.out.fb); exact HDI.out k hk (HH1.out.fl k e).1; exact HDI.out k hk (HH1.out.fs k e).1)).gr) rfl (some ⟨w16.heap.size, 0, none⟩) 1 1 rfl [.int .i64 ((N : Int) + 1), .int .i64 e.tm, .int .i64 e.k, .int .i64 e.a, .int .i64 e.b, .string (strOf e.name), .string (strOf e.text), .int .i64 tk, .int .i64 tn, .string (strOf ts), .slice ta tm tc] (SrcG.new (blk_new w16 _) rfl (ev_ones _ _ _ _ _ _ _ _ _ _ _ _ _)) (by omega) (by omega) ?_; intro ao' cp' w17 hg17 ha17 ho17; have HG17 := hid hg17; have HA17 := hid ha17; have HO17 := hid ho17; clear hg17 ha17 ho17))
                  go_roundw
                  case rel =>
                    have hT4 := HT3.out.trans ((HO15.out.mono (G := fun k => k = wy.heap.size) (fun _ _ e => e.elim)).trans (HO16.out.trans ((only_new w16 (.cells #[.int .i64 ((N : Int) + 1), .int .i64 e.tm, .int .i64 e.k, .int .i64 e.a, .int .i64 e.b, .string (strOf e.name), .string (strOf e.text), .int .i64 tk, .int .i64 tn, .string (strOf ts), .slice ta tm tc] 44)).mono (fun _ _ e => e.elim)) (fun _ _ e => e)) (fun _ _ e => e)) (fun k hk e => by have e' : k = wy.heap.size := e; omega)
                    have h6b : Only (fun k => k = wy.heap.size) w15 (w16.alloc (.cells #[.int .i64 ((N : Int) + 1), .int .i64 e.tm, .int .i64 e.k, .int .i64 e.a, .int .i64 e.b, .string (strOf e.name), .string (strOf e.text), .int .i64 tk, .int .i64 tn, .string (strOf ts), .slice ta tm tc] 44)) := HO16.out.trans ((only_new w16 _).mono (fun _ _ e => e.elim)) (fun _ _ e => e)
                    have hz16 : w16.heap.size = w15.heap.size := HS16.out
                    have hz17 := HO17.out.size
                    simp only [World.size_alloc] at hz17
                    have hFh := HH1.out.fb; have hFl := HH1.out.fl; have hFs := HH1.out.fs; have hFlt := HH1.out.lt
                    have hao : ∀ q, ao = some ⟨q, 0, none⟩ → Bj q ∧ q < wy.heap.size := fun q hq => ⟨HOUT.out.new q hq, HOUT.out.gr.lt hq⟩
                    have hDJ : ∀ k, Bj k → k < wy.heap.size → ¬ (k = hb ∨ lo = some ⟨k, 0, none⟩ ∨ so = some ⟨k, 0, none⟩) := fun k hk _ e => by
                      rcases e with e | e | e
                      · exact HDI.out k hk (by rw [e]; exact hFh)
                      · exact HDI.out k hk (hFl k e).1
                      · exact HDI.out k hk (hFs k e).1
                    have hsn := (HOUT.out.turn (B' := fun k => Bj k ∨ w14.heap.size ≤ k) (fun k _ hk => .inl hk)).snoc (e := e') (vc := [.int .i64 tk, .int .i64 tn, .string (strOf ts), .slice ta tm tc]) hT4 (fun k hk hl => hDJ k (by rcases hk with hk | hk; exact hk; omega) hl) (by omega) (fun k hk => .inr hk) (by rw [← HE'.out]; exact HV15.out) HS15.out h6b (by omega) (fun k hk e => by have e' : k = wy.heap.size := e; omega) (by rw [← HE'.out]; exact HG17.out) HA17.out HO17.out
                    refine ⟨j + 1, cp', ao', xs ++ e'.cells [.int .i64 tk, .int .i64 tn, .string (strOf ts), .slice ta tm tc], (fun k => Fj k ∨ (wy.heap.size < k ∧ k < w14.heap.size)), (fun k => (Bj k ∨ w14.heap.size ≤ k) ∧ k < w17.heap.size), by go_num, by omega, rfl, ?_, ?_, ?_, ?_, ?_, ?_⟩
                    · rw [HT1.out, HE'.out, ← List.append_assoc, HEJ.out]
                      refine ⟨lo', lc', _, so', sc', ((HH14.out.same HO15.out).only h6b (fun k hk e => ?_)).only HO17.out (fun k hk e => ?_)⟩
                      · have e' : k = wy.heap.size := e
                        rcases hk with hk | hk
                        · have := hFlt k hk; omega
                        · omega
                      · obtain ⟨h1, h2⟩ := hao k e
                        rcases hk with hk | hk
                        · exact HDI.out k h1 hk
                        · omega
                    · rw [HT1.out, HE'.out]
                      exact hsn.turn (fun k h1 h2 => ⟨h2, h1⟩)
                    · intro k hk hf
                      rcases hk.1 with hk1 | hk1
                      · rcases hf with hf | hf
                        · exact HDI.out k hk1 hf
                        · have := (HBJ.out k hk1).2; omega
                      · rcases hf with hf | hf
                        · have := hFlt k hf; omega
                        · omega
                    · intro k hk
                      rcases hk with hk | hk
                      · exact HFJ.out k hk
                      · right; omega
                    · intro k hk
                      refine ⟨?_, hk.2⟩
                      rcases hk.1 with hk1 | hk1
                      · exact (HBJ.out k hk1).1
                      · omega
                    · refine (HO.out.trans hT4 (fun k hk e => ?_)).trans HO17.out (fun k hk e => ?_)
                      · rcases e with e | e | e
                        · rw [e] at hk ⊢; exact (HFJ.out hb hFh).elim id (fun h => by omega)
                        · exact (HFJ.out k (hFl k e).1).elim id (fun h => by omega)
                        · exact (HFJ.out k (hFs k e).1).elim id (fun h => by omega)
                      · have h1 := (HBJ.out k (hao k e).1).1; omega
                  case measure => simp [intOf]; omega
      · obtain rfl : j = l.length := by omega
        have hjl2 : ¬ (l.length : Int) < l.length := by omega
        have HHh := hid hh
        clear hh hout hdis hFj hBj ho
        go_wp2_with fail
        go_ret2
        have h1 := HHh.out
        have h2 := HOUT.out
        rw [List.take_length] at h1 h2
        exact .inl ⟨HCE.out, ao, cp, xs, Fj, Bj, rfl, h1, h2, HDI.out, HFJ.out, fun k hk => (HBJ.out k hk).1, HO.out⟩
  · have hne0 : (ck != 0) = true := by simpa using hck0
    go_enter Try.func14, Try.ntmps14
    go_wp2_with fail
    refine HCK.out.mono ?_
    rintro x w0 ⟨rfl, ho0⟩
    have HO0 := hid ho0
    clear ho0 HCK
    go_wp2_with fail
    go_ret2
    exact .inr ⟨by rw [HCE.out]; exact hck0, by rw [HCE.out]; rfl, HO0.out⟩
end
end Go.Proofs.Ytnoopajedgllhaa
