/- Events that are handed out of a history: All, Page. -/
import Derived.Test.YtnoopajedgllhaaHsB
import Derived.Test.YtnoopajedgllhaaEvsV
import Derived.Test.YtnoopajedgllhaaValD
namespace Go.Proofs.Ytnoopajedgllhaa
open Go.RowKit
/-- A list of events that grows from nil, in blocks of which B tells: its events' lists may be written. -/
structure OutE (B : Nat → Prop) (w' : World) (ad : Option Addr) (n cap : Nat) (xs : List Value) (es : List EM) : Prop where
  len : n = es.length
  gr : Gr w' 44 11 ad n cap xs
  new : ∀ q, ad = some ⟨q, 0, none⟩ → B q
  exs : EXs w' (fun q => B q ∧ q < w'.heap.size ∧ ad ≠ some ⟨q, 0, none⟩) es xs
  soft : ∀ q o m c, Value.slice (some ⟨q, o, none⟩) m c ∈ xs → B q ∧ q < w'.heap.size ∧ ad ≠ some ⟨q, 0, none⟩ ∧ ∃ arr T, w'.heap[q]? = some (.cells arr T (0, 0))
section
variable {wa wb wc : World} {ad ad' : Option Addr} {n cap cap' : Nat} {xs : List Value} {es : List EM} {F B B' : Nat → Prop}
theorem OutE.nil (B : Nat → Prop) (w : World) : OutE B w none 0 0 [] [] := ⟨rfl, Gr.nil, by simp, rfl, fun q o m c h => by simp at h⟩
theorem OutE.only (h : OutE B wa ad n cap xs es) (ho : Only F wa wb) (hF : ∀ k, B k → k < wa.heap.size → ¬ F k) : OutE B wb ad n cap xs es where
  len := h.len
  gr := h.gr.only ho fun g hg => hF g (h.new g hg) (h.gr.lt hg)
  new := h.new
  exs := (h.exs.only ho fun k hk => hF k hk.1 hk.2.1).mono fun k hk => ⟨hk.1, Nat.lt_of_lt_of_le hk.2.1 ho.size, hk.2.2⟩
  soft := fun q o m c hm => by
    obtain ⟨h1, h2, h3, h4⟩ := h.soft q o m c hm
    exact ⟨h1, Nat.lt_of_lt_of_le h2 ho.size, h3, soft_only ho h2 (hF q h1 h2) h4⟩
theorem OutE.turn (h : OutE B wa ad n cap xs es) (hB : ∀ k, k < wa.heap.size → B k → B' k) : OutE B' wa ad n cap xs es where
  len := h.len
  gr := h.gr
  new := fun q hq => hB q (h.gr.lt hq) (h.new q hq)
  exs := h.exs.mono fun k hk => ⟨hB k hk.2.1 hk.1, hk.2⟩
  soft := fun q o m c hm => by
    obtain ⟨h1, h2, h3, h4⟩ := h.soft q o m c hm
    exact ⟨hB q h2 h1, h2, h3, h4⟩
/-- One event more, whose value was cloned behind the list. -/
theorem OutE.snoc (h : OutE B wa ad n cap xs es) {w1 w6 wb : World} {F6 : Nat → Prop} (hab : Only F wa wb) (hF : ∀ k, B k → k < wa.heap.size → ¬ F k) (h1 : wa.heap.size ≤ w1.heap.size) (hB1 : ∀ k, w1.heap.size ≤ k → B k) {e : EM} {vc : List Value} (hV6 : VAt w6 (New w1 w6) e.v vc) (hs6 : Soft w1 w6 vc) (h6b : Only F6 w6 wb) (h16 : w1.heap.size ≤ w6.heap.size) (hF6 : ∀ k, w1.heap.size ≤ k → ¬ F6 k)
    (hG : Gr wc 44 11 ad' (n + 1) cap' (xs ++ e.cells vc)) (ha : ad' = ad ∨ ad' = some ⟨wb.heap.size, 0, none⟩) (hbc : Only (fun k => ad = some ⟨k, 0, none⟩) wb wc) : OutE B wc ad' (n + 1) cap' (xs ++ e.cells vc) (es ++ [e]) := by
  have hsz6 := h6b.size
  have hV : VAt wb (New w1 wb) e.v vc := (hV6.only h6b fun k hk => hF6 k hk.1).mono fun k hk => ⟨hk.1, Nat.lt_of_lt_of_le hk.2 hsz6⟩
  have hs : Soft w1 wb vc := fun q o m c hm => by
    obtain ⟨k1, k2⟩ := hs6 q o m c hm
    exact ⟨⟨k1.1, Nat.lt_of_lt_of_le k1.2 hsz6⟩, soft_only h6b k1.2 (hF6 q k1.1) k2⟩
  have hb := h.only hab hF
  have hsz := hab.size
  have hlt : ∀ q, ad = some ⟨q, 0, none⟩ → q < wa.heap.size := fun q hq => h.gr.lt hq
  have hsc := hbc.size
  have hn' : ∀ q, q < wb.heap.size → ad ≠ some ⟨q, 0, none⟩ → ad' ≠ some ⟨q, 0, none⟩ := fun q hq hne e => by
    rcases ha with e' | e'
    · exact hne (by rw [← e', e])
    · rw [e'] at e
      simp only [Option.some.injEq, Addr.mk.injEq, and_true] at e
      omega
  refine ⟨by rw [List.length_append, ← h.len]; rfl, hG, fun q hq => ?_, ?_, ?_⟩
  · rcases ha with e | e
    · exact h.new q (by rw [← e, hq])
    · rw [e] at hq
      simp only [Option.some.injEq, Addr.mk.injEq, and_true] at hq
      exact hB1 q (by omega)
  · have k1 : EXs wc (fun q => B q ∧ q < wc.heap.size ∧ ad' ≠ some ⟨q, 0, none⟩) es xs := (hb.exs.only hbc fun k hk => hk.2.2).mono fun k hk => ⟨hk.1, by have := hk.2.1; omega, hn' k hk.2.1 hk.2.2⟩
    refine EXs.snoc ⟨vc, rfl, ?_⟩ k1
    refine (hV.only hbc fun k hk e => ?_).mono fun k hk => ?_
    · have hk1 : w1.heap.size ≤ k := hk.1
      have := hlt k e; omega
    · have hk1 : w1.heap.size ≤ k := hk.1
      have hk2 : k < wb.heap.size := hk.2
      exact ⟨hB1 k hk1, by omega, hn' k hk2 fun e => by have := hlt k e; omega⟩
  · intro q o m c hm
    rcases List.mem_append.1 hm with hm | hm
    · obtain ⟨h1, h2, h3, h4⟩ := hb.soft q o m c hm
      exact ⟨h1, by omega, hn' q h2 h3, soft_only hbc h2 h3 h4⟩
    · have hm' : Value.slice (some ⟨q, o, none⟩) m c ∈ vc := by
        unfold EM.cells at hm
        simp only [List.cons_append, List.nil_append, List.mem_cons, reduceCtorEq, false_or] at hm
        exact hm
      obtain ⟨⟨k1, k2⟩, k3⟩ := hs q o m c hm'
      have hne : ad ≠ some ⟨q, 0, none⟩ := fun e => by have := hlt q e; omega
      exact ⟨hB1 q k1, by omega, hn' q k2 hne, soft_only hbc k2 hne k3⟩
/-- The list as a value. -/
theorem OutE.evs (h : OutE B wa ad n cap xs es) : EvsV wa (fun k => B k ∧ k < wa.heap.size) (.slice ad n cap) es := by
  have hn := h.len
  subst hn
  rcases Nat.eq_zero_or_pos es.length with h0 | h0
  · have h0' := List.eq_nil_of_length_eq_zero h0
    exact ⟨ad, cap, 0, 0, rfl, fun h => absurd h0' h, fun i e hi => by rw [h0'] at hi; simp at hi⟩
  · obtain ⟨q, hq, hcells⟩ := h.gr.cells h0
    have hq3 := h.new q hq
    have hql := h.gr.lt hq
    refine ⟨ad, cap, q, 0, rfl, fun _ => ⟨hq, hq3, hql⟩, fun i e hi => ?_⟩
    obtain ⟨ds, h3, h4⟩ := EXs.at' h.exs i e hi
    exact ⟨ds, fun k u hk => by rw [Nat.zero_add]; exact hcells _ _ (h3 k u hk), h4.mono fun k hk => ⟨hk.1, hk.2.1⟩⟩
end
section
variable {w : World} {hb : Nat} {F : Nat → Prop} {s : List UInt8} {es : List EM}
theorem ev_ones (i t k a b : Int) (s1 s2 : ByteArray) (vk vn : Int) (s : ByteArray) (va : Option Addr) (m c : Nat) : ∀ u ∈ ([Value.int .i64 i, .int .i64 t, .int .i64 k, .int .i64 a, .int .i64 b, .string s1, .string s2, .int .i64 vk, .int .i64 vn, .string s, .slice va m c] : List Value), u.oneCell' = true := by simp [Value.oneCell']
set_option maxRecDepth 100000 in
set_option maxHeartbeats 1600000 in
theorem hall_c (h : HistAt w hb F s es) : Calls Try.prog 17 #[.pointer (some ⟨hb, 0, none⟩)] w fun x w' => ∃ ad cap xs, x = .returned (.slice ad es.length cap) ∧ OutE (fun k => w.heap.size ≤ k) w' ad es.length cap xs es ∧ Only (fun _ => False) w w' := by
  obtain ⟨lo, lc, xl, so, sc, h⟩ := h
  have c0 := h.c0
  have hn4 := h.n
  have hhl := h.lt hb h.fb
  have H := hid h
  clear h
  go_enter Try.func17, Try.ntmps17
  go_wp2_with fail
  clear c0
  go_loopw [11, 3] (fun i v wr => ∃ (j cp : Nat) (ao : Option Addr) (xs : List Value), i = .int .i64 j ∧ j ≤ es.length ∧ v = .slice ao j cp ∧ OutE (fun k => w.heap.size ≤ k) wr ao j cp xs (es.take j) ∧ Only (fun _ => False) w wr) (fun i _ _ => es.length - (intOf i).toNat)
  case atStart => exact ⟨0, 0, none, [], rfl, Nat.zero_le _, rfl, by rw [List.take_zero]; exact OutE.nil _ w, Only.refl _ _⟩
  case round =>
    obtain ⟨j, cp, ao, xs, rfl, hj, rfl, hout, ho⟩ := hrel
    have HOUT := hid hout; have HO := hid ho
    have hso := ho.size
    clear hout ho
    by_cases hjl : j < es.length
    · have hji : (j : Int) < es.length := by omega
      obtain ⟨e, he⟩ : ∃ t, es[j]? = some t := ⟨_, List.getElem?_eq_getElem hjl⟩
      have hok := H.out.ok j e he
      obtain ⟨wy, hwy⟩ : ∃ x, x = wr := ⟨wr, rfl⟩
      subst hwy
      obtain ⟨g, cs, rfl, hcw, hE⟩ := (H.out.same HO.out).ev he
      obtain ⟨vk, vn, vs, va, vm, vc, rfl, hV⟩ := hE.form
      have e0 := hcw 0 _ rfl
      rw [Nat.add_zero] at e0
      have e1 := hcw 1 _ rfl
      have e2 := hcw 2 _ rfl
      have e3 := hcw 3 _ rfl
      have e4 := hcw 4 _ rfl
      have e5 := hcw 5 _ rfl
      have e6 := hcw 6 _ rfl
      have e7 := hcw 7 _ rfl
      have e8 := hcw 8 _ rfl
      have e9 := hcw 9 _ rfl
      have e10 := hcw 10 _ rfl
      have ho1 := only_new wy (.cells #[.int .i64 e.id, .int .i64 e.tm, .int .i64 e.k, .int .i64 e.a, .int .i64 e.b, .string (strOf e.name), .string (strOf e.text), .int .i64 vk, .int .i64 vn, .string (strOf vs), .slice va vm vc] 44)
      have HBX := hid (blk_new wy (.cells #[.int .i64 e.id, .int .i64 e.tm, .int .i64 e.k, .int .i64 e.a, .int .i64 e.b, .string (strOf e.name), .string (strOf e.text), .int .i64 vk, .int .i64 vn, .string (strOf vs), .slice va vm vc] 44))
      have HTK : Hid (es.take (j + 1) = es.take j ++ [e]) := hid (by rw [List.take_add_one, he]; rfl)
      have HC := hid (cloneC _ e.v (Nat.le_refl _) (wy.alloc (.cells #[.int .i64 e.id, .int .i64 e.tm, .int .i64 e.k, .int .i64 e.a, .int .i64 e.b, .string (strOf e.name), .string (strOf e.text), .int .i64 vk, .int .i64 vn, .string (strOf vs), .slice va vm vc] 44)) _ _ (hV.same ho1) (fun i hi => by have := (H.out.same HO.out).lt i hi.1; simp; omega) hok.2.2.1.2.2.2.2.2.2.2 (by have := hok.2.2.2.2; omega))
      have HCL := hid hok.2.2.2.1
      have HO1 := hid ho1
      clear hok hE hcw hV ho1 he
      go_wp2_with fail
      refine HC.out.mono ?_
      rintro x w6 ⟨cs6, rfl, hv6, ho6, hsf6⟩
      rw [HCL.out] at hv6
      obtain ⟨uk, un, us, ua, um, uc, rfl⟩ := hv6.form
      have c0 := cell_blk HBX.out 0
      have c1 := c0; have c2 := c0; have c3 := c0; have c4 := c0; have c5 := c0; have c6 := c0; have c7 := c0; have c8 := c0; have c9 := c0; have c10 := c0
      have hb6 := blk_only HBX.out ho6 (fun e => e)
      clear c0 c1 c2 c3 c4 c5 c6 c7 c8 c9 c10
      have c0 : w6.cell? ⟨wy.heap.size, 0, none⟩ = some (.int .i64 e.id) := cell_blk hb6 0
      have c1 : w6.cell? ⟨wy.heap.size, 1, none⟩ = some (.int .i64 e.tm) := cell_blk hb6 1
      have c2 : w6.cell? ⟨wy.heap.size, 2, none⟩ = some (.int .i64 e.k) := cell_blk hb6 2
      have c3 : w6.cell? ⟨wy.heap.size, 3, none⟩ = some (.int .i64 e.a) := cell_blk hb6 3
      have c4 : w6.cell? ⟨wy.heap.size, 4, none⟩ = some (.int .i64 e.b) := cell_blk hb6 4
      have c5 : w6.cell? ⟨wy.heap.size, 5, none⟩ = some (.string (strOf e.name)) := cell_blk hb6 5
      have c6 : w6.cell? ⟨wy.heap.size, 6, none⟩ = some (.string (strOf e.text)) := cell_blk hb6 6
      have c7 : w6.cell? ⟨wy.heap.size, 7, none⟩ = some (.int .i64 vk) := cell_blk hb6 7
      have c8 : w6.cell? ⟨wy.heap.size, 8, none⟩ = some (.int .i64 vn) := cell_blk hb6 8
      have c9 : w6.cell? ⟨wy.heap.size, 9, none⟩ = some (.string (strOf vs)) := cell_blk hb6 9
      have c10 : w6.cell? ⟨wy.heap.size, 10, none⟩ = some (.slice va vm vc) := cell_blk hb6 10
      have hlw2 : wy.heap.size < w6.heap.size := blk_lt hb6
      have z6 : ∀ i, w6.frozen? ⟨wy.heap.size, i, none⟩ = false := frozen_blk hb6
      have HB6 := hid hb6; have HV6 := hid hv6; have HO6 := hid ho6; have HSF := hid hsf6
      clear hv6 ho6 hb6 hsf6
      go_wp2_with (first
        | ((guard_target =~ wpList _ _ _ (⟨none, .store 42 _ _, _, _, _, _⟩ :: _) _ _); refine wpList_store_in rfl 42 (.tmp 18) (.tmp 17) rfl (wy.heap.size) 7 #[.int .i64 uk, .int .i64 un, .string (strOf us), .slice ua um uc] rfl rfl #[.int .i64 e.id, .int .i64 e.tm, .int .i64 e.k, .int .i64 e.a, .int .i64 e.b, .string (strOf e.name), .string (strOf e.text), .int .i64 vk, .int .i64 vn, .string (strOf vs), .slice va vm vc] 44 HB6.out (Nat.le_refl 11) info_val (val_one uk un (strOf us) ua um uc) ?_; intro w8 hb8 ho8 hs8; have hb8 : w8.heap[wy.heap.size]? = some (.cells #[.int .i64 e.id, .int .i64 e.tm, .int .i64 e.k, .int .i64 e.a, .int .i64 e.b, .string (strOf e.name), .string (strOf e.text), .int .i64 uk, .int .i64 un, .string (strOf us), .slice ua um uc] 44 (0, 0)) := hb8; clear c0 c1 c2 c3 c4 c5 c6 c7 c8 c9 c10; have c0 : w8.cell? ⟨wy.heap.size, 0, none⟩ = some (.int .i64 e.id) := cell_blk hb8 0; have c1 : w8.cell? ⟨wy.heap.size, 1, none⟩ = some (.int .i64 e.tm) := cell_blk hb8 1; have c2 : w8.cell? ⟨wy.heap.size, 2, none⟩ = some (.int .i64 e.k) := cell_blk hb8 2; have c3 : w8.cell? ⟨wy.heap.size, 3, none⟩ = some (.int .i64 e.a) := cell_blk hb8 3; have c4 : w8.cell? ⟨wy.heap.size, 4, none⟩ = some (.int .i64 e.b) := cell_blk hb8 4; have c5 : w8.cell? ⟨wy.heap.size, 5, none⟩ = some (.string (strOf e.name)) := cell_blk hb8 5; have c6 : w8.cell? ⟨wy.heap.size, 6, none⟩ = some (.string (strOf e.text)) := cell_blk hb8 6; have c7 : w8.cell? ⟨wy.heap.size, 7, none⟩ = some (.int .i64 uk) := cell_blk hb8 7; have c8 : w8.cell? ⟨wy.heap.size, 8, none⟩ = some (.int .i64 un) := cell_blk hb8 8; have c9 : w8.cell? ⟨wy.heap.size, 9, none⟩ = some (.string (strOf us)) := cell_blk hb8 9; have c10 : w8.cell? ⟨wy.heap.size, 10, none⟩ = some (.slice ua um uc) := cell_blk hb8 10; have hlx : wy.heap.size < w8.heap.size := blk_lt hb8; have HB8 := hid hb8; have HO8 := hid ho8; have HS8 := hid hs8; clear hb8 ho8 hs8)
        | ((guard_target =~ wpList _ _ _ (⟨some 22, _, _, _, _, _⟩ :: _) _ _); refine wpList_gr rfl elE (.tmp 19) (.tmp 21) rfl ((HOUT.out.only (((HO1.out.trans HO6.out (fun _ _ e => e)).mono (G := fun q => q = wy.heap.size) (fun _ _ e => e.elim)).trans (HO8.out.trans ((only_new w8 _).mono (fun _ _ e => e.elim)) (fun _ _ e => e)) (fun _ _ e => e)) (fun k hk hk2 e => by have e' : k = wy.heap.size := e; omega)).gr) rfl (some ⟨w8.heap.size, 0, none⟩) 1 1 rfl [.int .i64 e.id, .int .i64 e.tm, .int .i64 e.k, .int .i64 e.a, .int .i64 e.b, .string (strOf e.name), .string (strOf e.text), .int .i64 uk, .int .i64 un, .string (strOf us), .slice ua um uc] (SrcG.new (blk_new w8 _) rfl (ev_ones _ _ _ _ _ _ _ _ _ _ _ _ _)) (by omega) (by omega) ?_; intro ao' cp' w9 hg9 ha9 ho9; have HG9 := hid hg9; have HA9 := hid ha9; have HO9 := hid ho9; clear hg9 ha9 ho9))
      go_roundw
      case rel =>
        have hoA : Only (fun _ => False) wy w6 := HO1.out.trans HO6.out (fun _ _ e => e)
        have hoB : Only (fun q => q = wy.heap.size) w6 (w8.alloc (.cells #[.int .i64 e.id, .int .i64 e.tm, .int .i64 e.k, .int .i64 e.a, .int .i64 e.b, .string (strOf e.name), .string (strOf e.text), .int .i64 uk, .int .i64 un, .string (strOf us), .slice ua um uc] 44)) := HO8.out.trans ((only_new w8 _).mono (fun _ _ e => e.elim)) (fun _ _ e => e)
        have hoC : Only (fun q => q = wy.heap.size) wy (w8.alloc (.cells #[.int .i64 e.id, .int .i64 e.tm, .int .i64 e.k, .int .i64 e.a, .int .i64 e.b, .string (strOf e.name), .string (strOf e.text), .int .i64 uk, .int .i64 un, .string (strOf us), .slice ua um uc] 44)) := (hoA.mono (G := fun q => q = wy.heap.size) (fun _ _ e => e.elim)).trans hoB (fun _ _ e => e)
        refine ⟨j + 1, cp', ao', xs ++ e.cells [.int .i64 uk, .int .i64 un, .string (strOf us), .slice ua um uc], by go_num, by omega, rfl, ?_, ?_⟩
        · rw [HTK.out]
          exact HOUT.out.snoc (e := e) (vc := [.int .i64 uk, .int .i64 un, .string (strOf us), .slice ua um uc]) hoC (fun k _ hk e => by have e' : k = wy.heap.size := e; omega) (by simp) (fun k hk => by simp at hk; omega) HV6.out HSF.out hoB HO6.out.size (fun k hk e => by have e' : k = wy.heap.size := e; simp at hk; omega) HG9.out HA9.out HO9.out
        · refine HO.out.trans ((hoC.mono (G := fun q => q = wy.heap.size ∨ ao = some ⟨q, 0, none⟩) (fun _ _ e => .inl e)).trans HO9.out (fun _ _ e => .inr e)) (fun k hk e => ?_)
          rcases e with e | e
          · omega
          · have := HOUT.out.new k e; omega
      case measure => simp [intOf]; omega
    · obtain rfl : j = es.length := by omega
      have hjl2 : ¬ (es.length : Int) < es.length := by omega
      go_wp2_with fail
      go_ret
      have h1 := HOUT.out
      rw [List.take_length] at h1
      exact ⟨ao, cp, rfl, ⟨xs, h1⟩, HO.out⟩
end
section
variable {w : World} {hb : Nat} {F : Nat → Prop} {s : List UInt8} {es : List EM}
/-- A page. -/
def pageL (es : List EM) (f m : Int) : List EM := if f < 1 ∨ (es.length : Int) + 1 < f ∨ m < 0 then [] else (es.drop (f - 1).toNat).take (min m 256).toNat
def pageE (es : List EM) (f m : Int) : Int := if f < 1 ∨ (es.length : Int) + 1 < f ∨ m < 0 then 1 else 0
set_option maxRecDepth 100000 in
set_option maxHeartbeats 3200000 in
theorem hpage_c (h : HistAt w hb F s es) (f m : Int) (hf64 : -9223372036854775808 ≤ f ∧ f ≤ 9223372036854775807) : Calls Try.prog 15 #[.pointer (some ⟨hb, 0, none⟩), .int .i64 f, .int .i64 m] w fun x w' => ∃ ad cap xs, x = .returned (.tuple #[.slice ad (pageL es f m).length cap, .int .i64 (pageE es f m)]) ∧ OutE (fun k => w.heap.size ≤ k) w' ad (pageL es f m).length cap xs (pageL es f m) ∧ Only (fun _ => False) w w' := by
  obtain ⟨lo, lc, xl, so, sc, h⟩ := h
  have c0 := h.c0
  have hn4 := h.n
  have hhl := h.lt hb h.fb
  have H := hid h
  by_cases hr : f < 1 ∨ (es.length : Int) + 1 < f ∨ m < 0
  · have HL : Hid (pageL es f m = []) := hid (if_pos hr)
    have HE : Hid (pageE es f m = 1) := hid (if_pos hr)
    rw [HL.out, HE.out]
    clear h
    by_cases h1 : f < 1
    · clear hr
      go_enter Try.func15, Try.ntmps15
      go_wp2_with fail
      go_ret2
      first | exact ⟨none, 0, [], rfl, OutE.nil _ w, Only.refl _ _⟩ | exact ⟨none, 0, rfl, ⟨[], OutE.nil _ w⟩, Only.refl _ _⟩
    by_cases h2 : (es.length : Int) + 1 < f
    · clear hr
      go_enter Try.func15, Try.ntmps15
      go_wp2_with fail
      go_ret2
      first | exact ⟨none, 0, [], rfl, OutE.nil _ w, Only.refl _ _⟩ | exact ⟨none, 0, rfl, ⟨[], OutE.nil _ w⟩, Only.refl _ _⟩
    have h3 : m < 0 := by omega
    clear hr
    go_enter Try.func15, Try.ntmps15
    go_wp2_with fail
    go_ret2
    first | exact ⟨none, 0, [], rfl, OutE.nil _ w, Only.refl _ _⟩ | exact ⟨none, 0, rfl, ⟨[], OutE.nil _ w⟩, Only.refl _ _⟩
  have HE : Hid (pageE es f m = 0) := hid (if_neg hr)
  obtain ⟨f0, hf0⟩ : ∃ f0 : Nat, f - 1 = (f0 : Int) := ⟨(f - 1).toNat, by omega⟩
  obtain ⟨M, rfl⟩ : ∃ M : Nat, m = (M : Int) := ⟨m.toNat, by omega⟩
  have hf1 : ¬ f < 1 := by omega
  have hf2 : ¬ (es.length : Int) + 1 < f := by omega
  have hm0 : ¬ (M : Int) < 0 := by omega
  have HL : Hid (pageL es f M = (es.drop f0).take (min M 256)) := hid (by
    rw [pageL, if_neg hr, hf0]
    congr 1
    rcases Nat.lt_or_ge M 256 with g | g
    · rw [Int.min_eq_left (by omega), Nat.min_eq_left (by omega)]; rfl
    · rw [Int.min_eq_right (by omega), Nat.min_eq_right (by omega)]; rfl)
  have hfn : f0 ≤ es.length := by omega
  rw [HE.out, HL.out]
  obtain ⟨PL, hPL⟩ : ∃ x, (es.drop f0).take (min M 256) = x := ⟨_, rfl⟩
  rw [hPL]
  have HPL := hid hPL
  clear hr hPL
  by_cases hfl : f0 < es.length
  · have hlc : (f0 : Int) ≤ es.length := by omega
    have hle := h.list.le
    have hli : (f0 : Int) < lc := by omega
    have hlj : (es.length : Int) ≤ lc := by omega
    obtain ⟨g, hg⟩ : ∃ g, lo = some ⟨g, 0, none⟩ := by
      obtain ⟨g, hg, -⟩ := h.list.cells (by omega : 0 < es.length)
      exact ⟨g, hg⟩
    subst hg
    obtain ⟨D, hD⟩ : ∃ D : Nat, es.length - f0 = D := ⟨_, rfl⟩
    have hDi : (es.length : Int) - f0 = D := by omega
    clear h
    go_enter Try.func15, Try.ntmps15
    go_wp2_with fail
    clear c0
    go_loopw [35, 8] (fun i v wr => ∃ (j cp : Nat) (ao : Option Addr) (xs : List Value), i = .int .i64 j ∧ j ≤ D ∧ j ≤ min M 256 ∧ v = .slice ao j cp ∧ OutE (fun k => w.heap.size ≤ k) wr ao j cp xs ((es.drop f0).take j) ∧ Only (fun _ => False) w wr) (fun i _ _ => D - (intOf i).toNat)
    case atStart => exact ⟨0, 0, none, [], rfl, Nat.zero_le _, Nat.zero_le _, rfl, by rw [List.take_zero]; exact OutE.nil _ w, Only.refl _ _⟩
    case round =>
      obtain ⟨j, cp, ao, xs, rfl, hj, hjM, rfl, hout, ho⟩ := hrel
      have HOUT := hid hout; have HO := hid ho; have HJM := hid hjM
      have hso := ho.size
      clear hout ho hjM
      by_cases hjl : j < D
      · have hji : (j : Int) < D := by omega
        obtain ⟨e, he⟩ : ∃ t, es[f0 + j]? = some t := ⟨_, List.getElem?_eq_getElem (by omega)⟩
        have hok := H.out.ok (f0 + j) e he
        obtain ⟨wy, hwy⟩ : ∃ x, x = wr := ⟨wr, rfl⟩
        subst hwy
        obtain ⟨g', cs, hg', hcw', hE⟩ := (H.out.same HO.out).ev he
        obtain rfl : g = g' := by simpa using hg'
        have hcw : ∀ i u, cs[i]? = some u → wy.cell? ⟨g, f0 * 11 + j * 11 + i, none⟩ = some u := fun i u hu => by rw [← Nat.add_mul]; exact hcw' i u hu
        obtain ⟨vk, vn, vs, va, vm, vc, rfl, hV⟩ := hE.form
        have e0 := hcw 0 _ rfl
        rw [Nat.add_zero] at e0
        have e1 := hcw 1 _ rfl
        have e2 := hcw 2 _ rfl
        have e3 := hcw 3 _ rfl
        have e4 := hcw 4 _ rfl
        have e5 := hcw 5 _ rfl
        have e6 := hcw 6 _ rfl
        have e7 := hcw 7 _ rfl
        have e8 := hcw 8 _ rfl
        have e9 := hcw 9 _ rfl
        have e10 := hcw 10 _ rfl
        have ho1 := only_new wy (.cells #[.int .i64 e.id, .int .i64 e.tm, .int .i64 e.k, .int .i64 e.a, .int .i64 e.b, .string (strOf e.name), .string (strOf e.text), .int .i64 vk, .int .i64 vn, .string (strOf vs), .slice va vm vc] 44)
        have HBX := hid (blk_new wy (.cells #[.int .i64 e.id, .int .i64 e.tm, .int .i64 e.k, .int .i64 e.a, .int .i64 e.b, .string (strOf e.name), .string (strOf e.text), .int .i64 vk, .int .i64 vn, .string (strOf vs), .slice va vm vc] 44))
        have HTK : Hid ((es.drop f0).take (j + 1) = (es.drop f0).take j ++ [e]) := hid (by rw [List.take_add_one, List.getElem?_drop, he]; rfl)
        have HC := hid (cloneC _ e.v (Nat.le_refl _) (wy.alloc (.cells #[.int .i64 e.id, .int .i64 e.tm, .int .i64 e.k, .int .i64 e.a, .int .i64 e.b, .string (strOf e.name), .string (strOf e.text), .int .i64 vk, .int .i64 vn, .string (strOf vs), .slice va vm vc] 44)) _ _ (hV.same ho1) (fun i hi => by have := (H.out.same HO.out).lt i hi.1; simp; omega) hok.2.2.1.2.2.2.2.2.2.2 (by have := hok.2.2.2.2; omega))
        have HCL := hid hok.2.2.2.1
        have HO1 := hid ho1
        clear hok hE hcw hcw' hg' hV ho1 he
        by_cases hlm : j < min M 256
        · have hbq : ((j : Int) == min (M : Int) 256) = false := by simp; omega
          have HLM := hid hlm
          clear hlm
          go_wp2_with fail
          refine HC.out.mono ?_
          rintro x w6 ⟨cs6, rfl, hv6, ho6, hsf6⟩
          rw [HCL.out] at hv6
          obtain ⟨uk, un, us, ua, um, uc, rfl⟩ := hv6.form
          have c0 := cell_blk HBX.out 0
          have c1 := c0; have c2 := c0; have c3 := c0; have c4 := c0; have c5 := c0; have c6 := c0; have c7 := c0; have c8 := c0; have c9 := c0; have c10 := c0
          have hb6 := blk_only HBX.out ho6 (fun e => e)
          clear c0 c1 c2 c3 c4 c5 c6 c7 c8 c9 c10
          have c0 : w6.cell? ⟨wy.heap.size, 0, none⟩ = some (.int .i64 e.id) := cell_blk hb6 0
          have c1 : w6.cell? ⟨wy.heap.size, 1, none⟩ = some (.int .i64 e.tm) := cell_blk hb6 1
          have c2 : w6.cell? ⟨wy.heap.size, 2, none⟩ = some (.int .i64 e.k) := cell_blk hb6 2
          have c3 : w6.cell? ⟨wy.heap.size, 3, none⟩ = some (.int .i64 e.a) := cell_blk hb6 3
          have c4 : w6.cell? ⟨wy.heap.size, 4, none⟩ = some (.int .i64 e.b) := cell_blk hb6 4
          have c5 : w6.cell? ⟨wy.heap.size, 5, none⟩ = some (.string (strOf e.name)) := cell_blk hb6 5
          have c6 : w6.cell? ⟨wy.heap.size, 6, none⟩ = some (.string (strOf e.text)) := cell_blk hb6 6
          have c7 : w6.cell? ⟨wy.heap.size, 7, none⟩ = some (.int .i64 vk) := cell_blk hb6 7
          have c8 : w6.cell? ⟨wy.heap.size, 8, none⟩ = some (.int .i64 vn) := cell_blk hb6 8
          have c9 : w6.cell? ⟨wy.heap.size, 9, none⟩ = some (.string (strOf vs)) := cell_blk hb6 9
          have c10 : w6.cell? ⟨wy.heap.size, 10, none⟩ = some (.slice va vm vc) := cell_blk hb6 10
          have hlw2 : wy.heap.size < w6.heap.size := blk_lt hb6
          have z6 : ∀ i, w6.frozen? ⟨wy.heap.size, i, none⟩ = false := frozen_blk hb6
          have HB6 := hid hb6; have HV6 := hid hv6; have HO6 := hid ho6; have HSF := hid hsf6
          clear hv6 ho6 hb6 hsf6
          go_wp2_with (first
            | ((guard_target =~ wpList _ _ _ (⟨none, .store 42 _ _, _, _, _, _⟩ :: _) _ _); refine wpList_store_in rfl 42 (.tmp 47) (.tmp 46) rfl (wy.heap.size) 7 #[.int .i64 uk, .int .i64 un, .string (strOf us), .slice ua um uc] rfl rfl #[.int .i64 e.id, .int .i64 e.tm, .int .i64 e.k, .int .i64 e.a, .int .i64 e.b, .string (strOf e.name), .string (strOf e.text), .int .i64 vk, .int .i64 vn, .string (strOf vs), .slice va vm vc] 44 HB6.out (Nat.le_refl 11) info_val (val_one uk un (strOf us) ua um uc) ?_; intro w8 hb8 ho8 hs8; have hb8 : w8.heap[wy.heap.size]? = some (.cells #[.int .i64 e.id, .int .i64 e.tm, .int .i64 e.k, .int .i64 e.a, .int .i64 e.b, .string (strOf e.name), .string (strOf e.text), .int .i64 uk, .int .i64 un, .string (strOf us), .slice ua um uc] 44 (0, 0)) := hb8; clear c0 c1 c2 c3 c4 c5 c6 c7 c8 c9 c10; have c0 : w8.cell? ⟨wy.heap.size, 0, none⟩ = some (.int .i64 e.id) := cell_blk hb8 0; have c1 : w8.cell? ⟨wy.heap.size, 1, none⟩ = some (.int .i64 e.tm) := cell_blk hb8 1; have c2 : w8.cell? ⟨wy.heap.size, 2, none⟩ = some (.int .i64 e.k) := cell_blk hb8 2; have c3 : w8.cell? ⟨wy.heap.size, 3, none⟩ = some (.int .i64 e.a) := cell_blk hb8 3; have c4 : w8.cell? ⟨wy.heap.size, 4, none⟩ = some (.int .i64 e.b) := cell_blk hb8 4; have c5 : w8.cell? ⟨wy.heap.size, 5, none⟩ = some (.string (strOf e.name)) := cell_blk hb8 5; have c6 : w8.cell? ⟨wy.heap.size, 6, none⟩ = some (.string (strOf e.text)) := cell_blk hb8 6; have c7 : w8.cell? ⟨wy.heap.size, 7, none⟩ = some (.int .i64 uk) := cell_blk hb8 7; have c8 : w8.cell? ⟨wy.heap.size, 8, none⟩ = some (.int .i64 un) := cell_blk hb8 8; have c9 : w8.cell? ⟨wy.heap.size, 9, none⟩ = some (.string (strOf us)) := cell_blk hb8 9; have c10 : w8.cell? ⟨wy.heap.size, 10, none⟩ = some (.slice ua um uc) := cell_blk hb8 10; have hlx : wy.heap.size < w8.heap.size := blk_lt hb8; have HB8 := hid hb8; have HO8 := hid ho8; have HS8 := hid hs8; clear hb8 ho8 hs8)
            | ((guard_target =~ wpList _ _ _ (⟨some 51, _, _, _, _, _⟩ :: _) _ _); refine wpList_gr rfl elE (.tmp 48) (.tmp 50) rfl ((HOUT.out.only (((HO1.out.trans HO6.out (fun _ _ e => e)).mono (G := fun q => q = wy.heap.size) (fun _ _ e => e.elim)).trans (HO8.out.trans ((only_new w8 _).mono (fun _ _ e => e.elim)) (fun _ _ e => e)) (fun _ _ e => e)) (fun k hk hk2 e => by have e' : k = wy.heap.size := e; omega)).gr) rfl (some ⟨w8.heap.size, 0, none⟩) 1 1 rfl [.int .i64 e.id, .int .i64 e.tm, .int .i64 e.k, .int .i64 e.a, .int .i64 e.b, .string (strOf e.name), .string (strOf e.text), .int .i64 uk, .int .i64 un, .string (strOf us), .slice ua um uc] (SrcG.new (blk_new w8 _) rfl (ev_ones _ _ _ _ _ _ _ _ _ _ _ _ _)) (by omega) (by omega) ?_; intro ao' cp' w9 hg9 ha9 ho9; have HG9 := hid hg9; have HA9 := hid ha9; have HO9 := hid ho9; clear hg9 ha9 ho9))
          go_roundw
          case rel =>
            have hoA : Only (fun _ => False) wy w6 := HO1.out.trans HO6.out (fun _ _ e => e)
            have hoB : Only (fun q => q = wy.heap.size) w6 (w8.alloc (.cells #[.int .i64 e.id, .int .i64 e.tm, .int .i64 e.k, .int .i64 e.a, .int .i64 e.b, .string (strOf e.name), .string (strOf e.text), .int .i64 uk, .int .i64 un, .string (strOf us), .slice ua um uc] 44)) := HO8.out.trans ((only_new w8 _).mono (fun _ _ e => e.elim)) (fun _ _ e => e)
            have hoC : Only (fun q => q = wy.heap.size) wy (w8.alloc (.cells #[.int .i64 e.id, .int .i64 e.tm, .int .i64 e.k, .int .i64 e.a, .int .i64 e.b, .string (strOf e.name), .string (strOf e.text), .int .i64 uk, .int .i64 un, .string (strOf us), .slice ua um uc] 44)) := (hoA.mono (G := fun q => q = wy.heap.size) (fun _ _ e => e.elim)).trans hoB (fun _ _ e => e)
            refine ⟨j + 1, cp', ao', xs ++ e.cells [.int .i64 uk, .int .i64 un, .string (strOf us), .slice ua um uc], by go_num, by omega, by have := HLM.out; omega, rfl, ?_, ?_⟩
            · rw [HTK.out]
              exact HOUT.out.snoc (e := e) (vc := [.int .i64 uk, .int .i64 un, .string (strOf us), .slice ua um uc]) hoC (fun k _ hk e => by have e' : k = wy.heap.size := e; omega) (by simp) (fun k hk => by simp at hk; omega) HV6.out HSF.out hoB HO6.out.size (fun k hk e => by have e' : k = wy.heap.size := e; simp at hk; omega) HG9.out HA9.out HO9.out
            · refine HO.out.trans ((hoC.mono (G := fun q => q = wy.heap.size ∨ ao = some ⟨q, 0, none⟩) (fun _ _ e => .inl e)).trans HO9.out (fun _ _ e => .inr e)) (fun k hk e => ?_)
              rcases e with e | e
              · omega
              · have := HOUT.out.new k e; omega
          case measure => simp [intOf]; omega
        · have hje : j = min M 256 := by have := HJM.out; omega
          have HLA : Hid (PL = (es.drop f0).take j) := hid (by rw [← HPL.out, hje])
          have hlj2 := HOUT.out.len
          have HLJ := hid hlj2
          have hbq : ((j : Int) == min (M : Int) 256) = true := by simp; omega
          clear hlj2 hje hlm
          go_wp2_with fail
          go_ret2
          rw [HLA.out]
          first | exact ⟨ao, cp, xs, by rw [← HLJ.out]; rfl, by rw [← HLJ.out]; exact HOUT.out.only (only_new _ _) (fun _ _ _ e => e), HO.out.trans (only_new _ _) (fun _ _ e => e)⟩ | exact ⟨ao, cp, by rw [← HLJ.out]; rfl, ⟨xs, by rw [← HLJ.out]; exact HOUT.out.only (only_new _ _) (fun _ _ _ e => e)⟩, HO.out.trans (only_new _ _) (fun _ _ e => e)⟩
      · have hlast : PL = (es.drop f0).take j := by
          rw [← HPL.out, List.take_of_length_le (by rw [List.length_drop]; have := HJM.out; omega), List.take_of_length_le (by rw [List.length_drop]; omega)]
        have HLA := hid hlast
        clear hlast
        have hjl2 : ¬ (j : Int) < D := by omega
        go_wp2_with fail
        go_ret2
        rw [HLA.out]
        have hlj2 := HOUT.out.len
        first | exact ⟨ao, cp, xs, by rw [← hlj2]; rfl, by rw [← hlj2]; exact HOUT.out, HO.out⟩ | exact ⟨ao, cp, by rw [← hlj2]; rfl, ⟨xs, by rw [← hlj2]; exact HOUT.out⟩, HO.out⟩
  · obtain rfl : f0 = es.length := by omega
    have HL0 : Hid (PL = []) := hid (by rw [← HPL.out]; simp)
    have hle := h.list.le
    rw [HL0.out]
    have hlc : (es.length : Int) ≤ lc := by omega
    clear h hfl
    by_cases hcap : lc = es.length
    · subst hcap
      go_enter Try.func15, Try.ntmps15
      go_wp2_with fail
      go_loopw [35, 8] (fun i v wr => i = .int .i64 0 ∧ v = .slice none 0 0 ∧ wr = w) (fun _ _ _ => 0)
      case atStart => exact ⟨rfl, rfl, rfl⟩
      case round =>
        obtain ⟨rfl, rfl, rfl⟩ := hrel
        go_wp2_with fail
        go_ret2
        first | exact ⟨none, 0, [], rfl, OutE.nil _ _, Only.refl _ _⟩ | exact ⟨none, 0, rfl, ⟨[], OutE.nil _ _⟩, Only.refl _ _⟩
    · have hcap2 : (es.length : Int) < lc := by omega
      go_enter Try.func15, Try.ntmps15
      go_wp2_with fail
      go_loopw [35, 8] (fun i v wr => i = .int .i64 0 ∧ v = .slice none 0 0 ∧ wr = w) (fun _ _ _ => 0)
      case atStart => exact ⟨rfl, rfl, rfl⟩
      case round =>
        obtain ⟨rfl, rfl, rfl⟩ := hrel
        go_wp2_with fail
        go_ret2
        first | exact ⟨none, 0, [], rfl, OutE.nil _ _, Only.refl _ _⟩ | exact ⟨none, 0, rfl, ⟨[], OutE.nil _ _⟩, Only.refl _ _⟩
end
end Go.Proofs.Ytnoopajedgllhaa
