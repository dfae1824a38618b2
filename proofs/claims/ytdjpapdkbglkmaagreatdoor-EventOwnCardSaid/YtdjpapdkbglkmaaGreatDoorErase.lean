/- event.Erase. -/
import Derived.Test.YtdjpapdkbglkmaaGreatDoorValD
import Derived.Test.YtdjpapdkbglkmaaGreatDoorEvT
import Derived.Test.YtdjpapdkbglkmaaGreatDoorFits
namespace Go.Proofs.YtdjpapdkbglkmaaGreatDoor
open Go.RowKit

def EM.anew (e : EM) (n : Int) : EM := { e with id := n, v := e.v.cl }
/-- Events without bookkeeping, numbered anew. -/
def ers (n : Nat) : List EM → List EM
  | [] => []
  | e :: es => if taskB e.k = true then ers n es else e.anew (n + 1) :: ers (n + 1) es
theorem ers_snoc : ∀ (l : List EM) (n : Nat) (e : EM), ers n (l ++ [e]) = ers n l ++ (if taskB e.k = true then [] else [e.anew (n + (ers n l).length + 1)])
  | [], n, e => by
    rw [List.nil_append, ers, ers, ers, ers]
    split <;> simp
  | x :: l, n, e => by
    rw [List.cons_append, ers]
    by_cases h : taskB x.k = true
    · rw [if_pos h, ers_snoc l n e]
      conv => rhs; rw [ers, if_pos h]
    · rw [if_neg h, ers_snoc l (n + 1) e]
      conv => rhs; rw [ers, if_neg h]
      rw [List.cons_append, List.length_cons]
      congr 2
      split
      · rfl
      · congr 2; omega
theorem ers_take {es : List EM} {j : Nat} {e : EM} (h : es[j]? = some e) : ers 0 (es.take (j + 1)) = ers 0 (es.take j) ++ (if taskB e.k = true then [] else [e.anew ((ers 0 (es.take j)).length + 1)]) := by
  rw [List.take_add_one, h]
  show ers 0 (es.take j ++ [e]) = _
  rw [ers_snoc]; simp
theorem ers_len : ∀ (l : List EM) (n : Nat), (ers n l).length ≤ l.length
  | [], n => by rw [ers]; simp
  | x :: l, n => by
    rw [ers]
    split
    · have := ers_len l n; simp; omega
    · have := ers_len l (n + 1); simp; omega
mutual
theorem fit_sz : ∀ (t : VT) (d : Nat) (x : Int), (t.fit d x).1 = true → (t.sz : Int) = x - (t.fit d x).2
  | .mk k n s l, d, x, h => by
    rw [VT.fit] at h ⊢
    rw [VT.sz]
    by_cases g : x - 1 < 0 ∨ 12 < d ∨ 1100 < s.length
    · rw [if_pos g] at h; simp at h
    · rw [if_neg g] at h ⊢
      have := fitL_sz l (d + 1) (x - 1) h
      omega
theorem fitL_sz : ∀ (l : List VT) (d : Nat) (x : Int), (VT.fitL d x l).1 = true → (VT.szL l : Int) = x - (VT.fitL d x l).2
  | [], d, x, h => by rw [VT.fitL, VT.szL]; simp
  | t :: ts, d, x, h => by
    rw [VT.fitL] at h ⊢
    rw [VT.szL]
    by_cases g : (t.fit d x).1 = true
    · rw [if_pos g] at h ⊢
      have h1 := fit_sz t d x g
      have h2 := fitL_sz ts d _ h
      omega
    · rw [if_neg g] at h; simp at h
end
theorem smB_sz : ∀ (es : List EM) (x : Int), 0 ≤ x → smB es x = true → ∀ e ∈ es, (e.v.sz : Int) ≤ x
  | [], _, _, _, _, h => by simp at h
  | a :: es, x, hx, h, e, he => by
    rw [smB] at h
    by_cases g : 200 < a.name.length ∨ 200 < a.text.length
    · rw [if_pos g] at h; simp at h
    rw [if_neg g] at h
    by_cases g2 : (a.v.fit 0 x).1 = true
    · rw [if_pos g2] at h
      have hr := fit_rng a.v 0 x hx
      have h3 := hr.2.2 g2
      rcases List.mem_cons.1 he with rfl | he'
      · have := fit_sz e.v 0 x g2; omega
      · have := smB_sz es _ h3 h e he'; omega
    · rw [if_neg g2] at h; simp at h
/-- Cells, one event behind the other. -/
def EXs (w : World) (G : Nat → Prop) : List EM → List Value → Prop
  | [], xs => xs = []
  | t :: ts, xs => ∃ cs ys, xs = cs ++ ys ∧ EAt w G t cs ∧ EXs w G ts ys
section
variable {w w' : World} {G F : Nat → Prop}
theorem EXs.only (ho : Only F w w') (hd : ∀ k, G k → ¬ F k) : ∀ {l : List EM} {xs : List Value}, EXs w G l xs → EXs w' G l xs
  | [], _, h => h
  | _ :: _, _, ⟨cs, ys, e, h1, h2⟩ => ⟨cs, ys, e, h1.only ho hd, EXs.only ho hd h2⟩
theorem EXs.mono {G' : Nat → Prop} (hd : ∀ k, G k → G' k) : ∀ {l : List EM} {xs : List Value}, EXs w G l xs → EXs w G' l xs
  | [], _, h => h
  | _ :: _, _, ⟨cs, ys, e, h1, h2⟩ => ⟨cs, ys, e, h1.mono hd, EXs.mono hd h2⟩
theorem EXs.snoc {t : EM} {cs : List Value} (ht : EAt w G t cs) : ∀ {l : List EM} {xs : List Value}, EXs w G l xs → EXs w G (l ++ [t]) (xs ++ cs)
  | [], _, h => by
    have h' : _ = ([] : List Value) := h
    subst h'
    exact ⟨cs, [], by simp, ht, rfl⟩
  | _ :: _, _, ⟨cs', ys, e, h1, h2⟩ => ⟨cs', ys ++ cs, by rw [e, List.append_assoc], h1, EXs.snoc ht h2⟩
theorem EAt.len11 {e : EM} {cs : List Value} (h : EAt w G e cs) : cs.length = 11 := by obtain ⟨k, n, s, a, m, c, rfl, -⟩ := h.form; rfl
theorem EXs.at' : ∀ {l : List EM} {xs : List Value}, EXs w G l xs → ∀ (i : Nat) (e : EM), l[i]? = some e → ∃ cs, (∀ j u, cs[j]? = some u → xs[i * 11 + j]? = some u) ∧ EAt w G e cs
  | [], _, _, i, e, h => by simp at h
  | t :: ts, _, ⟨cs, ys, rfl, h1, h2⟩, 0, e, h => by
    simp only [List.getElem?_cons_zero, Option.some.injEq] at h
    subst h
    refine ⟨cs, fun j u hj => ?_, h1⟩
    rw [Nat.zero_mul, Nat.zero_add, List.getElem?_append_left (by rcases Nat.lt_or_ge j cs.length with g | g; exact g; rw [List.getElem?_eq_none g] at hj; cases hj)]; exact hj
  | t :: ts, _, ⟨cs, ys, rfl, h1, h2⟩, i + 1, e, h => by
    simp only [List.getElem?_cons_succ] at h
    obtain ⟨ds, h3, h4⟩ := EXs.at' h2 i e h
    refine ⟨ds, fun j u hj => ?_, h4⟩
    have h11 := h1.len11
    rw [List.getElem?_append_right (by omega), h11, show (i + 1) * 11 + j - 11 = i * 11 + j from by omega]
    exact h3 j u hj
/-- The blocks of the events' lists are new, not the events' own, and may be written. -/
def SoftL (w w' : World) (ad : Option Addr) (xs : List Value) : Prop := ∀ q o m c, Value.slice (some ⟨q, o, none⟩) m c ∈ xs → w.heap.size ≤ q ∧ q < w'.heap.size ∧ ad ≠ some ⟨q, 0, none⟩ ∧ ∃ arr T, w'.heap[q]? = some (.cells arr T (0, 0))
theorem soft_only {w w' : World} {F : Nat → Prop} (ho : Only F w w') {q : Nat} (hq : q < w.heap.size) (hF : ¬ F q) (h : ∃ arr T, w.heap[q]? = some (.cells arr T (0, 0))) : ∃ arr T, w'.heap[q]? = some (.cells arr T (0, 0)) := by
  obtain ⟨arr, T, h⟩ := h
  exact ⟨arr, T, by rw [ho.block q hq hF]; exact h⟩
theorem elE : Elem Tryz.prog 40 26 11 128 := .mk Tryz.underlying40 (z := .agg #[.int .i64 0, .int .i64 0, .int .i64 0, .int .i64 0, .int .i64 0, .string ⟨#[]⟩, .string ⟨#[]⟩, .int .i64 0, .int .i64 0, .string ⟨#[]⟩, .slice none 0 0]) (by kernel_rfl) rfl
theorem ev_ones (i t k a b : Int) (s1 s2 : ByteArray) (vk vn : Int) (s : ByteArray) (va : Option Addr) (m c : Nat) : ∀ u ∈ ([Value.int .i64 i, .int .i64 t, .int .i64 k, .int .i64 a, .int .i64 b, .string s1, .string s2, .int .i64 vk, .int .i64 vn, .string s, .slice va m c] : List Value), u.oneCell' = true := by simp [Value.oneCell']
set_option maxRecDepth 100000 in
set_option maxHeartbeats 1600000 in
theorem erase_s {v : Value} {es : List EM} (hE : EvsV w G v es) (hG : ∀ k, G k → k < w.heap.size) (hg : ∀ e ∈ es, e.v.rg) (hs : ∀ e ∈ es, e.v.sz ≤ 1000000000) (hel : es.length ≤ 1000000) :
    Calls Tryz.prog 19 #[v] w fun x w' => ∃ ad n cap xs, x = .returned (.slice ad n cap) ∧ n = (ers 0 es).length ∧ Gr w' 26 11 ad n cap xs ∧ (∀ q, ad = some ⟨q, 0, none⟩ → w.heap.size ≤ q) ∧ EXs w' (fun q => w.heap.size ≤ q ∧ q < w'.heap.size ∧ ad ≠ some ⟨q, 0, none⟩) (ers 0 es) xs ∧ SoftL w w' ad xs ∧ Only (fun _ => False) w w' := by
  have HE := hid hE; have HGl := hid hG; have Hg := hid hg; have Hs := hid hs
  obtain ⟨ad, cap, g, o, rfl, hne, hel3⟩ := hE
  have HNE := hid hne; have HEL := hid hel3
  clear hG hg hs hne hel3
  go_enter Tryz.func19, Tryz.ntmps19
  go_wp2_with fail
  go_loopw [8, 3] (fun i s wr => ∃ (j cp n : Nat) (ao : Option Addr) (xs : List Value), i = .int .i64 j ∧ j ≤ es.length ∧ s = .slice ao n cp ∧ n = (ers 0 (es.take j)).length ∧ Gr wr 26 11 ao n cp xs ∧ (∀ q, ao = some ⟨q, 0, none⟩ → w.heap.size ≤ q) ∧ EXs wr (fun q => w.heap.size ≤ q ∧ q < wr.heap.size ∧ ao ≠ some ⟨q, 0, none⟩) (ers 0 (es.take j)) xs ∧ SoftL w wr ao xs ∧ Only (fun _ => False) w wr) (fun i _ _ => es.length - (intOf i).toNat)
  case atStart => exact ⟨0, 0, 0, none, [], rfl, Nat.zero_le _, rfl, rfl, Gr.nil, by simp, rfl, fun q o m c h => by simp at h, Only.refl _ _⟩
  case round =>
    obtain ⟨j, cp, n, ao, xs, rfl, hj, rfl, hnn, hgr, hao, hvx, hsl, ho⟩ := hrel
    have hnl : n ≤ j := by have := ers_len (es.take j) 0; rw [List.length_take] at this; omega
    have HGR := hid hgr; have HAO := hid hao; have HVX := hid hvx; have HO := hid ho; have HNN := hid hnn
    have hso := ho.size
    have HSL := hid hsl
    clear hgr hao hvx ho hnn hsl
    by_cases hjl : j < es.length
    · have hji : (j : Int) < es.length := by omega
      obtain ⟨e, he⟩ : ∃ t, es[j]? = some t := ⟨_, List.getElem?_eq_getElem hjl⟩
      obtain ⟨rfl, hGg⟩ := HNE.out (by rintro rfl; simp at hjl)
      obtain ⟨cs, hcs, hEe⟩ := HEL.out j e he
      have hvg := Hg.out e (List.mem_of_getElem? he)
      have hvz := Hs.out e (List.mem_of_getElem? he)
      have htk := ers_take he
      have hcw : ∀ i u, cs[i]? = some u → wr.cell? ⟨g, o + j * 11 + i, none⟩ = some u := fun i u hu =>
        (World.cell?_of_block (HO.out.block g (World.block_lt_of_cell? _ _ (hcs i u hu)) (fun e => e))).trans (hcs i u hu)
      have hEw := hEe.same HO.out
      obtain ⟨vk, vn, vs, va, vm, vc, rfl, hV⟩ := hEw.form
      have e0 := hcw 0 _ rfl
      rw [Nat.add_zero] at e0
      have e1 := hcw 1 _ rfl
      have e2 := hcw 2 _ rfl
      have e3 := hcw 3 _ rfl
      have e4 := hcw 4 _ rfl
      have e5 := hcw 5 _ rfl
      have e6 := hcw 6 _ rfl
      have e7 := hcw 7 _ rfl
      have e8 := hcw 8 _ rfl
      have e9 := hcw 9 _ rfl
      have e10 := hcw 10 _ rfl
      have hbx := blk_new wr (.cells #[.int .i64 e.id, .int .i64 e.tm, .int .i64 e.k, .int .i64 e.a, .int .i64 e.b, .string (strOf e.name), .string (strOf e.text), .int .i64 vk, .int .i64 vn, .string (strOf vs), .slice va vm vc] 26)
      have HBX := hid hbx
      have HTK := hid htk
      have HT := hid (task_c (hEw.same (only_new wr (.cells #[.int .i64 e.id, .int .i64 e.tm, .int .i64 e.k, .int .i64 e.a, .int .i64 e.b, .string (strOf e.name), .string (strOf e.text), .int .i64 vk, .int .i64 vn, .string (strOf vs), .slice va vm vc] 26))))
      have hal := only_new wr (.cells #[.int .i64 e.id, .int .i64 e.tm, .int .i64 e.k, .int .i64 e.a, .int .i64 e.b, .string (strOf e.name), .string (strOf e.text), .int .i64 vk, .int .i64 vn, .string (strOf vs), .slice va vm vc] 26)
      have HEW := hid hEw; have HV := hid hV; have Hvg := hid hvg
      obtain ⟨b, hb⟩ : ∃ b, taskB e.k = b := ⟨_, rfl⟩
      rw [hb] at HT
      have HBB := hid hb
      clear hcs hEe hcw hEw hV hvg he hb hbx htk hal
      cases b with
      | true =>
        have HF : Hid (ers 0 (es.take (j + 1)) = ers 0 (es.take j)) := hid (by rw [HTK.out, if_pos HBB.out, List.append_nil])
        go_wp2_with fail
        refine HT.out.mono ?_
        rintro x w5 ⟨rfl, ho5⟩
        have HO5 := hid ((only_new wr (.cells #[.int .i64 e.id, .int .i64 e.tm, .int .i64 e.k, .int .i64 e.a, .int .i64 e.b, .string (strOf e.name), .string (strOf e.text), .int .i64 vk, .int .i64 vn, .string (strOf vs), .slice va vm vc] 26)).trans ho5 (fun _ _ e => e))
        clear ho5
        go_wp2_with fail
        go_roundw
        case rel =>
          refine ⟨j + 1, cp, n, ao, xs, by go_num, by omega, rfl, by rw [HF.out]; exact HNN.out, HGR.out.only HO5.out (fun _ _ e => e), HAO.out, ?_, fun q o m c h => by obtain ⟨h1, h2, h3, h4⟩ := HSL.out q o m c h; have := HO5.out.size; exact ⟨h1, by omega, h3, soft_only HO5.out h2 (fun e => e) h4⟩, HO.out.trans HO5.out (fun _ _ e => e)⟩
          rw [HF.out]
          have := HO5.out.size
          exact (HVX.out.only HO5.out (fun _ _ e => e)).mono (fun q hq => ⟨hq.1, by omega, hq.2.2⟩)
        case measure => simp [intOf]; omega
      | false =>
        have HF : Hid (ers 0 (es.take (j + 1)) = ers 0 (es.take j) ++ [e.anew (n + 1)]) := hid (by rw [HTK.out, HBB.out, HNN.out]; simp)
        go_wp2_with fail
        refine HT.out.mono ?_
        rintro x w5 ⟨rfl, ho5⟩
        have ho5' := (only_new wr (.cells #[.int .i64 e.id, .int .i64 e.tm, .int .i64 e.k, .int .i64 e.a, .int .i64 e.b, .string (strOf e.name), .string (strOf e.text), .int .i64 vk, .int .i64 vn, .string (strOf vs), .slice va vm vc] 26)).trans ho5 (fun _ _ e => e)
        have hb5 := blk_only HBX.out ho5 (fun e => e)
        skip
        have c0 : w5.cell? ⟨wr.heap.size, 0, none⟩ = some (.int .i64 e.id) := cell_blk hb5 0
        have c1 : w5.cell? ⟨wr.heap.size, 1, none⟩ = some (.int .i64 e.tm) := cell_blk hb5 1
        have c2 : w5.cell? ⟨wr.heap.size, 2, none⟩ = some (.int .i64 e.k) := cell_blk hb5 2
        have c3 : w5.cell? ⟨wr.heap.size, 3, none⟩ = some (.int .i64 e.a) := cell_blk hb5 3
        have c4 : w5.cell? ⟨wr.heap.size, 4, none⟩ = some (.int .i64 e.b) := cell_blk hb5 4
        have c5 : w5.cell? ⟨wr.heap.size, 5, none⟩ = some (.string (strOf e.name)) := cell_blk hb5 5
        have c6 : w5.cell? ⟨wr.heap.size, 6, none⟩ = some (.string (strOf e.text)) := cell_blk hb5 6
        have c7 : w5.cell? ⟨wr.heap.size, 7, none⟩ = some (.int .i64 vk) := cell_blk hb5 7
        have c8 : w5.cell? ⟨wr.heap.size, 8, none⟩ = some (.int .i64 vn) := cell_blk hb5 8
        have c9 : w5.cell? ⟨wr.heap.size, 9, none⟩ = some (.string (strOf vs)) := cell_blk hb5 9
        have c10 : w5.cell? ⟨wr.heap.size, 10, none⟩ = some (.slice va vm vc) := cell_blk hb5 10
        have hlw1 : wr.heap.size < w5.heap.size := blk_lt hb5
        have HB5 := hid hb5
        have hs5 := ho5'.size
        have HC := hid (cloneC _ e.v (Nat.le_refl _) w5 G _ (HV.out.same ho5') (fun i hi => by have := HGl.out i hi; omega) Hvg.out hvz)
        have HO5 := hid ho5'
        clear ho5 ho5' hb5
        go_wp2_with fail
        refine HC.out.mono ?_
        rintro x w6 ⟨cs6, rfl, hv6, ho6, hsf6⟩
        obtain ⟨uk, un, us, ua, um, uc, rfl⟩ := hv6.form
        have hb6 := blk_only HB5.out ho6 (fun e => e)
        clear c0 c1 c2 c3 c4 c5 c6 c7 c8 c9 c10
        have c0 : w6.cell? ⟨wr.heap.size, 0, none⟩ = some (.int .i64 e.id) := cell_blk hb6 0
        have c1 : w6.cell? ⟨wr.heap.size, 1, none⟩ = some (.int .i64 e.tm) := cell_blk hb6 1
        have c2 : w6.cell? ⟨wr.heap.size, 2, none⟩ = some (.int .i64 e.k) := cell_blk hb6 2
        have c3 : w6.cell? ⟨wr.heap.size, 3, none⟩ = some (.int .i64 e.a) := cell_blk hb6 3
        have c4 : w6.cell? ⟨wr.heap.size, 4, none⟩ = some (.int .i64 e.b) := cell_blk hb6 4
        have c5 : w6.cell? ⟨wr.heap.size, 5, none⟩ = some (.string (strOf e.name)) := cell_blk hb6 5
        have c6 : w6.cell? ⟨wr.heap.size, 6, none⟩ = some (.string (strOf e.text)) := cell_blk hb6 6
        have c7 : w6.cell? ⟨wr.heap.size, 7, none⟩ = some (.int .i64 vk) := cell_blk hb6 7
        have c8 : w6.cell? ⟨wr.heap.size, 8, none⟩ = some (.int .i64 vn) := cell_blk hb6 8
        have c9 : w6.cell? ⟨wr.heap.size, 9, none⟩ = some (.string (strOf vs)) := cell_blk hb6 9
        have c10 : w6.cell? ⟨wr.heap.size, 10, none⟩ = some (.slice va vm vc) := cell_blk hb6 10
        have hlw2 : wr.heap.size < w6.heap.size := blk_lt hb6
        have z6 : ∀ i, w6.frozen? ⟨wr.heap.size, i, none⟩ = false := frozen_blk hb6
        have hb7 : (w6.setCell ⟨wr.heap.size, 0, none⟩ (.int .i64 (n + 1))).heap[wr.heap.size]? = some (.cells #[.int .i64 (n + 1), .int .i64 e.tm, .int .i64 e.k, .int .i64 e.a, .int .i64 e.b, .string (strOf e.name), .string (strOf e.text), .int .i64 vk, .int .i64 vn, .string (strOf vs), .slice va vm vc] 26 (0, 0)) := by
          have := blk_set hb6 0 (.int .i64 (n + 1))
          simpa using this
        have HB7 := hid hb7
        have HV6 := hid hv6; have HO6 := hid ho6; have HSF := hid hsf6
        clear hv6 ho6 hb6 hb7 hsf6
        go_wp2_with (first
          | ((guard_target =~ wpList _ _ _ (⟨none, .store 24 (.tmp 21) (.tmp 19), _, _, _, _⟩ :: _) _ _); refine wpList_store_in (o := ⟨none, .store 24 (.tmp 21) (.tmp 19), _, _, _, _⟩) rfl 24 (.tmp 21) (.tmp 19) rfl wr.heap.size 7 #[.int .i64 uk, .int .i64 un, .string (strOf us), .slice ua um uc] rfl rfl #[.int .i64 (n + 1), .int .i64 e.tm, .int .i64 e.k, .int .i64 e.a, .int .i64 e.b, .string (strOf e.name), .string (strOf e.text), .int .i64 vk, .int .i64 vn, .string (strOf vs), .slice va vm vc] 26 HB7.out (Nat.le_refl 11) info_val (val_one uk un (strOf us) ua um uc) ?_; intro w8 hb8 ho8 hs8; have hb8 : w8.heap[wr.heap.size]? = some (.cells #[.int .i64 (n + 1), .int .i64 e.tm, .int .i64 e.k, .int .i64 e.a, .int .i64 e.b, .string (strOf e.name), .string (strOf e.text), .int .i64 uk, .int .i64 un, .string (strOf us), .slice ua um uc] 26 (0, 0)) := hb8; clear c0 c1 c2 c3 c4 c5 c6 c7 c8 c9 c10; have c0 : w8.cell? ⟨wr.heap.size, 0, none⟩ = some (.int .i64 (n + 1)) := cell_blk hb8 0; have c1 : w8.cell? ⟨wr.heap.size, 1, none⟩ = some (.int .i64 e.tm) := cell_blk hb8 1; have c2 : w8.cell? ⟨wr.heap.size, 2, none⟩ = some (.int .i64 e.k) := cell_blk hb8 2; have c3 : w8.cell? ⟨wr.heap.size, 3, none⟩ = some (.int .i64 e.a) := cell_blk hb8 3; have c4 : w8.cell? ⟨wr.heap.size, 4, none⟩ = some (.int .i64 e.b) := cell_blk hb8 4; have c5 : w8.cell? ⟨wr.heap.size, 5, none⟩ = some (.string (strOf e.name)) := cell_blk hb8 5; have c6 : w8.cell? ⟨wr.heap.size, 6, none⟩ = some (.string (strOf e.text)) := cell_blk hb8 6; have c7 : w8.cell? ⟨wr.heap.size, 7, none⟩ = some (.int .i64 uk) := cell_blk hb8 7; have c8 : w8.cell? ⟨wr.heap.size, 8, none⟩ = some (.int .i64 un) := cell_blk hb8 8; have c9 : w8.cell? ⟨wr.heap.size, 9, none⟩ = some (.string (strOf us)) := cell_blk hb8 9; have c10 : w8.cell? ⟨wr.heap.size, 10, none⟩ = some (.slice ua um uc) := cell_blk hb8 10; have hlx : wr.heap.size < w8.heap.size := blk_lt hb8; have HB8 := hid hb8; have HO8 := hid ho8; have HS8 := hid hs8; clear hb8 ho8 hs8)
          | ((guard_target =~ wpList _ _ _ (⟨some 25, _, _, _, _, _⟩ :: _) _ _); refine wpList_gr (o := ⟨some 25, _, _, _, _, _⟩) rfl elE (.tmp 22) (.tmp 24) rfl (HGR.out.only (((HO5.out.trans HO6.out (fun _ _ e => e)).mono (G := fun q => q = wr.heap.size) (fun _ _ e => e.elim)).trans (((only_set _ _ _).trans HO8.out (fun _ _ e => e)).trans ((only_new w8 _).mono (fun _ _ e => e.elim)) (fun _ _ e => e)) (fun _ _ e => e)) (fun q hq e => by have := HGR.out.lt hq; have e' : q = wr.heap.size := e; omega)) rfl (some ⟨w8.heap.size, 0, none⟩) 1 1 rfl [.int .i64 (n + 1), .int .i64 e.tm, .int .i64 e.k, .int .i64 e.a, .int .i64 e.b, .string (strOf e.name), .string (strOf e.text), .int .i64 uk, .int .i64 un, .string (strOf us), .slice ua um uc] (SrcG.new (blk_new w8 _) rfl (ev_ones _ _ _ _ _ _ _ _ _ _ _ _ _)) (by omega) (by omega) ?_; intro ao' cp' w9 hg9 ha9 ho9; have HG9 := hid hg9; have HA9 := hid ha9; have HO9 := hid ho9; clear hg9 ha9 ho9))
        go_roundw
        case rel =>
          have hoA : Only (fun _ => False) wr w6 := HO5.out.trans HO6.out (fun _ _ e => e)
          have hoB : Only (fun q => q = wr.heap.size) wr (w8.alloc (.cells #[.int .i64 (n + 1), .int .i64 e.tm, .int .i64 e.k, .int .i64 e.a, .int .i64 e.b, .string (strOf e.name), .string (strOf e.text), .int .i64 uk, .int .i64 un, .string (strOf us), .slice ua um uc] 26)) := (hoA.mono (G := fun q => q = wr.heap.size) (fun _ _ e => e.elim)).trans (((only_set _ _ _).trans HO8.out (fun _ _ e => e)).trans ((only_new w8 _).mono (fun _ _ e => e.elim)) (fun _ _ e => e)) (fun _ _ e => e)
          have hoC : Only (fun q => ao = some ⟨q, 0, none⟩ ∨ q = wr.heap.size) wr w9 := (hoB.mono (fun _ _ e => .inr e)).trans HO9.out (fun _ _ e => .inl e)
          have hoD : Only (fun q => ao = some ⟨q, 0, none⟩ ∨ q = wr.heap.size) w6 w9 := ((((only_set _ _ _).trans HO8.out (fun _ _ e => e)).trans ((only_new w8 _).mono (fun _ _ e => e.elim)) (fun _ _ e => e)).mono (fun _ _ e => .inr e)).trans HO9.out (fun _ _ e => .inl e)
          have hs6 := HO6.out.size
          have hs8 : w8.heap.size = w6.heap.size := by have := HS8.out; simpa using this
          have hs9 : w8.heap.size + 1 ≤ w9.heap.size := by have := HO9.out.size; simpa using this
          have hao' : ∀ q, ao' = some ⟨q, 0, none⟩ → (ao = some ⟨q, 0, none⟩ ∨ q = w8.heap.size + 1) := fun q hq => by
            rcases HA9.out with e | e
            · exact .inl (by rw [← e]; exact hq)
            · rw [hq] at e; simp only [Option.some.injEq, Addr.mk.injEq, and_true, World.size_alloc] at e; exact .inr e
          refine ⟨j + 1, cp', n + 1, ao', _, by go_num, by omega, rfl, by rw [HF.out, List.length_append, ← HNN.out]; rfl, HG9.out, fun q hq => ?_, ?_, ?_, HO.out.trans hoC (fun i hi e => ?_)⟩
          · rcases hao' q hq with h | h
            · exact HAO.out _ h
            · omega
          · rw [HF.out]
            have k1 : VAt w9 (fun q => w.heap.size ≤ q ∧ q < w9.heap.size ∧ ao' ≠ some ⟨q, 0, none⟩) e.v.cl [.int .i64 uk, .int .i64 un, .string (strOf us), .slice ua um uc] :=
              (HV6.out.only hoD (fun i hi e => by
                have h3 : w5.heap.size ≤ i := hi.1
                rcases e with e | e
                · have := HGR.out.lt e; omega
                · omega)).mono (fun i hi => by
                have h3 : w5.heap.size ≤ i := hi.1
                have h4 : i < w6.heap.size := hi.2
                refine ⟨by omega, by omega, fun e => ?_⟩
                rcases hao' i e with h | h
                · have := HGR.out.lt h; omega
                · omega)
            have k2 : EXs w9 (fun q => w.heap.size ≤ q ∧ q < w9.heap.size ∧ ao' ≠ some ⟨q, 0, none⟩) (ers 0 (es.take j)) xs :=
              (HVX.out.only hoC (fun i hi e => by
                obtain ⟨h3, h4, h5⟩ := hi
                rcases e with e | e
                · exact h5 e
                · omega)).mono (fun i hi => by
                obtain ⟨h3, h4, h5⟩ := hi
                refine ⟨h3, by omega, fun e => ?_⟩
                rcases hao' i e with h | h
                · exact h5 h
                · omega)
            exact EXs.snoc (cs := [.int .i64 (n + 1), .int .i64 e.tm, .int .i64 e.k, .int .i64 e.a, .int .i64 e.b, .string (strOf e.name), .string (strOf e.text), .int .i64 uk, .int .i64 un, .string (strOf us), .slice ua um uc]) ⟨[.int .i64 uk, .int .i64 un, .string (strOf us), .slice ua um uc], rfl, k1⟩ k2
          · intro q o m c h
            rcases List.mem_append.1 h with h | h
            · obtain ⟨h1, h2, h3, h4⟩ := HSL.out q o m c h
              refine ⟨h1, by omega, fun e => ?_, soft_only hoC h2 (fun e => ?_) h4⟩
              · rcases hao' q e with h | h
                · exact h3 h
                · omega
              · rcases e with e | e
                · exact h3 e
                · omega
            · have h' : Value.slice (some ⟨q, o, none⟩) m c ∈ [.int .i64 uk, .int .i64 un, .string (strOf us), .slice ua um uc] := by
                simp only [List.mem_cons, reduceCtorEq, List.not_mem_nil, or_false, false_or] at h ⊢
                exact h
              obtain ⟨⟨h1, h2⟩, h4⟩ := HSF.out q o m c h'
              refine ⟨by omega, by omega, fun e => ?_, soft_only hoD h2 (fun e => ?_) h4⟩
              · rcases hao' q e with h | h
                · have := HGR.out.lt h; omega
                · omega
              · rcases e with e | e
                · have := HGR.out.lt e; omega
                · omega
          · rcases e with e | e
            · have := HAO.out _ e; omega
            · omega
        case measure => simp [intOf]; omega
    · have hje : es.take j = es := by rw [List.take_of_length_le (by omega)]
      have hjl2 : ¬ (j : Int) < es.length := by omega
      go_wp2_with fail
      go_ret
      refine ⟨ao, n, cp, rfl, by rw [HNN.out, hje], xs, HGR.out, HAO.out, ?_, HSL.out, HO.out⟩
      have hvx := HVX.out
      rw [hje] at hvx
      exact hvx
theorem erase_c {v : Value} {es : List EM} (hE : EvsV w G v es) (hG : ∀ k, G k → k < w.heap.size) (hg : ∀ e ∈ es, e.v.rg) (hs : ∀ e ∈ es, e.v.sz ≤ 1000000000) (hel : es.length ≤ 1000000) :
    Calls Tryz.prog 19 #[v] w fun x w' => ∃ v', x = .returned v' ∧ EvsV w' (New w w') v' (ers 0 es) ∧ Only (fun _ => False) w w' := by
  refine (erase_s hE hG hg hs hel).mono ?_
  rintro x w' ⟨ao, n, cp, xs, rfl, hnn, hgr, hao, hvx, -, ho⟩
  refine ⟨_, rfl, ?_, ho⟩
  subst hnn
  rcases Nat.eq_zero_or_pos (ers 0 es).length with h0 | h0
  · have h0' := List.eq_nil_of_length_eq_zero h0
    exact ⟨ao, cp, 0, 0, rfl, fun h => absurd h0' h, fun i e hi => by rw [h0'] at hi; simp at hi⟩
  · obtain ⟨q, hq, hcells⟩ := hgr.cells h0
    have hq3 := hao q hq
    have hql := hgr.lt hq
    refine ⟨ao, cp, q, 0, rfl, fun _ => ⟨hq, by omega, by omega⟩, fun i e hi => ?_⟩
    obtain ⟨ds, h3, h4⟩ := EXs.at' hvx i e hi
    exact ⟨ds, fun k u hk => by rw [Nat.zero_add]; exact hcells _ _ (h3 k u hk), h4.mono (fun k hk => ⟨hk.1, hk.2.1⟩)⟩
end
end Go.Proofs.YtdjpapdkbglkmaaGreatDoor
