/- MarkSpoilt: the plain law; marks that are gathered in a slice. -/
import Derived.Test.YtepndjojodbhdaaTornL
import Derived.Test.YtepndjojodbhdaaDiskP
namespace Go.Proofs.Ytepndjojodbhdaa
open Go.RowKit

/-- A sector of a mark of which a byte is spoilt tells nothing. -/
theorem spoil_bad (m : MarkM) (a : Nat) (ha : a < 112) (x : UInt8) (hx : x ≠ 0) (k : Nat) : vM k (spoilL (enc m) a x) = MarkM.zero := by
  have hl := length_enc m
  have hxor : ∀ y : UInt8, y ^^^ x ≠ y := fun y e => hx (by
    have : y ^^^ (y ^^^ x) = y ^^^ y := by rw [e]
    rw [← UInt8.xor_assoc, UInt8.xor_self, UInt8.zero_xor] at this
    exact this)
  have hr : readOk (spoilL (enc m) a x) = false := by
    cases hr : readOk (spoilL (enc m) a x) with
    | false => rfl
    | true =>
      exfalso
      unfold readOk at hr
      simp only [Bool.and_eq_true, beq_iff_eq] at hr
      obtain ⟨i, hi⟩ : ∃ i, i = if a < 56 then a else a - 56 := ⟨_, rfl⟩
      have hi56 : i < 56 := by rw [hi]; split <;> omega
      have e := congrArg (fun l => l[i]?) hr.2.1
      simp only [List.getElem?_take, List.getElem?_drop] at e
      rw [if_pos hi56, if_pos hi56] at e
      have e2 : (enc m)[i]? = (enc m)[56 + i]? := by
        have := congrArg (fun l => l[i]?) ((enc_half m).trans (enc_half2 m).symm)
        simp only [List.getElem?_take, List.getElem?_drop] at this
        rw [if_pos hi56, if_pos hi56] at this
        exact this
      have h1 : i < (enc m).length := by omega
      have h2 : 56 + i < (enc m).length := by omega
      unfold spoilL at e
      rw [List.getElem?_set, List.getElem?_set] at e
      rw [List.getElem?_eq_getElem h1, List.getElem?_eq_getElem h2] at e e2
      by_cases hb : a < 56
      · rw [if_pos hb] at hi
        subst hi
        rw [if_pos rfl, if_pos h1, if_neg (by omega), List.getD_eq_getElem?_getD, List.getElem?_eq_getElem h1] at e
        simp only [Option.getD_some, Option.some.injEq] at e e2
        exact hxor _ (e.trans e2.symm)
      · rw [if_neg hb] at hi
        have ea : 56 + i = a := by omega
        rw [if_neg (by omega), if_pos ea.symm, if_pos (by omega), ← ea, List.getD_eq_getElem?_getD, List.getElem?_eq_getElem h2] at e
        simp only [Option.getD_some, Option.some.injEq] at e e2
        exact hxor _ (e.symm.trans e2)
  unfold vM readM
  rw [hr, if_neg (by simp)]

/-- Two marks stand: behind k puts the last one, and the one before. -/
structure TwoM (D : DiskM) (k : Nat) (P L : MarkM) : Prop where
  up : D.down = false
  n : D.n = 2
  pd : ∀ j, D.pend j = none
  fu : D.fuse < 0
  sl : ∃ m0 m1, Slots (fun j => D.cur (0 + j)) m0 m1 ∧ lastOf m0 m1 = L
  ls : L.s = k
  l : 0 < k → D.sure (k % 2) = enc L ∧ L.ok
  p : 1 < k → P.s = k - 1 ∧ D.sure ((k - 1) % 2) = enc P ∧ P.ok
theorem two_new : TwoM (DiskM.new 2) 0 MarkM.zero MarkM.zero := ⟨rfl, rfl, fun _ => rfl, by decide, ⟨_, _, slots_new, rfl⟩, rfl, fun h => absurd h (by decide), fun h => absurd h (by decide)⟩
theorem TwoM.put {D : DiskM} {k : Nat} {P L : MarkM} (h : TwoM D k P L) (hk : k ≤ 1000) (xs : List Nat) (h6 : xs.length ≤ 6) (hx : ∀ x ∈ xs, x < 18446744073709551616) :
    ∃ D' L', putR D 0 xs = (D', L', 0) ∧ TwoM D' (k + 1) L L' := by
  obtain ⟨m0, m1, hsl, hl⟩ := h.sl
  have hls := h.ls
  obtain ⟨D', n0, n1, e, g1, g2, g3, g4, g5, g6, g7⟩ := hsl.put (first := 0) h.up (by rw [h.n]; decide) (.inl h.fu) xs h6 hx (by rw [hl, hls]; omega)
  rw [hl, hls] at e g2 g7
  have hcu : ∀ j, D.cur j = D.sure j := fun j => by unfold DiskM.cur; rw [h.pd j]; rfl
  have hs' : ∀ j, D'.sure j = if j = 0 + (mkMark (k + 1) xs).s % 2 then enc (mkMark (k + 1) xs) else D.cur j := g7
  refine ⟨D', mkMark (k + 1) xs, e, g3, by rw [g4]; exact h.n, g6, by rw [g5, if_pos h.fu]; exact h.fu, ⟨n0, n1, g1, g2⟩, rfl, fun _ => ⟨?_, mk_ok _ xs (by omega) hx⟩, fun h1 => ⟨by omega, ?_, (h.l (by omega)).2⟩⟩
  · rw [hs', if_pos (by rw [mk_s]; omega)]
  · rw [hs', if_neg (by rw [mk_s]; omega), hcu, show k + 1 - 1 = k from rfl]
    exact (h.l (by omega)).1
theorem look2 {D : DiskM} (up : D.down = false) (n : D.n = 2) (pd : ∀ j, D.pend j = none) : getR D 0 = if (lastOf (vM 0 (D.sure 0)) (vM 1 (D.sure 1))).s = 0 then (MarkM.zero, 4) else (lastOf (vM 0 (D.sure 0)) (vM 1 (D.sure 1)), 0) := by
  have hc : (fun k => D.cur ((0 : Int).toNat + k)) = D.sure := funext fun k => by unfold DiskM.cur; simp [pd]
  have hl : (lookR D 0).1 = lastOf (vM 0 (D.sure 0)) (vM 1 (D.sure 1)) ∧ (lookR D 0).2.2 = 0 := by
    unfold lookR
    rw [if_neg (by rw [up, n]; intro e; rcases e with e | e | e; omega; omega; cases e), hc]
    exact ⟨look_v D.sure, rfl⟩
  unfold getR
  rw [hl.2, hl.1]; rfl
theorem last_of (k : Nat) (hk : k < 2) (S : Nat → List UInt8) (m : MarkM) (hm : 0 < m.s) (h1 : vM k (S k) = m) (h2 : vM (1 - k) (S (1 - k)) = MarkM.zero ∨ (vM (1 - k) (S (1 - k))).s < m.s) : lastOf (vM 0 (S 0)) (vM 1 (S 1)) = m := by
  have hz := zero_s
  have h2' : (vM (1 - k) (S (1 - k))).s < m.s := by
    rcases h2 with h | h
    · rw [h]; omega
    · exact h
  have : k = 0 ∨ k = 1 := by omega
  rcases this with rfl | rfl
  · have h2' : (vM 1 (S 1)).s < m.s := h2'
    unfold lastOf
    rw [h1, if_neg (by omega)]
  · have h2' : (vM 0 (S 0)).s < m.s := h2'
    unfold lastOf
    rw [h1, if_pos h2']
theorem TwoM.spoil_last {D : DiskM} {k : Nat} {P L : MarkM} (h : TwoM D k P L) (hk : 2 ≤ k) (a : Nat) (ha : a < 112) (x : UInt8) (hx : x ≠ 0) : getR (D.spoilt (k % 2) a x) 0 = (P, 0) := by
  obtain ⟨p1, p2, p3⟩ := h.p (by omega)
  obtain ⟨l1, l2⟩ := h.l (by omega)
  have hl := last_of ((k - 1) % 2) (Nat.mod_lt _ (by decide)) (D.spoilt (k % 2) a x).sure P (by omega) (by
    show vM _ (if (k - 1) % 2 = k % 2 then _ else D.sure ((k - 1) % 2)) = P
    rw [if_neg (by omega), p2]
    have := vM_enc P p3 (by omega)
    rw [p1] at this
    exact this) (.inl (by
    show vM _ (if 1 - (k - 1) % 2 = k % 2 then spoilL (D.sure (k % 2)) a x else _) = _
    rw [if_pos (by omega), l1]
    exact spoil_bad L a ha x hx _))
  rw [look2 (D := D.spoilt (k % 2) a x) h.up h.n h.pd, hl, if_neg (by omega)]
theorem TwoM.spoil_prev {D : DiskM} {k : Nat} {P L : MarkM} (h : TwoM D k P L) (hk : 2 ≤ k) (a : Nat) (ha : a < 112) (x : UInt8) (hx : x ≠ 0) : getR (D.clone.spoilt ((k - 1) % 2) a x) 0 = (L, 0) := by
  obtain ⟨p1, p2, p3⟩ := h.p (by omega)
  obtain ⟨l1, l2⟩ := h.l (by omega)
  have hls := h.ls
  have hl := last_of (k % 2) (Nat.mod_lt _ (by decide)) (D.clone.spoilt ((k - 1) % 2) a x).sure L (by omega) (by
    show vM _ (if k % 2 = (k - 1) % 2 then _ else D.sure (k % 2)) = L
    rw [if_neg (by omega), l1]
    have := vM_enc L l2 (by omega)
    rw [hls] at this
    exact this) (.inl (by
    show vM _ (if 1 - k % 2 = (k - 1) % 2 then spoilL (D.sure ((k - 1) % 2)) a x else _) = _
    rw [if_pos (by omega), p2]
    exact spoil_bad P a ha x hx _))
  rw [look2 (D := D.clone.spoilt ((k - 1) % 2) a x) h.up h.n h.pd, hl, if_neg (by omega)]

/-- Marks one behind the other, cell by cell. -/
def marksV (ms : List MarkM) : List Value := ms.flatMap fun m => m.V.toList
theorem length_marksV (ms : List MarkM) : (marksV ms).length = ms.length * 7 := by
  induction ms with
  | nil => rfl
  | cons m ms ih =>
    have : (m.V.toList).length = 7 := rfl
    unfold marksV at *
    rw [List.flatMap_cons, List.length_append, ih, this, List.length_cons]; omega
theorem marksV_get : ∀ (ms : List MarkM) (i j : Nat) (m : MarkM) (u : Value), ms[i]? = some m → m.V.toList[j]? = some u → (marksV ms)[i * 7 + j]? = some u
  | [], i, j, m, u, h, _ => by simp at h
  | m' :: ms, i, j, m, u, h, hu => by
    have hl : (m'.V.toList).length = 7 := rfl
    have hj : j < 7 := by
      rcases Nat.lt_or_ge j 7 with g | g
      · exact g
      · rw [List.getElem?_eq_none (by simpa [MarkM.V] using g)] at hu; cases hu
    show (m'.V.toList ++ marksV ms)[i * 7 + j]? = _
    match i with
    | 0 =>
      simp only [List.getElem?_cons_zero, Option.some.injEq] at h
      subst h
      rw [Nat.zero_mul, Nat.zero_add, List.getElem?_append_left (by omega)]; exact hu
    | i + 1 =>
      rw [List.getElem?_append_right (by omega), hl, show (i + 1) * 7 + j - 7 = i * 7 + j from by omega]
      exact marksV_get ms i j m u (by simpa using h) hu
theorem infoM : (Try.prog.info? 67).map (fun i => (i.zero, i.size, i.bytes)) = some (some (.agg MarkM.zero.V), 7, 56) := by kernel_rfl
/-- A slice of marks that grows from nil. -/
def MOut (w : World) (ao : Option Addr) (cap : Nat) (ms : List MarkM) (lo : Nat) : Prop :=
  (ao = none ∧ cap = 0 ∧ ms = []) ∨ ∃ g, ao = some ⟨g, 0, none⟩ ∧ lo ≤ g ∧ Row w g 67 (cap * 7) (marksV ms)
theorem MOut.only {w w' : World} {ao : Option Addr} {cap : Nat} {ms : List MarkM} {lo : Nat} {F : Nat → Prop} (h : MOut w ao cap ms lo) (ho : Only F w w') (hF : ∀ g, ao = some ⟨g, 0, none⟩ → ¬ F g) : MOut w' ao cap ms lo := by
  rcases h with h | ⟨g, rfl, hg, hr⟩
  · exact .inl h
  · exact .inr ⟨g, rfl, hg, hr.only ho (hF g rfl)⟩
section
variable {ops : Array Oper} {rest : List Oper} {a : Act} {w : World} {o : Oper} {Q : Exit → Act → World → Prop}
theorem wp_addm {K : Act → World → Prop} (s x : Operand) (ho : o.op = .call { callee := .builtin .append, args := #[s, x], argTypes := #[73, 73] })
    (bo : Option Addr) (cap lo n : Nat) (ms : List MarkM) (hn : ms.length = n) (hs : a.eval s = .slice bo n cap) (hrow : MOut w bo cap ms lo) (hlo : lo ≤ w.heap.size)
    (gx : Nat) (m : MarkM) (hx : a.eval x = .slice (some ⟨gx, 0, none⟩) 1 1) (hblk : ∀ j u, m.V.toList[j]? = some u → w.cell? ⟨gx, j, none⟩ = some u) (hb : n ≤ 1000)
    (h : ∀ bo' cap' w', MOut w' bo' cap' (ms ++ [m]) lo → (∀ g, bo' = some ⟨g, 0, none⟩ → bo = some ⟨g, 0, none⟩ ∨ w.heap.size ≤ g) → Only (fun k => bo = some ⟨k, 0, none⟩) w w' → K (a.put o.dst (.slice bo' (n + 1) cap')) w') :
    o.wp Try.prog a w K Q := by
  subst hn
  obtain ⟨i0, hi, hz0, hz1, hz2⟩ := info_parts infoM
  have hnews : ∀ j u, (marksV [m])[j]? = some u → w.cell? ((⟨gx, 0, none⟩ : Addr).add j) = some u := by
    intro j u hu
    rw [addr_add, Nat.zero_add]
    refine hblk j u ?_
    unfold marksV at hu
    rw [List.flatMap_cons, List.flatMap_nil, List.append_nil] at hu
    exact hu
  rcases hrow with ⟨rfl, rfl, rfl⟩ | ⟨g, rfl, hg, hrow⟩
  · refine wp_app_nil s x _ ho 67 i0 (.agg MarkM.zero.V) 7 56 Try.underlying73 hi hz0 hz1 hz2 rfl hs ⟨gx, 0, none⟩ 1 1 hx (marksV [m]) (by rw [length_marksV]; rfl) hnews (by omega) (by omega) (by omega) ?_
    intro cap' w' h1 h2 h3
    exact h _ cap' w' (.inr ⟨_, rfl, hlo, h2⟩) (fun g e => by simp only [Option.some.injEq, Addr.mk.injEq] at e; right; omega) (h3.mono (fun _ _ e => e.elim))
  · refine wp_app s x _ ho 67 i0 (.agg MarkM.zero.V) 7 56 Try.underlying73 hi hz0 hz1 hz2 rfl g ms.length cap (marksV ms) hs hrow (length_marksV ms) ⟨gx, 0, none⟩ 1 1 hx (marksV [m]) (by rw [length_marksV]; rfl) hnews (fun u hu => by
      unfold marksV at hu
      rw [List.flatMap_cons, List.flatMap_nil, List.append_nil] at hu
      have := V_one m
      rw [Array.all_eq_true_iff_forall_mem] at this
      exact this u (Array.mem_toList_iff.1 hu)) (by omega) (by omega) ?_
    intro g' cap' w' h1 h2 h3 h4
    have e : marksV ms ++ marksV [m] = marksV (ms ++ [m]) := by simp [marksV]
    rw [e] at h2
    refine h _ cap' w' (.inr ⟨g', rfl, by omega, h2⟩) (fun g2 e2 => ?_) (h4.mono (fun k _ e => by rw [e]))
    simp only [Option.some.injEq, Addr.mk.injEq] at e2
    rcases h3 with h3 | h3
    · left; rw [← e2.1, h3]
    · right; omega
theorem wpList_addm (hgd : o.guard = none) (s x : Operand) (ho : o.op = .call { callee := .builtin .append, args := #[s, x], argTypes := #[73, 73] })
    (bo : Option Addr) (cap lo n : Nat) (ms : List MarkM) (hn : ms.length = n) (hs : a.eval s = .slice bo n cap) (hrow : MOut w bo cap ms lo) (hlo : lo ≤ w.heap.size)
    (gx : Nat) (m : MarkM) (hx : a.eval x = .slice (some ⟨gx, 0, none⟩) 1 1) (hblk : ∀ j u, m.V.toList[j]? = some u → w.cell? ⟨gx, j, none⟩ = some u) (hb : n ≤ 1000)
    (h : ∀ bo' cap' w', MOut w' bo' cap' (ms ++ [m]) lo → (∀ g, bo' = some ⟨g, 0, none⟩ → bo = some ⟨g, 0, none⟩ ∨ w.heap.size ≤ g) → Only (fun k => bo = some ⟨k, 0, none⟩) w w' → wpList Try.prog ops Q rest (a.put o.dst (.slice bo' (n + 1) cap')) w') :
    wpList Try.prog ops Q (o :: rest) a w :=
  wpList_plain hgd fun _ hK => wp_addm s x ho bo cap lo n ms hn hs hrow hlo gx m hx hblk hb (fun x0 x1 x2 x3 x4 x5 => hK _ _ (h x0 x1 x2 x3 x4 x5))
end
end Go.Proofs.Ytepndjojodbhdaa
