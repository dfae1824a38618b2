/- Slices of the program's own that grow, of which the end may have been cut off (s[:n:n]). -/
import Derived.Test.YtnoopajedgllhaaGrow
namespace Go.Proofs.Ytnoopajedgllhaa
open Go.RowKit
/-- A row of the program's own, or the beginning of one that has no room behind it. -/
def Gc (w : World) (e : TypeId) (size : Nat) (ao : Option Addr) (n cap : Nat) (xs : List Value) : Prop :=
  Gr w e size ao n cap xs ∨ (xs.length = n * size ∧ n = cap ∧ ∃ g, ao = some ⟨g, 0, none⟩ ∧ g < w.heap.size ∧ ∀ j u, xs[j]? = some u → w.cell? ⟨g, j, none⟩ = some u)
section
variable {P : Program} {w w' : World} {e : TypeId} {size n cap : Nat} {ao : Option Addr} {xs : List Value} {F : Nat → Prop}
theorem Gc.nil : Gc w e size none 0 0 [] := .inl Gr.nil
theorem Gc.len (h : Gc w e size ao n cap xs) : xs.length = n * size := by rcases h with h | h; exact h.1; exact h.1
theorem Gc.le (h : Gc w e size ao n cap xs) : n ≤ cap := by rcases h with h | h; exact h.2.1; exact Nat.le_of_eq h.2.1
theorem Gc.only (h : Gc w e size ao n cap xs) (ho : Only F w w') (hF : ∀ g, ao = some ⟨g, 0, none⟩ → ¬ F g) : Gc w' e size ao n cap xs := by
  rcases h with h | ⟨h1, h2, g, rfl, hl, hc⟩
  · exact .inl (h.only ho hF)
  · exact .inr ⟨h1, h2, g, rfl, by have := ho.size; omega, fun j u hj => (World.cell?_of_block (ho.block g hl (hF g rfl))).trans (hc j u hj)⟩
theorem Gc.lt (h : Gc w e size ao n cap xs) {g : Nat} (hg : ao = some ⟨g, 0, none⟩) : g < w.heap.size := by
  rcases h with h | ⟨h1, h2, g', h3, hl, hc⟩
  · exact h.lt hg
  · rw [hg] at h3
    simp only [Option.some.injEq, Addr.mk.injEq, and_true] at h3
    rw [h3]; exact hl
theorem Gc.addr (h : Gc w e size ao n cap xs) : ao = none ∨ ∃ g, ao = some ⟨g, 0, none⟩ := by
  rcases h with h | ⟨h1, h2, g', h3, hl, hc⟩
  · exact h.addr
  · exact .inr ⟨g', h3⟩
theorem Gc.cells (h : Gc w e size ao n cap xs) (hn : 0 < n) : ∃ g, ao = some ⟨g, 0, none⟩ ∧ ∀ j u, xs[j]? = some u → w.cell? ⟨g, j, none⟩ = some u := by
  rcases h with h | ⟨h1, h2, g', h3, hl, hc⟩
  · exact h.cells hn
  · exact ⟨g', h3, hc⟩
/-- The end is cut off. -/
theorem Gc.cut (h : Gc w e size ao n cap xs) {m : Nat} (hm : m ≤ n) : Gc w e size ao m m (xs.take (m * size)) := by
  have hl := h.len
  have hle : (xs.take (m * size)).length = m * size := by rw [List.length_take, hl]; exact Nat.min_eq_left (Nat.mul_le_mul_right _ hm)
  rcases h.addr with rfl | ⟨g, rfl⟩
  · rcases h with h | ⟨_, _, _, h3, _⟩
    · rcases h.2.2 with ⟨-, h0⟩ | ⟨g, h3, -⟩
      · have := h.2.1
        obtain rfl : m = 0 := by omega
        exact .inl ⟨by simp, Nat.le_refl _, .inl ⟨rfl, rfl⟩⟩
      · cases h3
    · cases h3
  · refine .inr ⟨hle, rfl, g, rfl, h.lt rfl, fun j u hj => ?_⟩
    have hj' : xs[j]? = some u := by
      rw [List.getElem?_take] at hj
      split at hj
      · exact hj
      · cases hj
    rcases Nat.eq_zero_or_pos n with h0 | h0
    · subst h0
      obtain rfl : xs = [] := List.eq_nil_of_length_eq_zero (by simpa using hl)
      simp at hj'
    · obtain ⟨g', h3, hc⟩ := h.cells h0
      simp only [Option.some.injEq, Addr.mk.injEq, and_true] at h3
      subst h3
      exact hc j u hj'
theorem wp_gc {o : Oper} {a : Act} {Q : Exit → Act → World → Prop} {K : Act → World → Prop} {t : TypeId} {bytes : Nat} (E : Elem P t e size bytes) (h0 : 0 < size) (s x : Operand)
    (ho : o.op = .call { callee := .builtin .append, args := #[s, x], argTypes := #[t, t] }) (hg : Gc w e size ao n cap xs) (hs : a.eval s = .slice ao n cap)
    (ax : Option Addr) (c : Nat) (hx : a.eval x = .slice ax 1 c) (news : List Value) (hsrc : SrcG w ax 1 size news) (h63 : n + 1 ≤ 1000000000) (hbytes : bytes ≤ 100000)
    (h : ∀ ao' cap' w', Gc w' e size ao' (n + 1) cap' (xs ++ news) → (ao' = ao ∨ ∃ q, ao' = some ⟨q, 0, none⟩ ∧ w.heap.size ≤ q) → Only (fun k => ao = some ⟨k, 0, none⟩) w w' → K (a.put o.dst (.slice ao' (n + 1) cap')) w') :
    o.wp P a w K Q := by
  have hby : (n + 1) * bytes ≤ 140737488355328 := Nat.le_trans (Nat.mul_le_mul h63 hbytes) (by decide)
  rcases hg with hg | ⟨h1, h2, g, rfl, hl, hc⟩
  · exact wp_gr E s x ho hg hs ax 1 c hx news hsrc (by omega) hby fun ao' cap' w' g1 g2 g3 => h ao' cap' w' (.inl g1) (g2.imp id fun e => ⟨_, e, Nat.le_refl _⟩) g3
  · obtain ⟨i, z, ht, hi, hz, hsz, hbe, hzs⟩ := E
    obtain ⟨ad, rfl, hcx⟩ := hsrc.2.1 Nat.one_pos
    obtain ⟨v', w', hrun, r1, r2⟩ := run_append_arg_grows (P := P) w t o.type e i z size bytes ht hi hz hsz hbe hzs h0 ⟨g, 0, none⟩ n cap xs h1 (fun j u hj => by rw [Addr.add_lit, Nat.zero_add]; exact hc j u hj) ad 1 c news hsrc.1 hcx (by omega) (by simp only [maxLen]; omega) hby
    have hlen : (xs ++ news).length = (n + 1) * size := by rw [List.length_append, h1, hsrc.1, Nat.add_mul]
    obtain ⟨q1, q2⟩ := r1
    rcases q2 with q2 | ⟨g', cap', cur, rfl, q3, q4, q5, q6, q7, q8⟩
    · have := q2.2; omega
    · unfold Oper.wp
      simp only [execOp, ho, resolve, invoke, builtin, Sem.run_bind, Sem.run_pure, Result.andThen_ok, List.map_toArray, List.map_cons, List.map_nil, hs, hx, hrun]
      refine h _ _ _ (.inl ⟨hlen, q5, .inr ⟨g', rfl, cur.toList.drop ((n + 1) * size), ?_, ?_⟩⟩) (.inr ⟨g', rfl, q3⟩) ⟨r2.os, r2.tape, r2.output, r2.size, fun k hk _ => r2.block k hk (by simp)⟩
      · rw [← q8, List.take_append_drop]; simpa using q4
      · rw [hlen, List.length_drop, Array.length_toList, q7]
        have := Nat.mul_le_mul_right size q5
        omega
theorem wpList_gc {ops : Array Oper} {rest : List Oper} {o : Oper} {a : Act} {Q : Exit → Act → World → Prop} {t : TypeId} {bytes : Nat} (hgd : o.guard = none) (E : Elem P t e size bytes) (h0 : 0 < size) (s x : Operand)
    (ho : o.op = .call { callee := .builtin .append, args := #[s, x], argTypes := #[t, t] }) (hg : Gc w e size ao n cap xs) (hs : a.eval s = .slice ao n cap)
    (ax : Option Addr) (c : Nat) (hx : a.eval x = .slice ax 1 c) (news : List Value) (hsrc : SrcG w ax 1 size news) (h63 : n + 1 ≤ 1000000000) (hbytes : bytes ≤ 100000)
    (h : ∀ ao' cap' w', Gc w' e size ao' (n + 1) cap' (xs ++ news) → (ao' = ao ∨ ∃ q, ao' = some ⟨q, 0, none⟩ ∧ w.heap.size ≤ q) → Only (fun k => ao = some ⟨k, 0, none⟩) w w' → wpList P ops Q rest (a.put o.dst (.slice ao' (n + 1) cap')) w') :
    wpList P ops Q (o :: rest) a w :=
  wpList_plain hgd fun _ hK => wp_gc E h0 s x ho hg hs ax c hx news hsrc h63 hbytes (fun x0 x1 x2 x3 x4 x5 => hK _ _ (h x0 x1 x2 x3 x4 x5))
end
end Go.Proofs.Ytnoopajedgllhaa
