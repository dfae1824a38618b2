/- append and copy at bytes. -/
import Derived.Test.YthodcbhejjbhaaaBytes
namespace Go.Proofs.Ythodcbhejjbhaaa
open Go.RowKit

theorem Src.adds {w : World} {a : Option Addr} {n c : Nat} {l : List UInt8} (h : Src w (.slice a n c) l) (h0 : 0 < l.length) : ∃ ad, a = some ad ∧ ∀ j u, (bytesV l)[j]? = some u → w.cell? (ad.add j) = some u := by
  obtain ⟨a', c', e, h⟩ := h
  simp only [Value.slice.injEq] at e
  obtain ⟨rfl, -, -⟩ := e
  obtain ⟨g, o, rfl, hc⟩ := h (List.length_pos_iff.1 h0)
  refine ⟨_, rfl, fun j u hj => ?_⟩
  rw [addr_add]; exact hc j u hj

section
variable {ops : Array Oper} {a : Act} {w : World} {o : Oper} {rest : List Oper} {Q : Exit → Act → World → Prop}
theorem wp_addb {K : Act → World → Prop} (s x : Operand) (ho : o.op = .call { callee := .builtin .append, args := #[s, x], argTypes := #[33, 33] })
    (g cap : Nat) (l : List UInt8) (hs : a.eval s = .slice (some ⟨g, 0, none⟩) l.length cap) (hrow : Row w g 5 cap (bytesV l))
    (ao : Option Addr) (m : List UInt8) (c : Nat) (hx : a.eval x = .slice ao m.length c) (hsrc : Src w (.slice ao m.length c) m) (hb : l.length + m.length ≤ 2000000)
    (h : ∀ g' cap' w', l.length + m.length ≤ cap' → Row w' g' 5 cap' (bytesV (l ++ m)) → (g' = g ∨ g' = w.heap.size) → Only (fun k => k = g) w w' → K (a.put o.dst (.slice (some ⟨g', 0, none⟩) (l.length + m.length) cap')) w') :
    o.wp Try.prog a w K Q := by
  obtain ⟨i0, hi, hz0, hz1, hz2⟩ := info_parts info8
  have hle := hrow.le
  rw [length_bytesV] at hle
  refine wp_appS s x _ ho 5 i0 (.int .u8 0) 1 1 Try.underlying33 hi hz0 hz1 hz2 rfl g l.length cap (bytesV l) hs hle (by rw [Nat.mul_one]; exact hrow) (by simp) ao m.length c hx (bytesV m) (by simp) hsrc.adds (oneCell_bytesV m) (by omega) (by omega) ?_
  intro g' cap' w' h1 h2 h3 h4
  rw [Nat.mul_one, ← bytesV_append] at h2
  exact h g' cap' w' h1 h2 h3 h4

theorem wpList_addb (hgd : o.guard = none) (s x : Operand) (ho : o.op = .call { callee := .builtin .append, args := #[s, x], argTypes := #[33, 33] })
    (g cap : Nat) (l : List UInt8) (hs : a.eval s = .slice (some ⟨g, 0, none⟩) l.length cap) (hrow : Row w g 5 cap (bytesV l))
    (ao : Option Addr) (m : List UInt8) (c : Nat) (hx : a.eval x = .slice ao m.length c) (hsrc : Src w (.slice ao m.length c) m) (hb : l.length + m.length ≤ 2000000)
    (h : ∀ g' cap' w', l.length + m.length ≤ cap' → Row w' g' 5 cap' (bytesV (l ++ m)) → (g' = g ∨ g' = w.heap.size) → Only (fun k => k = g) w w' → wpList Try.prog ops Q rest (a.put o.dst (.slice (some ⟨g', 0, none⟩) (l.length + m.length) cap')) w') :
    wpList Try.prog ops Q (o :: rest) a w :=
  wpList_plain hgd fun _ hK => wp_addb s x ho g cap l hs hrow ao m c hx hsrc hb (fun x0 x1 x2 x3 x4 x5 x6 => hK _ _ (h x0 x1 x2 x3 x4 x5 x6))

/-- A slice of bytes that grows from nil: nil, or a row of the program's own. -/
def BOut (w : World) (ao : Option Addr) (cap : Nat) (l : List UInt8) (lo : Nat) : Prop :=
  (ao = none ∧ cap = 0 ∧ l = []) ∨ ∃ g, ao = some ⟨g, 0, none⟩ ∧ lo ≤ g ∧ Row w g 5 cap (bytesV l)

theorem wp_addo {K : Act → World → Prop} (s x : Operand) (ho : o.op = .call { callee := .builtin .append, args := #[s, x], argTypes := #[33, 33] })
    (bo : Option Addr) (cap lo : Nat) (l : List UInt8) (hs : a.eval s = .slice bo l.length cap) (hrow : BOut w bo cap l lo) (hlo : lo ≤ w.heap.size)
    (ao : Option Addr) (m : List UInt8) (c : Nat) (hx : a.eval x = .slice ao m.length c) (hsrc : Src w (.slice ao m.length c) m) (hb : l.length + m.length ≤ 2000000)
    (h : ∀ bo' cap' w', BOut w' bo' cap' (l ++ m) lo → Only (fun k => lo ≤ k) w w' → K (a.put o.dst (.slice bo' (l.length + m.length) cap')) w') :
    o.wp Try.prog a w K Q := by
  rcases hrow with ⟨rfl, rfl, rfl⟩ | ⟨g, rfl, hg, hrow⟩
  · obtain ⟨i0, hi, hz0, hz1, hz2⟩ := info_parts info8
    rcases Nat.eq_zero_or_pos m.length with h0 | h0
    · obtain rfl : m = [] := List.eq_nil_of_length_eq_zero h0
      refine wp_app_none s x _ ho 5 i0 Try.underlying33 hi none 0 0 hs (Nat.le_refl _) ao c hx ?_
      exact h none 0 w (.inl ⟨rfl, rfl, rfl⟩) (Only.refl _ _)
    · obtain ⟨ad, rfl, hc⟩ := hsrc.adds h0
      refine wp_app_nil s x _ ho 5 i0 (.int .u8 0) 1 1 Try.underlying33 hi hz0 hz1 hz2 rfl hs ad m.length c hx (bytesV m) (by simp) hc h0 (by simp at hb; omega) (by simp at hb; omega) ?_
      intro cap' w' h1 h2 h3
      have := h (some ⟨w.heap.size, 0, none⟩) cap' w' (.inr ⟨_, rfl, hlo, by rw [Nat.mul_one] at h2; exact h2⟩) (h3.mono (fun _ _ e => e.elim))
      simpa using this
  · refine wp_addb s x ho g cap l hs hrow ao m c hx hsrc hb ?_
    intro g' cap' w' h1 h2 h3 h4
    exact h _ cap' w' (.inr ⟨g', rfl, by omega, h2⟩) (h4.mono (fun k _ e => e ▸ hg))
theorem wpList_addo (hgd : o.guard = none) (s x : Operand) (ho : o.op = .call { callee := .builtin .append, args := #[s, x], argTypes := #[33, 33] })
    (bo : Option Addr) (cap lo : Nat) (l : List UInt8) (hs : a.eval s = .slice bo l.length cap) (hrow : BOut w bo cap l lo) (hlo : lo ≤ w.heap.size)
    (ao : Option Addr) (m : List UInt8) (c : Nat) (hx : a.eval x = .slice ao m.length c) (hsrc : Src w (.slice ao m.length c) m) (hb : l.length + m.length ≤ 2000000)
    (h : ∀ bo' cap' w', BOut w' bo' cap' (l ++ m) lo → Only (fun k => lo ≤ k) w w' → wpList Try.prog ops Q rest (a.put o.dst (.slice bo' (l.length + m.length) cap')) w') :
    wpList Try.prog ops Q (o :: rest) a w :=
  wpList_plain hgd fun _ hK => wp_addo s x ho bo cap lo l hs hrow hlo ao m c hx hsrc hb (fun x0 x1 x2 x3 x4 => hK _ _ (h x0 x1 x2 x3 x4))
theorem wpList_addon (hgd : o.guard = none) (s x : Operand) (ho : o.op = .call { callee := .builtin .append, args := #[s, x], argTypes := #[33, 33] })
    (bo : Option Addr) (cap lo : Nat) (l : List UInt8) (hs : a.eval s = .slice bo l.length cap) (hrow : BOut w bo cap l lo) (hlo : lo ≤ w.heap.size)
    (ao : Option Addr) (m : List UInt8) (n c : Nat) (hn : m.length = n) (hx : a.eval x = .slice ao n c) (hsrc : Src w (.slice ao n c) m) (hb : l.length + n ≤ 2000000)
    (h : ∀ bo' cap' w', BOut w' bo' cap' (l ++ m) lo → Only (fun k => lo ≤ k) w w' → wpList Try.prog ops Q rest (a.put o.dst (.slice bo' (l.length + n) cap')) w') :
    wpList Try.prog ops Q (o :: rest) a w := by
  subst hn
  exact wpList_addo hgd s x ho bo cap lo l hs hrow hlo ao m c hx hsrc hb h
theorem Row.piece {g c : Nat} {l : List UInt8} (h : Row w g 5 c (bytesV l)) (o n c' : Nat) (m : List UInt8) (hn : m.length = n) (hm : m = (l.drop o).take n) : Src w (.slice (some ⟨g, o, none⟩) n c') m := by
  subst hn
  refine ⟨_, _, rfl, fun _ => ⟨g, o, rfl, fun i u hu => ?_⟩⟩
  have hu2 : (bytesV l)[o + i]? = some u := by
    rw [bytesV_get] at hu ⊢
    rw [hm] at hu
    by_cases hi : i < m.length
    · rw [List.getElem?_take_of_lt hi, List.getElem?_drop] at hu; exact hu
    · rw [List.getElem?_eq_none (by rw [List.length_take]; omega)] at hu; cases hu
  have := h.news _ _ hu2
  rw [addr_add, Nat.zero_add] at this
  exact this
theorem BOut.src {ao : Option Addr} {cap : Nat} {l : List UInt8} {lo : Nat} (h : BOut w ao cap l lo) : Src w (.slice ao l.length cap) l := by
  rcases h with ⟨rfl, rfl, rfl⟩ | ⟨g, rfl, -, hrow⟩
  · exact ⟨_, _, rfl, fun e => absurd rfl e⟩
  · exact hrow.src
theorem BOut.only {ao : Option Addr} {cap : Nat} {l : List UInt8} {lo : Nat} {w' : World} {F : Nat → Prop} (h : BOut w ao cap l lo) (ho : Only F w w') (hF : ∀ k, k < w.heap.size → lo ≤ k → ¬ F k) : BOut w' ao cap l lo := by
  rcases h with h | ⟨g, rfl, hg, hrow⟩
  · exact .inl h
  · exact .inr ⟨g, rfl, hg, hrow.only ho (hF g hrow.lt hg)⟩
end
end Go.Proofs.Ythodcbhejjbhaaa
