/- command.Decode. -/
import Derived.Test.YtfmdngeooelcpaaGreatCmD
namespace Go.Proofs.YtfmdngeooelcpaaGreat
open Go.RowKit
/-- Cells, one command behind the other. -/
def CXs (w : World) (G : Nat → Prop) : List EM → List Value → Prop
  | [], xs => xs = []
  | t :: ts, xs => ∃ cs ys, xs = cs ++ ys ∧ CAt w G t cs ∧ CXs w G ts ys
section
variable {w w' : World} {G F : Nat → Prop}
theorem CXs.only (ho : Only F w w') (hd : ∀ k, G k → ¬ F k) : ∀ {l : List EM} {xs : List Value}, CXs w G l xs → CXs w' G l xs
  | [], _, h => h
  | _ :: _, _, ⟨cs, ys, e, h1, h2⟩ => ⟨cs, ys, e, h1.only ho hd, CXs.only ho hd h2⟩
theorem CXs.mono {G' : Nat → Prop} (hd : ∀ k, G k → G' k) : ∀ {l : List EM} {xs : List Value}, CXs w G l xs → CXs w G' l xs
  | [], _, h => h
  | _ :: _, _, ⟨cs, ys, e, h1, h2⟩ => ⟨cs, ys, e, h1.mono hd, CXs.mono hd h2⟩
theorem CXs.snoc {t : EM} {cs : List Value} (ht : CAt w G t cs) : ∀ {l : List EM} {xs : List Value}, CXs w G l xs → CXs w G (l ++ [t]) (xs ++ cs)
  | [], _, h => by
    have h' : _ = ([] : List Value) := h
    subst h'
    exact ⟨cs, [], by simp, ht, rfl⟩
  | _ :: _, _, ⟨cs', ys, e, h1, h2⟩ => ⟨cs', ys ++ cs, by rw [e, List.append_assoc], h1, CXs.snoc ht h2⟩
theorem CXs.at' : ∀ {l : List EM} {xs : List Value}, CXs w G l xs → ∀ (i : Nat) (e : EM), l[i]? = some e → ∃ cs, (∀ j u, cs[j]? = some u → xs[i * 9 + j]? = some u) ∧ CAt w G e cs
  | [], _, _, i, e, h => by simp at h
  | t :: ts, _, ⟨cs, ys, rfl, h1, h2⟩, 0, e, h => by
    simp only [List.getElem?_cons_zero, Option.some.injEq] at h
    subst h
    refine ⟨cs, fun j u hj => ?_, h1⟩
    rw [Nat.zero_mul, Nat.zero_add, List.getElem?_append_left (by rcases Nat.lt_or_ge j cs.length with g | g; exact g; rw [List.getElem?_eq_none g] at hj; cases hj)]; exact hj
  | t :: ts, _, ⟨cs, ys, rfl, h1, h2⟩, i + 1, e, h => by
    simp only [List.getElem?_cons_succ] at h
    obtain ⟨ds, h3, h4⟩ := CXs.at' h2 i e h
    refine ⟨ds, fun j u hj => ?_, h4⟩
    have h11 := h1.len
    rw [List.getElem?_append_right (by omega), h11, show (i + 1) * 9 + j - 9 = i * 9 + j from by omega]
    exact h3 j u hj
theorem CmsV.mono {v : Value} {G' : Nat → Prop} {es : List EM} (h : CmsV w G v es) (hd : ∀ k, G k → G' k) : CmsV w G' v es := by
  obtain ⟨a, c, g, o, h1, h2, h3⟩ := h
  refine ⟨a, c, g, o, h1, fun e => ⟨(h2 e).1, hd g (h2 e).2⟩, fun i e hi => ?_⟩
  obtain ⟨cs, h4, h5⟩ := h3 i e hi
  exact ⟨cs, h4, h5.mono hd⟩
theorem CmsV.nil {a : Option Addr} {c : Nat} : CmsV w G (.slice a 0 c) [] := ⟨a, c, 0, 0, rfl, fun h => absurd rfl h, fun i e hi => by simp at hi⟩
theorem cms_of {ao : Option Addr} {n cp : Nat} {xs : List Value} {L : List EM} {G' : Nat → Prop} (hgr : Gr w 38 9 ao n cp xs) (hn : n = L.length) (hvx : CXs w G L xs) (hao : ∀ q, ao = some ⟨q, 0, none⟩ → G' q) (hd : ∀ k, G k → G' k) : CmsV w G' (.slice ao n cp) L := by
  subst hn
  rcases Nat.eq_zero_or_pos L.length with h0 | h0
  · have h0' := List.eq_nil_of_length_eq_zero h0
    exact ⟨ao, cp, 0, 0, rfl, fun h => absurd h0' h, fun i e hi => by rw [h0'] at hi; simp at hi⟩
  · obtain ⟨q, hq, hcells⟩ := hgr.cells h0
    refine ⟨ao, cp, q, 0, rfl, fun _ => ⟨hq, hao q hq⟩, fun i e hi => ?_⟩
    obtain ⟨ds, h3, h4⟩ := CXs.at' hvx i e hi
    exact ⟨ds, fun k u hk => by rw [Nat.zero_add]; exact hcells _ _ (h3 k u hk), h4.mono hd⟩
theorem elC : Elem Tryz.prog 22 38 9 104 := .mk Tryz.underlying22 (z := .agg #[.int .i64 0, .int .i64 0, .int .i64 0, .int .i64 0, .string ⟨#[]⟩, .int .i64 0, .int .i64 0, .string ⟨#[]⟩, .slice none 0 0]) (by kernel_rfl) rfl
theorem cmd_ones (k t a b : Int) (s1 : ByteArray) (vk vn : Int) (s : ByteArray) (va : Option Addr) (m c : Nat) : ∀ u ∈ ([Value.int .i64 k, .int .i64 t, .int .i64 a, .int .i64 b, .string s1, .int .i64 vk, .int .i64 vn, .string s, .slice va m c] : List Value), u.oneCell' = true := by simp [Value.oneCell']
set_option maxRecDepth 100000 in
set_option maxHeartbeats 3200000 in
end
end Go.Proofs.YtfmdngeooelcpaaGreat
