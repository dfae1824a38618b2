/- WholeWritten, plainly: commands as frames, and their chain. -/
import Derived.Test.YtfmdngeooelcpaaGreatWlB
import Derived.Test.YtfmdngeooelcpaaGreatHsA
import Derived.Test.YtfmdngeooelcpaaGreatCmO
namespace Go.Proofs.YtfmdngeooelcpaaGreat
open Go.RowKit

theorem cev_k6 {c : EM} (h : c.CGood) : c.cev.k = 11 ∨ c.cev.k = 13 ∨ c.cev.k = 7 ∨ c.cev.k = 16 ∨ c.cev.k = 17 ∨ c.cev.k = 21 := by
  have hk := h.k
  unfold EM.cev
  split
  · exact .inl rfl
  split
  · exact .inr (.inl rfl)
  split
  · exact .inr (.inr (.inl rfl))
  split
  · exact .inr (.inr (.inr (.inl rfl)))
  split
  · exact .inr (.inr (.inr (.inr (.inl rfl))))
  split
  · exact .inr (.inr (.inr (.inr (.inr rfl))))
  · omega
/-- A command's event is short enough for a batch. -/
theorem cev_len {c : EM} (h : c.CGood) {n : Int} (hn : 1 ≤ n ∧ n ≤ 1048576) : (c.cev.wid n).wr.length ≤ 2039 := by
  have hg := cev_good h hn
  have hk : (c.cev.wid n).k = 11 ∨ (c.cev.wid n).k = 13 ∨ (c.cev.wid n).k = 7 ∨ (c.cev.wid n).k = 16 ∨ (c.cev.wid n).k = 17 ∨ (c.cev.wid n).k = 21 := cev_k6 h
  obtain ⟨e, he⟩ : ∃ e, c.cev.wid n = e := ⟨_, rfl⟩
  rw [he] at hg hk ⊢
  obtain ⟨q9, -, hvl⟩ := chk_walk hg.v
  have h1 := numB_len e.a.toNat
  have h2 := numB_len e.b.toNat
  have h3 := numB_len e.name.length
  have h4 := numB_len e.text.length
  have h5 := hg.nL
  have h6 := hg.tL
  have hfb : ∀ x, (e.fb x).length ≤ 138 + (if x = 86 then 374 else 0) := fun x => by
    unfold EM.fb
    split
    · omega
    split
    · omega
    split
    · unfold textB; rw [List.length_append]; omega
    split
    · unfold textB; rw [List.length_append]; omega
    split
    · omega
    · simp
  have hfl : ∀ l : List UInt8, (l.flatMap e.fb).length ≤ 138 * l.length + 374 * l.count 86 := by
    intro l
    induction l with
    | nil => simp
    | cons x l ih =>
      rw [List.flatMap_cons, List.length_append, List.length_cons, List.count_cons]
      have := hfb x
      by_cases hx : x = 86
      · subst hx
        simp only [if_true, beq_self_eq_true] at this ⊢
        omega
      · rw [if_neg hx] at this
        have hb : (x == 86) = false := beq_eq_false_iff_ne.2 hx
        rw [hb]
        simp only [Bool.false_eq_true, if_false]
        omega
  have hF : (evFlds e.k).length ≤ 5 ∧ (evFlds e.k).count 86 ≤ 1 := by
    rcases hk with e' | e' | e' | e' | e' | e' <;> rw [e'] <;> decide
  have h7 := hfl (evFlds e.k)
  have h8 := numB_len e.id.toNat
  have h9 := numB_len e.tm.toNat
  unfold EM.wr
  rw [List.length_cons, List.length_append, List.length_append]
  omega
theorem wid_cl (c : EM) (n : Int) : (c.cev.wid n).cl = c.cev.wid n := by
  unfold EM.cl EM.wid
  rw [cev_v_cl]
mutual
theorem wparts : ∀ (t : VT) (d p q : Nat), t.walk d p 0 = (q, 0) → q = p + t.parts ∧ q ≤ 256
  | .mk k n s l, d, p, q, h => by
    obtain ⟨hp, his⟩ := walk_is h
    rw [VT.parts]
    cases his with
    | nil _ _ _ hq => rw [if_neg (by decide)]; omega
    | int _ _ _ hq => rw [if_neg (by decide)]; omega
    | text _ _ _ hq => rw [if_neg (by decide)]; omega
    | list _ _ _ _ _ hw =>
      rw [if_pos rfl]
      have := wpartsL l _ _ _ (by omega) hw
      omega
theorem wpartsL : ∀ (l : List VT) (d p q : Nat), p ≤ 256 → VT.walkL d p 0 l = (q, 0) → q = p + VT.partsL l ∧ q ≤ 256
  | [], d, p, q, hp, h => by
    rw [VT.walkL] at h
    simp only [Prod.mk.injEq] at h
    rw [VT.partsL]
    omega
  | t :: ts, d, p, q, hp, h => by
    obtain ⟨q1, h1, h2⟩ := walkL_cons h
    have h3 := wparts t _ _ _ h1
    have h4 := wpartsL ts _ _ _ h3.2 h2
    rw [VT.partsL]
    omega
end
theorem cgood_parts {c : EM} (h : c.CGood) : c.v.parts ≤ 256 := by
  obtain ⟨q, hq, -⟩ := chk_walk h.v
  have := wparts c.v 0 0 q hq
  omega
theorem cevw_rg {c : EM} (h : c.CGood) (hg : c.rg) {n : Int} (hn : 1 ≤ n ∧ n ≤ 1048576) : (c.cev.wid n).rg := by
  obtain ⟨-, g2, -, g4, g5, g6, -, g8⟩ := hg
  have hs := satu_rng h.tm h.b0
  have hv := cev_vrg g8
  unfold EM.cev at hv ⊢
  unfold EM.wid EM.rg
  rcases c_k6 h.k with g | g | g | g | g | g
  all_goals
    simp only [g] at hv ⊢
    simp only [if_true, Int.reduceEq, if_false, List.length_nil] at hv ⊢
    exact ⟨by omega, by omega, by omega, by omega, by omega, by omega, by omega, hv⟩
def wfr : Nat → List EM → List (Nat × List UInt8)
  | _, [] => []
  | n, c :: cs => (1, (c.cev.wid ((n + 1 : Nat) : Int)).wr) :: wfr (n + 1) cs
theorem wfr_snoc : ∀ (l : List EM) (n : Nat) (c : EM), wfr n (l ++ [c]) = wfr n l ++ [(1, (c.cev.wid ((n + l.length + 1 : Nat) : Int)).wr)]
  | [], n, c => rfl
  | a :: l, n, c => by
    rw [List.cons_append, wfr, wfr_snoc l (n + 1) c, wfr, List.cons_append, List.length_cons, show n + 1 + l.length + 1 = n + (l.length + 1) + 1 from by omega]
theorem wfr_len : ∀ (l : List EM) (n : Nat), (wfr n l).length = l.length
  | [], _ => rfl
  | a :: l, n => by rw [wfr, List.length_cons, List.length_cons, wfr_len l]
theorem wfr_get : ∀ (l : List EM) (n i : Nat) (c : EM), l[i]? = some c → (wfr n l)[i]? = some (1, (c.cev.wid ((n + i + 1 : Nat) : Int)).wr)
  | [], _, i, c, h => by simp at h
  | a :: l, n, 0, c, h => by
    simp only [List.getElem?_cons_zero, Option.some.injEq] at h
    subst h; rfl
  | a :: l, n, i + 1, c, h => by
    rw [wfr, List.getElem?_cons_succ, wfr_get l (n + 1) i c (by simpa using h), show n + 1 + i + 1 = n + (i + 1) + 1 from by omega]
def wsm (s : List UInt8) : Nat → List EM → List UInt8
  | _, [] => s
  | n, c :: cs => wsm (linkR s (c.cev.wid ((n + 1 : Nat) : Int))) (n + 1) cs
theorem wsm_snoc : ∀ (l : List EM) (s : List UInt8) (n : Nat) (c : EM), wsm s n (l ++ [c]) = linkR (wsm s n l) (c.cev.wid ((n + l.length + 1 : Nat) : Int))
  | [], s, n, c => rfl
  | a :: l, s, n, c => by
    rw [List.cons_append, wsm, wsm_snoc l _ (n + 1) c, wsm, List.length_cons, show n + 1 + l.length + 1 = n + (l.length + 1) + 1 from by omega]
theorem wsm_take {l : List EM} {i : Nat} {c : EM} (s : List UInt8) (h : l[i]? = some c) : wsm s 0 (l.take (i + 1)) = linkR (wsm s 0 (l.take i)) (c.cev.wid ((i + 1 : Nat) : Int)) := by
  have hi : i < l.length := by
    rcases Nat.lt_or_ge i l.length with g | g
    · exact g
    · rw [List.getElem?_eq_none g] at h; cases h
  rw [List.take_add_one, h, show (some c).toList = [c] from rfl, wsm_snoc, List.length_take, Nat.min_eq_left (by omega), Nat.zero_add]
end Go.Proofs.YtfmdngeooelcpaaGreat
