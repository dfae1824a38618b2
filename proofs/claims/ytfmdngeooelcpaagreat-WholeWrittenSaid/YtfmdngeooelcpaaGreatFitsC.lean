/- foliotlaw10: fits, small; a slice of commands. -/
import Derived.Test.YtfmdngeooelcpaaGreatCmA
import Derived.Test.YtfmdngeooelcpaaGreatRf09S
namespace Go.Proofs.YtfmdngeooelcpaaGreat
open Go.RowKit

theorem drop_getC {α : Type} {l : List α} {j : Nat} {c : α} (h : l[j]? = some c) : l.drop j = c :: l.drop (j + 1) := by
  have hl : j < l.length := by
    rcases Nat.lt_or_ge j l.length with g | g
    · exact g
    · rw [List.getElem?_eq_none g] at h; cases h
  rw [List.drop_eq_getElem_cons hl]; congr 1; rw [List.getElem?_eq_getElem hl] at h; exact Option.some.inj h
mutual
/-- Is a value of a size with which this is tried: the answer, and what is left. -/
def VT.fit (d : Nat) (x : Int) : VT → Bool × Int
  | .mk _ _ s l => if x - 1 < 0 ∨ 12 < d ∨ 1100 < s.length then (false, x - 1) else VT.fitL (d + 1) (x - 1) l
def VT.fitL (d : Nat) (x : Int) : List VT → Bool × Int
  | [] => (true, x)
  | t :: ts => if (t.fit d x).1 = true then VT.fitL d (t.fit d x).2 ts else (false, (t.fit d x).2)
end
/-- Where the number that is left stands. -/
def Lft (w : World) (b : Nat) (x : Int) : Prop := w.heap[b]? = some (.cells #[.int .i64 x] 3 (0, 0))
section
variable {w : World}
theorem Lft.set {b : Nat} {x : Int} (h : Lft w b x) (y : Int) : Lft (w.setCell ⟨b, 0, none⟩ (.int .i64 y)) b y := by
  have := blk_set h 0 (.int .i64 y)
  unfold Lft
  simpa using this
/-- A slice of commands. -/
def CmsV (w : World) (G : Nat → Prop) (v : Value) (es : List EM) : Prop :=
  ∃ a c g o, v = .slice a es.length c ∧ (es ≠ [] → a = some ⟨g, o, none⟩ ∧ G g) ∧ ∀ (i : Nat) (e : EM), es[i]? = some e → ∃ cs, (∀ j u, cs[j]? = some u → w.cell? ⟨g, o + i * 9 + j, none⟩ = some u) ∧ CAt w G e cs
theorem CmsV.only {w w' : World} {G F : Nat → Prop} {v : Value} {es : List EM} (h : CmsV w G v es) (ho : Only F w w') (hd : ∀ k, G k → ¬ F k) : CmsV w' G v es := by
  obtain ⟨a, c, g, o, h1, h2, h3⟩ := h
  refine ⟨a, c, g, o, h1, h2, fun i e hi => ?_⟩
  obtain ⟨cs, h4, h5⟩ := h3 i e hi
  have hg := (h2 (by rintro rfl; simp at hi)).2
  exact ⟨cs, fun j u hj => (World.cell?_of_block (ho.block g (World.block_lt_of_cell? _ _ (h4 j u hj)) (hd g hg))).trans (h4 j u hj), h5.only ho hd⟩
theorem CmsV.same {w w' : World} {G : Nat → Prop} {v : Value} {es : List EM} (h : CmsV w G v es) (ho : Only (fun _ => False) w w') : CmsV w' G v es := h.only ho (fun _ _ e => e)
theorem CmsV.len {w : World} {G : Nat → Prop} {v : Value} {es : List EM} (h : CmsV w G v es) : ∃ a c, v = .slice a es.length c := let ⟨a, c, _, _, e, _⟩ := h; ⟨a, c, e⟩
theorem CmsV.one {w : World} {g : Nat} {G : Nat → Prop} {e : EM} {cs : List Value} {T : TypeId} {fr : Nat × Nat} (h : w.heap[g]? = some (.cells cs.toArray T fr)) (he : CAt w G e cs) : CmsV w (fun k => k = g ∨ G k) (.slice (some ⟨g, 0, none⟩) 1 1) [e] := by
  refine ⟨_, 1, g, 0, rfl, fun _ => ⟨rfl, .inl rfl⟩, fun i e' hi => ?_⟩
  have h0 : i = 0 := by
    rcases Nat.eq_zero_or_pos i with h | h
    · exact h
    · rw [List.getElem?_eq_none (by simp; omega)] at hi; cases hi
  subst h0
  simp only [List.getElem?_cons_zero, Option.some.injEq] at hi
  subst hi
  exact ⟨cs, fun j u hj => by simp only [Nat.zero_mul, Nat.zero_add]; rw [cell_blk h]; simpa using hj, he.mono (fun k hk => .inr hk)⟩
end
end Go.Proofs.YtfmdngeooelcpaaGreat
