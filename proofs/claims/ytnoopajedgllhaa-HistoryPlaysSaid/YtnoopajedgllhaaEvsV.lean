/- Slices of events. -/
import Derived.Test.YtnoopajedgllhaaEvA
namespace Go.Proofs.Ytnoopajedgllhaa
open Go.RowKit
/-- A slice of events. -/
def EvsV (w : World) (G : Nat → Prop) (v : Value) (es : List EM) : Prop :=
  ∃ a c g o, v = .slice a es.length c ∧ (es ≠ [] → a = some ⟨g, o, none⟩ ∧ G g) ∧ ∀ (i : Nat) (e : EM), es[i]? = some e → ∃ cs, (∀ j u, cs[j]? = some u → w.cell? ⟨g, o + i * 11 + j, none⟩ = some u) ∧ EAt w G e cs
theorem EvsV.only {w w' : World} {G F : Nat → Prop} {v : Value} {es : List EM} (h : EvsV w G v es) (ho : Only F w w') (hd : ∀ k, G k → ¬ F k) : EvsV w' G v es := by
  obtain ⟨a, c, g, o, h1, h2, h3⟩ := h
  refine ⟨a, c, g, o, h1, h2, fun i e hi => ?_⟩
  obtain ⟨cs, h4, h5⟩ := h3 i e hi
  have hg := (h2 (by rintro rfl; simp at hi)).2
  exact ⟨cs, fun j u hj => (World.cell?_of_block (ho.block g (World.block_lt_of_cell? _ _ (h4 j u hj)) (hd g hg))).trans (h4 j u hj), h5.only ho hd⟩
theorem EvsV.same {w w' : World} {G : Nat → Prop} {v : Value} {es : List EM} (h : EvsV w G v es) (ho : Only (fun _ => False) w w') : EvsV w' G v es := h.only ho (fun _ _ e => e)
theorem EvsV.len {w : World} {G : Nat → Prop} {v : Value} {es : List EM} (h : EvsV w G v es) : ∃ a c, v = .slice a es.length c := let ⟨a, c, _, _, e, _⟩ := h; ⟨a, c, e⟩
theorem EvsV.one {w : World} {g : Nat} {G : Nat → Prop} {e : EM} {cs : List Value} {T : TypeId} {fr : Nat × Nat} (h : w.heap[g]? = some (.cells cs.toArray T fr)) (he : EAt w G e cs) : EvsV w (fun k => k = g ∨ G k) (.slice (some ⟨g, 0, none⟩) 1 1) [e] := by
  refine ⟨_, 1, g, 0, rfl, fun _ => ⟨rfl, .inl rfl⟩, fun i e' hi => ?_⟩
  have h0 : i = 0 := by
    rcases Nat.eq_zero_or_pos i with h | h
    · exact h
    · rw [List.getElem?_eq_none (by simp; omega)] at hi; cases hi
  subst h0
  simp only [List.getElem?_cons_zero, Option.some.injEq] at hi
  subst hi
  exact ⟨cs, fun j u hj => by simp only [Nat.zero_mul, Nat.zero_add]; rw [cell_blk h]; simpa using hj, he.mono (fun k hk => .inr hk)⟩
end Go.Proofs.Ytnoopajedgllhaa
