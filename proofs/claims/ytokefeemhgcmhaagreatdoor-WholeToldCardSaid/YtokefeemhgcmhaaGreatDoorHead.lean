/- A drawn region whose first operations are forced, all others quiet. -/
import Derived.Test.YtokefeemhgcmhaaGreatDoorRegion
import Derived.Deep.QuietTactic
namespace Go.Proofs.YtokefeemhgcmhaaGreatDoor
open Go.RowKit

/-- The first operations one behind the other, the others in the order of the text. -/
def wpHead (P : Program) (ops : Array Oper) (Q : Exit → Act → World → Prop) : List Oper → List Oper → Act → World → Prop
  | [], l2, a, w => wpQuiet P ops (fun w' => ∃ n, w' = w.drewN n) (fun a' => ∀ w', (∃ n, w' = w.drewN n) → Q .normal a' w') l2 a
  | o :: l1, l2, a, w => if Region.wanted o (yielded ops a.tmps) = true then o.wp P a w (wpHead P ops Q l1 l2) Q else wpHead P ops Q l1 l2 (a.put o.dst undef) w
/-- The same, shut, so that nothing unfolds it by itself. -/
structure HeadW (P : Program) (ops : Array Oper) (Q : Exit → Act → World → Prop) (l1 l2 : List Oper) (a : Act) (w : World) : Prop where
  out : wpHead P ops Q l1 l2 a w
def headF (ops : Array Oper) : Nat → Nat → Nat → Array Bool → Bool
  | 0, m, k, listed => Region.lexFrom .any ops m k listed
  | n + 1, m, k, listed => (Region.ready .any ops listed == [k]) && headF ops n m (k + 1) (listed.setIfInBounds k true)
section
variable {P : Program} {ops : Array Oper} {Q : Exit → Act → World → Prop}
theorem wp_val0 {o : Oper} {a : Act} {w : World} {K : Act → World → Prop} {v : Value} (hrun : (execOp a.eval o).run P w = .ok (.value v) w) (h : K (a.put o.dst v) w) : o.wp P a w K Q := wp_value hrun h
theorem head_one {o : Oper} {l1 l2 : List Oper} {a : Act} {w : World} (hg : o.guard = none) (h : o.wp P a w (wpHead P ops Q l1 l2) Q) : wpHead P ops Q (o :: l1) l2 a w := by
  rw [wpHead]
  have : Region.wanted o (yielded ops a.tmps) = true := by unfold Region.wanted; rw [hg]
  rw [if_pos this]; exact h
theorem head_call {o : Oper} {l1 l2 : List Oper} {a : Act} {w : World} {f : FuncId} {args : Array Value} {v : Value} {S : World → Prop} (hg : o.guard = none) (h : Calls P f args w fun e w' => e = .returned v ∧ S w') (hrun : (execOp a.eval o).run P w = .ok (.enter f args) w) (hk : ∀ w', S w' → HeadW P ops Q l1 l2 (a.put o.dst v) w') : HeadW P ops Q (o :: l1) l2 a w :=
  ⟨head_one hg (wp_callc hrun (h.mono fun _ w' hh => ⟨v, hh.1, (hk w' hh.2).out⟩))⟩
theorem head_val {o : Oper} {l1 l2 : List Oper} {a : Act} {w : World} (v : Value) (hg : o.guard = none) (hrun : (execOp a.eval o).run P w = .ok (.value v) w) (h : HeadW P ops Q l1 l2 (a.put o.dst v) w) : HeadW P ops Q (o :: l1) l2 a w := ⟨head_one hg (wp_val0 hrun h.out)⟩
theorem head_nil {l2 : List Oper} {a : Act} {w : World} (h : wpQuiet P ops (fun w' => ∃ n, w' = w.drewN n) (fun a' => ∀ w', (∃ n, w' = w.drewN n) → Q .normal a' w') l2 a) : HeadW P ops Q [] l2 a w := ⟨by rw [wpHead]; exact h⟩
theorem wpQuiet_skip {C : World → Prop} {R : Act → Prop} {o : Oper} {rest : List Oper} {a : Act} (hw : Region.wanted o (yielded ops a.tmps) = false) (h : wpQuiet P ops C R rest (a.put o.dst undef)) : wpQuiet P ops C R (o :: rest) a := by
  rw [wpQuiet, if_neg (by rw [hw]; simp)]; exact h
theorem wpQuiet_on {C : World → Prop} {R : Act → Prop} {o : Oper} {rest : List Oper} {a : Act} (hw : Region.wanted o (yielded ops a.tmps) = true) (h : ∀ K : Act → Prop, (∀ a, wpQuiet P ops C R rest a → K a) → o.quiet P a C K) : wpQuiet P ops C R (o :: rest) a := by
  rw [wpQuiet, if_pos hw]; exact h _ (fun _ h => h)
theorem head_rest {l2 : List Oper} {a : Act} {w : World} (h : ∀ R : Act → Prop, (∀ a', (∀ n, Q .normal a' (w.drewN n)) → R a') → wpQuiet P ops (fun w' => ∃ n, w' = w.drewN n) R l2 a) : HeadW P ops Q [] l2 a w :=
  head_nil (h _ (fun a' hn w' hw => by obtain ⟨n, rfl⟩ := hw; exact hn n))
theorem head_sound (hs : Region.noSelect ops = true) : ∀ (l1 l2 : List Oper) (k : Nat) (listed : Array Bool) (a : Act) (w : World), (∀ j, j < l1.length → l1[j]? = ops[k + j]?) → (∀ j, l2[j]? = ops[k + l1.length + j]?) →
    headF ops l1.length l2.length k listed = true → wpHead P ops Q l1 l2 a w → wpAny P .any ops Q (l1.length + l2.length) listed a w
  | [], l2, k, listed, a, w, _, h2, hB, h => by
    have h2' : ∀ j, l2[j]? = ops[k + j]? := fun j => by simpa using h2 j
    have := wpAnyQ_lex (C := fun w' => ∃ n, w' = w.drewN n) (md := .any) hs l2 k listed a h2' hB h
    have h0 := wpAny_of_quiet (Q := fun a' => ∀ w', (∃ n, w' = w.drewN n) → Q .normal a' w') (C := fun w' => ∃ n, w' = w.drewN n) (fun _ w' hw' h => h w' hw') l2.length listed a w ⟨0, rfl⟩ this
    simpa using h0
  | o :: l1, l2, k, listed, a, w, h1, h2, hB, h => by
    have h0 : ops[k]? = some o := by simpa using (h1 0 (by simp)).symm
    simp only [List.length_cons, headF, Bool.and_eq_true, beq_iff_eq] at hB
    obtain ⟨hr, hB'⟩ := hB
    have hfuel : (o :: l1).length + l2.length = (l1.length + l2.length) + 1 := by simp; omega
    rw [hfuel, wpAny, hr]
    refine ⟨fun e => absurd e (by simp), fun i hi => ?_⟩
    obtain rfl := List.mem_singleton.1 hi
    have ih := fun a' w' => head_sound hs l1 l2 (i + 1) (listed.setIfInBounds i true) a' w' (fun j hj => by have := h1 (j + 1) (by simp; omega); simpa [Nat.add_assoc, Nat.add_comm 1 j] using this) (fun j => by rw [h2 j]; congr 1; simp; omega) hB'
    unfold wpOp
    simp only [h0]
    rw [wpHead] at h
    by_cases hw : Region.wanted o (yielded ops a.tmps) = true
    · rw [if_pos hw] at h
      rw [if_pos hw]
      exact .inl (Oper.wp_mono (fun a' w' hk => ih a' w' hk) h)
    · rw [if_neg hw] at h
      rw [if_neg hw]
      exact ih _ _ h
theorem wp_region_head {id n : Nat} {a : Act} {w : World} {l : List Oper} (hm : P.follows .mixedOrders = true) (hs : Region.noSelect l.toArray = true) (hn : n ≤ l.length)
    (hB : headF l.toArray n (l.length - n) 0 (Array.replicate l.length false) = true)
    (h : HeadW P l.toArray Q (l.take n) (l.drop n) a w.drew) : (Code.region id l.toArray true).wp P Q a w := by
  refine wp_region_any hm ?_
  have e1 : (l.take n).length = n := by simp; omega
  have e2 : (l.drop n).length = l.length - n := by simp
  have := head_sound hs (l.take n) (l.drop n) 0 (Array.replicate l.length false) a w.drew (fun j hj => by rw [e1] at hj; simp [hj]) (fun j => by rw [e1]; simp) (by rw [e1, e2]; exact hB) h.out
  rw [e1, e2, show n + (l.length - n) = l.length from by omega] at this
  simpa using this
end
end Go.Proofs.YtokefeemhgcmhaaGreatDoor
