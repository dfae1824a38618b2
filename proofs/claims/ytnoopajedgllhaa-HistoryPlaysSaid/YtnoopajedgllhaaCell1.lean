/- One cell is stored into a block that is known whole: the world becomes a letter. -/
import Derived.Test.YtnoopajedgllhaaWhole
namespace Go.Proofs.Ytnoopajedgllhaa
open Go.RowKit
section
variable {P : Program} {ops : Array Oper} {rest : List Oper} {o : Oper} {a : Act} {Q : Exit → Act → World → Prop} {w : World}
theorem wp_store_1 {K : Act → World → Prop} (ty : TypeId) (x y : Operand) (ho : o.op = .store ty x y) (g off : Nat) (u : Value) (hx : a.eval x = .pointer (some ⟨g, off, none⟩)) (hy : a.eval y = u)
    (hi : (P.info? ty).map (·.size) = some 1) (hu : u.oneCell' = true) (cur : Array Value) (t : TypeId) (hg : w.heap[g]? = some (.cells cur t (0, 0))) (hfit : off < cur.size)
    (h : ∀ w', w'.heap[g]? = some (.cells (cur.setIfInBounds off u) t (0, 0)) → Only (fun k => k = g) w w' → w'.heap.size = w.heap.size → K (a.put o.dst undef) w') : o.wp P a w K Q := by
  have hst := run_storeCells_at (P := P) g off t [u] 0 cur w hg (by simp; omega) (fun v hv => by simp only [List.mem_cons, List.not_mem_nil, or_false] at hv; rw [hv]; exact hu)
  obtain ⟨i, hi0, hi1⟩ := Option.map_eq_some_iff.1 hi
  have hc : u.cells = #[u] := by cases u <;> first | rfl | (simp [Value.oneCell'] at hu)
  have hr : (storeVar ty ⟨g, off, none⟩ u).run P w = .ok () (w.setRow g (lay cur.toList off [u]).toArray) := by
    simp only [Nat.add_zero] at hst
    simp [storeVar, sizeOf, typeInfo, hi0, hi1, hc, hst, lay]
  unfold Oper.wp execOp
  simp only [ho, hx, hy, Instr.storeAt, Instr.sureAddr, Sem.run_bind, Sem.run_pure, Result.andThen_ok, hr]
  refine h _ ?_ ((Only.refl _ _).setRow _ _ (fun _ => rfl)) (by simp [World.setRow])
  rw [setRow_heap w g cur _ t _ hg]
  congr 2
  apply Array.ext'
  simp only [lay, List.length_cons, List.length_nil, Array.toList_setIfInBounds]
  rw [List.set_eq_take_append_cons_drop, if_pos (by simpa using hfit)]
  rfl
theorem wpList_store_1 (hgd : o.guard = none) (ty : TypeId) (x y : Operand) (ho : o.op = .store ty x y) (g off : Nat) (u : Value) (hx : a.eval x = .pointer (some ⟨g, off, none⟩)) (hy : a.eval y = u)
    (hi : (P.info? ty).map (·.size) = some 1) (hu : u.oneCell' = true) (cur : Array Value) (t : TypeId) (hg : w.heap[g]? = some (.cells cur t (0, 0))) (hfit : off < cur.size)
    (h : ∀ w', w'.heap[g]? = some (.cells (cur.setIfInBounds off u) t (0, 0)) → Only (fun k => k = g) w w' → w'.heap.size = w.heap.size → wpList P ops Q rest (a.put o.dst undef) w') : wpList P ops Q (o :: rest) a w :=
  wpList_plain hgd fun _ hK => wp_store_1 ty x y ho g off u hx hy hi hu cur t hg hfit (fun x0 x1 x2 x3 => hK _ _ (h x0 x1 x2 x3))
end
end Go.Proofs.Ytnoopajedgllhaa
