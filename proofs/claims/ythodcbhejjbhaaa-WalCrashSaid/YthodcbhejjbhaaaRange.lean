/- Plain laws: a range over a map keyed by int, at the raw block. -/
import Derived.Test.YthodcbhejjbhaaaLaws
import Derived.Maps.RangeWalk
namespace Go.Proofs.Ythodcbhejjbhaaa
open Go.RowKit

/-- How many entries the range over map b with iterator r has still to give. -/
def mapLeft (w : World) (r b : Nat) : Nat :=
  match w.heap[r]?, w.heap[b]? with
  | some (.mapIter _ _ seen _), some (.map es _) => (es.toList.filter (fun e => !seen.contains e.born)).length
  | _, _ => 0
theorem mapLeft_congr {w w' : World} {r b : Nat} (h1 : w'.heap[r]? = w.heap[r]?) (h2 : w'.heap[b]? = w.heap[b]?) : mapLeft w' r b = mapLeft w r b := by simp [mapLeft, h1, h2]

theorem filter_lt {α : Type} (p q : α → Bool) : ∀ (l : List α), (∀ x, q x = true → p x = true) → ∀ x, x ∈ l → p x = true → q x = false → (l.filter q).length < (l.filter p).length
  | [], _, x, hx, _, _ => by simp at hx
  | y :: l, hpq, x, hx, hp, hq => by
    have hle : (l.filter q).length ≤ (l.filter p).length := by
      rw [← List.countP_eq_length_filter, ← List.countP_eq_length_filter]; exact List.countP_mono_left (fun x _ => hpq x)
    rcases List.mem_cons.1 hx with rfl | hx
    · simp only [List.filter_cons, hp, hq, if_true, Bool.false_eq_true, if_false, List.length_cons]; omega
    · have ih := filter_lt p q l hpq x hx hp hq
      simp only [List.filter_cons]
      by_cases h1 : q y = true
      · simp only [h1, hpq y h1, if_true, List.length_cons]; omega
      · by_cases h2 : p y = true
        · simp only [h1, h2, if_true, Bool.false_eq_true, if_false, List.length_cons]; omega
        · simp only [h1, h2, Bool.false_eq_true, if_false]; exact ih

section
variable {P : Program} {ops : Array Oper} {rest : List Oper} {o : Oper} {a : Act} {Q : Exit → Act → World → Prop} {w : World} {es : List ME} {clock b r : Nat}

theorem wpList_range_raw (hg : o.guard = none) (m : Operand) (t : TypeId) (hop : o.op = Op.range t m) (k e : TypeId) (ht : P.underlying t = some (.map k e)) (hm : a.eval m = .map (some b)) (h : IMap w b es clock)
    (hK : ∀ w', w'.heap[w.heap.size]? = some (.mapIter (some b) clock #[] clock) → Only (fun _ => False) w w' → w'.heap.size = w.heap.size + 1 → IMap w' b es clock → wpList P ops Q rest (a.put o.dst (.pointer (some ⟨w.heap.size, 0, none⟩))) w') :
    wpList P ops Q (o :: rest) a w := by
  refine wpList_plain hg fun K hK' => ?_
  have hrun : (Instr.range t (.map (some b))).run P w = .ok (.pointer (some ⟨w.heap.size, 0, none⟩)) (w.alloc (.mapIter (some b) clock #[] clock)) := by
    simp [Instr.range, run_underlying ht, MapKept.run_getObj_map h.blk]
  unfold Oper.wp
  simp [execOp, hop, hm, hrun, Result.andThen]
  have ho : Only (fun _ => False) w (w.alloc (.mapIter (some b) clock #[] clock)) := (Only.refl _ _).alloc _
  exact hK' _ _ (hK _ (blk_new w _) ho (by simp) (h.only ho (fun e => e)))

theorem wpList_next_raw (hg : o.guard = none) (it : Operand) (hop : o.op = Op.next it false) (hit : a.eval it = .pointer (some ⟨r, 0, none⟩)) (since c0 : Nat) (seen : List Nat)
    (hr : w.heap[r]? = some (.mapIter (some b) since seen.toArray c0)) (hm : IMap w b es clock) (hold : ∀ e ∈ es, e.t < since) (hsc : since ≤ c0)
    (hDone : (∀ e ∈ es, e.t ∈ seen) → wpList P ops Q rest (a.put o.dst (.tuple #[.bool false])) w)
    (hMore : ∀ e ∈ es, e.t ∉ seen → ∀ w', w'.heap[r]? = some (.mapIter (some b) since (seen ++ [e.t]).toArray clock) → Only (fun j => j = r) w w' → w'.heap.size = w.heap.size → IMap w' b es clock → mapLeft w' r b < mapLeft w r b →
      (Instr.entry (.pointer (some ⟨r, 0, none⟩))).run P w' = .ok (.tuple #[.int .i64 e.k, e.v]) w' → wpList P ops Q rest (a.put o.dst (.tuple #[.bool true, .int .i64 e.k, e.v])) w') :
    wpList P ops Q (o :: rest) a w := by
  refine wpList_plain hg fun K hK' => ?_
  have hrb : r ≠ b := fun e => by rw [e, hm.blk] at hr; cases hr
  have hrl := blk_lt hr
  unfold Oper.wp
  rcases run_next_at (P := P) w o.type r b since c0 seen.toArray (es.map ME.to).toArray clock hr hm.blk (fun x hx => by
      obtain ⟨e, he, rfl⟩ := List.mem_map.1 (by simpa using hx); exact hold e he) hsc with ⟨h0, hrun⟩ | ⟨me, hme, w1, hw1, hrun⟩
  · simp [execOp, hop, hit, hrun, Result.andThen]
    refine hK' _ _ (hDone fun e he => ?_)
    have h1 : ∀ x ∈ (leftOf (es.map ME.to).toArray seen.toArray).toList, False := by
      intro x hx; rw [Array.eq_empty_of_size_eq_zero h0] at hx; simp at hx
    by_cases hs : e.t ∈ seen
    · exact hs
    · exact (h1 e.to (by simp [leftOf]; exact ⟨⟨e, he, rfl⟩, hs⟩)).elim
  · have hmem : me ∈ (es.map ME.to).toArray.toList ∧ ¬ me.born ∈ seen := by
      unfold leftOf at hme
      simp at hme
      exact ⟨by simpa using hme.1, hme.2⟩
    obtain ⟨e, he, rfl⟩ := List.mem_map.1 (by simpa using hmem.1)
    have het : e.t ∉ seen := hmem.2
    simp [execOp, hop, hit, hrun, Result.andThen]
    have hh : w1.heap = w.heap := by rcases hw1 with rfl | rfl <;> rfl
    have h1r : (setObj w1 r (.mapIter (some b) since (seen ++ [e.t]).toArray clock)).heap[r]? = some (.mapIter (some b) since (seen ++ [e.t]).toArray clock) := setObj_same (by rw [hh]; exact hrl)
    have hob : Only (fun j => j = r) w (setObj w1 r (.mapIter (some b) since (seen ++ [e.t]).toArray clock)) := by
      rcases hw1 with rfl | rfl
      · exact (Only.refl _ _).setObj _ _ (fun _ => rfl)
      · exact (Only.refl _ _).drew.setObj _ _ (fun _ => rfl)
    have hmm := hm.only hob (fun e => hrb e.symm)
    have hen := run_entry_at (P := P) _ r b since seen.toArray (es.map ME.to).toArray clock e.to (by simpa [ME.to] using h1r) hmm.blk (by simpa using List.mem_map_of_mem he) (by
      have := hm.stamps
      simp only [List.map_map] at this ⊢
      exact this)
    have hws : Go.ChangeMaps.setBlock w1 r (.mapIter (some b) since (seen ++ [e.to.born]).toArray clock) = setObj w1 r (.mapIter (some b) since (seen ++ [e.t]).toArray clock) := rfl
    rw [hws]
    refine hK' _ _ (hMore e he het _ h1r hob (by simp [hh]) hmm ?_ hen)
    unfold mapLeft
    rw [h1r, hmm.blk, hr, hm.blk]
    refine filter_lt _ _ _ (fun x hx => ?_) e.to (List.mem_map_of_mem he) ?_ ?_
    · simp at hx ⊢; exact hx.1
    · simp [ME.to, het]
    · simp [ME.to]
end
end Go.Proofs.Ythodcbhejjbhaaa
