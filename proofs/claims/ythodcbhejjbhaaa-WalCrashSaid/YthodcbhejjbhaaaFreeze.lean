/- []byte of a literal: the row is marked; its cells read the same. -/
import Derived.Test.YthodcbhejjbhaaaClone
namespace Go.Proofs.Ythodcbhejjbhaaa
open Go.RowKit

theorem freeze_cell (w : World) (a : Addr) (n : Nat) (p : Addr) : (w.freeze a n).cell? p = w.cell? p := by
  unfold World.freeze
  split
  · rfl
  · unfold World.cell?
    simp only [Array.getElem?_modify]
    by_cases h : a.block = p.block
    · rw [if_pos h]
      cases hb : w.heap[p.block]? with
      | none => rfl
      | some o => cases o <;> rfl
    · rw [if_neg h]
theorem freeze_size (w : World) (a : Addr) (n : Nat) : (w.freeze a n).heap.size = w.heap.size := by
  unfold World.freeze
  split
  · rfl
  · simp
theorem freeze_only (w : World) (a : Addr) (n : Nat) : Only (fun k => k = a.block) w (w.freeze a n) := by
  refine ⟨?_, ?_, ?_, by rw [freeze_size]; exact Nat.le_refl _, fun k _ hk => ?_⟩
  · unfold World.freeze; split <;> rfl
  · unfold World.freeze; split <;> rfl
  · unfold World.freeze; split <;> rfl
  · unfold World.freeze
    split
    · rfl
    · simp only [Array.getElem?_modify]
      rw [if_neg (fun e => hk e.symm)]

theorem conv_lit {w : World} {g n c : Nat} {cs : Array Value} (h : w.heap[g]? = some (.cells cs 5 (0, 0))) :
    (convert 33 33 (.slice (some ⟨g, 0, none⟩) n c)).run Try.prog w = .ok (.slice (some ⟨g, 0, none⟩) n c) (w.freeze ⟨g, cs.size, none⟩ 1) := by
  have hsh : w.shape? g = some (5, cs.size) := by unfold World.shape?; rw [h]
  simp [convert, run_underlying (P := Try.prog) Try.underlying33, run_underlying (P := Try.prog) Try.underlying5, markStringish, hsh]
end Go.Proofs.Ythodcbhejjbhaaa
