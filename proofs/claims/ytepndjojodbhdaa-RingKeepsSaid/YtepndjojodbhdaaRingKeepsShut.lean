/- RingKeeps: the closed facts of its row, asked one by one. -/
import Derived.Test.YtepndjojodbhdaaRows
import Derived.JoinedOf
namespace Go.Proofs.Ytepndjojodbhdaa.ringKeeps
set_option maxRecDepth 100000 in
set_option maxHeartbeats 4000000 in
theorem closedFacts : joinedFacts Try.pinned.checked.prog 20 Try.f20 Rows.ringKeepsSpec Rows.ringKeepsRow = true := by
  unfold joinedFacts
  simp only [Bool.and_eq_true]
  and_intros
  all_goals as_aux_lemma => kernel_rfl
end Go.Proofs.Ytepndjojodbhdaa.ringKeeps
