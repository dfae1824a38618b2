/- DiskClone: the closed facts of its row, asked one by one. -/
import Derived.Test.YtepndjojodbhdaaRows
import Derived.JoinedOf
namespace Go.Proofs.Ytepndjojodbhdaa.diskClone
set_option maxRecDepth 100000 in
set_option maxHeartbeats 4000000 in
theorem closedFacts : joinedFacts Try.pinned.checked.prog 18 Try.f18 Rows.diskCloneSpec Rows.diskCloneRow = true := by
  unfold joinedFacts
  simp only [Bool.and_eq_true]
  and_intros
  all_goals as_aux_lemma => kernel_rfl
end Go.Proofs.Ytepndjojodbhdaa.diskClone
