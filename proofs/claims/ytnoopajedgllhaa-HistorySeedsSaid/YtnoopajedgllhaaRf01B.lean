/- foliotref01: list. -/
import Derived.Test.YtnoopajedgllhaaRf01A
namespace Go.Proofs.Ytnoopajedgllhaa
open Go.RowKit
section
variable {w : World}
set_option maxRecDepth 100000 in
set_option maxHeartbeats 3200000 in
theorem rlist_c :
    Calls Try.prog 62 #[] w fun e w' => e = .returned (.slice (some ⟨w.heap.size, 0, none⟩) 64 64) ∧ w' = w.alloc (.cells (kK.map u32V).toArray 101) := by
  go_enter Try.func62, Try.ntmps62
  go_wp2_with fail
  go_ret
  exact ⟨rfl, congrArg (fun A => w.alloc (Obj.cells A 101)) (by kernel_rfl)⟩
end
end Go.Proofs.Ytnoopajedgllhaa
