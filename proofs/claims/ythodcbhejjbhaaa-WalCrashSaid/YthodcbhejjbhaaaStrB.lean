/- []byte(s) of a string that is no constant. -/
import Derived.Test.YthodcbhejjbhaaaFreeze
import Derived.Test.YthodcbhejjbhaaaBytes
import Derived.Lib.ConvBytes
namespace Go.Proofs.Ythodcbhejjbhaaa
open Go.RowKit

theorem bytesWorld_only (w : World) (e : TypeId) (s : ByteArray) : Only (fun _ => False) w (Go.Lib.bytesWorld w e s) := by
  have h1 : Only (fun _ => False) w (w.drew.alloc (.cells (Go.Lib.bytesCells w e s) e)) := (Only.refl _ _).drew.alloc _
  exact h1.trans (freeze_only _ _ _) (fun k hk e => by have e' : k = w.heap.size := e; omega)

theorem conv_bytes (w : World) (l : List UInt8) : (convert 9 33 (.string (strOf l))).run Try.prog w = .ok (.slice (some ⟨w.heap.size, 0, none⟩) l.length (grownCap w l.length 0 5)) (Go.Lib.bytesWorld w 5 (strOf l)) :=
  Go.Lib.run_convert_string_bytes (P := Try.prog) w 9 33 5 (strOf l) Try.underlying9 Try.underlying33 Try.underlying5
theorem conv_bytes_src (w : World) (l : List UInt8) : Src (Go.Lib.bytesWorld w 5 (strOf l)) (.slice (some ⟨w.heap.size, 0, none⟩) l.length (grownCap w l.length 0 5)) l := by
  refine ⟨_, _, rfl, fun _ => ⟨w.heap.size, 0, rfl, fun i u hu => ?_⟩⟩
  rw [bytesV_get] at hu
  have hi : i < l.length := by
    rcases Nat.lt_or_ge i l.length with h | h
    · exact h
    · rw [List.getElem?_eq_none h] at hu; cases hu
  rw [List.getElem?_eq_getElem hi] at hu
  simp only [Option.map_some, Option.some.injEq] at hu
  rw [Nat.zero_add, Go.Lib.bytesWorld_cell _ _ _ _ (by exact hi), ← hu]
  simp [strOf, List.getD, hi]
end Go.Proofs.Ythodcbhejjbhaaa
