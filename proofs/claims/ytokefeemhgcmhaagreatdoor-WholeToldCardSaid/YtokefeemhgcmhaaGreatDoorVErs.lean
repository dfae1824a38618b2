/- The errors' variables, as they are laid. -/
import Derived.Test.YtokefeemhgcmhaaGreatDoorVNum
import Derived.Stop.LaidErr
import Derived.LaidLaws
import Derived.FnData
namespace Go.Proofs.YtokefeemhgcmhaaGreatDoor
open Go.RowKit

theorem star_ers : "*" ++ "errors.errorString" = "*errors.errorString" := by decide
theorem row_ers (u : TypeId) (h : Tryz.prog.typeName? 3 u = some "*errors.errorString") : u = 172 :=
  typeName_ptr_named (nm := "errors.errorString") (by rw [star_ers]; kernel_rfl) (by kernel_rfl) (by decide) u (by rw [star_ers]; exact h)
theorem cells_es : Tryz.prog.cellsOf 174 = 1 := by kernel_rfl
theorem cells_st : Tryz.prog.cellsOf 9 = 1 := by kernel_rfl
theorem g_syn : Tryz.prog.globalNamed "strconv.ErrSyntax" = some 2 := by kernel_rfl
theorem g_rng : Tryz.prog.globalNamed "strconv.ErrRange" = some 3 := by kernel_rfl
theorem ers_laid {t1 t2 : List UInt8} {W : World} {r : List (String × DataW Unit)} (h : laidMet Tryz.prog (("strconv.ErrRange", .iface "*errors.errorString" (.ptr (.agg [.lit (.string t1)]))) :: ("strconv.ErrSyntax", .iface "*errors.errorString" (.ptr (.agg [.lit (.string t2)]))) :: r) W) : Ers W := by
  obtain ⟨a1, s1, hv1, -⟩ := laid_sentinel h g_rng (show (Tryz.prog.globals[3]?).map (·.type) = some 110 by kernel_rfl) Tryz.underlying110 row_ers Tryz.underlying172 Tryz.underlying174 rfl rfl Tryz.underlying9 cells_es cells_st
  obtain ⟨a2, s2, hv2, -⟩ := laid_sentinel (laidMet.tail h) g_syn (show (Tryz.prog.globals[2]?).map (·.type) = some 110 by kernel_rfl) Tryz.underlying110 row_ers Tryz.underlying172 Tryz.underlying174 rfl rfl Tryz.underlying9 cells_es cells_st
  have h1 := World.var?_cell g_rng hv1 0
  have h2 := World.var?_cell g_syn hv2 0
  exact ⟨⟨_, by simpa using h2, .inr ⟨_, _, rfl⟩⟩, ⟨_, by simpa using h1, .inr ⟨_, _, rfl⟩⟩⟩
end Go.Proofs.YtokefeemhgcmhaaGreatDoor
