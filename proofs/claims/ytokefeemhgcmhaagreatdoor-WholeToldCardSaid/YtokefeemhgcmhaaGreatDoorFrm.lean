/- Great frames: a frame as a function of its slots; the blocks of a function's code by their numbers. -/
import Derived.Test.YtokefeemhgcmhaaGreatDoorBase
import Derived.Deep.Cut
import Derived.Deep.CutRange
import Derived.Deep.CutBlock
import Derived.Deep.RegionHeld3
namespace Go.Proofs.YtokefeemhgcmhaaGreatDoor
open Go.RowKit

/-- The code's block of a number. -/
def blkOf (id : Nat) : Code → Option Code
  | .block j c => if j = id then some (.block j c) else blkOf id c
  | .seq a b => match blkOf id a with
    | some c => some c
    | none => blkOf id b
  | .scope c => blkOf id c
  | .loop c => blkOf id c
  | .cond _ a b => match blkOf id a with
    | some c => some c
    | none => blkOf id b
  | _ => none
/-- What a frame's slots hold. -/
def Lv (n : Nat) (a : Act) : List (Nat × Value) → Prop
  | [] => a.tmps.size = n ∧ a.defers = []
  | (k, x) :: l => a.tmps.getD k undef = x ∧ Lv n a l
theorem Lv.size {n : Nat} {a : Act} : ∀ {l : List (Nat × Value)}, Lv n a l → a.tmps.size = n ∧ a.defers = []
  | [], h => h
  | _ :: _, h => Lv.size h.2
theorem act_fn {n : Nat} {a : Act} {l : List (Nat × Value)} (h : Lv n a l) : ∃ v : Nat → Value, a = ⟨((List.range n).map v).toArray, []⟩ ∧ ∀ k, k < n → a.tmps.getD k undef = v k := by
  obtain ⟨hs, hd⟩ := h.size
  obtain ⟨t, d⟩ := a
  simp only at hs hd
  subst hd hs
  refine ⟨fun k => t.getD k undef, ?_, fun k _ => rfl⟩
  congr 1
  apply Array.ext'
  apply List.ext_getElem (by simp)
  intro i h1 h2
  simp at h2 ⊢
  rw [Array.getElem?_eq_getElem h2]; rfl
end Go.Proofs.YtokefeemhgcmhaaGreatDoor
