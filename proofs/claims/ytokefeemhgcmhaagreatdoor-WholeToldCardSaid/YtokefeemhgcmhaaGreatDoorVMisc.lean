/- Small facts on values, texts, rows. -/
import Derived.Test.YtokefeemhgcmhaaGreatDoorValM
namespace Go.Proofs.YtokefeemhgcmhaaGreatDoor
open Go.RowKit

section
variable {w w' : World} {G F : Nat → Prop}
/-- The kind of a value stands in its first cell. -/
theorem VAt.k {k n : Int} {s : List UInt8} {a : Option Addr} {m c : Nat} {t : VT} (h : VAt w G t [.int .i64 k, .int .i64 n, .string (strOf s), .slice a m c]) : t.k = k := by
  obtain ⟨k', n', s', l'⟩ := t
  rw [VAt] at h
  obtain ⟨a', cap, g, o, h1, -⟩ := h
  simp at h1
  exact h1.1.symm
end
theorem flat_take1 {α β : Type} {f : α → List β} {l : List α} {i : Nat} {n : α} (h : l[i]? = some n) : (l.take (i + 1)).flatMap f = (l.take i).flatMap f ++ f n := by
  rw [List.take_add_one, h, List.flatMap_append]; simp
theorem flat_le {α β : Type} {f : α → List β} : ∀ (l : List α) (i : Nat), ((l.take i).flatMap f).length ≤ (l.flatMap f).length
  | [], i => by simp
  | x :: l, 0 => by simp
  | x :: l, i + 1 => by rw [List.take_succ_cons, List.flatMap_cons, List.flatMap_cons, List.length_append, List.length_append]; have := flat_le (f := f) l i; omega
theorem strOf_at {l : List UInt8} {i : Nat} {c : UInt8} (h : l[i]? = some c) (hi : i < (strOf l).size) : (strOf l)[i] = c := by
  have hi' : i < l.length := hi
  rw [List.getElem?_eq_getElem hi'] at h
  exact Option.some.inj h


end Go.Proofs.YtokefeemhgcmhaaGreatDoor
