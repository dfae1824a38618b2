/- strconv's numerals; the table that they want. -/
import Derived.Test.YtokefeemhgcmhaaGreatDoorShelf
import Derived.Test.YtokefeemhgcmhaaGreatDoorGrow
import Derived.Test.YtokefeemhgcmhaaGreatDoorPrV
import Derived.Lib.AppendIntMem
namespace Go.Proofs.YtokefeemhgcmhaaGreatDoor
open Go.RowKit

/-- strconv's table of powers of ten stands in its variable. -/
def Tab (w : World) : Prop := Lib.TabIs Tryz.prog w "internal/strconv.uint64pow10" .u64 Lib.pow10Tab
theorem Tab.only {w w' : World} (h : Tab w) (ho : Only (fun _ => False) w w') : Tab w' :=
  (Lib.tabBelow_of_tabIs h) w' (ho.below (Nat.le_refl _) (fun _ _ e => e))
theorem only_grow (w : World) (os : Array Obj) : Only (fun _ => False) w (Sort.grow w os) :=
  ⟨rfl, rfl, rfl, by simp [Sort.grow], fun k hk _ => by simp [Sort.grow, Array.getElem?_append_left hk]⟩
theorem strOf_app (a b : List UInt8) : strOf a ++ strOf b = strOf (a ++ b) := by apply ByteArray.ext; simp [strOf]
theorem dec_len (u k : Nat) (h : u < 10 ^ (k + 1)) : (Lib.decDigits u).length ≤ k + 1 := by
  induction k generalizing u with
  | zero => rw [Lib.decDigits, dif_pos (by omega)]; simp
  | succ k ih =>
    rw [Lib.decDigits]
    split
    · simp
    · rw [List.length_append]
      have := ih (u / 10) (by rw [Nat.pow_succ] at h; omega)
      simp; omega
theorem itoa_len (n : Int) (h1 : -9223372036854775808 ≤ n) (h2 : n ≤ 9223372036854775807) : (Lib.itoa n).length ≤ 20 := by
  unfold Lib.itoa
  split
  · rw [List.length_cons]; have := dec_len n.natAbs 18 (by omega); omega
  · have := dec_len n.toNat 18 (by omega); omega
theorem qB_len (c : UInt8) : (qB c).length ≤ 4 := by
  unfold qB
  repeat' split
  all_goals simp
theorem quo_len (s : List UInt8) : (quo s).length ≤ 4 * s.length + 2 := by
  have h : ∀ s : List UInt8, (s.flatMap qB).length ≤ 4 * s.length := by
    intro s
    induction s with
    | nil => simp
    | cons c s ih => rw [List.flatMap_cons, List.length_append, List.length_cons]; have := qB_len c; omega
  have := h s
  unfold quo
  rw [List.length_cons, List.length_append]; simp only [List.length_cons, List.length_nil]; omega
theorem evName_len (k : Int) : (evName k).length ≤ 100 := by
  unfold evName
  by_cases g : 1 ≤ k ∧ k ≤ 21
  · rw [if_pos g]
    have hall : ∀ i : Fin 21, (evTab.getD i.val ([], [])).1.length ≤ 100 := by decide
    exact hall ⟨k.toNat - 1, by omega⟩
  · rw [if_neg g]; simp
section
variable {w : World}
theorem itoaS_c (n : Int) (h0 : -9223372036854775808 ≤ n) (h1 : n ≤ 9223372036854775807) (hT : Tab w) : Calls Tryz.prog 113 #[.int .i64 n] w fun e w' => e = .returned (.string (strOf (Lib.itoa n))) ∧ Only (fun _ => False) w w' :=
  (Tryz.strconv_Itoa n h0 h1 w hT).mono fun e w' ⟨h1, k, os, h2⟩ => ⟨h1, by rw [h2]; exact (only_drewN _ _).trans (only_grow _ _) (fun _ _ e => e)⟩
theorem fmt_c (n : Int) (h0 : -9223372036854775808 ≤ n) (h1 : n ≤ 9223372036854775807) (hT : Tab w) : Calls Tryz.prog 26 #[.int .i64 n, .int .i64 10] w fun e w' => e = .returned (.string (strOf (Lib.itoa n))) ∧ Only (fun _ => False) w w' :=
  (Tryz.strconv_FormatInt_10 n h0 h1 w hT).mono fun e w' ⟨h1, k, os, h2⟩ => ⟨h1, by rw [h2]; exact (only_drewN _ _).trans (only_grow _ _) (fun _ _ e => e)⟩
end
end Go.Proofs.YtokefeemhgcmhaaGreatDoor
