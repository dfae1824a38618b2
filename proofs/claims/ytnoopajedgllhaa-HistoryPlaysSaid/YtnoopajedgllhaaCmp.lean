/- value.Compare, value.Same, event.Same. -/
import Derived.Test.YtnoopajedgllhaaValH
import Derived.Test.YtnoopajedgllhaaVMisc
import Derived.Test.YtnoopajedgllhaaShelf
namespace Go.Proofs.Ytnoopajedgllhaa
open Go.RowKit

theorem cmpB : ∀ a b : List UInt8, Lib.compareBytes a b = cmpS a b
  | [], [] => rfl
  | [], _ :: _ => rfl
  | _ :: _, [] => rfl
  | x :: xs, y :: ys => by
    rw [Lib.compareBytes, cmpS, cmpB xs ys]
    by_cases e : x = y
    · subst e; simp [UInt8.lt_irrefl]
    · rw [if_neg e]
      by_cases h : x < y
      · rw [if_pos h, if_pos h]
      · have h2 : y < x := by
          rcases Nat.lt_trichotomy x.toNat y.toNat with g | g | g
          · exact absurd g h
          · exact absurd (UInt8.toNat_inj.1 g) e
          · exact g
        rw [if_neg h, if_neg h, if_pos h2]
section
variable {w : World}
end
end Go.Proofs.Ytnoopajedgllhaa
