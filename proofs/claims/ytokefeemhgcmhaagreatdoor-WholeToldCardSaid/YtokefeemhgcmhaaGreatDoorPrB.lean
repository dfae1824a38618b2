/- How long a value's text is, where it may be written. -/
import Derived.Test.YtokefeemhgcmhaaGreatDoorValQ
namespace Go.Proofs.YtokefeemhgcmhaaGreatDoor
open Go.RowKit

theorem prL_T (l : List VT) : (VT.prL l).length ≤ (VT.prT l).length := by
  cases l with
  | nil => rw [VT.prL, VT.prT]; exact Nat.le_refl _
  | cons t ts => rw [VT.prL, VT.prT]; simp
mutual
theorem pr_bd : ∀ (t : VT) (d p q : Nat), t.walk d p 0 = (q, 0) → t.rg → p < q ∧ q ≤ 256 ∧ t.pr.length + 1 ≤ 1040 * (q - p)
  | .mk k n s l, d, p, q, h, hg => by
    obtain ⟨hp, his⟩ := walk_is h
    rw [VT.rg] at hg
    obtain ⟨-, -, hn0, hn1, -, -, hgl⟩ := hg
    cases his with
    | nil => rename_i e; subst e; rw [pr0]; simp only [List.length_cons, List.length_nil]; omega
    | int => rename_i e; subst e; rw [pr1]; have := itoa_len n hn0 hn1; omega
    | text => rename_i e1 e2; subst e1; rw [pr2]; have := quo_len s; omega
    | list _ _ _ _ _ hl =>
      obtain ⟨h1, h2, h3⟩ := prL_bd l _ _ _ hl hgl (by omega)
      have h4 := prL_T l
      rw [pr3]
      simp only [List.length_cons, List.length_append, List.length_nil]
      omega
theorem prL_bd : ∀ (l : List VT) (d p q : Nat), VT.walkL d p 0 l = (q, 0) → VT.rgL l → p ≤ 256 → p ≤ q ∧ q ≤ 256 ∧ (VT.prT l).length ≤ 1040 * (q - p)
  | [], d, p, q, h, _, hp => by
    rw [VT.walkL] at h
    have : p = q := by simpa using h
    subst this
    rw [VT.prT]; simp; omega
  | t :: ts, d, p, q, h, hg, hp => by
    obtain ⟨q1, h1, h2⟩ := walkL_cons h
    rw [VT.rgL] at hg
    obtain ⟨a1, a2, a3⟩ := pr_bd t _ _ _ h1 hg.1
    obtain ⟨b1, b2, b3⟩ := prL_bd ts _ _ _ h2 hg.2 a2
    rw [VT.prT]
    simp only [List.length_cons, List.length_append]
    omega
end
theorem pr_max {t : VT} (h : t.chk = 0) (hg : t.rg) : t.pr.length ≤ 1000000 := by
  obtain ⟨q, hw, -⟩ := chk_walk h
  obtain ⟨-, h2, h3⟩ := pr_bd t _ _ _ hw hg
  omega
end Go.Proofs.YtokefeemhgcmhaaGreatDoor
