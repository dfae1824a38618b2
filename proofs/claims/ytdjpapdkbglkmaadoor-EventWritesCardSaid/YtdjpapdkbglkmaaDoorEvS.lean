/- Plain law: what is read hangs on what is left alone. -/
import Derived.Test.YtdjpapdkbglkmaaDoorEvL
namespace Go.Proofs.YtdjpapdkbglkmaaDoor

/-- A reader with other bytes ahead. -/
def RdM.pre (p : List UInt8) (r : RdM) : RdM := ⟨p ++ r.b, p.length + r.at', r.err⟩
variable {p : List UInt8}
theorem pre_err (r : RdM) : (r.pre p).err = r.err := rfl
theorem fail_pre (r : RdM) (e : Int) : (r.pre p).fail e = (r.fail e).pre p := by unfold RdM.fail RdM.pre; simp only; split <;> rfl
theorem take_pre (r : RdM) (n : Nat) : (r.pre p).take n = ((r.take n).1, (r.take n).2.pre p) := by
  have h1 : (p ++ r.b).length - (p.length + r.at') = r.b.length - r.at' := by rw [List.length_append]; omega
  have h2 : (p ++ r.b).drop (p.length + r.at') = r.b.drop r.at' := by rw [List.drop_append, List.drop_eq_nil_of_le (by omega), List.nil_append]; congr 1; omega
  unfold RdM.take
  rw [pre_err, fail_pre]
  by_cases h : r.err ≠ 0
  · rw [if_pos h, if_pos h]
  · rw [if_neg h, if_neg h]
    show (if (p ++ r.b).length - (p.length + r.at') < n then _ else (List.take n ((p ++ r.b).drop (p.length + r.at')), _)) = _
    rw [h1, h2]
    by_cases g : r.b.length - r.at' < n
    · rw [if_pos g, if_pos g]
    · rw [if_neg g, if_neg g]; simp [RdM.pre, Nat.add_assoc]
theorem byte_pre (r : RdM) : (r.pre p).byte = (r.byte.1, r.byte.2.pre p) := by unfold RdM.byte; rw [take_pre]
theorem numL_pre (most : Nat) : ∀ (f sh n : Nat) (r : RdM), RdM.numL most f sh n (r.pre p) = ((RdM.numL most f sh n r).1, (RdM.numL most f sh n r).2.pre p)
  | 0, _, _, _ => rfl
  | f + 1, sh, n, r => by
    rw [RdM.numL, RdM.numL, byte_pre]
    simp only [pre_err, fail_pre]
    by_cases h1 : r.byte.2.err ≠ 0
    · rw [if_pos h1, if_pos h1]
    rw [if_neg h1, if_neg h1]
    by_cases h2 : (sh = 63 ∧ 1 < r.byte.1) ∨ (0 < sh ∧ r.byte.1 = 0)
    · rw [if_pos h2, if_pos h2]
    rw [if_neg h2, if_neg h2]
    by_cases h3 : r.byte.1 < 128
    · rw [if_pos h3, if_pos h3]
      by_cases h4 : most < n + r.byte.1 % 128 * 2 ^ sh
      · rw [if_pos h4, if_pos h4]
      · rw [if_neg h4, if_neg h4]
    · rw [if_neg h3, if_neg h3]
      exact numL_pre most f _ _ _
theorem num_pre (r : RdM) (most : Nat) : (r.pre p).num most = ((r.num most).1, (r.num most).2.pre p) := numL_pre most 10 0 0 r
theorem int_pre (r : RdM) : (r.pre p).int = (r.int.1, r.int.2.pre p) := by unfold RdM.int; rw [num_pre]
theorem text_pre (r : RdM) : (r.pre p).text = (r.text.1, r.text.2.pre p) := by unfold RdM.text; rw [num_pre]; exact take_pre _ _
def VS.pre (p : List UInt8) (x : VS) : VS := ⟨x.t, x.r.pre p, x.p⟩
theorem rdL_pre {g : RdM → Nat → VS} (hg : ∀ r q, g (r.pre p) q = (g r q).pre p) : ∀ (n : Nat) (r : RdM) (q : Nat), rdL g n (r.pre p) q = ((rdL g n r q).1, (rdL g n r q).2.1.pre p, (rdL g n r q).2.2)
  | 0, _, _ => rfl
  | n + 1, r, q => by
    rw [rdL, rdL, hg]
    show ((g r q).t :: (rdL g n ((g r q).r.pre p) (g r q).p).1, (rdL g n ((g r q).r.pre p) (g r q).p).2) = _
    rw [rdL_pre hg n]
theorem rdV_pre : ∀ (f : Nat) (r : RdM) (q : Nat), rdV f (r.pre p) q = (rdV f r q).pre p
  | 0, _, _ => rfl
  | f + 1, r, q => by
    rw [rdV, rdV, byte_pre]
    simp only [fail_pre]
    have hx : (if 256 < q + 1 then (r.byte.2.fail 2).pre p else r.byte.2.pre p) = (if 256 < q + 1 then r.byte.2.fail 2 else r.byte.2).pre p := by split <;> rfl
    rw [hx]
    generalize (if 256 < q + 1 then r.byte.2.fail 2 else r.byte.2) = r1
    unfold rdK
    by_cases h0 : r.byte.1 = 0
    · rw [if_pos h0, if_pos h0]; rfl
    rw [if_neg h0, if_neg h0]
    by_cases h1 : r.byte.1 = 1
    · rw [if_pos h1, if_pos h1, int_pre]; rfl
    rw [if_neg h1, if_neg h1]
    by_cases h2 : r.byte.1 = 2
    · rw [if_pos h2, if_pos h2, text_pre]
      simp only [fail_pre]
      unfold VS.pre
      split <;> rfl
    rw [if_neg h2, if_neg h2]
    by_cases h3 : r.byte.1 = 3
    · rw [if_pos h3, if_pos h3]
      have hy : (if f = 0 then (r1.pre p).fail 30 else r1.pre p) = (if f = 0 then r1.fail 30 else r1).pre p := by rw [fail_pre]; split <;> rfl
      rw [hy, num_pre]
      unfold rdN
      simp only
      rw [rdL_pre (rdV_pre f)]; rfl
    · rw [if_neg h3, if_neg h3, fail_pre]; rfl
theorem over_pre (r : RdM) (a : Nat) : (r.pre p).over (p.length + a) = (r.over a).pre p := by
  unfold RdM.over
  rw [pre_err, fail_pre]
  have h : (r.pre p).at' - (p.length + a) = r.at' - a := by show p.length + r.at' - (p.length + a) = _; omega
  rw [h]
  split <;> rfl
theorem val_pre (r : RdM) : (r.pre p).val = (r.val.1, r.val.2.pre p) := by
  unfold RdM.val
  rw [rdV_pre]
  show (if ((((rdV 9 r 0).r.pre p).over (p.length + r.at')).err ≠ 0) then _ else _, ((rdV 9 r 0).r.pre p).over (p.length + r.at')) = _
  rw [over_pre, pre_err]; rfl
theorem rdF_pre (c : UInt8) (x : EM) (r : RdM) : rdF c (x, r.pre p) = ((rdF c (x, r)).1, (rdF c (x, r)).2.pre p) := by
  unfold rdF
  simp only [num_pre, text_pre, val_pre]
  repeat' split
  all_goals rfl
theorem rdFs_pre : ∀ (fs : List UInt8) (x : EM) (r : RdM), rdFs fs (x, r.pre p) = ((rdFs fs (x, r)).1, (rdFs fs (x, r)).2.pre p)
  | [], _, _ => rfl
  | c :: cs, x, r => by
    show rdFs cs (rdF c (x, r.pre p)) = _
    rw [rdF_pre, rdFs_pre cs]; rfl
theorem rdKd_pre (r : RdM) : rdKd (r.pre p) = (rdKd r).pre p := by
  unfold rdKd
  rw [byte_pre]
  simp only [fail_pre]
  split <;> rfl
theorem rdH_pre (r : RdM) : rdH (r.pre p) = ((rdH r).1, (rdH r).2.pre p) := by
  unfold rdH
  rw [rdKd_pre, num_pre]
  simp only
  rw [num_pre, byte_pre]
theorem evEnd_pre (x : EM × RdM) : evEnd (x.1, x.2.pre p) = (evEnd x).pre p := by
  unfold evEnd
  simp only [pre_err, fail_pre]
  split <;> rfl
theorem evOver_pre (x : EM × RdM) : evOver (x.1, x.2.pre p) = ((evOver x).1, (evOver x).2.pre p) := by
  unfold evOver
  rw [evEnd_pre, pre_err]
/-- What is read behind other bytes is what is read without them. -/
theorem ev_pre (r : RdM) : (r.pre p).ev = (r.ev.1, r.ev.2.pre p) := by
  have h1 : rdFs (evFlds r.byte.1) (rdH (r.pre p)) = ((rdFs (evFlds r.byte.1) (rdH r)).1, (rdFs (evFlds r.byte.1) (rdH r)).2.pre p) := by rw [rdH_pre]; exact rdFs_pre _ _ _
  have h2 : (r.pre p).byte.1 = r.byte.1 := by rw [byte_pre]
  unfold RdM.ev
  rw [h2, h1, evOver_pre]
end Go.Proofs.YtdjpapdkbglkmaaDoor
