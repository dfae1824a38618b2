/- Plain laws: what is written is read again; what is read was written so; what ends too soon. -/
import Derived.Test.YtihidpfkdpjdpaaGreatDoorVal
namespace Go.Proofs.YtihidpfkdpjdpaaGreatDoor

mutual
/-- All numbers of a value are such as Go's int64 and int hold. -/
def VT.rg : VT → Prop
  | .mk k n s l => -9223372036854775808 ≤ k ∧ k ≤ 9223372036854775807 ∧ -9223372036854775808 ≤ n ∧ n ≤ 9223372036854775807 ∧ s.length ≤ 9223372036854775807 ∧ l.length ≤ 9223372036854775807 ∧ VT.rgL l
def VT.rgL : List VT → Prop
  | [] => True
  | t :: ts => t.rg ∧ VT.rgL ts
end

/-- count.walk, unfolded. -/
theorem walk_bad (t : VT) (d p : Nat) (e : Int) (h : e ≠ 0) : t.walk d p e = (p, e) := by
  cases t; rw [VT.walk, if_pos h]
theorem walkL_bad (l : List VT) (d p : Nat) (e : Int) (h : e ≠ 0) : VT.walkL d p e l = (p, e) := by
  cases l
  · rw [VT.walkL]
  · rw [VT.walkL, if_pos h]
theorem walkL_cons {t : VT} {ts : List VT} {d p q : Nat} (h : VT.walkL d p 0 (t :: ts) = (q, 0)) : ∃ q1, t.walk d p 0 = (q1, 0) ∧ VT.walkL d q1 0 ts = (q, 0) := by
  rw [VT.walkL, if_neg (by simp)] at h
  by_cases he : (t.walk d p 0).2 = 0
  · exact ⟨(t.walk d p 0).1, Prod.ext rfl he, by rw [he] at h; exact h⟩
  · rw [walkL_bad _ _ _ _ he] at h
    exact absurd (congrArg Prod.snd h) he
/-- The kinds of a value that may be. -/
inductive VT.Is (d p q : Nat) : VT → Prop
  | nil (n s l) : q = p + 1 → VT.Is d p q (.mk 0 n s l)
  | int (n s l) : q = p + 1 → VT.Is d p q (.mk 1 n s l)
  | text (n s l) : q = p + 1 → s.length ≤ 256 → VT.Is d p q (.mk 2 n s l)
  | list (n s l) : d < 8 → l.length ≤ 64 → VT.walkL (d + 1) (p + 1) 0 l = (q, 0) → VT.Is d p q (.mk 3 n s l)
theorem walk_is {t : VT} {d p q : Nat} (h : t.walk d p 0 = (q, 0)) : p < 256 ∧ t.Is d p q := by
  obtain ⟨k, n, s, l⟩ := t
  rw [VT.walk, if_neg (by simp)] at h
  by_cases hp : 256 < p + 1
  · rw [if_pos hp] at h; simp at h
  rw [if_neg hp] at h
  refine ⟨by omega, ?_⟩
  by_cases h01 : k = 0 ∨ k = 1
  · rw [if_pos h01] at h
    have hq : q = p + 1 := (congrArg Prod.fst h).symm
    rcases h01 with rfl | rfl
    · exact .nil _ _ _ hq
    · exact .int _ _ _ hq
  rw [if_neg h01] at h
  by_cases h2 : k = 2
  · rw [if_pos h2] at h
    subst h2
    simp only [Prod.mk.injEq] at h
    by_cases hs : 256 < s.length
    · rw [if_pos hs] at h; omega
    · exact .text _ _ _ h.1.symm (by omega)
  rw [if_neg h2] at h
  by_cases h3 : k = 3
  · rw [if_pos h3] at h
    subst h3
    by_cases hd : 8 ≤ d
    · rw [if_pos hd, walkL_bad _ _ _ _ (by decide)] at h; simp at h
    rw [if_neg hd] at h
    by_cases hl : 64 < l.length
    · rw [if_pos hl, walkL_bad _ _ _ _ (by decide)] at h; simp at h
    rw [if_neg hl] at h
    exact .list _ _ _ (by omega) (by omega) h
  rw [if_neg h3] at h
  simp at h

/-- How far a reader is. -/
def RdM.adv (r : RdM) (n : Nat) : RdM := { r with at' := r.at' + n }
def RdM.rest (r : RdM) : List UInt8 := r.b.drop r.at'
theorem adv_zero (r : RdM) : r.adv 0 = r := rfl
theorem adv_adv (r : RdM) (a b : Nat) : (r.adv a).adv b = r.adv (a + b) := by simp [RdM.adv, Nat.add_assoc]
theorem adv_err (r : RdM) (n : Nat) : (r.adv n).err = r.err := rfl
theorem adv_at (r : RdM) (n : Nat) : (r.adv n).at' = r.at' + n := rfl
theorem adv_rest (r : RdM) (n : Nat) : (r.adv n).rest = r.rest.drop n := by simp [RdM.adv, RdM.rest]
theorem adv_rest' {r : RdM} {a b : List UInt8} (h : r.rest = a ++ b) : (r.adv a.length).rest = b := by rw [adv_rest, h]; simp
theorem rest_len (r : RdM) : r.rest.length = r.b.length - r.at' := by simp [RdM.rest]
theorem fail_err (r : RdM) (e : Int) : (r.fail e).err = if r.err = 0 then e else r.err := by unfold RdM.fail; split <;> simp_all
theorem fail_bad {r : RdM} {e : Int} (h : r.err ≠ 0) : r.fail e = r := by unfold RdM.fail; rw [if_neg h]
theorem fail_ne {r : RdM} {e : Int} (h : e ≠ 0) : (r.fail e).err ≠ 0 := by rw [fail_err]; split <;> assumption
theorem take_bad {r : RdM} {n : Nat} (h : r.err ≠ 0) : r.take n = ([], r) := by unfold RdM.take; rw [if_pos h]
theorem take_ok {r : RdM} {a b : List UInt8} (h : r.err = 0) (hr : r.rest = a ++ b) : r.take a.length = (a, r.adv a.length) := by
  have hl := rest_len r
  rw [hr, List.length_append] at hl
  unfold RdM.take
  rw [if_neg (by simp [h]), if_neg (by omega)]
  show (List.take a.length r.rest, _) = _
  rw [hr]; simp [RdM.adv]
theorem take_short {r : RdM} {n : Nat} (h : r.err = 0) (hr : r.rest.length < n) : r.take n = ([], r.fail 6) := by
  have hl := rest_len r
  unfold RdM.take
  rw [if_neg (by simp [h]), if_pos (by omega)]
theorem byte_ok {r : RdM} {x : UInt8} {b : List UInt8} (h : r.err = 0) (hr : r.rest = x :: b) : r.byte = (x.toNat, r.adv 1) := by
  have := take_ok (a := [x]) h hr
  unfold RdM.byte
  rw [show r.take 1 = ([x], r.adv 1) from this]; rfl
theorem byte_short {r : RdM} (h : r.err = 0) (hr : r.rest = []) : r.byte = (0, r.fail 6) := by
  have := take_short (r := r) (n := 1) h (by rw [hr]; simp)
  unfold RdM.byte
  rw [this]; rfl
theorem byte_bad {r : RdM} (h : r.err ≠ 0) : r.byte = (0, r) := by
  unfold RdM.byte
  rw [take_bad h]; rfl
theorem byte_cases (r : RdM) (h : r.err = 0) : (r.rest = [] ∧ r.byte = (0, r.fail 6)) ∨ ∃ x b, r.rest = x :: b ∧ r.byte = (x.toNat, r.adv 1) := by
  cases hr : r.rest with
  | nil => exact .inl ⟨rfl, byte_short h hr⟩
  | cons x b => exact .inr ⟨x, b, rfl, byte_ok h hr⟩
theorem take_inv {r : RdM} {n : Nat} (he : (r.take n).2.err = 0) : r.err = 0 ∧ n ≤ r.rest.length ∧ r.take n = (r.rest.take n, r.adv n) := by
  have hl := rest_len r
  unfold RdM.take at he ⊢
  by_cases h : r.err = 0
  · rw [if_neg (by simp [h])] at he ⊢
    by_cases hn : r.b.length - r.at' < n
    · rw [if_pos hn, fail_err, if_pos h] at he; simp at he
    · rw [if_neg hn]; exact ⟨h, by omega, rfl⟩
  · rw [if_pos h] at he; exact absurd he h

/-- A number that was written is read again. -/
theorem numL_rt (most : Nat) : ∀ (k sh n acc : Nat) (r : RdM) (post : List UInt8), r.err = 0 → sh + 7 * k = 63 → n < 2 ^ (7 * k + 1) → (0 < sh → 1 ≤ n) → acc + n * 2 ^ sh ≤ most → r.rest = numF k n ++ post →
    RdM.numL most (k + 1) sh acc r = (acc + n * 2 ^ sh, r.adv (numF k n).length) := by
  intro k
  induction k with
  | zero =>
    intro sh n acc r post he hs hn h1 hm hr
    have hb := byte_ok he hr
    have hn2 : n < 2 := by simpa using hn
    have hx : (UInt8.ofNat n).toNat = n := by simp; omega
    rw [hx] at hb
    rw [RdM.numL, hb]
    simp only [adv_err]
    rw [if_neg (by simp [he]), if_neg (by omega), if_pos (by omega), Nat.mod_eq_of_lt (by omega), if_neg (by omega)]
    rfl
  | succ k ih =>
    intro sh n acc r post he hs hn h1 hm hr
    rw [numF] at hr
    by_cases hlt : n < 128
    · rw [if_pos hlt] at hr
      have hb := byte_ok he hr
      have hx : (UInt8.ofNat n).toNat = n := by simp; omega
      rw [hx] at hb
      rw [RdM.numL, hb, numF, if_pos hlt]
      simp only [adv_err]
      rw [if_neg (by simp [he]), if_neg (by omega), if_pos hlt, Nat.mod_eq_of_lt hlt, if_neg (by omega)]
      rfl
    · rw [if_neg hlt] at hr
      have hb := byte_ok he hr
      have hx : (UInt8.ofNat (n % 128 + 128)).toNat = n % 128 + 128 := by simp; omega
      rw [hx] at hb
      rw [RdM.numL, hb]
      simp only [adv_err]
      rw [if_neg (by simp [he]), if_neg (by omega), if_neg (by omega)]
      have hmod : (n % 128 + 128) % 128 = n % 128 := by omega
      rw [hmod]
      have hsplit : n * 2 ^ sh = (n % 128) * 2 ^ sh + (n / 128) * 2 ^ (sh + 7) := by
        rw [Nat.pow_add, show (2 : Nat) ^ 7 = 128 from rfl, ← Nat.mul_assoc, Nat.mul_right_comm, ← Nat.add_mul]
        congr 1; omega
      have := ih (sh + 7) (n / 128) (acc + n % 128 * 2 ^ sh) (r.adv 1) post he (by omega) (by
        rw [show 7 * (k + 1) + 1 = (7 * k + 1) + 7 from by omega, Nat.pow_add] at hn
        exact Nat.div_lt_of_lt_mul (by rw [Nat.mul_comm]; exact hn)) (by omega) (by omega) (by
        have := adv_rest' (a := [UInt8.ofNat (n % 128 + 128)]) hr
        exact this)
      rw [this, numF, if_neg hlt, adv_adv]
      simp only [List.length_cons]
      rw [Nat.add_comm 1, Nat.add_assoc, ← hsplit]
theorem num_rt {r : RdM} {most n : Nat} {post : List UInt8} (he : r.err = 0) (hn : n < 18446744073709551616) (hm : n ≤ most) (hr : r.rest = numB n ++ post) : r.num most = (n, r.adv (numB n).length) := by
  have := numL_rt most 9 0 n 0 r post he rfl hn (by omega) (by omega) hr
  rw [Nat.zero_add, Nat.pow_zero, Nat.mul_one] at this
  exact this
/-- A number that is read was written so. -/
theorem numL_inv (most : Nat) : ∀ (k sh acc : Nat) (r : RdM), r.err = 0 → sh + 7 * k = 63 → (RdM.numL most (k + 1) sh acc r).2.err = 0 →
    ∃ n, (RdM.numL most (k + 1) sh acc r) = (acc + n * 2 ^ sh, r.adv (numF k n).length) ∧ (∃ post, r.rest = numF k n ++ post) ∧ n < 2 ^ (7 * k + 1) ∧ (0 < sh → 1 ≤ n) ∧ acc + n * 2 ^ sh ≤ most := by
  intro k
  induction k with
  | zero =>
    intro sh acc r he hs h
    rw [RdM.numL] at h ⊢
    rcases byte_cases r he with ⟨-, hb⟩ | ⟨x, b, hr, hb⟩
    · rw [hb] at h ⊢
      rw [if_pos (by rw [fail_err, if_pos he]; decide)] at h
      rw [fail_err, if_pos he] at h; simp at h
    · have hxl := x.toNat_lt
      rw [hb] at h ⊢
      simp only [adv_err] at h ⊢
      rw [if_neg (by simp [he])] at h ⊢
      by_cases h1 : (sh = 63 ∧ 1 < x.toNat) ∨ (0 < sh ∧ x.toNat = 0)
      · rw [if_pos h1, fail_err, adv_err, if_pos he] at h; simp at h
      rw [if_neg h1] at h ⊢
      rw [if_pos (by omega)] at h ⊢
      rw [Nat.mod_eq_of_lt (by omega)] at h ⊢
      by_cases hm : most < acc + x.toNat * 2 ^ sh
      · rw [if_pos hm, fail_err, adv_err, if_pos he] at h; simp at h
      rw [if_neg hm]
      exact ⟨x.toNat, by simp [numF], ⟨b, by simpa [numF] using hr⟩, by simp; omega, by omega, by omega⟩
  | succ k ih =>
    intro sh acc r he hs h
    rw [RdM.numL] at h ⊢
    rcases byte_cases r he with ⟨-, hb⟩ | ⟨x, b, hr, hb⟩
    · rw [hb] at h ⊢
      rw [if_pos (by rw [fail_err, if_pos he]; decide)] at h
      rw [fail_err, if_pos he] at h; simp at h
    · have hxl := x.toNat_lt
      rw [hb] at h ⊢
      simp only [adv_err] at h ⊢
      rw [if_neg (by simp [he])] at h ⊢
      by_cases h1 : (sh = 63 ∧ 1 < x.toNat) ∨ (0 < sh ∧ x.toNat = 0)
      · rw [if_pos h1, fail_err, adv_err, if_pos he] at h; simp at h
      rw [if_neg h1] at h ⊢
      by_cases hlt : x.toNat < 128
      · rw [if_pos hlt] at h ⊢
        rw [Nat.mod_eq_of_lt hlt] at h ⊢
        by_cases hm : most < acc + x.toNat * 2 ^ sh
        · rw [if_pos hm, fail_err, adv_err, if_pos he] at h; simp at h
        rw [if_neg hm]
        refine ⟨x.toNat, by simp [numF, hlt], ⟨b, by simpa [numF, hlt] using hr⟩, ?_, by omega, by omega⟩
        exact Nat.lt_of_lt_of_le hlt (by rw [show (128 : Nat) = 2 ^ 7 from rfl]; exact Nat.pow_le_pow_right (by omega) (by omega))
      · rw [if_neg hlt] at h ⊢
        obtain ⟨m, e1, ⟨post, e2⟩, e3, e4, e5⟩ := ih (sh + 7) (acc + x.toNat % 128 * 2 ^ sh) (r.adv 1) he (by omega) h
        have hm1 := e4 (by omega)
        have hsplit : (x.toNat % 128 + 128 * m) * 2 ^ sh = (x.toNat % 128) * 2 ^ sh + m * 2 ^ (sh + 7) := by
          rw [Nat.pow_add, show (2 : Nat) ^ 7 = 128 from rfl, ← Nat.mul_assoc, Nat.mul_right_comm m, ← Nat.add_mul, Nat.mul_comm m]
        have hge : ¬ x.toNat % 128 + 128 * m < 128 := by omega
        have hmod : (x.toNat % 128 + 128 * m) % 128 + 128 = x.toNat := by omega
        have hdiv : (x.toNat % 128 + 128 * m) / 128 = m := by omega
        have hnf : numF (k + 1) (x.toNat % 128 + 128 * m) = x :: numF k m := by
          rw [numF, if_neg hge, hmod, hdiv]; simp
        refine ⟨x.toNat % 128 + 128 * m, ?_, ⟨post, ?_⟩, ?_, by omega, by omega⟩
        · rw [e1, hsplit, adv_adv, hnf]
          simp only [List.length_cons]
          rw [Nat.add_comm 1, Nat.add_assoc]
        · rw [hnf, List.cons_append, hr]
          congr 1
          rw [← e2, adv_rest, hr]; rfl
        · rw [show 7 * (k + 1) + 1 = (7 * k + 1) + 7 from by omega, Nat.pow_add]
          have : (2 : Nat) ^ 7 = 128 := rfl
          rw [this]; omega
theorem num_inv {r : RdM} {most : Nat} (he : r.err = 0) (h : (r.num most).2.err = 0) : ∃ n post, r.num most = (n, r.adv (numB n).length) ∧ r.rest = numB n ++ post ∧ n < 18446744073709551616 ∧ n ≤ most := by
  obtain ⟨n, e1, ⟨post, e2⟩, e3, -, e5⟩ := numL_inv most 9 0 0 r he rfl h
  rw [Nat.zero_add, Nat.pow_zero, Nat.mul_one] at e1 e5
  exact ⟨n, post, e1, e2, e3, e5⟩
theorem numL_bad (most f sh n : Nat) (r : RdM) (h : r.err ≠ 0) : (RdM.numL most f sh n r) = (0, r) := by
  cases f with
  | zero => rfl
  | succ f => rw [RdM.numL, byte_bad h, if_pos h]
theorem num_bad {r : RdM} {most : Nat} (h : r.err ≠ 0) : r.num most = (0, r) := numL_bad _ _ _ _ _ h
/-- A number of which the end is missing. -/
theorem numL_cut (most : Nat) : ∀ (k sh n acc : Nat) (r : RdM) (cut : Nat), r.err = 0 → sh + 7 * k = 63 → n < 2 ^ (7 * k + 1) → (0 < sh → 1 ≤ n) → cut < (numF k n).length → r.rest = (numF k n).take cut →
    (RdM.numL most (k + 1) sh acc r).1 = 0 ∧ (RdM.numL most (k + 1) sh acc r).2.err = 6 := by
  intro k
  induction k with
  | zero =>
    intro sh n acc r cut he hs hn h1 hc hr
    have h0 : cut = 0 := by simp [numF] at hc; exact hc
    subst h0
    have hb := byte_short he (by rw [hr]; rfl)
    rw [RdM.numL, hb]
    have : (r.fail 6).err = 6 := by rw [fail_err, if_pos he]
    rw [if_pos (by rw [this]; decide)]
    exact ⟨rfl, this⟩
  | succ k ih =>
    intro sh n acc r cut he hs hn h1 hc hr
    rcases Nat.eq_zero_or_pos cut with rfl | hpos
    · have hb := byte_short he (by rw [hr]; rfl)
      rw [RdM.numL, hb]
      have : (r.fail 6).err = 6 := by rw [fail_err, if_pos he]
      rw [if_pos (by rw [this]; decide)]
      exact ⟨rfl, this⟩
    · rw [numF] at hr hc
      by_cases hlt : n < 128
      · rw [if_pos hlt] at hc; simp at hc; omega
      · rw [if_neg hlt] at hr hc
        obtain ⟨c, rfl⟩ : ∃ c, cut = c + 1 := ⟨cut - 1, by omega⟩
        rw [List.take_succ_cons] at hr
        have hb := byte_ok he hr
        have hx : (UInt8.ofNat (n % 128 + 128)).toNat = n % 128 + 128 := by simp; omega
        rw [hx] at hb
        rw [RdM.numL, hb]
        simp only [adv_err]
        rw [if_neg (by simp [he]), if_neg (by omega), if_neg (by omega)]
        exact ih (sh + 7) (n / 128) _ (r.adv 1) c he (by omega) (by
          rw [show 7 * (k + 1) + 1 = (7 * k + 1) + 7 from by omega, Nat.pow_add] at hn
          exact Nat.div_lt_of_lt_mul (by rw [Nat.mul_comm]; exact hn)) (by omega) (by simpa using hc) (by rw [adv_rest, hr]; rfl)
theorem num_cut {r : RdM} {most n cut : Nat} (he : r.err = 0) (hn : n < 18446744073709551616) (hc : cut < (numB n).length) (hr : r.rest = (numB n).take cut) : (r.num most).1 = 0 ∧ (r.num most).2.err = 6 :=
  numL_cut most 9 0 n 0 r cut he rfl hn (by omega) hc hr
theorem numF_pos : ∀ (k n : Nat), 0 < (numF k n).length
  | 0, _ => by simp [numF]
  | k + 1, n => by rw [numF]; split <;> simp
end Go.Proofs.YtihidpfkdpjdpaaGreatDoor
