/- Values as trees; their bytes; how they are checked, cloned, compared, read. Plain, no program. Plain laws: what is written is read again; what is read was written so; what ends too soon. Plain laws: a value that was written is read again; one that is read was written so; one that ends too soon. Plain laws: clones, the order, parts. -/

namespace Go.Proofs.YtokefeemhgcmhaaGreatDoor

inductive VT where
  | mk (k n : Int) (s : List UInt8) (l : List VT)
namespace VT
def k : VT → Int | .mk k _ _ _ => k
def n : VT → Int | .mk _ n _ _ => n
def s : VT → List UInt8 | .mk _ _ s _ => s
def l : VT → List VT | .mk _ _ _ l => l
def nil : VT := .mk 0 0 [] []
end VT

/-- A number from nought on: seven bits a byte. -/
def numF : Nat → Nat → List UInt8
  | 0, n => [UInt8.ofNat n]
  | f + 1, n => if n < 128 then [UInt8.ofNat n] else UInt8.ofNat (n % 128 + 128) :: numF f (n / 128)
def numB (n : Nat) : List UInt8 := numF 9 n
/-- A number with a sign as one without. -/
def zigN (n : Int) : Nat := if 0 ≤ n then (2 * n).toNat else (-2 * n - 1).toNat
def textB (s : List UInt8) : List UInt8 := numB s.length ++ s

mutual
/-- A value's bytes. -/
def VT.wr : VT → List UInt8
  | .mk k n s l => UInt8.ofNat (k % 256).toNat :: (if k = 1 then numB (zigN n) else if k = 2 then textB s else if k = 3 then numB l.length ++ VT.wrL l else [])
def VT.wrL : List VT → List UInt8
  | [] => []
  | t :: ts => t.wr ++ VT.wrL ts
end

mutual
/-- count.walk: how many values so far, the first error. -/
def VT.walk (d : Nat) (p : Nat) (e : Int) : VT → Nat × Int
  | .mk k _ s l => if e ≠ 0 then (p, e) else if 256 < p + 1 then (p + 1, 2) else if k = 0 ∨ k = 1 then (p + 1, 0) else if k = 2 then (p + 1, if 256 < s.length then 2 else 0) else if k = 3 then VT.walkL (d + 1) (p + 1) (if 8 ≤ d then 30 else if 64 < l.length then 2 else 0) l else (p + 1, 9)
def VT.walkL (d : Nat) (p : Nat) (e : Int) : List VT → Nat × Int
  | [] => (p, e)
  | t :: ts => if e ≠ 0 then (p, e) else VT.walkL d (t.walk d p e).1 (t.walk d p e).2 ts
end
/-- May a value be? -/
def VT.chk (t : VT) : Int := if (t.walk 0 0 0).2 ≠ 0 then (t.walk 0 0 0).2 else if 512 < t.wr.length then 2 else 0

mutual
/-- How many values are in one. -/
def VT.parts : VT → Nat
  | .mk k _ _ l => 1 + if k = 3 then VT.partsL l else 0
def VT.partsL : List VT → Nat
  | [] => 0
  | t :: ts => t.parts + VT.partsL ts
end

mutual
/-- The same; what its kind doesn't have is zero. -/
def VT.cl : VT → VT
  | .mk k n s l => .mk k (if k = 1 then n else 0) (if k = 2 then s else []) (if k = 3 then VT.clL l else [])
def VT.clL : List VT → List VT
  | [] => []
  | t :: ts => t.cl :: VT.clL ts
end

/-- The order of two texts. -/
def cmpS : List UInt8 → List UInt8 → Int
  | [], [] => 0
  | [], _ :: _ => -1
  | _ :: _, [] => 1
  | x :: xs, y :: ys => if x = y then cmpS xs ys else if x < y then -1 else 1

mutual
/-- The order of two values. -/
def VT.cmp : VT → VT → Int
  | .mk k n s l, u => if k ≠ u.k then (if k < u.k then -1 else 1) else if k = 1 then (if n ≠ u.n then (if n < u.n then -1 else 1) else 0) else if k = 2 then cmpS s u.s else if k = 3 then VT.cmpL l u.l else 0
def VT.cmpL : List VT → List VT → Int
  | [], [] => 0
  | [], _ :: _ => -1
  | _ :: _, [] => 1
  | x :: xs, y :: ys => if x.cmp y ≠ 0 then x.cmp y else VT.cmpL xs ys
end

/-- A reader: the bytes, how many were read, what went wrong first. -/
structure RdM where
  b : List UInt8
  at' : Nat
  err : Int
def RdM.of (b : List UInt8) : RdM := ⟨b, 0, 0⟩
def RdM.fail (r : RdM) (e : Int) : RdM := if r.err = 0 then { r with err := e } else r
def RdM.take (r : RdM) (n : Nat) : List UInt8 × RdM :=
  if r.err ≠ 0 then ([], r) else if r.b.length - r.at' < n then ([], r.fail 6) else ((r.b.drop r.at').take n, { r with at' := r.at' + n })
def RdM.byte (r : RdM) : Nat × RdM := ((((r.take 1).1.head?).map UInt8.toNat).getD 0, (r.take 1).2)
/-- The number's loop: so many bytes may still come; the shift; what there is. -/
def RdM.numL (most : Nat) : Nat → Nat → Nat → RdM → Nat × RdM
  | 0, _, _, r => (0, r)
  | f + 1, sh, n, r =>
    if r.byte.2.err ≠ 0 then (0, r.byte.2) else if (sh = 63 ∧ 1 < r.byte.1) ∨ (0 < sh ∧ r.byte.1 = 0) then (0, r.byte.2.fail 8) else
    if r.byte.1 < 128 then (if most < n + (r.byte.1 % 128) * 2 ^ sh then (0, r.byte.2.fail 2) else (n + (r.byte.1 % 128) * 2 ^ sh, r.byte.2))
    else RdM.numL most f (sh + 7) (n + (r.byte.1 % 128) * 2 ^ sh) r.byte.2
def RdM.num (r : RdM) (most : Nat) : Nat × RdM := RdM.numL most 10 0 0 r
def zagN (n : Nat) : Int := if n % 2 = 0 then n / 2 else -(n / 2 : Nat) - 1
def RdM.int (r : RdM) : Int × RdM := (zagN (r.num 18446744073709551615).1, (r.num 18446744073709551615).2)
def RdM.text (r : RdM) : List UInt8 × RdM := (r.num 4096).2.take (r.num 4096).1

/-- What a value is that is read: its number, its text, its list are there. -/
structure VS where
  t : VT
  r : RdM
  p : Nat
/-- Read by something, so many times, one behind the other. -/
def rdL (f : RdM → Nat → VS) : Nat → RdM → Nat → List VT × RdM × Nat
  | 0, r, p => ([], r, p)
  | n + 1, r, p => ((f r p).t :: (rdL f n (f r p).r (f r p).p).1, (rdL f n (f r p).r (f r p).p).2)
/-- A list's values, so many. -/
def rdN (g : RdM → Nat → VS) (x : Nat × RdM) (p : Nat) : VS := ⟨.mk 3 0 [] (rdL g x.1 x.2 p).1, (rdL g x.1 x.2 p).2.1, (rdL g x.1 x.2 p).2.2⟩
/-- A value of a kind; no lists are left: f is nought. -/
def rdK (g : RdM → Nat → VS) (f k : Nat) (r : RdM) (p : Nat) : VS :=
  if k = 0 then ⟨.mk 0 0 [] [], r, p⟩
  else if k = 1 then ⟨.mk 1 r.int.1 [] [], r.int.2, p⟩
  else if k = 2 then ⟨.mk 2 0 r.text.1 [], if 256 < r.text.1.length then r.text.2.fail 2 else r.text.2, p⟩
  else if k = 3 then rdN g ((if f = 0 then r.fail 30 else r).num 64) p
  else ⟨.mk k 0 [] [], r.fail 9, p⟩
/-- count.read, at a depth of 9 less f. -/
def rdV : Nat → RdM → Nat → VS
  | 0, r, p => ⟨.nil, r, p⟩
  | f + 1, r, p => rdK (rdV f) f r.byte.1 (if 256 < p + 1 then r.byte.2.fail 2 else r.byte.2) (p + 1)
/-- What is left where a value is over: it may be too long. -/
def RdM.over (from' : Nat) (r : RdM) : RdM := if r.err = 0 ∧ 512 < r.at' - from' then r.fail 2 else r
/-- value.Read. -/
def RdM.val (r : RdM) : VT × RdM := (if ((rdV 9 r 0).r.over r.at').err ≠ 0 then .nil else (rdV 9 r 0).t, (rdV 9 r 0).r.over r.at')
def RdM.done (r : RdM) : Int := if r.err = 0 ∧ r.at' < r.b.length then 8 else r.err
end Go.Proofs.YtokefeemhgcmhaaGreatDoor
namespace Go.Proofs.YtokefeemhgcmhaaGreatDoor

mutual
/-- All numbers of a value are such as Go's int64 and int hold. -/
def VT.rg : VT → Prop
  | .mk k n s l => -9223372036854775808 ≤ k ∧ k ≤ 9223372036854775807 ∧ -9223372036854775808 ≤ n ∧ n ≤ 9223372036854775807 ∧ s.length ≤ 9223372036854775807 ∧ l.length ≤ 9223372036854775807 ∧ VT.rgL l
def VT.rgL : List VT → Prop
  | [] => True
  | t :: ts => t.rg ∧ VT.rgL ts
end

/-- count.walk, unfolded. -/
theorem walk_bad (t : VT) (d p : Nat) (e : Int) (h : e ≠ 0) : t.walk d p e = (p, e) := by
  cases t; rw [VT.walk, if_pos h]
theorem walkL_bad (l : List VT) (d p : Nat) (e : Int) (h : e ≠ 0) : VT.walkL d p e l = (p, e) := by
  cases l
  · rw [VT.walkL]
  · rw [VT.walkL, if_pos h]
theorem walkL_cons {t : VT} {ts : List VT} {d p q : Nat} (h : VT.walkL d p 0 (t :: ts) = (q, 0)) : ∃ q1, t.walk d p 0 = (q1, 0) ∧ VT.walkL d q1 0 ts = (q, 0) := by
  rw [VT.walkL, if_neg (by simp)] at h
  by_cases he : (t.walk d p 0).2 = 0
  · exact ⟨(t.walk d p 0).1, Prod.ext rfl he, by rw [he] at h; exact h⟩
  · rw [walkL_bad _ _ _ _ he] at h
    exact absurd (congrArg Prod.snd h) he
/-- The kinds of a value that may be. -/
inductive VT.Is (d p q : Nat) : VT → Prop
  | nil (n s l) : q = p + 1 → VT.Is d p q (.mk 0 n s l)
  | int (n s l) : q = p + 1 → VT.Is d p q (.mk 1 n s l)
  | text (n s l) : q = p + 1 → s.length ≤ 256 → VT.Is d p q (.mk 2 n s l)
  | list (n s l) : d < 8 → l.length ≤ 64 → VT.walkL (d + 1) (p + 1) 0 l = (q, 0) → VT.Is d p q (.mk 3 n s l)
theorem walk_is {t : VT} {d p q : Nat} (h : t.walk d p 0 = (q, 0)) : p < 256 ∧ t.Is d p q := by
  obtain ⟨k, n, s, l⟩ := t
  rw [VT.walk, if_neg (by simp)] at h
  by_cases hp : 256 < p + 1
  · rw [if_pos hp] at h; simp at h
  rw [if_neg hp] at h
  refine ⟨by omega, ?_⟩
  by_cases h01 : k = 0 ∨ k = 1
  · rw [if_pos h01] at h
    have hq : q = p + 1 := (congrArg Prod.fst h).symm
    rcases h01 with rfl | rfl
    · exact .nil _ _ _ hq
    · exact .int _ _ _ hq
  rw [if_neg h01] at h
  by_cases h2 : k = 2
  · rw [if_pos h2] at h
    subst h2
    simp only [Prod.mk.injEq] at h
    by_cases hs : 256 < s.length
    · rw [if_pos hs] at h; omega
    · exact .text _ _ _ h.1.symm (by omega)
  rw [if_neg h2] at h
  by_cases h3 : k = 3
  · rw [if_pos h3] at h
    subst h3
    by_cases hd : 8 ≤ d
    · rw [if_pos hd, walkL_bad _ _ _ _ (by decide)] at h; simp at h
    rw [if_neg hd] at h
    by_cases hl : 64 < l.length
    · rw [if_pos hl, walkL_bad _ _ _ _ (by decide)] at h; simp at h
    rw [if_neg hl] at h
    exact .list _ _ _ (by omega) (by omega) h
  rw [if_neg h3] at h
  simp at h

/-- How far a reader is. -/
def RdM.adv (r : RdM) (n : Nat) : RdM := { r with at' := r.at' + n }
def RdM.rest (r : RdM) : List UInt8 := r.b.drop r.at'
theorem adv_zero (r : RdM) : r.adv 0 = r := rfl
theorem adv_adv (r : RdM) (a b : Nat) : (r.adv a).adv b = r.adv (a + b) := by simp [RdM.adv, Nat.add_assoc]
theorem adv_err (r : RdM) (n : Nat) : (r.adv n).err = r.err := rfl
theorem adv_at (r : RdM) (n : Nat) : (r.adv n).at' = r.at' + n := rfl
theorem adv_rest (r : RdM) (n : Nat) : (r.adv n).rest = r.rest.drop n := by simp [RdM.adv, RdM.rest]
theorem adv_rest' {r : RdM} {a b : List UInt8} (h : r.rest = a ++ b) : (r.adv a.length).rest = b := by rw [adv_rest, h]; simp
theorem rest_len (r : RdM) : r.rest.length = r.b.length - r.at' := by simp [RdM.rest]
theorem fail_err (r : RdM) (e : Int) : (r.fail e).err = if r.err = 0 then e else r.err := by unfold RdM.fail; split <;> simp_all
theorem fail_bad {r : RdM} {e : Int} (h : r.err ≠ 0) : r.fail e = r := by unfold RdM.fail; rw [if_neg h]
theorem fail_ne {r : RdM} {e : Int} (h : e ≠ 0) : (r.fail e).err ≠ 0 := by rw [fail_err]; split <;> assumption
theorem take_bad {r : RdM} {n : Nat} (h : r.err ≠ 0) : r.take n = ([], r) := by unfold RdM.take; rw [if_pos h]
theorem take_ok {r : RdM} {a b : List UInt8} (h : r.err = 0) (hr : r.rest = a ++ b) : r.take a.length = (a, r.adv a.length) := by
  have hl := rest_len r
  rw [hr, List.length_append] at hl
  unfold RdM.take
  rw [if_neg (by simp [h]), if_neg (by omega)]
  show (List.take a.length r.rest, _) = _
  rw [hr]; simp [RdM.adv]
theorem take_short {r : RdM} {n : Nat} (h : r.err = 0) (hr : r.rest.length < n) : r.take n = ([], r.fail 6) := by
  have hl := rest_len r
  unfold RdM.take
  rw [if_neg (by simp [h]), if_pos (by omega)]
theorem byte_ok {r : RdM} {x : UInt8} {b : List UInt8} (h : r.err = 0) (hr : r.rest = x :: b) : r.byte = (x.toNat, r.adv 1) := by
  have := take_ok (a := [x]) h hr
  unfold RdM.byte
  rw [show r.take 1 = ([x], r.adv 1) from this]; rfl
theorem byte_short {r : RdM} (h : r.err = 0) (hr : r.rest = []) : r.byte = (0, r.fail 6) := by
  have := take_short (r := r) (n := 1) h (by rw [hr]; simp)
  unfold RdM.byte
  rw [this]; rfl
theorem byte_bad {r : RdM} (h : r.err ≠ 0) : r.byte = (0, r) := by
  unfold RdM.byte
  rw [take_bad h]; rfl
theorem byte_cases (r : RdM) (h : r.err = 0) : (r.rest = [] ∧ r.byte = (0, r.fail 6)) ∨ ∃ x b, r.rest = x :: b ∧ r.byte = (x.toNat, r.adv 1) := by
  cases hr : r.rest with
  | nil => exact .inl ⟨rfl, byte_short h hr⟩
  | cons x b => exact .inr ⟨x, b, rfl, byte_ok h hr⟩
theorem take_inv {r : RdM} {n : Nat} (he : (r.take n).2.err = 0) : r.err = 0 ∧ n ≤ r.rest.length ∧ r.take n = (r.rest.take n, r.adv n) := by
  have hl := rest_len r
  unfold RdM.take at he ⊢
  by_cases h : r.err = 0
  · rw [if_neg (by simp [h])] at he ⊢
    by_cases hn : r.b.length - r.at' < n
    · rw [if_pos hn, fail_err, if_pos h] at he; simp at he
    · rw [if_neg hn]; exact ⟨h, by omega, rfl⟩
  · rw [if_pos h] at he; exact absurd he h

/-- A number that was written is read again. -/
theorem numL_rt (most : Nat) : ∀ (k sh n acc : Nat) (r : RdM) (post : List UInt8), r.err = 0 → sh + 7 * k = 63 → n < 2 ^ (7 * k + 1) → (0 < sh → 1 ≤ n) → acc + n * 2 ^ sh ≤ most → r.rest = numF k n ++ post →
    RdM.numL most (k + 1) sh acc r = (acc + n * 2 ^ sh, r.adv (numF k n).length) := by
  intro k
  induction k with
  | zero =>
    intro sh n acc r post he hs hn h1 hm hr
    have hb := byte_ok he hr
    have hn2 : n < 2 := by simpa using hn
    have hx : (UInt8.ofNat n).toNat = n := by simp; omega
    rw [hx] at hb
    rw [RdM.numL, hb]
    simp only [adv_err]
    rw [if_neg (by simp [he]), if_neg (by omega), if_pos (by omega), Nat.mod_eq_of_lt (by omega), if_neg (by omega)]
    rfl
  | succ k ih =>
    intro sh n acc r post he hs hn h1 hm hr
    rw [numF] at hr
    by_cases hlt : n < 128
    · rw [if_pos hlt] at hr
      have hb := byte_ok he hr
      have hx : (UInt8.ofNat n).toNat = n := by simp; omega
      rw [hx] at hb
      rw [RdM.numL, hb, numF, if_pos hlt]
      simp only [adv_err]
      rw [if_neg (by simp [he]), if_neg (by omega), if_pos hlt, Nat.mod_eq_of_lt hlt, if_neg (by omega)]
      rfl
    · rw [if_neg hlt] at hr
      have hb := byte_ok he hr
      have hx : (UInt8.ofNat (n % 128 + 128)).toNat = n % 128 + 128 := by simp; omega
      rw [hx] at hb
      rw [RdM.numL, hb]
      simp only [adv_err]
      rw [if_neg (by simp [he]), if_neg (by omega), if_neg (by omega)]
      have hmod : (n % 128 + 128) % 128 = n % 128 := by omega
      rw [hmod]
      have hsplit : n * 2 ^ sh = (n % 128) * 2 ^ sh + (n / 128) * 2 ^ (sh + 7) := by
        rw [Nat.pow_add, show (2 : Nat) ^ 7 = 128 from rfl, ← Nat.mul_assoc, Nat.mul_right_comm, ← Nat.add_mul]
        congr 1; omega
      have := ih (sh + 7) (n / 128) (acc + n % 128 * 2 ^ sh) (r.adv 1) post he (by omega) (by
        rw [show 7 * (k + 1) + 1 = (7 * k + 1) + 7 from by omega, Nat.pow_add] at hn
        exact Nat.div_lt_of_lt_mul (by rw [Nat.mul_comm]; exact hn)) (by omega) (by omega) (by
        have := adv_rest' (a := [UInt8.ofNat (n % 128 + 128)]) hr
        exact this)
      rw [this, numF, if_neg hlt, adv_adv]
      simp only [List.length_cons]
      rw [Nat.add_comm 1, Nat.add_assoc, ← hsplit]
theorem num_rt {r : RdM} {most n : Nat} {post : List UInt8} (he : r.err = 0) (hn : n < 18446744073709551616) (hm : n ≤ most) (hr : r.rest = numB n ++ post) : r.num most = (n, r.adv (numB n).length) := by
  have := numL_rt most 9 0 n 0 r post he rfl hn (by omega) (by omega) hr
  rw [Nat.zero_add, Nat.pow_zero, Nat.mul_one] at this
  exact this
/-- A number that is read was written so. -/
theorem numL_inv (most : Nat) : ∀ (k sh acc : Nat) (r : RdM), r.err = 0 → sh + 7 * k = 63 → (RdM.numL most (k + 1) sh acc r).2.err = 0 →
    ∃ n, (RdM.numL most (k + 1) sh acc r) = (acc + n * 2 ^ sh, r.adv (numF k n).length) ∧ (∃ post, r.rest = numF k n ++ post) ∧ n < 2 ^ (7 * k + 1) ∧ (0 < sh → 1 ≤ n) ∧ acc + n * 2 ^ sh ≤ most := by
  intro k
  induction k with
  | zero =>
    intro sh acc r he hs h
    rw [RdM.numL] at h ⊢
    rcases byte_cases r he with ⟨-, hb⟩ | ⟨x, b, hr, hb⟩
    · rw [hb] at h ⊢
      rw [if_pos (by rw [fail_err, if_pos he]; decide)] at h
      rw [fail_err, if_pos he] at h; simp at h
    · have hxl := x.toNat_lt
      rw [hb] at h ⊢
      simp only [adv_err] at h ⊢
      rw [if_neg (by simp [he])] at h ⊢
      by_cases h1 : (sh = 63 ∧ 1 < x.toNat) ∨ (0 < sh ∧ x.toNat = 0)
      · rw [if_pos h1, fail_err, adv_err, if_pos he] at h; simp at h
      rw [if_neg h1] at h ⊢
      rw [if_pos (by omega)] at h ⊢
      rw [Nat.mod_eq_of_lt (by omega)] at h ⊢
      by_cases hm : most < acc + x.toNat * 2 ^ sh
      · rw [if_pos hm, fail_err, adv_err, if_pos he] at h; simp at h
      rw [if_neg hm]
      exact ⟨x.toNat, by simp [numF], ⟨b, by simpa [numF] using hr⟩, by simp; omega, by omega, by omega⟩
  | succ k ih =>
    intro sh acc r he hs h
    rw [RdM.numL] at h ⊢
    rcases byte_cases r he with ⟨-, hb⟩ | ⟨x, b, hr, hb⟩
    · rw [hb] at h ⊢
      rw [if_pos (by rw [fail_err, if_pos he]; decide)] at h
      rw [fail_err, if_pos he] at h; simp at h
    · have hxl := x.toNat_lt
      rw [hb] at h ⊢
      simp only [adv_err] at h ⊢
      rw [if_neg (by simp [he])] at h ⊢
      by_cases h1 : (sh = 63 ∧ 1 < x.toNat) ∨ (0 < sh ∧ x.toNat = 0)
      · rw [if_pos h1, fail_err, adv_err, if_pos he] at h; simp at h
      rw [if_neg h1] at h ⊢
      by_cases hlt : x.toNat < 128
      · rw [if_pos hlt] at h ⊢
        rw [Nat.mod_eq_of_lt hlt] at h ⊢
        by_cases hm : most < acc + x.toNat * 2 ^ sh
        · rw [if_pos hm, fail_err, adv_err, if_pos he] at h; simp at h
        rw [if_neg hm]
        refine ⟨x.toNat, by simp [numF, hlt], ⟨b, by simpa [numF, hlt] using hr⟩, ?_, by omega, by omega⟩
        exact Nat.lt_of_lt_of_le hlt (by rw [show (128 : Nat) = 2 ^ 7 from rfl]; exact Nat.pow_le_pow_right (by omega) (by omega))
      · rw [if_neg hlt] at h ⊢
        obtain ⟨m, e1, ⟨post, e2⟩, e3, e4, e5⟩ := ih (sh + 7) (acc + x.toNat % 128 * 2 ^ sh) (r.adv 1) he (by omega) h
        have hm1 := e4 (by omega)
        have hsplit : (x.toNat % 128 + 128 * m) * 2 ^ sh = (x.toNat % 128) * 2 ^ sh + m * 2 ^ (sh + 7) := by
          rw [Nat.pow_add, show (2 : Nat) ^ 7 = 128 from rfl, ← Nat.mul_assoc, Nat.mul_right_comm m, ← Nat.add_mul, Nat.mul_comm m]
        have hge : ¬ x.toNat % 128 + 128 * m < 128 := by omega
        have hmod : (x.toNat % 128 + 128 * m) % 128 + 128 = x.toNat := by omega
        have hdiv : (x.toNat % 128 + 128 * m) / 128 = m := by omega
        have hnf : numF (k + 1) (x.toNat % 128 + 128 * m) = x :: numF k m := by
          rw [numF, if_neg hge, hmod, hdiv]; simp
        refine ⟨x.toNat % 128 + 128 * m, ?_, ⟨post, ?_⟩, ?_, by omega, by omega⟩
        · rw [e1, hsplit, adv_adv, hnf]
          simp only [List.length_cons]
          rw [Nat.add_comm 1, Nat.add_assoc]
        · rw [hnf, List.cons_append, hr]
          congr 1
          rw [← e2, adv_rest, hr]; rfl
        · rw [show 7 * (k + 1) + 1 = (7 * k + 1) + 7 from by omega, Nat.pow_add]
          have : (2 : Nat) ^ 7 = 128 := rfl
          rw [this]; omega
theorem num_inv {r : RdM} {most : Nat} (he : r.err = 0) (h : (r.num most).2.err = 0) : ∃ n post, r.num most = (n, r.adv (numB n).length) ∧ r.rest = numB n ++ post ∧ n < 18446744073709551616 ∧ n ≤ most := by
  obtain ⟨n, e1, ⟨post, e2⟩, e3, -, e5⟩ := numL_inv most 9 0 0 r he rfl h
  rw [Nat.zero_add, Nat.pow_zero, Nat.mul_one] at e1 e5
  exact ⟨n, post, e1, e2, e3, e5⟩
theorem numL_bad (most f sh n : Nat) (r : RdM) (h : r.err ≠ 0) : (RdM.numL most f sh n r) = (0, r) := by
  cases f with
  | zero => rfl
  | succ f => rw [RdM.numL, byte_bad h, if_pos h]
theorem num_bad {r : RdM} {most : Nat} (h : r.err ≠ 0) : r.num most = (0, r) := numL_bad _ _ _ _ _ h
/-- A number of which the end is missing. -/
theorem numL_cut (most : Nat) : ∀ (k sh n acc : Nat) (r : RdM) (cut : Nat), r.err = 0 → sh + 7 * k = 63 → n < 2 ^ (7 * k + 1) → (0 < sh → 1 ≤ n) → cut < (numF k n).length → r.rest = (numF k n).take cut →
    (RdM.numL most (k + 1) sh acc r).1 = 0 ∧ (RdM.numL most (k + 1) sh acc r).2.err = 6 := by
  intro k
  induction k with
  | zero =>
    intro sh n acc r cut he hs hn h1 hc hr
    have h0 : cut = 0 := by simp [numF] at hc; exact hc
    subst h0
    have hb := byte_short he (by rw [hr]; rfl)
    rw [RdM.numL, hb]
    have : (r.fail 6).err = 6 := by rw [fail_err, if_pos he]
    rw [if_pos (by rw [this]; decide)]
    exact ⟨rfl, this⟩
  | succ k ih =>
    intro sh n acc r cut he hs hn h1 hc hr
    rcases Nat.eq_zero_or_pos cut with rfl | hpos
    · have hb := byte_short he (by rw [hr]; rfl)
      rw [RdM.numL, hb]
      have : (r.fail 6).err = 6 := by rw [fail_err, if_pos he]
      rw [if_pos (by rw [this]; decide)]
      exact ⟨rfl, this⟩
    · rw [numF] at hr hc
      by_cases hlt : n < 128
      · rw [if_pos hlt] at hc; simp at hc; omega
      · rw [if_neg hlt] at hr hc
        obtain ⟨c, rfl⟩ : ∃ c, cut = c + 1 := ⟨cut - 1, by omega⟩
        rw [List.take_succ_cons] at hr
        have hb := byte_ok he hr
        have hx : (UInt8.ofNat (n % 128 + 128)).toNat = n % 128 + 128 := by simp; omega
        rw [hx] at hb
        rw [RdM.numL, hb]
        simp only [adv_err]
        rw [if_neg (by simp [he]), if_neg (by omega), if_neg (by omega)]
        exact ih (sh + 7) (n / 128) _ (r.adv 1) c he (by omega) (by
          rw [show 7 * (k + 1) + 1 = (7 * k + 1) + 7 from by omega, Nat.pow_add] at hn
          exact Nat.div_lt_of_lt_mul (by rw [Nat.mul_comm]; exact hn)) (by omega) (by simpa using hc) (by rw [adv_rest, hr]; rfl)
theorem num_cut {r : RdM} {most n cut : Nat} (he : r.err = 0) (hn : n < 18446744073709551616) (hc : cut < (numB n).length) (hr : r.rest = (numB n).take cut) : (r.num most).1 = 0 ∧ (r.num most).2.err = 6 :=
  numL_cut most 9 0 n 0 r cut he rfl hn (by omega) hc hr
theorem numF_pos : ∀ (k n : Nat), 0 < (numF k n).length
  | 0, _ => by simp [numF]
  | k + 1, n => by rw [numF]; split <;> simp
end Go.Proofs.YtokefeemhgcmhaaGreatDoor
namespace Go.Proofs.YtokefeemhgcmhaaGreatDoor

theorem zigN_lt {n : Int} (h1 : -9223372036854775808 ≤ n) (h2 : n ≤ 9223372036854775807) : zigN n < 18446744073709551616 := by unfold zigN; split <;> omega
theorem zag_zig (n : Int) : zagN (zigN n) = n := by
  unfold zagN zigN
  by_cases h : 0 ≤ n
  · rw [if_pos h, if_pos (by omega)]; omega
  · rw [if_neg h, if_neg (by omega)]; omega
theorem zig_zag (n : Nat) : zigN (zagN n) = n := by
  unfold zagN zigN
  by_cases h : n % 2 = 0
  · rw [if_pos h, if_pos (by omega)]; omega
  · rw [if_neg h, if_neg (by omega)]; omega
theorem zag_rg {n : Nat} (h : n < 18446744073709551616) : -9223372036854775808 ≤ zagN n ∧ zagN n ≤ 9223372036854775807 := by unfold zagN; split <;> omega

theorem int_rt {r : RdM} {n : Int} {post : List UInt8} (h1 : -9223372036854775808 ≤ n) (h2 : n ≤ 9223372036854775807) (he : r.err = 0) (hr : r.rest = numB (zigN n) ++ post) : r.int = (n, r.adv (numB (zigN n)).length) := by
  have := num_rt (most := 18446744073709551615) he (zigN_lt h1 h2) (by have := zigN_lt h1 h2; omega) hr
  unfold RdM.int
  rw [this, zag_zig]
theorem text_rt {r : RdM} {s post : List UInt8} (hs : s.length ≤ 4096) (he : r.err = 0) (hr : r.rest = textB s ++ post) : r.text = (s, r.adv (textB s).length) := by
  unfold textB at hr
  rw [List.append_assoc] at hr
  have := num_rt (most := 4096) he (by omega) hs hr
  unfold RdM.text
  rw [this]
  simp only
  have h2 := adv_rest' hr
  rw [take_ok (by rw [adv_err]; exact he) h2, adv_adv]
  simp [textB]
theorem int_inv {r : RdM} (he : r.err = 0) (h : r.int.2.err = 0) : ∃ n post, r.int = (n, r.adv (numB (zigN n)).length) ∧ r.rest = numB (zigN n) ++ post ∧ -9223372036854775808 ≤ n ∧ n ≤ 9223372036854775807 := by
  obtain ⟨n, post, e1, e2, e3, -⟩ := num_inv (most := 18446744073709551615) he h
  refine ⟨zagN n, post, ?_, ?_, (zag_rg e3).1, (zag_rg e3).2⟩
  · unfold RdM.int; rw [e1, zig_zag]
  · rw [zig_zag]; exact e2
theorem take_err {r : RdM} {n : Nat} (h : (r.take n).2.err = 0) : r.err = 0 := (take_inv h).1
theorem text_inv {r : RdM} (he : r.err = 0) (h : r.text.2.err = 0) : ∃ s post, r.text = (s, r.adv (textB s).length) ∧ r.rest = textB s ++ post ∧ s.length ≤ 4096 := by
  unfold RdM.text at h ⊢
  obtain ⟨a1, a2, a3⟩ := take_inv h
  obtain ⟨n, post, e1, e2, e3, e4⟩ := num_inv (most := 4096) he a1
  rw [e1] at a2 a3 ⊢
  simp only at a2 a3 ⊢
  have hre := adv_rest' e2
  rw [hre] at a2 a3
  refine ⟨post.take n, post.drop n, ?_, ?_, by simp; omega⟩
  · rw [a3, adv_adv]; simp [textB, Nat.min_eq_left a2]
  · unfold textB
    rw [List.length_take, Nat.min_eq_left a2, List.append_assoc, List.take_append_drop]; exact e2
theorem int_bad {r : RdM} (h : r.err ≠ 0) : r.int = (0, r) := by unfold RdM.int; rw [num_bad h]; simp [zagN]
theorem text_bad {r : RdM} (h : r.err ≠ 0) : r.text = ([], r) := by unfold RdM.text; rw [num_bad h]; exact take_bad h
theorem int_cut {r : RdM} {n : Int} {cut : Nat} (h1 : -9223372036854775808 ≤ n) (h2 : n ≤ 9223372036854775807) (he : r.err = 0) (hc : cut < (numB (zigN n)).length) (hr : r.rest = (numB (zigN n)).take cut) : r.int.2.err = 6 :=
  (num_cut he (zigN_lt h1 h2) hc hr).2
theorem take_app {α : Type} (a b : List α) (n : Nat) : (a ++ b).take n = if n < a.length then a.take n else a ++ b.take (n - a.length) := by
  rw [List.take_append]
  split
  · rw [show n - a.length = 0 from by omega]; simp
  · rw [List.take_of_length_le (by omega)]
theorem text_cut {r : RdM} {s : List UInt8} {cut : Nat} (hs : s.length ≤ 4096) (he : r.err = 0) (hc : cut < (textB s).length) (hr : r.rest = (textB s).take cut) : r.text.1 = [] ∧ r.text.2.err = 6 := by
  unfold textB at hr hc
  rw [take_app] at hr
  rw [List.length_append] at hc
  unfold RdM.text
  by_cases h : cut < (numB s.length).length
  · rw [if_pos h] at hr
    have := num_cut (most := 4096) he (by omega) h hr
    rw [this.1, take_bad (by rw [this.2]; decide)]
    exact ⟨rfl, this.2⟩
  · rw [if_neg h] at hr
    have := num_rt (most := 4096) he (by omega) hs hr
    rw [this]
    simp only
    rw [take_short (by rw [adv_err]; exact he) (by rw [adv_rest' hr]; simp; omega)]
    exact ⟨rfl, by rw [fail_err, adv_err, if_pos he]⟩

/-- Behind an error nothing more is read. -/
theorem rdV_bad (f : Nat) {r : RdM} (p : Nat) (h : r.err ≠ 0) : rdV (f + 1) r p = ⟨.nil, r, p + 1⟩ := by
  rw [rdV, byte_bad h, rdK, if_pos rfl]
  by_cases hp : 256 < p + 1
  · rw [if_pos hp, fail_bad h]; rfl
  · rw [if_neg hp]; rfl
theorem rdL_bad (f : Nat) : ∀ (n : Nat) {r : RdM} (p : Nat), r.err ≠ 0 → (rdL (rdV (f + 1)) n r p).2.1 = r
  | 0, _, _, _ => rfl
  | n + 1, r, p, h => by
    rw [rdL, rdV_bad f p h]
    exact rdL_bad f n (p + 1) h

mutual
theorem rdV_rt : ∀ (t : VT) (f d p q : Nat) (r : RdM) (post : List UInt8), t.rg → t.walk d p 0 = (q, 0) → f + d = 8 → r.err = 0 → r.rest = t.wr ++ post → rdV (f + 1) r p = ⟨t.cl, r.adv t.wr.length, q⟩
  | .mk k n s l, f, d, p, q, r, post, hg, hw, hf, he, hr => by
    rw [VT.rg] at hg
    obtain ⟨hk1, hk2, hn1, hn2, hs, hl, hgl⟩ := hg
    obtain ⟨hp, his⟩ := walk_is hw
    have hb : ∀ k' : Int, k = k' → 0 ≤ k' → k' < 4 → r.byte = (k'.toNat, r.adv 1) := by
      rintro k' rfl h0 h4
      rw [VT.wr, List.cons_append] at hr
      rw [byte_ok he hr]
      have : (UInt8.ofNat (k % 256).toNat).toNat = k.toNat := by simp; omega
      rw [this]
    have hr1 : (r.adv 1).rest = (if k = 1 then numB (zigN n) else if k = 2 then textB s else if k = 3 then numB l.length ++ VT.wrL l else []) ++ post := by
      rw [VT.wr] at hr
      exact adv_rest' (a := [_]) hr
    have hlen : (VT.mk k n s l).wr.length = 1 + (if k = 1 then numB (zigN n) else if k = 2 then textB s else if k = 3 then numB l.length ++ VT.wrL l else []).length := by
      rw [VT.wr, List.length_cons]; omega
    rw [rdV, rdK, hlen, if_neg (by omega : ¬ 256 < p + 1), VT.cl, ← adv_adv]
    cases his with
    | nil _ _ _ hq =>
      rw [hb 0 rfl (by decide) (by decide)]
      simp [hq, adv_zero]
    | int _ _ _ hq =>
      rw [hb 1 rfl (by decide) (by decide)]
      simp only [if_true] at hr1 ⊢
      have := int_rt hn1 hn2 (by rw [adv_err]; exact he) hr1
      simp [this, hq]
    | text _ _ _ hq hs2 =>
      rw [hb 2 rfl (by decide) (by decide)]
      simp only [if_true] at hr1 ⊢
      have := text_rt (by omega) (by rw [adv_err]; exact he) hr1
      simp [this, hq]
      omega
    | list _ _ _ hd hl2 hwl =>
      rw [hb 3 rfl (by decide) (by decide)]
      obtain ⟨f', rfl⟩ : ∃ f', f = f' + 1 := ⟨f - 1, by omega⟩
      simp only [if_true] at hr1 ⊢
      have e0 : ¬ ((3 : Int) = 1) := by decide
      have e1 : ¬ ((3 : Int) = 2) := by decide
      rw [if_neg e0, if_neg e1, List.append_assoc] at hr1
      have hnum := num_rt (most := 64) (by rw [adv_err]; exact he) (by omega) hl2 hr1
      have hr2 := adv_rest' hr1
      have hL := rdL_rt l f' (d + 1) (p + 1) q _ post hgl hwl (by omega) (by rw [adv_err, adv_err]; exact he) hr2
      have et : (3 : Int).toNat = 3 := rfl
      rw [adv_adv] at hL hnum
      simp [et, rdN, hnum, hL, adv_adv, Nat.add_assoc]
theorem rdL_rt : ∀ (l : List VT) (f d p q : Nat) (r : RdM) (post : List UInt8), VT.rgL l → VT.walkL d p 0 l = (q, 0) → f + d = 8 → r.err = 0 → r.rest = VT.wrL l ++ post → rdL (rdV (f + 1)) l.length r p = (VT.clL l, r.adv (VT.wrL l).length, q)
  | [], f, d, p, q, r, post, _, hw, _, _, _ => by
    rw [VT.walkL] at hw
    rw [VT.clL, VT.wrL]
    show ([], r, p) = _
    have hpq : p = q := congrArg Prod.fst hw
    rw [hpq]; rfl
  | t :: ts, f, d, p, q, r, post, hg, hw, hf, he, hr => by
    rw [VT.rgL] at hg
    rw [VT.wrL, List.append_assoc] at hr
    obtain ⟨q1, hw1, hw2⟩ := walkL_cons hw
    have h1 := rdV_rt t f d p q1 r (VT.wrL ts ++ post) hg.1 hw1 hf he hr
    have h2 := rdL_rt ts f d q1 q (r.adv t.wr.length) post hg.2 hw2 hf (by rw [adv_err]; exact he) (adv_rest' hr)
    rw [List.length_cons, rdL, h1]
    simp only
    rw [h2, VT.clL, VT.wrL, adv_adv, List.length_append]
end

/-- What is read was written so, is as it is cloned, and may be. -/
def RdOk (d : Nat) (f : RdM → Nat → VS) : Prop :=
  ∀ (r : RdM) (p : Nat), r.err = 0 → (f r p).r.err = 0 → ∃ post, r.rest = (f r p).t.wr ++ post ∧ (f r p).r = r.adv (f r p).t.wr.length ∧ (f r p).t.walk d p 0 = ((f r p).p, 0) ∧ (f r p).t.cl = (f r p).t ∧ (f r p).t.rg
theorem rdL_inv {d f : Nat} (h : RdOk d (rdV (f + 1))) : ∀ (n : Nat) (r : RdM) (p : Nat), r.err = 0 → (rdL (rdV (f + 1)) n r p).2.1.err = 0 →
    (rdL (rdV (f + 1)) n r p).1.length = n ∧ ∃ post, r.rest = VT.wrL (rdL (rdV (f + 1)) n r p).1 ++ post ∧ (rdL (rdV (f + 1)) n r p).2.1 = r.adv (VT.wrL (rdL (rdV (f + 1)) n r p).1).length ∧ VT.walkL d p 0 (rdL (rdV (f + 1)) n r p).1 = ((rdL (rdV (f + 1)) n r p).2.2, 0) ∧ VT.clL (rdL (rdV (f + 1)) n r p).1 = (rdL (rdV (f + 1)) n r p).1 ∧ VT.rgL (rdL (rdV (f + 1)) n r p).1
  | 0, r, p, he, _ => ⟨rfl, r.rest, by simp [rdL, VT.wrL], by simp [rdL, VT.wrL, adv_zero], by simp [rdL, VT.walkL], by simp [rdL, VT.clL], by simp [rdL, VT.rgL]⟩
  | n + 1, r, p, he, h2 => by
    rw [rdL] at h2 ⊢
    simp only at h2 ⊢
    have h1 : (rdV (f + 1) r p).r.err = 0 := by
      by_cases hx : (rdV (f + 1) r p).r.err = 0
      · exact hx
      · rw [rdL_bad f n _ hx] at h2; exact absurd h2 hx
    obtain ⟨post, a1, a2, a3, a4, a5⟩ := h r p he h1
    obtain ⟨b0, post2, b1, b2, b3, b4, b5⟩ := rdL_inv h n (rdV (f + 1) r p).r (rdV (f + 1) r p).p h1 h2
    refine ⟨by rw [List.length_cons, b0], post2, ?_, ?_, ?_, ?_, ?_⟩
    · rw [VT.wrL, List.append_assoc, ← b1]
      conv => rhs; rw [a2, adv_rest, a1]
      rw [List.drop_left, a1]
    · rw [VT.wrL, b2, List.length_append, ← adv_adv, ← a2]
    · rw [VT.walkL, if_neg (by simp), a3]; exact b3
    · rw [VT.clL, a4, b4]
    · rw [VT.rgL]; exact ⟨a5, b5⟩
theorem rdV_inv : ∀ (f d : Nat), f + d = 8 → RdOk d (rdV (f + 1)) := by
  intro f
  induction f with
  | zero =>
    intro d hd r p he h
    exact rdV_step 0 d hd (fun _ _ hf => absurd hf (by omega)) r p he h
  | succ f ih =>
    intro d hd r p he h
    exact rdV_step (f + 1) d hd (fun f' e _ => by obtain rfl : f' = f := by omega
                                                  exact ih (d + 1) (by omega)) r p he h
where
  rdV_step (f d : Nat) (hd : f + d = 8) (hL : ∀ f', f = f' + 1 → 0 < f → RdOk (d + 1) (rdV (f' + 1))) : RdOk d (rdV (f + 1)) := by
    intro r p he h
    rw [rdV, rdK] at h ⊢
    have hp : ¬ 256 < p + 1 := by
      intro hp
      rw [if_pos hp] at h
      have hbad : (r.byte.2.fail 2).err ≠ 0 := fail_ne (by decide)
      by_cases h0 : r.byte.1 = 0
      · rw [if_pos h0] at h; exact hbad h
      rw [if_neg h0] at h
      by_cases h1 : r.byte.1 = 1
      · rw [if_pos h1, int_bad hbad] at h; exact hbad h
      rw [if_neg h1] at h
      by_cases h2 : r.byte.1 = 2
      · rw [if_pos h2, text_bad hbad] at h
        simp at h; exact hbad h
      rw [if_neg h2] at h
      by_cases h3 : r.byte.1 = 3
      · rw [if_pos h3] at h
        have : (if f = 0 then (r.byte.2.fail 2).fail 30 else r.byte.2.fail 2) = r.byte.2.fail 2 := by split; exact fail_bad hbad; rfl
        rw [this, num_bad hbad] at h
        exact hbad h
      rw [if_neg h3, fail_bad hbad] at h
      exact hbad h
    rw [if_neg hp] at h ⊢
    rcases byte_cases r he with ⟨-, hb⟩ | ⟨x, b, hr, hb⟩
    · rw [hb] at h
      simp [fail_err, he] at h
    have hxl := x.toNat_lt
    rw [hb] at h ⊢
    simp only at h ⊢
    have he1 : (r.adv 1).err = 0 := by rw [adv_err]; exact he
    have hr1 : (r.adv 1).rest = b := adv_rest' (a := [x]) hr
    have hxk : ∀ m : Nat, x.toNat = m → UInt8.ofNat ((m : Int) % 256).toNat = x := by
      rintro m rfl
      rw [show ((x.toNat : Int) % 256).toNat = x.toNat from by omega]; simp
    by_cases h0 : x.toNat = 0
    · rw [if_pos h0]
      exact ⟨b, by rw [hr, VT.wr]; simp; exact (hxk 0 h0).symm, by simp [VT.wr], by rw [VT.walk]; simp [hp], by simp [VT.cl], by simp [VT.rg, VT.rgL]⟩
    rw [if_neg h0] at h ⊢
    by_cases h1 : x.toNat = 1
    · rw [if_pos h1] at h ⊢
      obtain ⟨n, post, e1, e2, e3, e4⟩ := int_inv he1 h
      rw [e1]
      refine ⟨post, ?_, ?_, by rw [VT.walk]; simp [hp], by simp [VT.cl], by simp [VT.rg, VT.rgL]; omega⟩
      · rw [hr, VT.wr, ← hr1, e2]; simp; exact (hxk 1 h1).symm
      · rw [adv_adv, VT.wr]; simp; rw [Nat.add_comm]
    rw [if_neg h1] at h ⊢
    by_cases h2 : x.toNat = 2
    · rw [if_pos h2] at h ⊢
      have hs : ¬ 256 < (r.adv 1).text.1.length := by
        intro hs
        rw [if_pos hs] at h
        exact fail_ne (by decide) h
      rw [if_neg hs] at h ⊢
      obtain ⟨s, post, e1, e2, e3⟩ := text_inv he1 h
      rw [e1] at hs ⊢
      simp only at hs
      refine ⟨post, ?_, ?_, by rw [VT.walk]; simp [hp]; omega, by simp [VT.cl], by simp [VT.rg, VT.rgL]; omega⟩
      · rw [hr, VT.wr, ← hr1, e2]; simp; exact (hxk 2 h2).symm
      · rw [adv_adv, VT.wr]; simp; rw [Nat.add_comm]
    rw [if_neg h2] at h ⊢
    by_cases h3 : x.toNat = 3
    · rw [if_pos h3] at h ⊢
      by_cases hf : f = 0
      · rw [if_pos hf] at h
        have hbad : ((r.adv 1).fail 30).err ≠ 0 := fail_ne (by decide)
        rw [num_bad hbad] at h
        exact absurd h hbad
      rw [if_neg hf] at h ⊢
      obtain ⟨f', rfl⟩ : ∃ f', f = f' + 1 := ⟨f - 1, by omega⟩
      have hn : ((r.adv 1).num 64).2.err = 0 := by
        by_cases hx : ((r.adv 1).num 64).2.err = 0
        · exact hx
        · rw [rdN] at h
          simp only at h
          rw [rdL_bad f' _ _ hx] at h; exact absurd h hx
      obtain ⟨n, post, e1, e2, e3, e4⟩ := num_inv he1 hn
      rw [e1, rdN] at h ⊢
      simp only at h ⊢
      obtain ⟨b0, post2, b1, b2, b3, b4, b5⟩ := rdL_inv (hL f' rfl (by omega)) n _ (p + 1) (by rw [adv_err]; exact he1) h
      refine ⟨post2, ?_, ?_, ?_, ?_, ?_⟩
      · rw [hr, VT.wr, ← hr1, e2, b0]
        simp
        refine ⟨(hxk 3 h3).symm, ?_⟩
        rw [← b1, adv_rest' e2]
      · rw [b2, adv_adv, adv_adv, VT.wr, b0]; simp; rw [Nat.add_comm]
      · rw [VT.walk]
        have q1 : ¬ 8 ≤ d := by omega
        have q2 : ¬ 64 < n := by omega
        simp [hp, b0, q1, q2, b3]
      · rw [VT.cl]; simp [b4]
      · rw [VT.rg]; refine ⟨by decide, by decide, by decide, by decide, by simp, by rw [b0]; omega, b5⟩
    rw [if_neg h3] at h
    exact absurd h (fail_ne (by decide))

mutual
theorem rdV_cut : ∀ (t : VT) (f d p q cut : Nat) (r : RdM), t.rg → t.walk d p 0 = (q, 0) → f + d = 8 → r.err = 0 → cut < t.wr.length → r.rest = t.wr.take cut → (rdV (f + 1) r p).r.err = 6
  | .mk k n s l, f, d, p, q, cut, r, hg, hw, hf, he, hc, hr => by
    rw [VT.rg] at hg
    obtain ⟨hk1, hk2, hn1, hn2, hs, hl, hgl⟩ := hg
    obtain ⟨hp, his⟩ := walk_is hw
    rw [VT.wr] at hc hr
    rw [rdV, rdK, if_neg (by omega : ¬ 256 < p + 1)]
    rcases Nat.eq_zero_or_pos cut with rfl | hpos
    · rw [byte_short he hr]
      simp [fail_err, he]
    obtain ⟨c, rfl⟩ : ∃ c, cut = c + 1 := ⟨cut - 1, by omega⟩
    rw [List.take_succ_cons] at hr
    rw [List.length_cons] at hc
    have hb : ∀ k' : Int, k = k' → 0 ≤ k' → k' < 4 → r.byte = (k'.toNat, r.adv 1) := by
      rintro k' rfl h0 h4
      rw [byte_ok he hr]
      have : (UInt8.ofNat (k % 256).toNat).toNat = k.toNat := by simp; omega
      rw [this]
    have hr1 := adv_rest' (a := [_]) hr
    have he1 : (r.adv 1).err = 0 := by rw [adv_err]; exact he
    rw [List.length_singleton] at hr1
    cases his with
    | nil _ _ _ hq => simp at hc
    | int _ _ _ hq =>
      rw [hb 1 rfl (by decide) (by decide)]
      simp only [if_true] at hr1 hc
      have := int_cut hn1 hn2 he1 (by omega) hr1
      simpa using this
    | text _ _ _ hq hs2 =>
      rw [hb 2 rfl (by decide) (by decide)]
      simp at hr1 hc
      have := text_cut (s := s) (cut := c) (by omega) he1 (by omega) hr1
      simp [this.1, this.2]
    | list _ _ _ hd hl2 hwl =>
      rw [hb 3 rfl (by decide) (by decide)]
      obtain ⟨f', rfl⟩ : ∃ f', f = f' + 1 := ⟨f - 1, by omega⟩
      have e0 : ¬ ((3 : Int) = 1) := by decide
      have e1 : ¬ ((3 : Int) = 2) := by decide
      rw [if_neg e0, if_neg e1, if_pos rfl, take_app] at hr1
      rw [if_neg e0, if_neg e1, if_pos rfl, List.length_append] at hc
      have et : (3 : Int).toNat = 3 := rfl
      simp only [et]
      by_cases hn : c < (numB l.length).length
      · rw [if_pos hn] at hr1
        have := num_cut (most := 64) he1 (by omega) hn hr1
        rw [if_neg (by decide), if_neg (by decide), if_neg (by decide), if_pos trivial, if_neg (by omega), rdN]
        simp only
        rw [this.1]; exact this.2
      · rw [if_neg hn] at hr1
        have hnum := num_rt (most := 64) he1 (by omega) hl2 hr1
        have hr2 := adv_rest' hr1
        have hL := rdL_cut l f' (d + 1) (p + 1) q (c - (numB l.length).length) _ hgl hwl (by omega) (by rw [adv_err, adv_err]; exact he) (by omega) hr2
        simp [rdN, hnum, hL]
theorem rdL_cut : ∀ (l : List VT) (f d p q cut : Nat) (r : RdM), VT.rgL l → VT.walkL d p 0 l = (q, 0) → f + d = 8 → r.err = 0 → cut < (VT.wrL l).length → r.rest = (VT.wrL l).take cut → (rdL (rdV (f + 1)) l.length r p).2.1.err = 6
  | [], f, d, p, q, cut, r, _, _, _, _, hc, _ => by rw [VT.wrL] at hc; simp at hc
  | t :: ts, f, d, p, q, cut, r, hg, hw, hf, he, hc, hr => by
    rw [VT.rgL] at hg
    rw [VT.wrL, take_app] at hr
    rw [VT.wrL, List.length_append] at hc
    obtain ⟨q1, hw1, hw2⟩ := walkL_cons hw
    rw [List.length_cons, rdL]
    by_cases h : cut < t.wr.length
    · rw [if_pos h] at hr
      have h1 := rdV_cut t f d p q1 cut r hg.1 hw1 hf he h hr
      have := rdL_bad f ts.length (rdV (f + 1) r p).p (r := (rdV (f + 1) r p).r) (by rw [h1]; decide)
      simp only
      rw [this]; exact h1
    · rw [if_neg h] at hr
      have h1 := rdV_rt t f d p q1 r _ hg.1 hw1 hf he hr
      rw [h1]
      exact rdL_cut ts f d q1 q (cut - t.wr.length) (r.adv t.wr.length) hg.2 hw2 hf (by rw [adv_err]; exact he) (by omega) (adv_rest' hr)
end
end Go.Proofs.YtokefeemhgcmhaaGreatDoor
namespace Go.Proofs.YtokefeemhgcmhaaGreatDoor

theorem clL_length : ∀ l : List VT, (VT.clL l).length = l.length
  | [] => by rw [VT.clL]
  | t :: ts => by rw [VT.clL, List.length_cons, clL_length ts, List.length_cons]
mutual
theorem cl_wr : ∀ t : VT, t.cl.wr = t.wr
  | .mk k n s l => by
    rw [VT.cl, VT.wr, VT.wr]
    congr 1
    by_cases h1 : k = 1
    · subst h1; simp
    rw [if_neg h1, if_neg h1]
    by_cases h2 : k = 2
    · subst h2; simp
    rw [if_neg h2, if_neg h2]
    by_cases h3 : k = 3
    · subst h3; simp [clL_length, clL_wr l]
    rw [if_neg h3, if_neg h3]
theorem clL_wr : ∀ l : List VT, VT.wrL (VT.clL l) = VT.wrL l
  | [] => by rw [VT.clL]
  | t :: ts => by rw [VT.clL, VT.wrL, VT.wrL, cl_wr t, clL_wr ts]
end
mutual
theorem cl_cl : ∀ t : VT, t.cl.cl = t.cl
  | .mk k n s l => by
    rw [VT.cl, VT.cl]
    congr 1
    · by_cases h : k = 1 <;> simp [h]
    · by_cases h : k = 2 <;> simp [h]
    · by_cases h : k = 3
      · simp [h, clL_clL l]
      · simp [h]
theorem clL_clL : ∀ l : List VT, VT.clL (VT.clL l) = VT.clL l
  | [] => by rw [VT.clL, VT.clL]
  | t :: ts => by rw [VT.clL, VT.clL, cl_cl t, clL_clL ts]
end
mutual
theorem cl_walk : ∀ (t : VT) (d p : Nat) (e : Int), t.cl.walk d p e = t.walk d p e
  | .mk k n s l, d, p, e => by
    rw [VT.cl, VT.walk, VT.walk]
    by_cases he : e ≠ 0
    · rw [if_pos he, if_pos he]
    rw [if_neg he, if_neg he]
    by_cases hp : 256 < p + 1
    · rw [if_pos hp, if_pos hp]
    rw [if_neg hp, if_neg hp]
    by_cases h01 : k = 0 ∨ k = 1
    · rw [if_pos h01, if_pos h01]
    rw [if_neg h01, if_neg h01]
    by_cases h2 : k = 2
    · subst h2; simp
    rw [if_neg h2, if_neg h2]
    by_cases h3 : k = 3
    · subst h3; simp [clL_length, clL_walk l]
    rw [if_neg h3, if_neg h3]
theorem clL_walk : ∀ (l : List VT) (d p : Nat) (e : Int), VT.walkL d p e (VT.clL l) = VT.walkL d p e l
  | [], d, p, e => by rw [VT.clL]
  | t :: ts, d, p, e => by rw [VT.clL, VT.walkL, VT.walkL, cl_walk t, clL_walk ts]
end
theorem cl_chk (t : VT) : t.cl.chk = t.chk := by unfold VT.chk; rw [cl_walk, cl_wr]
mutual
theorem cl_parts : ∀ t : VT, t.cl.parts = t.parts
  | .mk k n s l => by
    rw [VT.cl, VT.parts, VT.parts]
    by_cases h3 : k = 3
    · simp [h3, clL_parts l]
    · simp [h3]
theorem clL_parts : ∀ l : List VT, VT.partsL (VT.clL l) = VT.partsL l
  | [] => by rw [VT.clL]
  | t :: ts => by rw [VT.clL, VT.partsL, VT.partsL, cl_parts t, clL_parts ts]
end
mutual
theorem cl_rg : ∀ t : VT, t.rg → t.cl.rg
  | .mk k n s l, h => by
    rw [VT.rg] at h
    rw [VT.cl, VT.rg]
    obtain ⟨h1, h2, h3, h4, h5, h6, h7⟩ := h
    refine ⟨h1, h2, ?_, ?_, ?_, ?_, ?_⟩
    · split <;> omega
    · split <;> omega
    · split
      · exact h5
      · simp
    · split
      · rw [clL_length]; exact h6
      · simp
    · split
      · exact clL_rg l h7
      · rw [VT.rgL]; trivial
theorem clL_rg : ∀ l : List VT, VT.rgL l → VT.rgL (VT.clL l)
  | [], h => by rw [VT.clL]; exact h
  | t :: ts, h => by rw [VT.rgL] at h; rw [VT.clL, VT.rgL]; exact ⟨cl_rg t h.1, clL_rg ts h.2⟩
end
mutual
/-- How many values there are, of one that may be. -/
theorem walk_parts : ∀ (t : VT) (d p q : Nat), t.walk d p 0 = (q, 0) → q = p + t.parts
  | .mk k n s l, d, p, q, h => by
    obtain ⟨hp, his⟩ := walk_is h
    cases his with
    | nil _ _ _ hq => rw [VT.parts]; simp [hq]
    | int _ _ _ hq => rw [VT.parts]; simp [hq]
    | text _ _ _ hq => rw [VT.parts]; simp [hq]
    | list _ _ _ _ _ hl =>
      rw [VT.parts]
      have := walkL_parts l (d + 1) (p + 1) q hl
      simp; omega
theorem walkL_parts : ∀ (l : List VT) (d p q : Nat), VT.walkL d p 0 l = (q, 0) → q = p + VT.partsL l
  | [], d, p, q, h => by rw [VT.walkL] at h; rw [VT.partsL]; have := congrArg Prod.fst h; simp at this; omega
  | t :: ts, d, p, q, h => by
    obtain ⟨q1, h1, h2⟩ := walkL_cons h
    have e1 := walk_parts t d p q1 h1
    have e2 := walkL_parts ts d q1 q h2
    rw [VT.partsL]; omega
end

/-- The order of texts. -/
theorem cmpS_self : ∀ a : List UInt8, cmpS a a = 0
  | [] => rfl
  | x :: xs => by rw [cmpS, if_pos rfl]; exact cmpS_self xs
theorem cmpS_eq : ∀ a b : List UInt8, cmpS a b = 0 → a = b
  | [], [], _ => rfl
  | [], _ :: _, h => by simp [cmpS] at h
  | _ :: _, [], h => by simp [cmpS] at h
  | x :: xs, y :: ys, h => by
    rw [cmpS] at h
    by_cases e : x = y
    · rw [if_pos e] at h; rw [e, cmpS_eq xs ys h]
    · rw [if_neg e] at h; split at h <;> simp at h
theorem u8_tri (x y : UInt8) : x = y ∨ x < y ∨ y < x := by
  rcases Nat.lt_trichotomy x.toNat y.toNat with h | h | h
  · exact .inr (.inl h)
  · exact .inl (UInt8.toNat_inj.1 h)
  · exact .inr (.inr h)
theorem u8_not {x y : UInt8} (h : x < y) : ¬ y < x ∧ x ≠ y := by
  have h' : x.toNat < y.toNat := h
  exact ⟨fun g => by have g' : y.toNat < x.toNat := g; omega, fun e => by subst e; omega⟩
theorem cmpS_neg : ∀ a b : List UInt8, cmpS b a = -cmpS a b
  | [], [] => rfl
  | [], _ :: _ => rfl
  | _ :: _, [] => rfl
  | x :: xs, y :: ys => by
    rw [cmpS, cmpS]
    rcases u8_tri x y with e | e | e
    · rw [if_pos e, if_pos e.symm]; exact cmpS_neg xs ys
    · rw [if_neg (u8_not e).2, if_neg (Ne.symm (u8_not e).2), if_pos e, if_neg (u8_not e).1]; rfl
    · rw [if_neg (u8_not e).2, if_neg (Ne.symm (u8_not e).2), if_pos e, if_neg (u8_not e).1]
theorem cmpS_rng : ∀ a b : List UInt8, cmpS a b = -1 ∨ cmpS a b = 0 ∨ cmpS a b = 1
  | [], [] => by simp [cmpS]
  | [], _ :: _ => by simp [cmpS]
  | _ :: _, [] => by simp [cmpS]
  | x :: xs, y :: ys => by
    rw [cmpS]
    split
    · exact cmpS_rng xs ys
    · split <;> simp
theorem cmpS_trans : ∀ a b c : List UInt8, cmpS a b ≤ 0 → cmpS b c ≤ 0 → cmpS a c ≤ 0
  | [], _, c, _, _ => by cases c <;> simp [cmpS]
  | x :: xs, [], _, h, _ => by simp [cmpS] at h
  | x :: xs, y :: ys, [], _, h => by simp [cmpS] at h
  | x :: xs, y :: ys, z :: zs, h1, h2 => by
    rw [cmpS] at h1 h2 ⊢
    have h1' : x = y ∧ cmpS xs ys ≤ 0 ∨ x < y := by
      rcases u8_tri x y with e | e | e
      · rw [if_pos e] at h1; exact .inl ⟨e, h1⟩
      · exact .inr e
      · rw [if_neg (Ne.symm (u8_not e).2), if_neg (u8_not e).1] at h1; omega
    have h2' : y = z ∧ cmpS ys zs ≤ 0 ∨ y < z := by
      rcases u8_tri y z with e | e | e
      · rw [if_pos e] at h2; exact .inl ⟨e, h2⟩
      · exact .inr e
      · rw [if_neg (Ne.symm (u8_not e).2), if_neg (u8_not e).1] at h2; omega
    have hlt : ∀ {a b : UInt8}, a < b → (if a = b then cmpS xs zs else if a < b then (-1 : Int) else 1) ≤ 0 := fun {a b} e => by
      rw [if_neg (u8_not e).2, if_pos e]; decide
    rcases h1' with ⟨rfl, g1⟩ | g1
    · rcases h2' with ⟨rfl, g2⟩ | g2
      · rw [if_pos rfl]; exact cmpS_trans xs ys zs g1 g2
      · exact hlt g2
    · rcases h2' with ⟨rfl, g2⟩ | g2
      · exact hlt g1
      · refine hlt ?_
        have a : x.toNat < y.toNat := g1
        have b : y.toNat < z.toNat := g2
        show x.toNat < z.toNat
        omega

/-- The order of values, unfolded. -/
theorem cmp_mk (k n : Int) (s : List UInt8) (l : List VT) (k' n' : Int) (s' : List UInt8) (l' : List VT) : (VT.mk k n s l).cmp (.mk k' n' s' l') = if k ≠ k' then (if k < k' then -1 else 1) else if k = 1 then (if n ≠ n' then (if n < n' then -1 else 1) else 0) else if k = 2 then cmpS s s' else if k = 3 then VT.cmpL l l' else 0 := by rw [VT.cmp]; rfl
mutual
theorem cmp_cl : ∀ t : VT, t.cl.cmp t = 0
  | .mk k n s l => by
    rw [VT.cl, cmp_mk]
    rw [if_neg (by simp)]
    by_cases h1 : k = 1
    · simp [h1]
    rw [if_neg h1]
    by_cases h2 : k = 2
    · simp [h2, cmpS_self]
    rw [if_neg h2]
    by_cases h3 : k = 3
    · simp [h3, cmpL_cl l]
    rw [if_neg h3]
theorem cmpL_cl : ∀ l : List VT, VT.cmpL (VT.clL l) l = 0
  | [] => by rw [VT.clL, VT.cmpL]
  | t :: ts => by rw [VT.clL, VT.cmpL, cmp_cl t, if_neg (by simp), cmpL_cl ts]
end
mutual
theorem cmp_self : ∀ t : VT, t.cmp t = 0
  | .mk k n s l => by
    rw [cmp_mk]
    rw [if_neg (by simp)]
    by_cases h1 : k = 1
    · simp [h1]
    rw [if_neg h1]
    by_cases h2 : k = 2
    · simp [h2, cmpS_self]
    rw [if_neg h2]
    by_cases h3 : k = 3
    · simp [h3, cmpL_self l]
    rw [if_neg h3]
theorem cmpL_self : ∀ l : List VT, VT.cmpL l l = 0
  | [] => by rw [VT.cmpL]
  | t :: ts => by rw [VT.cmpL, cmp_self t, if_neg (by simp), cmpL_self ts]
end
mutual
theorem cmp_eq : ∀ t u : VT, t.cmp u = 0 → t.cl = u.cl
  | .mk k n s l, .mk k' n' s' l', h => by
    rw [cmp_mk] at h
    by_cases hk : k ≠ k'
    · rw [if_pos hk] at h; split at h <;> simp at h
    rw [if_neg hk] at h
    have hk' : k = k' := by omega
    subst hk'
    rw [VT.cl, VT.cl]
    by_cases h1 : k = 1
    · rw [if_pos h1] at h
      have : n = n' := by
        by_cases e : n ≠ n'
        · rw [if_pos e] at h; split at h <;> simp at h
        · omega
      subst this; simp [h1]
    rw [if_neg h1] at h
    by_cases h2 : k = 2
    · rw [if_pos h2] at h
      rw [cmpS_eq _ _ h]; simp [h2]
    rw [if_neg h2] at h
    by_cases h3 : k = 3
    · rw [if_pos h3] at h
      simp [h3, cmpL_eq l l' h]
    · simp [h1, h2, h3]
theorem cmpL_eq : ∀ l m : List VT, VT.cmpL l m = 0 → VT.clL l = VT.clL m
  | [], [], _ => rfl
  | [], _ :: _, h => by simp [VT.cmpL] at h
  | _ :: _, [], h => by simp [VT.cmpL] at h
  | t :: ts, u :: us, h => by
    rw [VT.cmpL] at h
    by_cases e : t.cmp u ≠ 0
    · rw [if_pos e] at h; exact absurd h e
    · rw [if_neg e] at h
      rw [VT.clL, VT.clL, cmp_eq t u (by omega), cmpL_eq ts us h]
end
mutual
theorem cmp_cong : ∀ t u : VT, t.cmp u = t.cl.cmp u.cl
  | .mk k n s l, .mk k' n' s' l' => by
    rw [VT.cl, VT.cl, cmp_mk, cmp_mk]
    by_cases hk : k ≠ k'
    · rw [if_pos hk, if_pos hk]
    rw [if_neg hk, if_neg hk]
    have hk' : k = k' := by omega
    subst hk'
    by_cases h1 : k = 1
    · simp [h1]
    rw [if_neg h1, if_neg h1]
    by_cases h2 : k = 2
    · simp [h2]
    rw [if_neg h2, if_neg h2]
    by_cases h3 : k = 3
    · simp [h3, cmpL_cong l l']
    · simp [h3]
theorem cmpL_cong : ∀ l m : List VT, VT.cmpL l m = VT.cmpL (VT.clL l) (VT.clL m)
  | [], [] => by rw [VT.clL]
  | [], _ :: _ => by rw [VT.clL, VT.clL, VT.cmpL, VT.cmpL]
  | _ :: _, [] => by rw [VT.clL, VT.clL, VT.cmpL, VT.cmpL]
  | t :: ts, u :: us => by rw [VT.clL, VT.clL, VT.cmpL, VT.cmpL, cmp_cong t u, cmpL_cong ts us]
end
theorem cmp_iff (t u : VT) : t.cmp u = 0 ↔ t.cl = u.cl := ⟨cmp_eq t u, fun h => by rw [cmp_cong, h]; exact cmp_self _⟩
mutual
theorem cmp_neg : ∀ t u : VT, u.cmp t = -(t.cmp u)
  | .mk k n s l, .mk k' n' s' l' => by
    rw [cmp_mk, cmp_mk]
    by_cases hk : k = k'
    · subst hk
      have hkk : ¬ (k ≠ k) := by simp
      rw [if_neg hkk, if_neg hkk]
      by_cases h1 : k = 1
      · rw [if_pos h1, if_pos h1]
        by_cases e : n = n'
        · simp [e]
        · rw [if_pos (Ne.symm e), if_pos e]
          by_cases g : n < n'
          · rw [if_pos g, if_neg (by omega)]; rfl
          · rw [if_neg g, if_pos (by omega)]
      rw [if_neg h1, if_neg h1]
      by_cases h2 : k = 2
      · rw [if_pos h2, if_pos h2]; exact cmpS_neg _ _
      rw [if_neg h2, if_neg h2]
      by_cases h3 : k = 3
      · rw [if_pos h3, if_pos h3]; exact cmpL_neg l l'
      rw [if_neg h3, if_neg h3]; rfl
    · rw [if_pos (Ne.symm hk), if_pos hk]
      by_cases g : k < k'
      · rw [if_pos g, if_neg (by omega)]; rfl
      · rw [if_neg g, if_pos (by omega)]
theorem cmpL_neg : ∀ l m : List VT, VT.cmpL m l = -(VT.cmpL l m)
  | [], [] => by simp [VT.cmpL]
  | [], _ :: _ => by simp [VT.cmpL]
  | _ :: _, [] => by simp [VT.cmpL]
  | t :: ts, u :: us => by
    rw [VT.cmpL, VT.cmpL, cmp_neg t u, cmpL_neg ts us]
    by_cases e : t.cmp u = 0
    · simp [e]
    · rw [if_pos (by omega), if_pos e]
end
mutual
theorem cmp_trans : ∀ t u v : VT, t.cmp u ≤ 0 → u.cmp v ≤ 0 → t.cmp v ≤ 0
  | .mk k n s l, .mk k' n' s' l', .mk k2 n2 s2 l2, ha, hb => by
    rw [cmp_mk] at ha hb ⊢
    have ga : k < k' ∨ k = k' := by
      by_cases e : k = k'
      · exact .inr e
      · rw [if_pos e] at ha; split at ha <;> omega
    have gb : k' < k2 ∨ k' = k2 := by
      by_cases e : k' = k2
      · exact .inr e
      · rw [if_pos e] at hb; split at hb <;> omega
    by_cases hlt : k < k2
    · rw [if_pos (by omega), if_pos hlt]; decide
    have e1 : k = k' := by omega
    have e2 : k' = k2 := by omega
    subst e1 e2
    have hkk : ¬ (k ≠ k) := by simp
    rw [if_neg hkk] at ha hb ⊢
    by_cases h1 : k = 1
    · rw [if_pos h1] at ha hb ⊢
      have ga : n ≤ n' := by
        by_cases e : n = n'
        · omega
        · rw [if_pos e] at ha; split at ha <;> omega
      have gb : n' ≤ n2 := by
        by_cases e : n' = n2
        · omega
        · rw [if_pos e] at hb; split at hb <;> omega
      by_cases e : n = n2
      · rw [if_neg (by simpa using e)]; decide
      · rw [if_pos e, if_pos (by omega)]; decide
    rw [if_neg h1] at ha hb ⊢
    by_cases h2 : k = 2
    · rw [if_pos h2] at ha hb ⊢; exact cmpS_trans _ _ _ ha hb
    rw [if_neg h2] at ha hb ⊢
    by_cases h3 : k = 3
    · rw [if_pos h3] at ha hb ⊢; exact cmpL_trans l l' l2 ha hb
    rw [if_neg h3]; decide
theorem cmpL_trans : ∀ l m o : List VT, VT.cmpL l m ≤ 0 → VT.cmpL m o ≤ 0 → VT.cmpL l o ≤ 0
  | [], _, o, _, _ => by cases o <;> simp [VT.cmpL]
  | t :: ts, [], _, h, _ => by simp [VT.cmpL] at h
  | t :: ts, u :: us, [], _, h => by simp [VT.cmpL] at h
  | t :: ts, u :: us, v :: vs, ha, hb => by
    rw [VT.cmpL] at ha hb ⊢
    have a1 : t.cmp u ≤ 0 := by split at ha <;> omega
    have b1 : u.cmp v ≤ 0 := by split at hb <;> omega
    have c1 := cmp_trans t u v a1 b1
    by_cases ec : t.cmp v = 0
    · have e1 := (cmp_iff t v).1 ec
      have e2 : u.cmp v = u.cmp t := by rw [cmp_cong u v, cmp_cong u t, e1]
      have n2 := cmp_neg t u
      rw [if_neg (by omega)] at ha hb ⊢
      exact cmpL_trans ts us vs ha hb
    · rw [if_pos ec]; exact c1
end
theorem cmp_rng (t u : VT) : -1 ≤ t.cmp u ∧ t.cmp u ≤ 1 := cmp_rng' t u
where
  cmp_rng' : ∀ t u : VT, -1 ≤ t.cmp u ∧ t.cmp u ≤ 1 := by
    intro t u
    induction t using VT.rec (motive_2 := fun l => ∀ m, -1 ≤ VT.cmpL l m ∧ VT.cmpL l m ≤ 1) generalizing u with
    | mk k n s l ih =>
      rw [VT.cmp]
      split
      · split <;> omega
      · split
        · split
          · split <;> omega
          · exact ⟨by decide, by decide⟩
        · split
          · have := cmpS_rng s u.s; omega
          · split
            · exact ih u.l
            · exact ⟨by decide, by decide⟩
    | nil => rename_i m; cases m <;> simp [VT.cmpL]
    | cons t ts h1 h2 =>
      rename_i m
      cases m with
      | nil => simp [VT.cmpL]
      | cons y ys =>
        rw [VT.cmpL]
        split
        · exact h1 y
        · exact h2 ys

/-- Good values with the same bytes are the same. -/
theorem wr_inj {t u : VT} (gt : t.rg) (gu : u.rg) (ht : t.chk = 0) (hu : u.chk = 0) (h : t.wr = u.wr) : t.cl = u.cl := by
  have w1 : ∀ x : VT, x.chk = 0 → ∃ q, x.walk 0 0 0 = (q, 0) := fun x hx => by
    unfold VT.chk at hx
    by_cases e : (x.walk 0 0 0).2 = 0
    · exact ⟨_, Prod.ext rfl e⟩
    · rw [if_pos e] at hx; exact absurd hx e
  obtain ⟨q1, e1⟩ := w1 t ht
  obtain ⟨q2, e2⟩ := w1 u hu
  have r1 := rdV_rt t 8 0 0 q1 (RdM.of t.wr) [] gt e1 rfl rfl (by simp [RdM.rest, RdM.of])
  have r2 := rdV_rt u 8 0 0 q2 (RdM.of u.wr) [] gu e2 rfl rfl (by simp [RdM.rest, RdM.of])
  rw [h] at r1
  rw [r1] at r2
  exact congrArg VS.t r2

mutual
/-- Each kind is one that there is. -/
def VT.kd : VT → Prop
  | .mk k _ _ l => 0 ≤ k ∧ k ≤ 3 ∧ (k = 3 → VT.kdL l)
def VT.kdL : List VT → Prop
  | [] => True
  | t :: ts => t.kd ∧ VT.kdL ts
end
mutual
theorem walk_kd : ∀ (t : VT) (d p q : Nat), t.walk d p 0 = (q, 0) → t.kd
  | .mk k n s l, d, p, q, h => by
    obtain ⟨hp, his⟩ := walk_is h
    rw [VT.kd]
    cases his with
    | nil => exact ⟨by decide, by decide, fun e => absurd e (by decide)⟩
    | int => exact ⟨by decide, by decide, fun e => absurd e (by decide)⟩
    | text => exact ⟨by decide, by decide, fun e => absurd e (by decide)⟩
    | list _ _ _ _ _ hl => exact ⟨by decide, by decide, fun _ => walkL_kd l _ _ _ hl⟩
theorem walkL_kd : ∀ (l : List VT) (d p q : Nat), VT.walkL d p 0 l = (q, 0) → VT.kdL l
  | [], _, _, _, _ => by rw [VT.kdL]; trivial
  | t :: ts, d, p, q, h => by
    obtain ⟨q1, h1, h2⟩ := walkL_cons h
    rw [VT.kdL]
    exact ⟨walk_kd t _ _ _ h1, walkL_kd ts _ _ _ h2⟩
end
mutual
/-- The reference's order. -/
def VT.rc : VT → VT → Int
  | .mk k n s l, u => if k ≠ u.k then k - u.k else if k = 1 then (if n < u.n then -1 else if u.n < n then 1 else 0) else if k = 2 then cmpS s u.s else if k = 3 then VT.rcL l u.l else 0
def VT.rcL : List VT → List VT → Int
  | [], m => -(m.length : Int)
  | l, [] => l.length
  | x :: xs, y :: ys => if x.rc y ≠ 0 then x.rc y else VT.rcL xs ys
end
theorem sgn_ite {c : Prop} [Decidable c] (a b a' b' : Int) (h1 : c → (a < 0 ↔ a' < 0) ∧ (0 < a ↔ 0 < a')) (h2 : ¬ c → (b < 0 ↔ b' < 0) ∧ (0 < b ↔ 0 < b')) : ((if c then a else b) < 0 ↔ (if c then a' else b') < 0) ∧ (0 < (if c then a else b) ↔ 0 < (if c then a' else b')) := by
  split
  · rename_i h; exact h1 h
  · rename_i h; exact h2 h
mutual
theorem rc_sgn : ∀ t u : VT, (t.rc u < 0 ↔ t.cmp u < 0) ∧ (0 < t.rc u ↔ 0 < t.cmp u)
  | .mk k n s l, u => by
    rw [VT.rc, VT.cmp]
    refine sgn_ite _ _ _ _ (fun hk => ?_) (fun _ => sgn_ite _ _ _ _ (fun _ => ?_) (fun _ => sgn_ite _ _ _ _ (fun _ => ⟨Iff.rfl, Iff.rfl⟩) (fun _ => sgn_ite _ _ _ _ (fun _ => rcL_sgn l u.l) (fun _ => ⟨Iff.rfl, Iff.rfl⟩))))
    · by_cases g : k < u.k
      · rw [if_pos g]; omega
      · rw [if_neg g]; omega
    · by_cases h : n < u.n
      · rw [if_pos h, if_pos (by omega), if_pos h]; exact ⟨Iff.rfl, Iff.rfl⟩
      · rw [if_neg h]
        by_cases g : u.n < n
        · rw [if_pos g, if_pos (by omega), if_neg h]; exact ⟨Iff.rfl, Iff.rfl⟩
        · rw [if_neg g, if_neg (by omega)]; exact ⟨Iff.rfl, Iff.rfl⟩
theorem rcL_sgn : ∀ l m : List VT, (VT.rcL l m < 0 ↔ VT.cmpL l m < 0) ∧ (0 < VT.rcL l m ↔ 0 < VT.cmpL l m)
  | [], [] => by simp [VT.rcL, VT.cmpL]
  | [], _ :: _ => by rw [VT.rcL, VT.cmpL]; simp only [List.length_cons]; omega
  | _ :: _, [] => by
    rw [VT.rcL, VT.cmpL]
    · simp only [List.length_cons]; omega
    · simp
  | x :: xs, y :: ys => by
    have h1 := rc_sgn x y
    have h2 := rcL_sgn xs ys
    rw [VT.rcL, VT.cmpL]
    by_cases e : x.cmp y = 0
    · rw [if_neg (by omega), if_neg (by omega)]; exact h2
    · rw [if_pos (by omega), if_pos (by omega)]; exact h1
end
theorem rc_zero (t u : VT) : t.rc u = 0 ↔ t.cmp u = 0 := by have := rc_sgn t u; omega
end Go.Proofs.YtokefeemhgcmhaaGreatDoor
