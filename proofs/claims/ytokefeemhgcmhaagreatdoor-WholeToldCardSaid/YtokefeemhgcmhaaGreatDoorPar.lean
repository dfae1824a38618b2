/- value.Parse, plainly: what texts are read as; a text that is read is the one that is printed. No program. -/
import Derived.Test.YtokefeemhgcmhaaGreatDoorPrV
import Derived.Lib.ParseIntB
namespace Go.Proofs.YtokefeemhgcmhaaGreatDoor

/-- A digit to the base 16. -/
def dgH (c : UInt8) : Option Nat := if 48 ≤ c ∧ c ≤ 57 then some (c.toNat - 48) else if 97 ≤ c ∧ c ≤ 102 then some (c.toNat - 87) else none
/-- What two digits are: no plain sign. -/
def twoH (x y : Option UInt8) : Option UInt8 :=
  match x.bind dgH, y.bind dgH with
  | some a, some b => if 32 ≤ 16 * a + b ∧ 16 * a + b ≤ 126 then none else some (UInt8.ofNat (16 * a + b))
  | _, _ => none
/-- The text between quotes of which the first one is gone: the text, what is left. -/
def unq (acc : List UInt8) : List UInt8 → Option (List UInt8 × List UInt8)
  | [] => none
  | c :: l =>
    if c = 34 then some (acc, l)
    else if c < 32 ∨ 126 < c then none
    else if c ≠ 92 then unq (acc ++ [c]) l
    else if l[0]? = some 34 then unq (acc ++ [34]) (l.drop 1)
    else if l[0]? = some 92 then unq (acc ++ [92]) (l.drop 1)
    else if l[0]? = some 120 ∧ 3 ≤ l.length then (match twoH l[1]? l[2]? with
      | some x => unq (acc ++ [x]) (l.drop 3)
      | none => none)
    else none
termination_by l => l.length
decreasing_by all_goals (simp only [List.length_cons, List.length_drop]; omega)
/-- Digits ahead. -/
def isDg (c : UInt8) : Bool := 48 ≤ c && c ≤ 57
def runN : List UInt8 → Nat
  | [] => 0
  | c :: l => if isDg c = true then runN l + 1 else 0
/-- How long the number's text is. -/
def numN (l : List UInt8) : Nat := if l[0]? = some 45 then runN (l.drop 1) + 1 else runN l
/-- A number in its one form. -/
def rdInt (s : List UInt8) : Option Int :=
  match Lib.parseIntB 64 s with
  | .ok v => if Lib.itoa v = s then some v else none
  | _ => none
def parI (l : List UInt8) : Option (VT × List UInt8) := (rdInt (l.take (numN l))).map fun v => (.mk 1 v [] [], l.drop (numN l))
/-- A list's values, the bracket ahead is gone. -/
def parL (g : List UInt8 → Bool × Option (VT × List UInt8)) : Nat → List VT → List UInt8 → Bool × Option (VT × List UInt8)
  | 0, _, _ => (false, none)
  | n + 1, acc, l =>
    if l[0]? = some 93 then (false, some (.mk 3 0 [] acc, l.drop 1))
    else if acc ≠ [] ∧ l[0]? ≠ some 32 then (false, none)
    else match g (if acc ≠ [] then l.drop 1 else l) with
      | (d, none) => (d, none)
      | (_, some (t, r)) => parL g n (acc ++ [t]) r
/-- The next value; so many lists may stand in each other yet. True: too many do. -/
def parV : Nat → List UInt8 → Bool × Option (VT × List UInt8)
  | f, l =>
    if l.take 3 = [110, 105, 108] then (false, some (.nil, l.drop 3))
    else if l[0]? = some 34 then (false, (unq [] (l.drop 1)).map fun x => (.mk 2 0 x.1 [], x.2))
    else if l[0]? = some 91 then (match f with
      | 0 => (true, none)
      | f + 1 => parL (parV f) (l.length + 1) [] (l.drop 1))
    else (false, parI l)
/-- value.Parse: the value, the error. -/
def parA (l : List UInt8) : VT × Int :=
  match parV 8 l with
  | (true, _) => (.nil, 30)
  | (false, none) => (.nil, 8)
  | (false, some (t, r)) => if r ≠ [] then (.nil, 8) else if t.chk ≠ 0 then (.nil, t.chk) else (t, 0)

theorem runN_le : ∀ l : List UInt8, runN l ≤ l.length
  | [] => by simp [runN]
  | c :: l => by rw [runN]; have := runN_le l; split <;> simp <;> omega
theorem numN_le (l : List UInt8) : numN l ≤ l.length := by
  unfold numN
  split
  · rename_i h
    have := runN_le (l.drop 1)
    rw [List.length_drop] at this
    cases l with
    | nil => simp at h
    | cons c l => simp at this ⊢; omega
  · exact runN_le l

/-- What is left of a text between quotes is a rest of it. -/
theorem unq_rest : ∀ (n : Nat) (l : List UInt8) (acc t r : List UInt8), l.length ≤ n → unq acc l = some (t, r) → ∃ k, 1 ≤ k ∧ k ≤ l.length ∧ r = l.drop k
  | _, [], acc, t, r, _, h => by rw [unq] at h; cases h
  | 0, c :: l, acc, t, r, hn, _ => by simp at hn
  | n + 1, c :: l, acc, t, r, hn, h => by
    have hn' : l.length ≤ n := by simp at hn; omega
    have step : ∀ j acc', j ≤ l.length → unq acc' (l.drop j) = some (t, r) → ∃ k, 1 ≤ k ∧ k ≤ (c :: l).length ∧ r = (c :: l).drop k := fun j acc' hj h => by
      obtain ⟨k, h1, h2, h3⟩ := unq_rest n (l.drop j) acc' t r (by rw [List.length_drop]; omega) h
      rw [List.length_drop] at h2
      exact ⟨1 + (j + k), by omega, by simp; omega, by rw [h3, List.drop_drop]; simp [Nat.add_comm 1]⟩
    rw [unq] at h
    by_cases h1 : c = 34
    · rw [if_pos h1] at h
      simp only [Option.some.injEq, Prod.mk.injEq] at h
      exact ⟨1, by omega, by simp, by rw [← h.2]; rfl⟩
    rw [if_neg h1] at h
    by_cases h2 : c < 32 ∨ 126 < c
    · rw [if_pos h2] at h; cases h
    rw [if_neg h2] at h
    by_cases h3 : c ≠ 92
    · rw [if_pos h3] at h; exact step 0 _ (by omega) h
    rw [if_neg h3] at h
    by_cases h4 : l[0]? = some 34
    · rw [if_pos h4] at h
      exact step 1 _ (by cases l with | nil => simp at h4 | cons a l => simp) h
    rw [if_neg h4] at h
    by_cases h5 : l[0]? = some 92
    · rw [if_pos h5] at h
      exact step 1 _ (by cases l with | nil => simp at h5 | cons a l => simp) h
    rw [if_neg h5] at h
    by_cases h6 : l[0]? = some 120 ∧ 3 ≤ l.length
    · rw [if_pos h6] at h
      cases hx : twoH l[1]? l[2]? with
      | none => rw [hx] at h; cases h
      | some x => rw [hx] at h; exact step 3 _ h6.2 h
    · rw [if_neg h6] at h; cases h
theorem parL_rest {g : List UInt8 → Bool × Option (VT × List UInt8)} (hg : ∀ l d t r, g l = (d, some (t, r)) → ∃ k, 1 ≤ k ∧ k ≤ l.length ∧ r = l.drop k) :
    ∀ (n : Nat) (acc : List VT) (l : List UInt8) (d : Bool) (t : VT) (r : List UInt8), parL g n acc l = (d, some (t, r)) → ∃ k, 1 ≤ k ∧ k ≤ l.length ∧ r = l.drop k
  | 0, _, _, _, _, _, h => by rw [parL] at h; simp at h
  | n + 1, acc, l, d, t, r, h => by
    rw [parL] at h
    by_cases h1 : l[0]? = some 93
    · rw [if_pos h1] at h
      simp only [Prod.mk.injEq, Option.some.injEq] at h
      exact ⟨1, by omega, by cases l with | nil => simp at h1 | cons a l => simp, by rw [h.2.2]⟩
    rw [if_neg h1] at h
    by_cases h2 : acc ≠ [] ∧ l[0]? ≠ some 32
    · rw [if_pos h2] at h; simp at h
    rw [if_neg h2] at h
    obtain ⟨j, hj, hjl⟩ : ∃ j, (if acc ≠ [] then l.drop 1 else l) = l.drop j ∧ j ≤ l.length := by
      by_cases h3 : acc ≠ []
      · rw [if_pos h3]
        refine ⟨1, rfl, ?_⟩
        cases l with
        | nil => exact absurd ⟨h3, by simp⟩ h2
        | cons a l => simp
      · rw [if_neg h3]; exact ⟨0, rfl, Nat.zero_le _⟩
    rw [hj] at h
    cases hgr : g (l.drop j) with
    | mk d' o =>
      rw [hgr] at h
      cases o with
      | none => simp at h
      | some x =>
        obtain ⟨t', r'⟩ := x
        simp only at h
        obtain ⟨k1, h3, h4, h5⟩ := hg _ _ _ _ hgr
        obtain ⟨k2, h6, h7, h8⟩ := parL_rest hg n _ _ _ _ _ h
        rw [h5, List.length_drop, List.length_drop] at h7
        rw [List.length_drop] at h4
        exact ⟨j + (k1 + k2), by omega, by omega, by rw [h8, h5, List.drop_drop, List.drop_drop]⟩
theorem rdInt_pos {s : List UInt8} {v : Int} (h : rdInt s = some v) : 1 ≤ s.length ∧ Lib.itoa v = s := by
  unfold rdInt at h
  rcases hp : Lib.parseIntB 64 s with u | _ | _
  ·
    rw [hp] at h
    simp only at h
    by_cases hu : Lib.itoa u = s
    · rw [if_pos hu] at h
      cases h
      refine ⟨?_, hu⟩
      cases s with
      | nil => simp [Lib.parseIntB] at hp
      | cons a s => simp
    · rw [if_neg hu] at h; cases h
  · rw [hp] at h; cases h
  · rw [hp] at h; cases h
theorem parV_rest : ∀ (f : Nat) (l : List UInt8) (d : Bool) (t : VT) (r : List UInt8), parV f l = (d, some (t, r)) → ∃ k, 1 ≤ k ∧ k ≤ l.length ∧ r = l.drop k := by
  intro f
  induction f with
  | zero =>
    intro l d t r h
    rw [parV] at h
    by_cases h1 : l.take 3 = [110, 105, 108]
    · rw [if_pos h1] at h
      simp only [Prod.mk.injEq, Option.some.injEq] at h
      exact ⟨3, by omega, by have := congrArg List.length h1; simp at this; omega, h.2.2.symm⟩
    rw [if_neg h1] at h
    by_cases h2 : l[0]? = some 34
    · rw [if_pos h2] at h
      cases hu : unq [] (l.drop 1) with
      | none => rw [hu] at h; simp at h
      | some x =>
        obtain ⟨s, r'⟩ := x
        rw [hu] at h
        simp at h
        obtain ⟨k, h3, h4, h5⟩ := unq_rest _ _ _ _ _ (Nat.le_refl _) hu
        rw [List.length_drop] at h4
        exact ⟨1 + k, by omega, by omega, by rw [← h.2.2, h5, List.drop_drop]⟩
    rw [if_neg h2] at h
    by_cases h3 : l[0]? = some 91
    · rw [if_pos h3] at h; simp at h
    rw [if_neg h3] at h
    unfold parI at h
    cases hr : rdInt (l.take (numN l)) with
    | none => rw [hr] at h; simp at h
    | some v =>
      rw [hr] at h
      simp at h
      have h4 := (rdInt_pos hr).1
      rw [List.length_take] at h4
      exact ⟨numN l, by omega, numN_le l, h.2.2.symm⟩
  | succ f ih =>
    intro l d t r h
    rw [parV] at h
    by_cases h1 : l.take 3 = [110, 105, 108]
    · rw [if_pos h1] at h
      simp only [Prod.mk.injEq, Option.some.injEq] at h
      exact ⟨3, by omega, by have := congrArg List.length h1; simp at this; omega, h.2.2.symm⟩
    rw [if_neg h1] at h
    by_cases h2 : l[0]? = some 34
    · rw [if_pos h2] at h
      cases hu : unq [] (l.drop 1) with
      | none => rw [hu] at h; simp at h
      | some x =>
        obtain ⟨s, r'⟩ := x
        rw [hu] at h
        simp at h
        obtain ⟨k, h3, h4, h5⟩ := unq_rest _ _ _ _ _ (Nat.le_refl _) hu
        rw [List.length_drop] at h4
        exact ⟨1 + k, by omega, by omega, by rw [← h.2.2, h5, List.drop_drop]⟩
    rw [if_neg h2] at h
    by_cases h3 : l[0]? = some 91
    · rw [if_pos h3] at h
      obtain ⟨k, h4, h5, h6⟩ := parL_rest ih _ _ _ _ _ _ h
      rw [List.length_drop] at h5
      exact ⟨1 + k, by omega, by omega, by rw [h6, List.drop_drop]⟩
    rw [if_neg h3] at h
    unfold parI at h
    cases hr : rdInt (l.take (numN l)) with
    | none => rw [hr] at h; simp at h
    | some v =>
      rw [hr] at h
      simp at h
      have h4 := (rdInt_pos hr).1
      rw [List.length_take] at h4
      exact ⟨numN l, by omega, numN_le l, h.2.2.symm⟩

set_option maxRecDepth 100000 in
/-- Read, it is the text of just that. -/
theorem twoH_is {x y : Option UInt8} {c : UInt8} (h : twoH x y = some c) : ∃ a b, x = some a ∧ y = some b ∧ qB c = [92, 120, a, b] := by
  unfold twoH at h
  cases x with
  | none => simp at h
  | some a =>
    cases y with
    | none => simp at h
    | some b =>
      refine ⟨a, b, rfl, rfl, ?_⟩
      have key : ∀ i j : Fin 256, ∀ m n, dgH (UInt8.ofNat i.val) = some m → dgH (UInt8.ofNat j.val) = some n → m < 16 ∧ n < 16 ∧ hx m = UInt8.ofNat i.val ∧ hx n = UInt8.ofNat j.val := by
        intro i j m n h1 h2
        have one : ∀ i : Fin 256, (dgH (UInt8.ofNat i.val)).all (fun m => decide (m < 16) && (hx m == UInt8.ofNat i.val)) = true := by decide
        have o1 := one i
        have o2 := one j
        rw [h1] at o1
        rw [h2] at o2
        simp only [Option.all_some, Bool.and_eq_true, decide_eq_true_eq, beq_iff_eq] at o1 o2
        exact ⟨o1.1, o2.1, o1.2, o2.2⟩
      simp only [Option.bind_some] at h
      cases ha : dgH a with
      | none => rw [ha] at h; simp at h
      | some m =>
        cases hb : dgH b with
        | none => rw [ha, hb] at h; simp at h
        | some n =>
          rw [ha, hb] at h
          simp only at h
          have ea : UInt8.ofNat (⟨a.toNat, a.toNat_lt⟩ : Fin 256).val = a := by simp
          have eb : UInt8.ofNat (⟨b.toNat, b.toNat_lt⟩ : Fin 256).val = b := by simp
          obtain ⟨h1, h2, h3, h4⟩ := key ⟨a.toNat, a.toNat_lt⟩ ⟨b.toNat, b.toNat_lt⟩ m n (by rw [ea]; exact ha) (by rw [eb]; exact hb)
          rw [ea] at h3
          rw [eb] at h4
          by_cases hp : 32 ≤ 16 * m + n ∧ 16 * m + n ≤ 126
          · rw [if_pos hp] at h; cases h
          rw [if_neg hp] at h
          simp only [Option.some.injEq] at h
          have hc : c.toNat = 16 * m + n := by rw [← h]; simp; omega
          unfold qB
          have n34 : ¬ (c = 34 ∨ c = 92) := by
            rintro (e | e) <;> (rw [e] at hc; simp at hc; omega)
          rw [if_neg n34, if_pos (by
            rw [UInt8.lt_iff_toNat_lt, UInt8.lt_iff_toNat_lt, hc]
            show 16 * m + n < 32 ∨ 126 < 16 * m + n
            omega), hc, show (16 * m + n) / 16 = m from by omega, show (16 * m + n) % 16 = n from by omega, h3, h4]
end Go.Proofs.YtokefeemhgcmhaaGreatDoor
