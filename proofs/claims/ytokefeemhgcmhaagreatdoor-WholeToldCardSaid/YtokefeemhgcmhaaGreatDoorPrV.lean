/- Texts of values and events, plainly: unlike ones have unlike texts. -/
import Derived.Test.YtokefeemhgcmhaaGreatDoorEvL
import Derived.Lib.ItoaNum
namespace Go.Proofs.YtokefeemhgcmhaaGreatDoor

/-- A digit to the base 16. -/
def hx (n : Nat) : UInt8 := UInt8.ofNat (if n < 10 then 48 + n else 87 + n)
/-- A sign of a text between quotes. -/
def qB (c : UInt8) : List UInt8 := if c = 34 ∨ c = 92 then [92, c] else if c < 32 ∨ 126 < c then [92, 120, hx (c.toNat / 16), hx (c.toNat % 16)] else [c]
/-- A text between quotes. -/
def quo (s : List UInt8) : List UInt8 := 34 :: (s.flatMap qB ++ [34])
mutual
/-- A value's text. -/
def VT.pr : VT → List UInt8
  | .mk k n s l => if k = 1 then Lib.itoa n else if k = 2 then quo s else if k = 3 then 91 :: (VT.prL l ++ [93]) else [110, 105, 108]
def VT.prL : List VT → List UInt8
  | [] => []
  | t :: ts => t.pr ++ VT.prT ts
def VT.prT : List VT → List UInt8
  | [] => []
  | t :: ts => 32 :: (t.pr ++ VT.prT ts)
end
/-- A field's text. -/
def EM.ft (e : EM) (c : UInt8) : List UInt8 :=
  if c = 65 then 32 :: Lib.itoa e.a else if c = 66 then 32 :: Lib.itoa e.b else if c = 78 then 32 :: quo e.name else if c = 84 then 32 :: quo e.text else if c = 86 then 32 :: e.v.pr else []
/-- An event's line. -/
def EM.pr (e : EM) : List UInt8 := Lib.itoa e.id ++ ([32, 64] ++ (Lib.itoa e.tm ++ ([32] ++ (evName e.k ++ (evFlds e.k).flatMap e.ft))))

/-- What may stand behind a value. -/
def Dl (a : List UInt8) : Prop := ∀ c x, a = c :: x → c = 32 ∨ c = 93
theorem dl_nil : Dl [] := fun _ _ h => by cases h
theorem dl_sp (x : List UInt8) : Dl (32 :: x) := fun c y h => by cases h; exact .inl rfl
theorem dl_cl (x : List UInt8) : Dl (93 :: x) := fun c y h => by cases h; exact .inr rfl
/-- A number's sign. -/
def dgc (c : UInt8) : Bool := c = 45 || (48 ≤ c && c ≤ 57)
theorem dg_lt (i : Nat) (h : i < 10) : dgc (UInt8.ofNat (48 + i)) = true := by
  have : ∀ j : Fin 10, dgc (UInt8.ofNat (48 + j.val)) = true := by decide
  exact this ⟨i, h⟩
theorem dec_dg (u : Nat) : ∀ c ∈ Lib.decDigits u, dgc c = true := by
  induction u using Nat.strongRecOn with
  | ind u ih =>
    rw [Lib.decDigits]
    by_cases h : u < 10
    · rw [dif_pos h]; intro c hc; simp only [List.mem_singleton] at hc; rw [hc]; exact dg_lt u h
    · rw [dif_neg h]; intro c hc
      rw [List.mem_append] at hc
      rcases hc with hc | hc
      · exact ih (u / 10) (by omega) c hc
      · simp only [List.mem_singleton] at hc; rw [hc]; exact dg_lt _ (by omega)
theorem itoa_dg (n : Int) : ∀ c ∈ Lib.itoa n, dgc c = true := by
  unfold Lib.itoa
  split
  · intro c hc
    rcases List.mem_cons.1 hc with rfl | hc
    · decide
    · exact dec_dg _ c hc
  · exact dec_dg _
/-- What digits mean. -/
def und (l : List UInt8) : Nat := l.foldl (fun n c => 10 * n + (c.toNat - 48)) 0
theorem und_app (l : List UInt8) (c : UInt8) : und (l ++ [c]) = 10 * und l + (c.toNat - 48) := by simp [und]
theorem und_dec (u : Nat) : und (Lib.decDigits u) = u := by
  induction u using Nat.strongRecOn with
  | ind u ih =>
    rw [Lib.decDigits]
    by_cases h : u < 10
    · rw [dif_pos h]; simp [und]; omega
    · rw [dif_neg h, und_app, ih (u / 10) (by omega)]
      have : (UInt8.ofNat (48 + u % 10)).toNat = 48 + u % 10 := by simp; omega
      rw [this]; omega
theorem dec_inj {u v : Nat} (h : Lib.decDigits u = Lib.decDigits v) : u = v := by rw [← und_dec u, h, und_dec]
theorem dec_head (u : Nat) : ∃ c x, Lib.decDigits u = c :: x ∧ 48 ≤ c ∧ c ≤ 57 := by
  induction u using Nat.strongRecOn with
  | ind u ih =>
    rw [Lib.decDigits]
    by_cases h : u < 10
    · rw [dif_pos h]
      have : ∀ j : Fin 10, 48 ≤ UInt8.ofNat (48 + j.val) ∧ UInt8.ofNat (48 + j.val) ≤ 57 := by decide
      exact ⟨_, _, rfl, this ⟨u, h⟩⟩
    · rw [dif_neg h]
      obtain ⟨c, x, e, h1⟩ := ih (u / 10) (by omega)
      exact ⟨c, _, by rw [e]; rfl, h1⟩
theorem itoa_inj {m n : Int} (h : Lib.itoa m = Lib.itoa n) : m = n := by
  unfold Lib.itoa at h
  obtain ⟨c1, x1, e1, h1, -⟩ := dec_head m.toNat
  obtain ⟨c2, x2, e2, h2, -⟩ := dec_head n.toNat
  by_cases hm : m < 0
  · rw [if_pos hm] at h
    by_cases hn : n < 0
    · rw [if_pos hn] at h
      have := dec_inj (List.cons.inj h).2
      omega
    · rw [if_neg hn, e2] at h
      rw [← (List.cons.inj h).1] at h2
      exact absurd h2 (by decide)
  · rw [if_neg hm] at h
    by_cases hn : n < 0
    · rw [if_pos hn, e1] at h
      rw [(List.cons.inj h).1] at h1
      exact absurd h1 (by decide)
    · rw [if_neg hn] at h
      have := dec_inj h
      omega
/-- Where two texts of signs that a number may have are over at once. -/
theorem run_eq {p : UInt8 → Bool} : ∀ {x y a b : List UInt8}, (∀ c ∈ x, p c = true) → (∀ c ∈ y, p c = true) → (∀ c z, a = c :: z → p c = false) → (∀ c z, b = c :: z → p c = false) → x ++ a = y ++ b → x = y ∧ a = b
  | [], [], a, b, _, _, _, _, h => ⟨rfl, h⟩
  | [], d :: y, a, b, _, hy, ha, _, h => by
    have := ha d _ h
    rw [hy d List.mem_cons_self] at this; cases this
  | c :: x, [], a, b, hx, _, _, hb, h => by
    have := hb c _ h.symm
    rw [hx c List.mem_cons_self] at this; cases this
  | c :: x, d :: y, a, b, hx, hy, ha, hb, h => by
    have h' := List.cons.inj h
    obtain ⟨e1, e2⟩ := run_eq (fun c hc => hx c (List.mem_cons_of_mem _ hc)) (fun c hc => hy c (List.mem_cons_of_mem _ hc)) ha hb h'.2
    exact ⟨by rw [h'.1, e1], e2⟩
theorem dl_dg {a : List UInt8} (h : Dl a) : ∀ c z, a = c :: z → dgc c = false := fun c z e => by
  rcases h c z e with rfl | rfl <;> decide
theorem itoa_app {m n : Int} {a b : List UInt8} (ha : Dl a) (hb : Dl b) (h : Lib.itoa m ++ a = Lib.itoa n ++ b) : m = n ∧ a = b := by
  obtain ⟨e1, e2⟩ := run_eq (itoa_dg m) (itoa_dg n) (dl_dg ha) (dl_dg hb) h
  exact ⟨itoa_inj e1, e2⟩
/-- The ways of a sign between quotes. -/
inductive QB (c : UInt8) : List UInt8 → Prop
  | esc : c = 34 ∨ c = 92 → QB c [92, c]
  | hex : c ≠ 34 → c ≠ 92 → QB c [92, 120, hx (c.toNat / 16), hx (c.toNat % 16)]
  | self : c ≠ 34 → c ≠ 92 → QB c [c]
theorem qB_is (c : UInt8) : QB c (qB c) := by
  unfold qB
  by_cases h1 : c = 34 ∨ c = 92
  · rw [if_pos h1]; exact .esc h1
  · rw [if_neg h1]
    have h2 := not_or.1 h1
    by_cases h3 : c < 32 ∨ 126 < c
    · rw [if_pos h3]; exact .hex h2.1 h2.2
    · rw [if_neg h3]; exact .self h2.1 h2.2
theorem hx_inj {m n : Nat} (hm : m < 16) (hn : n < 16) (h : hx m = hx n) : m = n := by
  have : ∀ i j : Fin 16, hx i.val = hx j.val → i = j := by decide
  exact congrArg Fin.val (this ⟨m, hm⟩ ⟨n, hn⟩ h)
theorem qB_app {c d : UInt8} {a b : List UInt8} (h : qB c ++ a = qB d ++ b) : c = d ∧ a = b := by
  have hc := qB_is c
  have hd := qB_is d
  revert h
  generalize qB c = x at hc
  generalize qB d = y at hd
  intro h
  cases hc with
  | esc h1 =>
    cases hd with
    | esc h2 => simp only [List.cons_append, List.nil_append, List.cons.injEq, true_and] at h; exact h
    | hex h2 h3 => simp only [List.cons_append, List.nil_append, List.cons.injEq, true_and] at h; rw [h.1] at h1; exact absurd h1 (by decide)
    | self h2 h3 => simp only [List.cons_append, List.nil_append, List.cons.injEq] at h; exact absurd h.1.symm h3
  | hex h1 h1' =>
    cases hd with
    | esc h2 => simp only [List.cons_append, List.nil_append, List.cons.injEq, true_and] at h; rw [← h.1] at h2; exact absurd h2 (by decide)
    | hex h2 h3 =>
      simp only [List.cons_append, List.nil_append, List.cons.injEq, true_and] at h
      have hl := c.toNat_lt
      have hl' := d.toNat_lt
      have e1 := hx_inj (by omega) (by omega) h.1
      have e2 := hx_inj (by omega) (by omega) h.2.1
      exact ⟨UInt8.toNat_inj.1 (by omega), h.2.2⟩
    | self h2 h3 => simp only [List.cons_append, List.nil_append, List.cons.injEq] at h; exact absurd h.1.symm h3
  | self h1 h1' =>
    cases hd with
    | esc h2 => simp only [List.cons_append, List.nil_append, List.cons.injEq] at h; exact absurd h.1 h1'
    | hex h2 h3 => simp only [List.cons_append, List.nil_append, List.cons.injEq] at h; exact absurd h.1 h1'
    | self h2 h3 => simp only [List.cons_append, List.nil_append, List.cons.injEq] at h; exact h
theorem qB_34 {c : UInt8} {a b : List UInt8} (h : 34 :: a = qB c ++ b) : False := by
  have hc := qB_is c
  revert h
  generalize qB c = x at hc
  intro h
  cases hc with
  | esc h1 => simp at h
  | hex h1 h2 => simp at h
  | self h1 h2 => simp only [List.cons_append, List.nil_append, List.cons.injEq] at h; exact h1 h.1.symm
theorem quo_app : ∀ {s s' : List UInt8} {a b : List UInt8}, s.flatMap qB ++ 34 :: a = s'.flatMap qB ++ 34 :: b → s = s' ∧ a = b
  | [], [], a, b, h => ⟨rfl, by simpa using h⟩
  | [], d :: s', a, b, h => by
    rw [List.flatMap_nil, List.nil_append, List.flatMap_cons, List.append_assoc] at h
    exact (qB_34 h).elim
  | c :: s, [], a, b, h => by
    rw [List.flatMap_nil, List.nil_append, List.flatMap_cons, List.append_assoc] at h
    exact (qB_34 h.symm).elim
  | c :: s, d :: s', a, b, h => by
    rw [List.flatMap_cons, List.flatMap_cons, List.append_assoc, List.append_assoc] at h
    obtain ⟨e1, e2⟩ := qB_app h
    obtain ⟨e3, e4⟩ := quo_app e2
    exact ⟨by rw [e1, e3], e4⟩
theorem quo_app' {s s' a b : List UInt8} (h : quo s ++ a = quo s' ++ b) : s = s' ∧ a = b := by
  unfold quo at h
  simp only [List.cons_append, List.append_assoc, List.nil_append, List.cons.injEq, true_and] at h
  exact quo_app h

/-- A value that may be: its text's first sign. -/
def hdk (k : Int) (c : UInt8) : Prop := (k = 0 ∧ c = 110) ∨ (k = 1 ∧ dgc c = true) ∨ (k = 2 ∧ c = 34) ∨ (k = 3 ∧ c = 91)
theorem hdk_inj {k m : Int} {c : UInt8} (h1 : hdk k c) (h2 : hdk m c) : k = m := by
  rcases h1 with ⟨rfl, h⟩ | ⟨rfl, h⟩ | ⟨rfl, h⟩ | ⟨rfl, h⟩ <;> rcases h2 with ⟨rfl, g⟩ | ⟨rfl, g⟩ | ⟨rfl, g⟩ | ⟨rfl, g⟩ <;> first | rfl | (rw [h] at g; revert g; decide) | (rw [g] at h; revert h; decide)
theorem itoa_head (n : Int) : ∃ c x, Lib.itoa n = c :: x ∧ dgc c = true := by
  have hne : Lib.itoa n ≠ [] := by
    unfold Lib.itoa
    split
    · simp
    · obtain ⟨c, x, e, -⟩ := dec_head n.toNat; rw [e]; simp
  obtain ⟨c, x, e⟩ := List.exists_cons_of_ne_nil hne
  exact ⟨c, x, e, itoa_dg n c (by rw [e]; exact List.mem_cons_self)⟩
theorem pr_head {t : VT} {d p q : Nat} (h : t.Is d p q) : ∃ c x, t.pr = c :: x ∧ hdk t.k c := by
  cases h with
  | nil n s l _ => exact ⟨_, _, by rw [VT.pr]; simp; rfl, .inl ⟨rfl, rfl⟩⟩
  | int n s l _ =>
    obtain ⟨c, x, e, h⟩ := itoa_head n
    exact ⟨c, x, by rw [VT.pr, if_pos rfl, e], .inr (.inl ⟨rfl, h⟩)⟩
  | text n s l _ _ => exact ⟨_, _, by rw [VT.pr, if_neg (by decide), if_pos rfl]; rfl, .inr (.inr (.inl ⟨rfl, rfl⟩))⟩
  | list n s l _ _ _ => exact ⟨_, _, by rw [VT.pr, if_neg (by decide), if_neg (by decide), if_pos rfl], .inr (.inr (.inr ⟨rfl, rfl⟩))⟩
theorem hdk_dl {k : Int} {c : UInt8} (h : hdk k c) : c ≠ 32 ∧ c ≠ 93 := by
  rcases h with ⟨-, rfl⟩ | ⟨-, h⟩ | ⟨-, rfl⟩ | ⟨-, rfl⟩
  · decide
  · exact ⟨fun e => by rw [e] at h; revert h; decide, fun e => by rw [e] at h; revert h; decide⟩
  · decide
  · decide
theorem pr0 (n : Int) (s : List UInt8) (l : List VT) : (VT.mk 0 n s l).pr = [110, 105, 108] := by rw [VT.pr]; simp
theorem pr1 (n : Int) (s : List UInt8) (l : List VT) : (VT.mk 1 n s l).pr = Lib.itoa n := by rw [VT.pr]; simp
theorem pr2 (n : Int) (s : List UInt8) (l : List VT) : (VT.mk 2 n s l).pr = quo s := by rw [VT.pr]; simp
theorem pr3 (n : Int) (s : List UInt8) (l : List VT) : (VT.mk 3 n s l).pr = 91 :: (VT.prL l ++ [93]) := by rw [VT.pr]; simp
mutual
theorem pr_app : ∀ (t u : VT) {d p q d' p' q' : Nat} {a b : List UInt8}, t.walk d p 0 = (q, 0) → u.walk d' p' 0 = (q', 0) → Dl a → Dl b → t.pr ++ a = u.pr ++ b → t.cl = u.cl ∧ a = b
  | .mk k n s l, u, d, p, q, d', p', q', a, b, ht, hu, ha, hb, h => by
    have it := (walk_is ht).2
    have iu := (walk_is hu).2
    have hk : k = u.k := by
      obtain ⟨c, x, e1, e2⟩ := pr_head it
      obtain ⟨c', x', e3, e4⟩ := pr_head iu
      rw [e1, e3] at h
      have := (List.cons.inj h).1
      rw [this] at e2
      exact hdk_inj e2 e4
    cases it with
    | nil n s l _ =>
      cases iu with
      | nil n' s' l' _ =>
        rw [pr0, pr0] at h
        refine ⟨by rw [VT.cl, VT.cl]; simp, List.append_cancel_left h⟩
      | int n' s' l' _ => exact absurd hk (by show ¬ (0 : Int) = 1; decide)
      | text n' s' l' _ _ => exact absurd hk (by show ¬ (0 : Int) = 2; decide)
      | list n' s' l' _ _ _ => exact absurd hk (by show ¬ (0 : Int) = 3; decide)
    | int n s l _ =>
      cases iu with
      | nil n' s' l' _ => exact absurd hk (by show ¬ (1 : Int) = 0; decide)
      | int n' s' l' _ =>
        rw [pr1, pr1] at h
        obtain ⟨e1, e2⟩ := itoa_app ha hb h
        exact ⟨by rw [VT.cl, VT.cl, e1]; simp, e2⟩
      | text n' s' l' _ _ => exact absurd hk (by show ¬ (1 : Int) = 2; decide)
      | list n' s' l' _ _ _ => exact absurd hk (by show ¬ (1 : Int) = 3; decide)
    | text n s l _ _ =>
      cases iu with
      | nil n' s' l' _ => exact absurd hk (by show ¬ (2 : Int) = 0; decide)
      | int n' s' l' _ => exact absurd hk (by show ¬ (2 : Int) = 1; decide)
      | text n' s' l' _ _ =>
        rw [pr2, pr2] at h
        obtain ⟨e1, e2⟩ := quo_app' h
        exact ⟨by rw [VT.cl, VT.cl, e1]; simp, e2⟩
      | list n' s' l' _ _ _ => exact absurd hk (by show ¬ (2 : Int) = 3; decide)
    | list n s l h1 h2 hl =>
      cases iu with
      | nil n' s' l' _ => exact absurd hk (by show ¬ (3 : Int) = 0; decide)
      | int n' s' l' _ => exact absurd hk (by show ¬ (3 : Int) = 1; decide)
      | text n' s' l' _ _ => exact absurd hk (by show ¬ (3 : Int) = 2; decide)
      | list n' s' l' h3 h4 hl' =>
        rw [pr3, pr3] at h
        simp only [List.cons_append, List.append_assoc, List.nil_append, List.cons.injEq, true_and] at h
        obtain ⟨e1, e2⟩ := prL_app l l' hl hl' h
        exact ⟨by rw [VT.cl, VT.cl, e1]; simp, e2⟩
theorem prL_app : ∀ (l m : List VT) {d p q d' p' q' : Nat} {a b : List UInt8}, VT.walkL d p 0 l = (q, 0) → VT.walkL d' p' 0 m = (q', 0) → VT.prL l ++ 93 :: a = VT.prL m ++ 93 :: b → VT.clL l = VT.clL m ∧ a = b
  | [], [], _, _, _, _, _, _, a, b, _, _, h => ⟨rfl, by rw [VT.prL] at h; simpa using h⟩
  | [], u :: us, _, _, _, _, _, _, a, b, _, hu, h => by
    obtain ⟨q1, hu1, -⟩ := walkL_cons hu
    obtain ⟨c, x, e, hc⟩ := pr_head (walk_is hu1).2
    rw [VT.prL, VT.prL, e] at h
    exact absurd (List.cons.inj h).1.symm (hdk_dl hc).2
  | t :: ts, [], _, _, _, _, _, _, a, b, ht, _, h => by
    obtain ⟨q1, ht1, -⟩ := walkL_cons ht
    obtain ⟨c, x, e, hc⟩ := pr_head (walk_is ht1).2
    rw [VT.prL, VT.prL, e] at h
    exact absurd (List.cons.inj h).1 (hdk_dl hc).2
  | t :: ts, u :: us, _, _, _, _, _, _, a, b, ht, hu, h => by
    obtain ⟨q1, ht1, ht2⟩ := walkL_cons ht
    obtain ⟨q2, hu1, hu2⟩ := walkL_cons hu
    rw [VT.prL, VT.prL, List.append_assoc, List.append_assoc] at h
    obtain ⟨e1, e2⟩ := pr_app t u ht1 hu1 (prT_dl ts a) (prT_dl us b) h
    obtain ⟨e3, e4⟩ := prT_app ts us ht2 hu2 e2
    exact ⟨by rw [VT.clL, VT.clL, e1, e3], e4⟩
theorem prT_app : ∀ (l m : List VT) {d p q d' p' q' : Nat} {a b : List UInt8}, VT.walkL d p 0 l = (q, 0) → VT.walkL d' p' 0 m = (q', 0) → VT.prT l ++ 93 :: a = VT.prT m ++ 93 :: b → VT.clL l = VT.clL m ∧ a = b
  | [], [], _, _, _, _, _, _, a, b, _, _, h => ⟨rfl, by rw [VT.prT] at h; simpa using h⟩
  | [], u :: us, _, _, _, _, _, _, a, b, _, hu, h => by
    rw [VT.prT, VT.prT] at h
    exact absurd (List.cons.inj h).1 (by decide)
  | t :: ts, [], _, _, _, _, _, _, a, b, ht, _, h => by
    rw [VT.prT, VT.prT] at h
    exact absurd (List.cons.inj h).1 (by decide)
  | t :: ts, u :: us, _, _, _, _, _, _, a, b, ht, hu, h => by
    obtain ⟨q1, ht1, ht2⟩ := walkL_cons ht
    obtain ⟨q2, hu1, hu2⟩ := walkL_cons hu
    rw [VT.prT, VT.prT] at h
    simp only [List.cons_append, List.append_assoc, List.cons.injEq, true_and] at h
    obtain ⟨e1, e2⟩ := pr_app t u ht1 hu1 (prT_dl ts a) (prT_dl us b) h
    obtain ⟨e3, e4⟩ := prT_app ts us ht2 hu2 e2
    exact ⟨by rw [VT.clL, VT.clL, e1, e3], e4⟩
theorem prT_dl : ∀ (l : List VT) (a : List UInt8), Dl (VT.prT l ++ 93 :: a)
  | [], a => by rw [VT.prT]; exact dl_cl _
  | t :: ts, a => by rw [VT.prT]; exact dl_sp _
end
/-- Values that may be have the same text just where they are the same. -/
theorem pr_inj {t u : VT} {a b : List UInt8} (ht : t.chk = 0) (hu : u.chk = 0) (ha : Dl a) (hb : Dl b) (h : t.pr ++ a = u.pr ++ b) : t.cl = u.cl ∧ a = b := by
  obtain ⟨q, h1, -⟩ := chk_walk ht
  obtain ⟨q', h2, -⟩ := chk_walk hu
  exact pr_app t u h1 h2 ha hb h
mutual
theorem cl_pr : ∀ t : VT, t.cl.pr = t.pr
  | .mk k n s l => by
    rw [VT.cl, VT.pr, VT.pr]
    by_cases h1 : k = 1
    · simp [h1]
    by_cases h2 : k = 2
    · simp [h2]
    by_cases h3 : k = 3
    · subst h3; simp; rw [clL_pr l]
    simp [h1, h2, h3]
theorem clL_pr : ∀ l : List VT, VT.prL (VT.clL l) = VT.prL l
  | [] => by rw [VT.clL]
  | t :: ts => by rw [VT.clL, VT.prL, VT.prL, cl_pr t, clT_pr ts]
theorem clT_pr : ∀ l : List VT, VT.prT (VT.clL l) = VT.prT l
  | [] => by rw [VT.clL]
  | t :: ts => by rw [VT.clL, VT.prT, VT.prT, cl_pr t, clT_pr ts]
end

theorem ft_dl (e : EM) : ∀ fs : List UInt8, Dl (fs.flatMap e.ft)
  | [] => dl_nil
  | c :: cs => by
    rw [List.flatMap_cons]
    unfold EM.ft
    repeat' split
    all_goals first | exact dl_sp _ | exact ft_dl e cs
/-- What of two events is the same, so far as fields tell. -/
def SameF (e f : EM) (c : UInt8) : Prop := (c = 65 → e.a = f.a) ∧ (c = 66 → e.b = f.b) ∧ (c = 78 → e.name = f.name) ∧ (c = 84 → e.text = f.text) ∧ (c = 86 → e.v.cl = f.v.cl)
theorem ft_app {e f : EM} (he : e.Good) (hf : f.Good) {c : UInt8} {a b : List UInt8} (ha : Dl a) (hb : Dl b) (h : e.ft c ++ a = f.ft c ++ b) : SameF e f c ∧ a = b := by
  unfold EM.ft at h
  by_cases h1 : c = 65
  · subst h1
    simp only [if_true, List.cons_append, List.cons.injEq, true_and] at h
    obtain ⟨e1, e2⟩ := itoa_app ha hb h
    exact ⟨⟨fun _ => e1, fun h => absurd h (by decide), fun h => absurd h (by decide), fun h => absurd h (by decide), fun h => absurd h (by decide)⟩, e2⟩
  rw [if_neg h1, if_neg h1] at h
  by_cases h2 : c = 66
  · subst h2
    simp only [if_true, List.cons_append, List.cons.injEq, true_and] at h
    obtain ⟨e1, e2⟩ := itoa_app ha hb h
    exact ⟨⟨fun h => absurd h (by decide), fun _ => e1, fun h => absurd h (by decide), fun h => absurd h (by decide), fun h => absurd h (by decide)⟩, e2⟩
  rw [if_neg h2, if_neg h2] at h
  by_cases h3 : c = 78
  · subst h3
    simp only [if_true, List.cons_append, List.cons.injEq, true_and] at h
    obtain ⟨e1, e2⟩ := quo_app' h
    exact ⟨⟨fun h => absurd h (by decide), fun h => absurd h (by decide), fun _ => e1, fun h => absurd h (by decide), fun h => absurd h (by decide)⟩, e2⟩
  rw [if_neg h3, if_neg h3] at h
  by_cases h4 : c = 84
  · subst h4
    simp only [if_true, List.cons_append, List.cons.injEq, true_and] at h
    obtain ⟨e1, e2⟩ := quo_app' h
    exact ⟨⟨fun h => absurd h (by decide), fun h => absurd h (by decide), fun h => absurd h (by decide), fun _ => e1, fun h => absurd h (by decide)⟩, e2⟩
  rw [if_neg h4, if_neg h4] at h
  by_cases h5 : c = 86
  · subst h5
    simp only [if_true, List.cons_append, List.cons.injEq, true_and] at h
    obtain ⟨e1, e2⟩ := pr_inj he.v hf.v ha hb h
    exact ⟨⟨fun h => absurd h (by decide), fun h => absurd h (by decide), fun h => absurd h (by decide), fun h => absurd h (by decide), fun _ => e1⟩, e2⟩
  rw [if_neg h5, if_neg h5] at h
  exact ⟨⟨fun x => absurd x h1, fun x => absurd x h2, fun x => absurd x h3, fun x => absurd x h4, fun x => absurd x h5⟩, h⟩
theorem fts_app {e f : EM} (he : e.Good) (hf : f.Good) : ∀ {fs : List UInt8}, fs.flatMap e.ft = fs.flatMap f.ft → ∀ c ∈ fs, SameF e f c
  | [], _, c, hc => by simp at hc
  | d :: ds, h, c, hc => by
    rw [List.flatMap_cons, List.flatMap_cons] at h
    obtain ⟨e1, e2⟩ := ft_app he hf (ft_dl e ds) (ft_dl f ds) h
    rcases List.mem_cons.1 hc with rfl | hc
    · exact e1
    · exact fts_app he hf e2 c hc
theorem ev_inds {P : Int → Prop} (h : ∀ i : Fin 21, P (i.val + 1 : Nat)) {k : Int} (hk : 1 ≤ k ∧ k ≤ 21) : P k := by
  have := h ⟨k.toNat - 1, by omega⟩
  have e : ((k.toNat - 1 + 1 : Nat) : Int) = k := by omega
  rwa [e] at this
theorem evName_sp {k : Int} (hk : 1 ≤ k ∧ k ≤ 21) : ∀ c ∈ evName k, (c != 32) = true := by
  refine ev_inds (P := fun k => ∀ c ∈ evName k, (c != 32) = true) ?_ hk
  decide
theorem evName_inj {k m : Int} (hk : 1 ≤ k ∧ k ≤ 21) (hm : 1 ≤ m ∧ m ≤ 21) (h : evName k = evName m) : k = m := by
  revert h
  refine ev_inds (P := fun k => evName k = evName m → k = m) ?_ hk
  intro i
  refine ev_inds (P := fun m => evName ((i.val + 1 : Nat) : Int) = evName m → ((i.val + 1 : Nat) : Int) = m) ?_ hm
  revert i
  decide
theorem dl_sp' {a : List UInt8} (h : ∀ c z, a = c :: z → c = 32) : ∀ c z, a = c :: z → (c != 32) = false := fun c z e => by rw [h c z e]; decide
theorem fts_sp (e : EM) : ∀ (fs : List UInt8) c z, fs.flatMap e.ft = c :: z → c = 32
  | [], c, z, h => by cases h
  | d :: ds, c, z, h => by
    rw [List.flatMap_cons] at h
    unfold EM.ft at h
    repeat' split at h
    all_goals first | exact (List.cons.inj h).1.symm | exact fts_sp e ds c z h
/-- Events that may be have the same line just where they are the same. -/
theorem epr_inj {e f : EM} (he : e.Good) (hf : f.Good) (h : e.pr = f.pr) : e.cl = f.cl := by
  have hx : ∀ g : EM, g.pr = Lib.itoa g.id ++ 32 :: (64 :: (Lib.itoa g.tm ++ 32 :: (evName g.k ++ (evFlds g.k).flatMap g.ft))) := fun g => rfl
  rw [hx, hx] at h
  obtain ⟨e1, h1⟩ := itoa_app (dl_sp _) (dl_sp _) h
  have h1' := (List.cons.inj (List.cons.inj h1).2).2
  obtain ⟨e2, h2⟩ := itoa_app (dl_sp _) (dl_sp _) h1'
  have h2' := (List.cons.inj h2).2
  obtain ⟨e3, h3⟩ := run_eq (p := fun c => c != 32) (evName_sp he.k) (evName_sp hf.k) (dl_sp' (fts_sp e (evFlds e.k))) (dl_sp' (fts_sp f (evFlds f.k))) h2'
  have hk := evName_inj he.k hf.k e3
  rw [← hk] at h3
  have hs := fts_app he hf h3
  have ha : e.a = f.a := by
    by_cases m : (65 : UInt8) ∈ evFlds e.k
    · exact (hs _ m).1 rfl
    · rw [he.aF m, hf.aF (by rw [← hk]; exact m)]
  have hb : e.b = f.b := by
    by_cases m : (66 : UInt8) ∈ evFlds e.k
    · exact (hs _ m).2.1 rfl
    · rw [he.bF m, hf.bF (by rw [← hk]; exact m)]
  have hn : e.name = f.name := by
    by_cases m : (78 : UInt8) ∈ evFlds e.k
    · exact (hs _ m).2.2.1 rfl
    · rw [he.nF m, hf.nF (by rw [← hk]; exact m)]
  have ht : e.text = f.text := by
    by_cases m : (84 : UInt8) ∈ evFlds e.k
    · exact (hs _ m).2.2.2.1 rfl
    · rw [he.tF m, hf.tF (by rw [← hk]; exact m)]
  have hv : e.v.cl = f.v.cl := by
    by_cases m : (86 : UInt8) ∈ evFlds e.k
    · exact (hs _ m).2.2.2.2 rfl
    · rw [cl_nil (he.vF m), cl_nil (hf.vF (by rw [← hk]; exact m))]
  cases e; cases f
  simp only at e1 e2 hk ha hb hn ht hv
  simp only [EM.cl, e1, e2, hk, ha, hb, hn, ht, hv]
theorem cl_ft (e : EM) (c : UInt8) : e.cl.ft c = e.ft c := by unfold EM.ft EM.cl; simp only [cl_pr]
theorem ecl_pr (e : EM) : e.cl.pr = e.pr := by
  unfold EM.pr
  rw [show e.cl.ft = e.ft from funext (cl_ft e)]; rfl
theorem same_iff (e f : EM) : e.same f = true ↔ e.cl = f.cl := by
  unfold EM.same EM.cl
  simp only [Bool.and_eq_true, beq_iff_eq, EM.mk.injEq, cmp_iff, and_assoc]
end Go.Proofs.YtokefeemhgcmhaaGreatDoor
