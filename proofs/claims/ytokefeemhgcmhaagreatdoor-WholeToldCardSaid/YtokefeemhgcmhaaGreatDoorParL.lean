/- value.Parse, plainly: the text of a value is read as that value; what is read is a value whose text it is. No program. -/
import Derived.Test.YtokefeemhgcmhaaGreatDoorPar
import Derived.Lib.ParseIntBTie
namespace Go.Proofs.YtokefeemhgcmhaaGreatDoor

set_option maxRecDepth 100000 in
theorem twoH_hx (c : UInt8) (h : c < 32 ∨ 126 < c) : twoH (some (hx (c.toNat / 16))) (some (hx (c.toNat % 16))) = some c := by
  have key : ∀ i : Fin 256, i.val < 32 ∨ 126 < i.val → twoH (some (hx (i.val / 16))) (some (hx (i.val % 16))) = some (UInt8.ofNat i.val) := by decide +kernel
  have h' : c.toNat < 32 ∨ 126 < c.toNat := by
    rw [UInt8.lt_iff_toNat_lt, UInt8.lt_iff_toNat_lt] at h
    simpa using h
  have := key ⟨c.toNat, c.toNat_lt⟩ h'
  simpa using this
theorem unq_qB : ∀ (s acc a : List UInt8), unq acc (s.flatMap qB ++ 34 :: a) = some (acc ++ s, a)
  | [], acc, a => by rw [List.flatMap_nil, List.nil_append, unq, if_pos rfl, List.append_nil]
  | c :: s, acc, a => by
    have ih := unq_qB s (acc ++ [c]) a
    rw [List.append_assoc] at ih
    rw [List.flatMap_cons, List.append_assoc]
    generalize s.flatMap qB ++ 34 :: a = y at ih
    unfold qB
    by_cases h1 : c = 34 ∨ c = 92
    · rw [if_pos h1]
      show unq acc (92 :: c :: y) = _
      rw [unq, if_neg (by decide), if_neg (by decide), if_neg (by simp)]
      rcases h1 with rfl | rfl
      · rw [if_pos (by simp)]; exact ih
      · rw [if_neg (by simp), if_pos (by simp)]; exact ih
    rw [if_neg h1]
    have h2 := not_or.1 h1
    by_cases h3 : c < 32 ∨ 126 < c
    · rw [if_pos h3]
      show unq acc (92 :: 120 :: hx (c.toNat / 16) :: hx (c.toNat % 16) :: y) = _
      rw [unq, if_neg (by decide), if_neg (by decide), if_neg (by simp), if_neg (by simp), if_neg (by simp), if_pos ⟨rfl, by simp⟩]
      have e := twoH_hx c h3
      simp only [List.getElem?_cons_succ, List.getElem?_cons_zero, e]
      exact ih
    · rw [if_neg h3]
      show unq acc (c :: y) = _
      rw [unq, if_neg h2.1, if_neg h3, if_pos h2.2]
      exact ih
theorem head_of {l : List UInt8} {c : UInt8} (h : l[0]? = some c) : l = c :: l.drop 1 := by
  cases l with
  | nil => simp at h
  | cons a l => simp at h ⊢; exact h
theorem unq_snd : ∀ (n : Nat) (l acc t r : List UInt8), l.length ≤ n → unq acc l = some (t, r) → ∃ u, t = acc ++ u ∧ l = u.flatMap qB ++ 34 :: r
  | _, [], acc, t, r, _, h => by rw [unq] at h; cases h
  | 0, c :: l, acc, t, r, hn, _ => by simp at hn
  | n + 1, c :: l, acc, t, r, hn, h => by
    have hn' : l.length ≤ n := by simp at hn; omega
    have step : ∀ j x, (c :: l) = qB x ++ l.drop j → unq (acc ++ [x]) (l.drop j) = some (t, r) → ∃ u, t = acc ++ u ∧ (c :: l) = u.flatMap qB ++ 34 :: r := fun j x hq h => by
      obtain ⟨u, h1, h2⟩ := unq_snd n (l.drop j) _ t r (by rw [List.length_drop]; omega) h
      refine ⟨x :: u, by rw [h1, List.append_assoc]; rfl, ?_⟩
      rw [hq, h2, List.flatMap_cons, List.append_assoc]
    rw [unq] at h
    by_cases h1 : c = 34
    · rw [if_pos h1] at h
      simp only [Option.some.injEq, Prod.mk.injEq] at h
      exact ⟨[], by rw [h.1, List.append_nil], by rw [h1, h.2]; rfl⟩
    rw [if_neg h1] at h
    by_cases h2 : c < 32 ∨ 126 < c
    · rw [if_pos h2] at h; cases h
    rw [if_neg h2] at h
    by_cases h3 : c ≠ 92
    · rw [if_pos h3] at h
      refine step 0 c ?_ h
      unfold qB
      rw [if_neg (by rintro (e | e); exact h1 e; exact h3 e), if_neg h2]; rfl
    rw [if_neg h3] at h
    have h3' : c = 92 := by simpa using h3
    by_cases h4 : l[0]? = some 34
    · rw [if_pos h4] at h
      refine step 1 34 ?_ h
      have := head_of h4
      rw [h3']
      conv => lhs; rw [this]
      rfl
    rw [if_neg h4] at h
    by_cases h5 : l[0]? = some 92
    · rw [if_pos h5] at h
      refine step 1 92 ?_ h
      have := head_of h5
      rw [h3']
      conv => lhs; rw [this]
      rfl
    rw [if_neg h5] at h
    by_cases h6 : l[0]? = some 120 ∧ 3 ≤ l.length
    · rw [if_pos h6] at h
      cases hx : twoH l[1]? l[2]? with
      | none => rw [hx] at h; cases h
      | some x =>
        rw [hx] at h
        refine step 3 x ?_ h
        obtain ⟨a, b, ha, hb, hq⟩ := twoH_is hx
        rw [hq, h3']
        match l, h6.1, ha, hb with
        | [], e, _, _ => simp at e
        | [_], _, e, _ => simp at e
        | [_, _], _, _, e => simp at e
        | x0 :: x1 :: x2 :: l, e0, e1, e2 =>
          simp at e0 e1 e2
          rw [e0, e1, e2]; rfl
    · rw [if_neg h6] at h; cases h

/-- Digits. -/
theorem dec_is (u : Nat) : ∀ c ∈ Lib.decDigits u, isDg c = true := by
  induction u using Nat.strongRecOn with
  | ind u ih =>
    have one : ∀ j : Fin 10, isDg (UInt8.ofNat (48 + j.val)) = true := by decide
    rw [Lib.decDigits]
    by_cases h : u < 10
    · rw [dif_pos h]; intro c hc; simp only [List.mem_singleton] at hc; rw [hc]; exact one ⟨u, h⟩
    · rw [dif_neg h]; intro c hc
      rw [List.mem_append] at hc
      rcases hc with hc | hc
      · exact ih (u / 10) (by omega) c hc
      · simp only [List.mem_singleton] at hc; rw [hc]; exact one ⟨u % 10, by omega⟩
theorem isDg_nat {c : UInt8} (h : isDg c = true) : 48 ≤ c.toNat ∧ c.toNat ≤ 57 := by
  unfold isDg at h
  simp only [Bool.and_eq_true, decide_eq_true_eq] at h
  rw [UInt8.le_iff_toNat_le, UInt8.le_iff_toNat_le] at h
  simpa using h
theorem undF_ge : ∀ (l : List UInt8) (acc : Nat), acc ≤ l.foldl (fun n c => 10 * n + (c.toNat - 48)) acc
  | [], acc => Nat.le_refl _
  | c :: l, acc => by rw [List.foldl_cons]; have := undF_ge l (10 * acc + (c.toNat - 48)); omega
theorem pum_ok : ∀ (l : List UInt8) (acc : Nat), (∀ c ∈ l, isDg c = true) → l.foldl (fun n c => 10 * n + (c.toNat - 48)) acc ≤ 18446744073709551615 → Lib.parseUintM (2 ^ 64 - 1) acc l = .ok (l.foldl (fun n c => 10 * n + (c.toNat - 48)) acc)
  | [], acc, _, _ => by rw [Lib.parseUintM]; rfl
  | c :: l, acc, hd, hm => by
    rw [List.foldl_cons] at hm ⊢
    have hc := isDg_nat (hd c List.mem_cons_self)
    have hge := undF_ge l (10 * acc + (c.toNat - 48))
    rw [Lib.parseUintM, if_pos hc, if_neg (by omega), if_neg (by omega), Nat.mul_comm acc 10]
    exact pum_ok l _ (fun c hc => hd c (List.mem_cons_of_mem _ hc)) hm
theorem pub_dec (u : Nat) (h : u ≤ 18446744073709551615) : Lib.parseUintB 64 (Lib.decDigits u) = .ok u := by
  obtain ⟨c, x, e, -⟩ := dec_head u
  have hu : (Lib.decDigits u).foldl (fun n c => 10 * n + (c.toNat - 48)) 0 = u := und_dec u
  unfold Lib.parseUintB
  rw [if_neg (by rw [e]; simp), pum_ok _ _ (dec_is u) (by rw [hu]; exact h), hu]
theorem rdInt_itoa {n : Int} (h1 : -9223372036854775808 ≤ n) (h2 : n ≤ 9223372036854775807) : rdInt (Lib.itoa n) = some n := by
  have hp : Lib.parseIntB 64 (Lib.itoa n) = .ok n := by
    unfold Lib.itoa
    by_cases hn : n < 0
    · rw [if_pos hn]
      unfold Lib.parseIntB
      have e45 : (45 : UInt8).toNat = 45 := rfl
      simp only
      rw [if_pos (by right; rfl), pub_dec _ (by omega)]
      simp only
      rw [if_neg (fun h => h.1 e45), if_neg (by intro h; have := h.2; omega), if_pos e45]
      congr 1; omega
    · rw [if_neg hn]
      obtain ⟨c, x, e, h3, h4⟩ := dec_head n.toNat
      have hpd := pub_dec n.toNat (by omega)
      rw [e] at hpd ⊢
      rw [UInt8.le_iff_toNat_le] at h3
      have h3' : 48 ≤ c.toNat := by simpa using h3
      unfold Lib.parseIntB
      simp only
      rw [if_neg (by omega), hpd]
      simp only
      rw [if_neg (by omega), if_neg (by omega), if_neg (by omega)]
      congr 1; omega
  unfold rdInt
  rw [hp]
  simp
theorem runN_app : ∀ (l a : List UInt8), (∀ c ∈ l, isDg c = true) → (∀ c x, a = c :: x → isDg c = false) → runN (l ++ a) = l.length
  | [], [], _, _ => rfl
  | [], c :: a, _, h => by show runN (c :: a) = 0; rw [runN, if_neg (by rw [h c a rfl]; simp)]
  | c :: l, a, hd, h => by
    rw [List.cons_append, runN, if_pos (hd c List.mem_cons_self), runN_app l a (fun c hc => hd c (List.mem_cons_of_mem _ hc)) h]; rfl
theorem dl_isDg {a : List UInt8} (h : Dl a) : ∀ c x, a = c :: x → isDg c = false := fun c x e => by
  rcases h c x e with rfl | rfl <;> decide
theorem numN_itoa {n : Int} {a : List UInt8} (ha : Dl a) : numN (Lib.itoa n ++ a) = (Lib.itoa n).length := by
  unfold Lib.itoa
  by_cases hn : n < 0
  · rw [if_pos hn]
    show numN (45 :: (Lib.decDigits _ ++ a)) = _
    unfold numN
    rw [if_pos (by simp)]
    show runN (Lib.decDigits _ ++ a) + 1 = _
    rw [runN_app _ _ (dec_is _) (dl_isDg ha)]; rfl
  · rw [if_neg hn]
    obtain ⟨c, x, e, h3, h4⟩ := dec_head n.toNat
    unfold numN
    rw [if_neg (by
      rw [e]
      intro h
      simp at h
      rw [h] at h3
      exact absurd h3 (by decide))]
    exact runN_app _ _ (dec_is _) (dl_isDg ha)
theorem parI_itoa {n : Int} {a : List UInt8} (h1 : -9223372036854775808 ≤ n) (h2 : n ≤ 9223372036854775807) (ha : Dl a) : parI (Lib.itoa n ++ a) = some (.mk 1 n [] [], a) := by
  unfold parI
  rw [numN_itoa ha, List.take_left, List.drop_left, rdInt_itoa h1 h2]; rfl
theorem pr_pos (t : VT) : 1 ≤ t.pr.length := by
  obtain ⟨k, n, s, l⟩ := t
  rw [VT.pr]
  split
  · obtain ⟨c, x, e, -⟩ := itoa_head n; rw [e]; simp
  split
  · unfold quo; simp
  split
  · simp
  · simp
theorem prT_len : ∀ l : List VT, l.length ≤ (VT.prT l).length
  | [] => by simp
  | t :: ts => by rw [VT.prT]; have := prT_len ts; simp; omega
theorem prL_len : ∀ l : List VT, l.length ≤ (VT.prL l).length
  | [] => by simp
  | t :: ts => by rw [VT.prL]; have := prT_len ts; have := pr_pos t; simp; omega
theorem parV_is (f : Nat) (l : List UInt8) : parV f l = if l.take 3 = [110, 105, 108] then (false, some (.nil, l.drop 3))
    else if l[0]? = some 34 then (false, (unq [] (l.drop 1)).map fun x => (.mk 2 0 x.1 [], x.2))
    else if l[0]? = some 91 then (match f with
      | 0 => (true, none)
      | f + 1 => parL (parV f) (l.length + 1) [] (l.drop 1))
    else (false, parI l) := by cases f <;> rw [parV]
mutual
theorem parV_pr : ∀ (t : VT) (f d p q : Nat) (a : List UInt8), t.walk d p 0 = (q, 0) → t.rg → d + f = 8 → Dl a → parV f (t.pr ++ a) = (false, some (t.cl, a))
  | .mk k n s l, f, d, p, q, a, hw, hg, hf, ha => by
    obtain ⟨hp, his⟩ := walk_is hw
    rw [VT.rg] at hg
    obtain ⟨-, -, hn0, hn1, -, -, hgl⟩ := hg
    cases his with
    | nil _ _ _ hq =>
      rw [pr0, parV_is, if_pos (by simp), VT.cl]; simp; rfl
    | int _ _ _ hq =>
      obtain ⟨c, x, e, hc⟩ := itoa_head n
      have hi := parI_itoa (n := n) hn0 hn1 ha
      rw [pr1, parV_is]
      rw [if_neg (by
        rw [e]; intro h
        have := (List.cons.inj h).1
        rw [this] at hc; revert hc; decide), if_neg (by
        rw [e]; intro h; simp at h; rw [h] at hc; revert hc; decide), if_neg (by
        rw [e]; intro h; simp at h; rw [h] at hc; revert hc; decide), hi, VT.cl]
      simp
    | text _ _ _ hs hq =>
      have hu := unq_qB s [] a
      rw [pr2, parV_is]
      have e : quo s ++ a = 34 :: (s.flatMap qB ++ 34 :: a) := by unfold quo; simp
      rw [e, if_neg (by intro h; have := (List.cons.inj h).1; revert this; decide), if_pos (by simp)]
      show (false, (unq [] (s.flatMap qB ++ 34 :: a)).map _) = _
      rw [hu, VT.cl]; simp
    | list _ _ _ h1 h2 hl =>
      rw [pr3, parV_is]
      have e : 91 :: (VT.prL l ++ [93]) ++ a = 91 :: (VT.prL l ++ 93 :: a) := by simp
      rw [e, if_neg (by intro h; have := (List.cons.inj h).1; revert this; decide), if_neg (by simp), if_pos (by simp)]
      obtain ⟨g, rfl⟩ : ∃ g, f = g + 1 := ⟨f - 1, by omega⟩
      show parL (parV g) _ [] (VT.prL l ++ 93 :: a) = _
      rw [parL_pr l g (d + 1) _ _ a [] _ hl hgl (by omega) (by have := prL_len l; simp; omega) (VT.prL l ++ 93 :: a) (by rw [if_pos rfl]), VT.cl]
      simp
theorem parL_pr : ∀ (l : List VT) (f d p q : Nat) (a : List UInt8) (acc : List VT) (n : Nat), VT.walkL d p 0 l = (q, 0) → VT.rgL l → d + f = 8 → l.length < n → ∀ x, x = (if acc = [] then VT.prL l else VT.prT l) ++ 93 :: a → parL (parV f) n acc x = (false, some (.mk 3 0 [] (acc ++ VT.clL l), a))
  | [], f, d, p, q, a, acc, n, hw, hg, hf, hn, x, hx => by
    obtain ⟨m, rfl⟩ : ∃ m, n = m + 1 := ⟨n - 1, by simp at hn; omega⟩
    have e : x = 93 :: a := by rw [hx]; split <;> (first | rw [VT.prL] | rw [VT.prT]) <;> rfl
    rw [e, parL, if_pos (by simp), VT.clL, List.append_nil]; rfl
  | t :: ts, f, d, p, q, a, acc, n, hw, hg, hf, hn, x, hx => by
    obtain ⟨m, rfl⟩ : ∃ m, n = m + 1 := ⟨n - 1, by simp at hn; omega⟩
    obtain ⟨q1, h1, h2⟩ := walkL_cons hw
    rw [VT.rgL] at hg
    have iv := parV_pr t f d _ _ (VT.prT ts ++ 93 :: a) h1 hg.1 hf (prT_dl ts a)
    have il := parL_pr ts f d _ _ a (acc ++ [t.cl]) m h2 hg.2 hf (by simp at hn; omega) (VT.prT ts ++ 93 :: a) (by rw [if_neg (by simp)])
    rw [List.append_assoc] at il
    rw [VT.clL]
    by_cases hacc : acc = []
    · rw [if_pos hacc, VT.prL, List.append_assoc] at hx
      obtain ⟨c, y, e, hc⟩ := pr_head (walk_is h1).2
      rw [parL, if_neg (by rw [hx, e]; simp; exact (hdk_dl hc).2), if_neg (by simp [hacc]), if_neg (by simp [hacc]), hx, iv]
      exact il
    · rw [if_neg hacc, VT.prT] at hx
      have e : x = 32 :: (t.pr ++ (VT.prT ts ++ 93 :: a)) := by rw [hx]; simp
      rw [parL, if_neg (by rw [e]; simp), if_neg (by rw [e]; simp), if_pos hacc, e]
      show (match parV f (t.pr ++ (VT.prT ts ++ 93 :: a)) with | (d, none) => (d, none) | (_, some (t, r)) => parL (parV f) m (acc ++ [t]) r) = _
      rw [iv]
      exact il
end
theorem parA_pr {t : VT} (h : t.chk = 0) (hg : t.rg) : parA t.pr = (t.cl, 0) := by
  obtain ⟨q, hw, -⟩ := chk_walk h
  have := parV_pr t 8 0 0 q [] hw hg rfl dl_nil
  rw [List.append_nil] at this
  unfold parA
  rw [this]
  simp only
  rw [if_neg (by simp), if_neg (by rw [cl_chk, h]; simp)]

/-- What is read. -/
def Sound (t : VT) : Prop := t.cl = t ∧ t.rg ∧ t.kd
theorem parL_snd {g : List UInt8 → Bool × Option (VT × List UInt8)} (hg : ∀ l d t r, l.length ≤ 9223372036854775807 → g l = (d, some (t, r)) → l = t.pr ++ r ∧ Sound t) :
    ∀ (n : Nat) (acc : List VT) (l : List UInt8) (d : Bool) (t : VT) (r : List UInt8), l.length ≤ 9223372036854775807 → parL g n acc l = (d, some (t, r)) → ∃ m, t = .mk 3 0 [] (acc ++ m) ∧ l = (if acc = [] then VT.prL m else VT.prT m) ++ 93 :: r ∧ VT.clL m = m ∧ VT.rgL m ∧ VT.kdL m
  | 0, _, _, _, _, _, _, h => by rw [parL] at h; simp at h
  | n + 1, acc, l, d, t, r, hl, h => by
    rw [parL] at h
    by_cases h1 : l[0]? = some 93
    · rw [if_pos h1] at h
      simp only [Prod.mk.injEq, Option.some.injEq] at h
      refine ⟨[], by rw [← h.2.1, List.append_nil], ?_, by rw [VT.clL], by rw [VT.rgL]; trivial, by rw [VT.kdL]; trivial⟩
      rw [← h.2.2]
      have := head_of h1
      conv => lhs; rw [this]
      split <;> (first | rw [VT.prL] | rw [VT.prT]) <;> rfl
    rw [if_neg h1] at h
    by_cases h2 : acc ≠ [] ∧ l[0]? ≠ some 32
    · rw [if_pos h2] at h; simp at h
    rw [if_neg h2] at h
    cases hgr : g (if acc ≠ [] then l.drop 1 else l) with
    | mk d' o =>
      rw [hgr] at h
      cases o with
      | none => simp at h
      | some x =>
        obtain ⟨t', r'⟩ := x
        simp only at h
        have hle : (if acc ≠ [] then l.drop 1 else l).length ≤ 9223372036854775807 := by
          split
          · rw [List.length_drop]; omega
          · exact hl
        obtain ⟨h3, h4⟩ := hg _ _ _ _ hle hgr
        have hr' : r'.length ≤ 9223372036854775807 := by
          have := congrArg List.length h3
          rw [List.length_append] at this
          split at this
          · rw [List.length_drop] at this; omega
          · omega
        obtain ⟨m, e1, e2, e3, e4, e5⟩ := parL_snd hg n _ _ _ _ _ hr' h
        rw [if_neg (by simp)] at e2
        refine ⟨t' :: m, by rw [e1, List.append_assoc]; rfl, ?_, by rw [VT.clL, h4.1, e3], by rw [VT.rgL]; exact ⟨h4.2.1, e4⟩, by rw [VT.kdL]; exact ⟨h4.2.2, e5⟩⟩
        by_cases hacc : acc = []
        · rw [if_neg (by simp [hacc])] at h3
          rw [if_pos hacc, h3, e2, VT.prL, List.append_assoc]
        · rw [if_pos hacc] at h3
          have hsp : l[0]? = some 32 := by
            rcases Classical.em (l[0]? = some 32) with h | h
            · exact h
            · exact absurd ⟨hacc, h⟩ h2
          have := head_of hsp
          rw [if_neg hacc, this, h3, e2, VT.prT]
          simp
theorem itoa_rdInt {s : List UInt8} {v : Int} (h : rdInt s = some v) : Lib.itoa v = s ∧ -9223372036854775808 ≤ v ∧ v ≤ 9223372036854775807 := by
  refine ⟨(rdInt_pos h).2, ?_⟩
  unfold rdInt at h
  rcases hp : Lib.parseIntB 64 s with u | _ | _
  ·
    rw [hp] at h
    simp only at h
    by_cases hu : Lib.itoa u = s
    · rw [if_pos hu] at h
      cases h
      have := Lib.parseIntB_bounds hp
      have e : ((2 ^ (64 - 1) : Nat) : Int) = 9223372036854775808 := by decide
      rw [e] at this
      omega
    · rw [if_neg hu] at h; cases h
  · rw [hp] at h; cases h
  · rw [hp] at h; cases h
theorem parV_snd : ∀ (f : Nat) (l : List UInt8) (d : Bool) (t : VT) (r : List UInt8), l.length ≤ 9223372036854775807 → parV f l = (d, some (t, r)) → l = t.pr ++ r ∧ Sound t := by
  intro f
  induction f with
  | zero =>
    intro l d t r hl h
    rw [parV_is] at h
    by_cases h1 : l.take 3 = [110, 105, 108]
    · rw [if_pos h1] at h
      simp only [Prod.mk.injEq, Option.some.injEq] at h
      rw [← h.2.1, ← h.2.2]
      refine ⟨?_, ?_⟩
      · show l = (VT.mk 0 0 [] []).pr ++ _
        rw [pr0, ← h1, List.take_append_drop]
      · exact nil_snd
    rw [if_neg h1] at h
    by_cases h2 : l[0]? = some 34
    · rw [if_pos h2] at h; exact text_snd hl h2 h
    rw [if_neg h2] at h
    by_cases h3 : l[0]? = some 91
    · rw [if_pos h3] at h; simp at h
    rw [if_neg h3] at h
    exact int_snd h
  | succ f ih =>
    intro l d t r hl h
    rw [parV_is] at h
    by_cases h1 : l.take 3 = [110, 105, 108]
    · rw [if_pos h1] at h
      simp only [Prod.mk.injEq, Option.some.injEq] at h
      rw [← h.2.1, ← h.2.2]
      refine ⟨?_, ?_⟩
      · show l = (VT.mk 0 0 [] []).pr ++ _
        rw [pr0, ← h1, List.take_append_drop]
      · exact nil_snd
    rw [if_neg h1] at h
    by_cases h2 : l[0]? = some 34
    · rw [if_pos h2] at h; exact text_snd hl h2 h
    rw [if_neg h2] at h
    by_cases h3 : l[0]? = some 91
    · rw [if_pos h3] at h
      have hh := head_of h3
      obtain ⟨m, e1, e2, e3, e4, e5⟩ := parL_snd ih _ _ _ _ _ _ (by rw [List.length_drop]; omega) h
      rw [if_pos rfl] at e2
      rw [List.nil_append] at e1
      have hml : m.length ≤ l.length := by
        have h1 := prL_len m
        have h2 := congrArg List.length e2
        simp at h2
        omega
      refine ⟨?_, ?_⟩
      · rw [e1, pr3, hh, e2]; simp
      · rw [e1]
        refine ⟨by rw [VT.cl, e3]; simp, ?_, ?_⟩
        · rw [VT.rg]; exact ⟨by decide, by decide, by decide, by decide, by simp, by omega, e4⟩
        · rw [VT.kd]; exact ⟨by decide, by decide, fun _ => e5⟩
    rw [if_neg h3] at h
    exact int_snd h
where
  nil_snd : Sound .nil := by
    refine ⟨by show (VT.mk 0 0 [] []).cl = _; rw [VT.cl]; rfl, ?_, ?_⟩
    · show (VT.mk 0 0 [] []).rg
      rw [VT.rg, VT.rgL]; exact ⟨by decide, by decide, by decide, by decide, by simp, by simp, trivial⟩
    · show (VT.mk 0 0 [] []).kd
      rw [VT.kd]; exact ⟨by decide, by decide, fun e => absurd e (by decide)⟩
  text_snd {l : List UInt8} {d : Bool} {t : VT} {r : List UInt8} (hl : l.length ≤ 9223372036854775807) (h2 : l[0]? = some 34) (h : (false, (unq [] (l.drop 1)).map fun x => (VT.mk 2 0 x.1 [], x.2)) = (d, some (t, r))) : l = t.pr ++ r ∧ Sound t := by
    cases hu : unq [] (l.drop 1) with
    | none => rw [hu] at h; simp at h
    | some x =>
      obtain ⟨s, r'⟩ := x
      rw [hu] at h
      simp at h
      obtain ⟨u, e1, e2⟩ := unq_snd _ _ _ _ _ (Nat.le_refl _) hu
      rw [List.nil_append] at e1
      subst e1
      have hh := head_of h2
      have hsl : s.length ≤ l.length := by
        have h3 : ∀ s : List UInt8, s.length ≤ (s.flatMap qB).length := by
          intro s
          induction s with
          | nil => simp
          | cons c s ih =>
            have : 1 ≤ (qB c).length := by unfold qB; split; simp; split <;> simp
            rw [List.flatMap_cons, List.length_append, List.length_cons]; omega
        have h4 := congrArg List.length e2
        have := h3 s
        simp only [List.length_drop, List.length_append, List.length_cons] at h4
        omega
      rw [← h.2.1, ← h.2.2]
      refine ⟨?_, by rw [VT.cl]; simp, ?_, ?_⟩
      · rw [pr2, hh, e2]; unfold quo; simp
      · rw [VT.rg, VT.rgL]; exact ⟨by decide, by decide, by decide, by decide, by omega, by simp, trivial⟩
      · rw [VT.kd]; exact ⟨by decide, by decide, fun e => absurd e (by decide)⟩
  int_snd {l : List UInt8} {d : Bool} {t : VT} {r : List UInt8} (h : (false, parI l) = (d, some (t, r))) : l = t.pr ++ r ∧ Sound t := by
    unfold parI at h
    cases hr : rdInt (l.take (numN l)) with
    | none => rw [hr] at h; simp at h
    | some v =>
      rw [hr] at h
      simp at h
      obtain ⟨e1, e2, e3⟩ := itoa_rdInt hr
      rw [← h.2.1, ← h.2.2]
      refine ⟨by rw [pr1, e1, List.take_append_drop], by rw [VT.cl]; simp, ?_, ?_⟩
      · rw [VT.rg, VT.rgL]; exact ⟨by decide, by decide, e2, e3, by simp, by simp, trivial⟩
      · rw [VT.kd]; exact ⟨by decide, by decide, fun e => absurd e (by decide)⟩
/-- Why a value of any known kinds mayn't be. -/
def Err3 (e : Int) : Prop := e = 0 ∨ e = 2 ∨ e = 30
mutual
theorem kd_walk : ∀ (t : VT) (d p : Nat) (e : Int), t.kd → Err3 e → Err3 (t.walk d p e).2
  | .mk k n s l, d, p, e, hk, he => by
    rw [VT.kd] at hk
    rw [VT.walk]
    split
    · exact he
    split
    · exact .inr (.inl rfl)
    split
    · exact .inl rfl
    split
    · show Err3 (if 256 < s.length then 2 else 0)
      split
      · exact .inr (.inl rfl)
      · exact .inl rfl
    split
    · rename_i h3
      refine kdL_walk l _ _ _ (hk.2.2 h3) ?_
      split
      · exact .inr (.inr rfl)
      split
      · exact .inr (.inl rfl)
      · exact .inl rfl
    · omega
theorem kdL_walk : ∀ (l : List VT) (d p : Nat) (e : Int), VT.kdL l → Err3 e → Err3 (VT.walkL d p e l).2
  | [], d, p, e, _, he => by rw [VT.walkL]; exact he
  | t :: ts, d, p, e, hk, he => by
    rw [VT.kdL] at hk
    rw [VT.walkL]
    split
    · exact he
    · exact kdL_walk ts _ _ _ hk.2 (kd_walk t _ _ _ hk.1 he)
end
theorem kd_chk {t : VT} (h : t.kd) : Err3 t.chk := by
  unfold VT.chk
  split
  · exact kd_walk t 0 0 0 h (.inl rfl)
  split
  · exact .inr (.inl rfl)
  · exact .inl rfl
/-- value.Parse: what it answers. -/
theorem parA_snd {l : List UInt8} (hl : l.length ≤ 9223372036854775807) : ((parA l).2 = 0 ∧ (parA l).1.chk = 0 ∧ (parA l).1.pr = l ∧ Sound (parA l).1) ∨ (((parA l).2 = 8 ∨ (parA l).2 = 30 ∨ (parA l).2 = 2) ∧ (parA l).1 = .nil) := by
  unfold parA
  cases h : parV 8 l with
  | mk d o =>
    cases d with
    | true => exact .inr ⟨.inr (.inl rfl), rfl⟩
    | false =>
      cases o with
      | none => exact .inr ⟨.inl rfl, rfl⟩
      | some x =>
        obtain ⟨t, r⟩ := x
        obtain ⟨h1, h2⟩ := parV_snd 8 l _ _ _ hl h
        simp only
        by_cases hr : r ≠ []
        · rw [if_pos hr]; exact .inr ⟨.inl rfl, rfl⟩
        · rw [if_neg hr]
          have hr' : r = [] := by simpa using hr
          rw [hr', List.append_nil] at h1
          by_cases hc : t.chk ≠ 0
          · rw [if_pos hc]
            rcases kd_chk h2.2.2 with e | e | e
            · exact absurd e hc
            · exact .inr ⟨.inr (.inr e), rfl⟩
            · exact .inr ⟨.inr (.inl e), rfl⟩
          · rw [if_neg hc]
            exact .inl ⟨rfl, by simpa using hc, h1.symm, h2⟩
end Go.Proofs.YtokefeemhgcmhaaGreatDoor
