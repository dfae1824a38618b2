/- Plain laws: clones, the order, parts. -/
import Derived.Test.YtihidpfkdpjdpaaGreatDoorValR
namespace Go.Proofs.YtihidpfkdpjdpaaGreatDoor

theorem clL_length : ∀ l : List VT, (VT.clL l).length = l.length
  | [] => by rw [VT.clL]
  | t :: ts => by rw [VT.clL, List.length_cons, clL_length ts, List.length_cons]
mutual
theorem cl_wr : ∀ t : VT, t.cl.wr = t.wr
  | .mk k n s l => by
    rw [VT.cl, VT.wr, VT.wr]
    congr 1
    by_cases h1 : k = 1
    · subst h1; simp
    rw [if_neg h1, if_neg h1]
    by_cases h2 : k = 2
    · subst h2; simp
    rw [if_neg h2, if_neg h2]
    by_cases h3 : k = 3
    · subst h3; simp [clL_length, clL_wr l]
    rw [if_neg h3, if_neg h3]
theorem clL_wr : ∀ l : List VT, VT.wrL (VT.clL l) = VT.wrL l
  | [] => by rw [VT.clL]
  | t :: ts => by rw [VT.clL, VT.wrL, VT.wrL, cl_wr t, clL_wr ts]
end
mutual
theorem cl_cl : ∀ t : VT, t.cl.cl = t.cl
  | .mk k n s l => by
    rw [VT.cl, VT.cl]
    congr 1
    · by_cases h : k = 1 <;> simp [h]
    · by_cases h : k = 2 <;> simp [h]
    · by_cases h : k = 3
      · simp [h, clL_clL l]
      · simp [h]
theorem clL_clL : ∀ l : List VT, VT.clL (VT.clL l) = VT.clL l
  | [] => by rw [VT.clL, VT.clL]
  | t :: ts => by rw [VT.clL, VT.clL, cl_cl t, clL_clL ts]
end
mutual
theorem cl_walk : ∀ (t : VT) (d p : Nat) (e : Int), t.cl.walk d p e = t.walk d p e
  | .mk k n s l, d, p, e => by
    rw [VT.cl, VT.walk, VT.walk]
    by_cases he : e ≠ 0
    · rw [if_pos he, if_pos he]
    rw [if_neg he, if_neg he]
    by_cases hp : 256 < p + 1
    · rw [if_pos hp, if_pos hp]
    rw [if_neg hp, if_neg hp]
    by_cases h01 : k = 0 ∨ k = 1
    · rw [if_pos h01, if_pos h01]
    rw [if_neg h01, if_neg h01]
    by_cases h2 : k = 2
    · subst h2; simp
    rw [if_neg h2, if_neg h2]
    by_cases h3 : k = 3
    · subst h3; simp [clL_length, clL_walk l]
    rw [if_neg h3, if_neg h3]
theorem clL_walk : ∀ (l : List VT) (d p : Nat) (e : Int), VT.walkL d p e (VT.clL l) = VT.walkL d p e l
  | [], d, p, e => by rw [VT.clL]
  | t :: ts, d, p, e => by rw [VT.clL, VT.walkL, VT.walkL, cl_walk t, clL_walk ts]
end
theorem cl_chk (t : VT) : t.cl.chk = t.chk := by unfold VT.chk; rw [cl_walk, cl_wr]
mutual
theorem cl_parts : ∀ t : VT, t.cl.parts = t.parts
  | .mk k n s l => by
    rw [VT.cl, VT.parts, VT.parts]
    by_cases h3 : k = 3
    · simp [h3, clL_parts l]
    · simp [h3]
theorem clL_parts : ∀ l : List VT, VT.partsL (VT.clL l) = VT.partsL l
  | [] => by rw [VT.clL]
  | t :: ts => by rw [VT.clL, VT.partsL, VT.partsL, cl_parts t, clL_parts ts]
end
mutual
theorem cl_rg : ∀ t : VT, t.rg → t.cl.rg
  | .mk k n s l, h => by
    rw [VT.rg] at h
    rw [VT.cl, VT.rg]
    obtain ⟨h1, h2, h3, h4, h5, h6, h7⟩ := h
    refine ⟨h1, h2, ?_, ?_, ?_, ?_, ?_⟩
    · split <;> omega
    · split <;> omega
    · split
      · exact h5
      · simp
    · split
      · rw [clL_length]; exact h6
      · simp
    · split
      · exact clL_rg l h7
      · rw [VT.rgL]; trivial
theorem clL_rg : ∀ l : List VT, VT.rgL l → VT.rgL (VT.clL l)
  | [], h => by rw [VT.clL]; exact h
  | t :: ts, h => by rw [VT.rgL] at h; rw [VT.clL, VT.rgL]; exact ⟨cl_rg t h.1, clL_rg ts h.2⟩
end
mutual
/-- How many values there are, of one that may be. -/
theorem walk_parts : ∀ (t : VT) (d p q : Nat), t.walk d p 0 = (q, 0) → q = p + t.parts
  | .mk k n s l, d, p, q, h => by
    obtain ⟨hp, his⟩ := walk_is h
    cases his with
    | nil _ _ _ hq => rw [VT.parts]; simp [hq]
    | int _ _ _ hq => rw [VT.parts]; simp [hq]
    | text _ _ _ hq => rw [VT.parts]; simp [hq]
    | list _ _ _ _ _ hl =>
      rw [VT.parts]
      have := walkL_parts l (d + 1) (p + 1) q hl
      simp; omega
theorem walkL_parts : ∀ (l : List VT) (d p q : Nat), VT.walkL d p 0 l = (q, 0) → q = p + VT.partsL l
  | [], d, p, q, h => by rw [VT.walkL] at h; rw [VT.partsL]; have := congrArg Prod.fst h; simp at this; omega
  | t :: ts, d, p, q, h => by
    obtain ⟨q1, h1, h2⟩ := walkL_cons h
    have e1 := walk_parts t d p q1 h1
    have e2 := walkL_parts ts d q1 q h2
    rw [VT.partsL]; omega
end

/-- The order of texts. -/
theorem cmpS_self : ∀ a : List UInt8, cmpS a a = 0
  | [] => rfl
  | x :: xs => by rw [cmpS, if_pos rfl]; exact cmpS_self xs
theorem cmpS_eq : ∀ a b : List UInt8, cmpS a b = 0 → a = b
  | [], [], _ => rfl
  | [], _ :: _, h => by simp [cmpS] at h
  | _ :: _, [], h => by simp [cmpS] at h
  | x :: xs, y :: ys, h => by
    rw [cmpS] at h
    by_cases e : x = y
    · rw [if_pos e] at h; rw [e, cmpS_eq xs ys h]
    · rw [if_neg e] at h; split at h <;> simp at h
theorem u8_tri (x y : UInt8) : x = y ∨ x < y ∨ y < x := by
  rcases Nat.lt_trichotomy x.toNat y.toNat with h | h | h
  · exact .inr (.inl h)
  · exact .inl (UInt8.toNat_inj.1 h)
  · exact .inr (.inr h)
theorem u8_not {x y : UInt8} (h : x < y) : ¬ y < x ∧ x ≠ y := by
  have h' : x.toNat < y.toNat := h
  exact ⟨fun g => by have g' : y.toNat < x.toNat := g; omega, fun e => by subst e; omega⟩
theorem cmpS_neg : ∀ a b : List UInt8, cmpS b a = -cmpS a b
  | [], [] => rfl
  | [], _ :: _ => rfl
  | _ :: _, [] => rfl
  | x :: xs, y :: ys => by
    rw [cmpS, cmpS]
    rcases u8_tri x y with e | e | e
    · rw [if_pos e, if_pos e.symm]; exact cmpS_neg xs ys
    · rw [if_neg (u8_not e).2, if_neg (Ne.symm (u8_not e).2), if_pos e, if_neg (u8_not e).1]; rfl
    · rw [if_neg (u8_not e).2, if_neg (Ne.symm (u8_not e).2), if_pos e, if_neg (u8_not e).1]
theorem cmpS_rng : ∀ a b : List UInt8, cmpS a b = -1 ∨ cmpS a b = 0 ∨ cmpS a b = 1
  | [], [] => by simp [cmpS]
  | [], _ :: _ => by simp [cmpS]
  | _ :: _, [] => by simp [cmpS]
  | x :: xs, y :: ys => by
    rw [cmpS]
    split
    · exact cmpS_rng xs ys
    · split <;> simp
theorem cmpS_trans : ∀ a b c : List UInt8, cmpS a b ≤ 0 → cmpS b c ≤ 0 → cmpS a c ≤ 0
  | [], _, c, _, _ => by cases c <;> simp [cmpS]
  | x :: xs, [], _, h, _ => by simp [cmpS] at h
  | x :: xs, y :: ys, [], _, h => by simp [cmpS] at h
  | x :: xs, y :: ys, z :: zs, h1, h2 => by
    rw [cmpS] at h1 h2 ⊢
    have h1' : x = y ∧ cmpS xs ys ≤ 0 ∨ x < y := by
      rcases u8_tri x y with e | e | e
      · rw [if_pos e] at h1; exact .inl ⟨e, h1⟩
      · exact .inr e
      · rw [if_neg (Ne.symm (u8_not e).2), if_neg (u8_not e).1] at h1; omega
    have h2' : y = z ∧ cmpS ys zs ≤ 0 ∨ y < z := by
      rcases u8_tri y z with e | e | e
      · rw [if_pos e] at h2; exact .inl ⟨e, h2⟩
      · exact .inr e
      · rw [if_neg (Ne.symm (u8_not e).2), if_neg (u8_not e).1] at h2; omega
    have hlt : ∀ {a b : UInt8}, a < b → (if a = b then cmpS xs zs else if a < b then (-1 : Int) else 1) ≤ 0 := fun {a b} e => by
      rw [if_neg (u8_not e).2, if_pos e]; decide
    rcases h1' with ⟨rfl, g1⟩ | g1
    · rcases h2' with ⟨rfl, g2⟩ | g2
      · rw [if_pos rfl]; exact cmpS_trans xs ys zs g1 g2
      · exact hlt g2
    · rcases h2' with ⟨rfl, g2⟩ | g2
      · exact hlt g1
      · refine hlt ?_
        have a : x.toNat < y.toNat := g1
        have b : y.toNat < z.toNat := g2
        show x.toNat < z.toNat
        omega

/-- The order of values, unfolded. -/
theorem cmp_mk (k n : Int) (s : List UInt8) (l : List VT) (k' n' : Int) (s' : List UInt8) (l' : List VT) : (VT.mk k n s l).cmp (.mk k' n' s' l') = if k ≠ k' then (if k < k' then -1 else 1) else if k = 1 then (if n ≠ n' then (if n < n' then -1 else 1) else 0) else if k = 2 then cmpS s s' else if k = 3 then VT.cmpL l l' else 0 := by rw [VT.cmp]; rfl
mutual
theorem cmp_cl : ∀ t : VT, t.cl.cmp t = 0
  | .mk k n s l => by
    rw [VT.cl, cmp_mk]
    rw [if_neg (by simp)]
    by_cases h1 : k = 1
    · simp [h1]
    rw [if_neg h1]
    by_cases h2 : k = 2
    · simp [h2, cmpS_self]
    rw [if_neg h2]
    by_cases h3 : k = 3
    · simp [h3, cmpL_cl l]
    rw [if_neg h3]
theorem cmpL_cl : ∀ l : List VT, VT.cmpL (VT.clL l) l = 0
  | [] => by rw [VT.clL, VT.cmpL]
  | t :: ts => by rw [VT.clL, VT.cmpL, cmp_cl t, if_neg (by simp), cmpL_cl ts]
end
mutual
theorem cmp_self : ∀ t : VT, t.cmp t = 0
  | .mk k n s l => by
    rw [cmp_mk]
    rw [if_neg (by simp)]
    by_cases h1 : k = 1
    · simp [h1]
    rw [if_neg h1]
    by_cases h2 : k = 2
    · simp [h2, cmpS_self]
    rw [if_neg h2]
    by_cases h3 : k = 3
    · simp [h3, cmpL_self l]
    rw [if_neg h3]
theorem cmpL_self : ∀ l : List VT, VT.cmpL l l = 0
  | [] => by rw [VT.cmpL]
  | t :: ts => by rw [VT.cmpL, cmp_self t, if_neg (by simp), cmpL_self ts]
end
mutual
theorem cmp_eq : ∀ t u : VT, t.cmp u = 0 → t.cl = u.cl
  | .mk k n s l, .mk k' n' s' l', h => by
    rw [cmp_mk] at h
    by_cases hk : k ≠ k'
    · rw [if_pos hk] at h; split at h <;> simp at h
    rw [if_neg hk] at h
    have hk' : k = k' := by omega
    subst hk'
    rw [VT.cl, VT.cl]
    by_cases h1 : k = 1
    · rw [if_pos h1] at h
      have : n = n' := by
        by_cases e : n ≠ n'
        · rw [if_pos e] at h; split at h <;> simp at h
        · omega
      subst this; simp [h1]
    rw [if_neg h1] at h
    by_cases h2 : k = 2
    · rw [if_pos h2] at h
      rw [cmpS_eq _ _ h]; simp [h2]
    rw [if_neg h2] at h
    by_cases h3 : k = 3
    · rw [if_pos h3] at h
      simp [h3, cmpL_eq l l' h]
    · simp [h1, h2, h3]
theorem cmpL_eq : ∀ l m : List VT, VT.cmpL l m = 0 → VT.clL l = VT.clL m
  | [], [], _ => rfl
  | [], _ :: _, h => by simp [VT.cmpL] at h
  | _ :: _, [], h => by simp [VT.cmpL] at h
  | t :: ts, u :: us, h => by
    rw [VT.cmpL] at h
    by_cases e : t.cmp u ≠ 0
    · rw [if_pos e] at h; exact absurd h e
    · rw [if_neg e] at h
      rw [VT.clL, VT.clL, cmp_eq t u (by omega), cmpL_eq ts us h]
end
mutual
theorem cmp_cong : ∀ t u : VT, t.cmp u = t.cl.cmp u.cl
  | .mk k n s l, .mk k' n' s' l' => by
    rw [VT.cl, VT.cl, cmp_mk, cmp_mk]
    by_cases hk : k ≠ k'
    · rw [if_pos hk, if_pos hk]
    rw [if_neg hk, if_neg hk]
    have hk' : k = k' := by omega
    subst hk'
    by_cases h1 : k = 1
    · simp [h1]
    rw [if_neg h1, if_neg h1]
    by_cases h2 : k = 2
    · simp [h2]
    rw [if_neg h2, if_neg h2]
    by_cases h3 : k = 3
    · simp [h3, cmpL_cong l l']
    · simp [h3]
theorem cmpL_cong : ∀ l m : List VT, VT.cmpL l m = VT.cmpL (VT.clL l) (VT.clL m)
  | [], [] => by rw [VT.clL]
  | [], _ :: _ => by rw [VT.clL, VT.clL, VT.cmpL, VT.cmpL]
  | _ :: _, [] => by rw [VT.clL, VT.clL, VT.cmpL, VT.cmpL]
  | t :: ts, u :: us => by rw [VT.clL, VT.clL, VT.cmpL, VT.cmpL, cmp_cong t u, cmpL_cong ts us]
end
theorem cmp_iff (t u : VT) : t.cmp u = 0 ↔ t.cl = u.cl := ⟨cmp_eq t u, fun h => by rw [cmp_cong, h]; exact cmp_self _⟩
mutual
theorem cmp_neg : ∀ t u : VT, u.cmp t = -(t.cmp u)
  | .mk k n s l, .mk k' n' s' l' => by
    rw [cmp_mk, cmp_mk]
    by_cases hk : k = k'
    · subst hk
      have hkk : ¬ (k ≠ k) := by simp
      rw [if_neg hkk, if_neg hkk]
      by_cases h1 : k = 1
      · rw [if_pos h1, if_pos h1]
        by_cases e : n = n'
        · simp [e]
        · rw [if_pos (Ne.symm e), if_pos e]
          by_cases g : n < n'
          · rw [if_pos g, if_neg (by omega)]; rfl
          · rw [if_neg g, if_pos (by omega)]
      rw [if_neg h1, if_neg h1]
      by_cases h2 : k = 2
      · rw [if_pos h2, if_pos h2]; exact cmpS_neg _ _
      rw [if_neg h2, if_neg h2]
      by_cases h3 : k = 3
      · rw [if_pos h3, if_pos h3]; exact cmpL_neg l l'
      rw [if_neg h3, if_neg h3]; rfl
    · rw [if_pos (Ne.symm hk), if_pos hk]
      by_cases g : k < k'
      · rw [if_pos g, if_neg (by omega)]; rfl
      · rw [if_neg g, if_pos (by omega)]
theorem cmpL_neg : ∀ l m : List VT, VT.cmpL m l = -(VT.cmpL l m)
  | [], [] => by simp [VT.cmpL]
  | [], _ :: _ => by simp [VT.cmpL]
  | _ :: _, [] => by simp [VT.cmpL]
  | t :: ts, u :: us => by
    rw [VT.cmpL, VT.cmpL, cmp_neg t u, cmpL_neg ts us]
    by_cases e : t.cmp u = 0
    · simp [e]
    · rw [if_pos (by omega), if_pos e]
end
mutual
theorem cmp_trans : ∀ t u v : VT, t.cmp u ≤ 0 → u.cmp v ≤ 0 → t.cmp v ≤ 0
  | .mk k n s l, .mk k' n' s' l', .mk k2 n2 s2 l2, ha, hb => by
    rw [cmp_mk] at ha hb ⊢
    have ga : k < k' ∨ k = k' := by
      by_cases e : k = k'
      · exact .inr e
      · rw [if_pos e] at ha; split at ha <;> omega
    have gb : k' < k2 ∨ k' = k2 := by
      by_cases e : k' = k2
      · exact .inr e
      · rw [if_pos e] at hb; split at hb <;> omega
    by_cases hlt : k < k2
    · rw [if_pos (by omega), if_pos hlt]; decide
    have e1 : k = k' := by omega
    have e2 : k' = k2 := by omega
    subst e1 e2
    have hkk : ¬ (k ≠ k) := by simp
    rw [if_neg hkk] at ha hb ⊢
    by_cases h1 : k = 1
    · rw [if_pos h1] at ha hb ⊢
      have ga : n ≤ n' := by
        by_cases e : n = n'
        · omega
        · rw [if_pos e] at ha; split at ha <;> omega
      have gb : n' ≤ n2 := by
        by_cases e : n' = n2
        · omega
        · rw [if_pos e] at hb; split at hb <;> omega
      by_cases e : n = n2
      · rw [if_neg (by simpa using e)]; decide
      · rw [if_pos e, if_pos (by omega)]; decide
    rw [if_neg h1] at ha hb ⊢
    by_cases h2 : k = 2
    · rw [if_pos h2] at ha hb ⊢; exact cmpS_trans _ _ _ ha hb
    rw [if_neg h2] at ha hb ⊢
    by_cases h3 : k = 3
    · rw [if_pos h3] at ha hb ⊢; exact cmpL_trans l l' l2 ha hb
    rw [if_neg h3]; decide
theorem cmpL_trans : ∀ l m o : List VT, VT.cmpL l m ≤ 0 → VT.cmpL m o ≤ 0 → VT.cmpL l o ≤ 0
  | [], _, o, _, _ => by cases o <;> simp [VT.cmpL]
  | t :: ts, [], _, h, _ => by simp [VT.cmpL] at h
  | t :: ts, u :: us, [], _, h => by simp [VT.cmpL] at h
  | t :: ts, u :: us, v :: vs, ha, hb => by
    rw [VT.cmpL] at ha hb ⊢
    have a1 : t.cmp u ≤ 0 := by split at ha <;> omega
    have b1 : u.cmp v ≤ 0 := by split at hb <;> omega
    have c1 := cmp_trans t u v a1 b1
    by_cases ec : t.cmp v = 0
    · have e1 := (cmp_iff t v).1 ec
      have e2 : u.cmp v = u.cmp t := by rw [cmp_cong u v, cmp_cong u t, e1]
      have n2 := cmp_neg t u
      rw [if_neg (by omega)] at ha hb ⊢
      exact cmpL_trans ts us vs ha hb
    · rw [if_pos ec]; exact c1
end
theorem cmp_rng (t u : VT) : -1 ≤ t.cmp u ∧ t.cmp u ≤ 1 := cmp_rng' t u
where
  cmp_rng' : ∀ t u : VT, -1 ≤ t.cmp u ∧ t.cmp u ≤ 1 := by
    intro t u
    induction t using VT.rec (motive_2 := fun l => ∀ m, -1 ≤ VT.cmpL l m ∧ VT.cmpL l m ≤ 1) generalizing u with
    | mk k n s l ih =>
      rw [VT.cmp]
      split
      · split <;> omega
      · split
        · split
          · split <;> omega
          · exact ⟨by decide, by decide⟩
        · split
          · have := cmpS_rng s u.s; omega
          · split
            · exact ih u.l
            · exact ⟨by decide, by decide⟩
    | nil => rename_i m; cases m <;> simp [VT.cmpL]
    | cons t ts h1 h2 =>
      rename_i m
      cases m with
      | nil => simp [VT.cmpL]
      | cons y ys =>
        rw [VT.cmpL]
        split
        · exact h1 y
        · exact h2 ys

/-- Good values with the same bytes are the same. -/
theorem wr_inj {t u : VT} (gt : t.rg) (gu : u.rg) (ht : t.chk = 0) (hu : u.chk = 0) (h : t.wr = u.wr) : t.cl = u.cl := by
  have w1 : ∀ x : VT, x.chk = 0 → ∃ q, x.walk 0 0 0 = (q, 0) := fun x hx => by
    unfold VT.chk at hx
    by_cases e : (x.walk 0 0 0).2 = 0
    · exact ⟨_, Prod.ext rfl e⟩
    · rw [if_pos e] at hx; exact absurd hx e
  obtain ⟨q1, e1⟩ := w1 t ht
  obtain ⟨q2, e2⟩ := w1 u hu
  have r1 := rdV_rt t 8 0 0 q1 (RdM.of t.wr) [] gt e1 rfl rfl (by simp [RdM.rest, RdM.of])
  have r2 := rdV_rt u 8 0 0 q2 (RdM.of u.wr) [] gu e2 rfl rfl (by simp [RdM.rest, RdM.of])
  rw [h] at r1
  rw [r1] at r2
  exact congrArg VS.t r2

mutual
/-- Each kind is one that there is. -/
def VT.kd : VT → Prop
  | .mk k _ _ l => 0 ≤ k ∧ k ≤ 3 ∧ (k = 3 → VT.kdL l)
def VT.kdL : List VT → Prop
  | [] => True
  | t :: ts => t.kd ∧ VT.kdL ts
end
mutual
theorem walk_kd : ∀ (t : VT) (d p q : Nat), t.walk d p 0 = (q, 0) → t.kd
  | .mk k n s l, d, p, q, h => by
    obtain ⟨hp, his⟩ := walk_is h
    rw [VT.kd]
    cases his with
    | nil => exact ⟨by decide, by decide, fun e => absurd e (by decide)⟩
    | int => exact ⟨by decide, by decide, fun e => absurd e (by decide)⟩
    | text => exact ⟨by decide, by decide, fun e => absurd e (by decide)⟩
    | list _ _ _ _ _ hl => exact ⟨by decide, by decide, fun _ => walkL_kd l _ _ _ hl⟩
theorem walkL_kd : ∀ (l : List VT) (d p q : Nat), VT.walkL d p 0 l = (q, 0) → VT.kdL l
  | [], _, _, _, _ => by rw [VT.kdL]; trivial
  | t :: ts, d, p, q, h => by
    obtain ⟨q1, h1, h2⟩ := walkL_cons h
    rw [VT.kdL]
    exact ⟨walk_kd t _ _ _ h1, walkL_kd ts _ _ _ h2⟩
end
mutual
/-- The reference's order. -/
def VT.rc : VT → VT → Int
  | .mk k n s l, u => if k ≠ u.k then k - u.k else if k = 1 then (if n < u.n then -1 else if u.n < n then 1 else 0) else if k = 2 then cmpS s u.s else if k = 3 then VT.rcL l u.l else 0
def VT.rcL : List VT → List VT → Int
  | [], m => -(m.length : Int)
  | l, [] => l.length
  | x :: xs, y :: ys => if x.rc y ≠ 0 then x.rc y else VT.rcL xs ys
end
theorem sgn_ite {c : Prop} [Decidable c] (a b a' b' : Int) (h1 : c → (a < 0 ↔ a' < 0) ∧ (0 < a ↔ 0 < a')) (h2 : ¬ c → (b < 0 ↔ b' < 0) ∧ (0 < b ↔ 0 < b')) : ((if c then a else b) < 0 ↔ (if c then a' else b') < 0) ∧ (0 < (if c then a else b) ↔ 0 < (if c then a' else b')) := by
  split
  · rename_i h; exact h1 h
  · rename_i h; exact h2 h
mutual
theorem rc_sgn : ∀ t u : VT, (t.rc u < 0 ↔ t.cmp u < 0) ∧ (0 < t.rc u ↔ 0 < t.cmp u)
  | .mk k n s l, u => by
    rw [VT.rc, VT.cmp]
    refine sgn_ite _ _ _ _ (fun hk => ?_) (fun _ => sgn_ite _ _ _ _ (fun _ => ?_) (fun _ => sgn_ite _ _ _ _ (fun _ => ⟨Iff.rfl, Iff.rfl⟩) (fun _ => sgn_ite _ _ _ _ (fun _ => rcL_sgn l u.l) (fun _ => ⟨Iff.rfl, Iff.rfl⟩))))
    · by_cases g : k < u.k
      · rw [if_pos g]; omega
      · rw [if_neg g]; omega
    · by_cases h : n < u.n
      · rw [if_pos h, if_pos (by omega), if_pos h]; exact ⟨Iff.rfl, Iff.rfl⟩
      · rw [if_neg h]
        by_cases g : u.n < n
        · rw [if_pos g, if_pos (by omega), if_neg h]; exact ⟨Iff.rfl, Iff.rfl⟩
        · rw [if_neg g, if_neg (by omega)]; exact ⟨Iff.rfl, Iff.rfl⟩
theorem rcL_sgn : ∀ l m : List VT, (VT.rcL l m < 0 ↔ VT.cmpL l m < 0) ∧ (0 < VT.rcL l m ↔ 0 < VT.cmpL l m)
  | [], [] => by simp [VT.rcL, VT.cmpL]
  | [], _ :: _ => by rw [VT.rcL, VT.cmpL]; simp only [List.length_cons]; omega
  | _ :: _, [] => by
    rw [VT.rcL, VT.cmpL]
    · simp only [List.length_cons]; omega
    · simp
  | x :: xs, y :: ys => by
    have h1 := rc_sgn x y
    have h2 := rcL_sgn xs ys
    rw [VT.rcL, VT.cmpL]
    by_cases e : x.cmp y = 0
    · rw [if_neg (by omega), if_neg (by omega)]; exact h2
    · rw [if_pos (by omega), if_pos (by omega)]; exact h1
end
theorem rc_zero (t u : VT) : t.rc u = 0 ↔ t.cmp u = 0 := by have := rc_sgn t u; omega
end Go.Proofs.YtihidpfkdpjdpaaGreatDoor
