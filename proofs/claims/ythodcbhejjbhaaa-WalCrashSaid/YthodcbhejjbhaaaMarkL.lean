/- The marks' plain law: what is written is read. -/
import Derived.Test.YthodcbhejjbhaaaMarkF
namespace Go.Proofs.Ythodcbhejjbhaaa
open Go.RowKit

theorem byteAt_succ (n j : Nat) : byteAt n (j + 1) = byteAt (n / 256) j := by
  unfold byteAt
  rw [Nat.div_div_eq_div_mul, Nat.mul_add, Nat.pow_add, Nat.mul_comm]
theorem deN_map : ∀ k n, deN ((List.range k).map (byteAt n)) = n % 256 ^ k
  | 0, n => by simp [deN, Nat.mod_one]
  | k + 1, n => by
    rw [List.range_succ_eq_map, List.map_cons, List.map_map]
    have : byteAt n ∘ Nat.succ = byteAt (n / 256) := funext fun j => byteAt_succ n j
    rw [this, deN, deN_map k, Nat.pow_succ, Nat.mul_comm (256 ^ k), Nat.mod_mul]
    congr 1
    simp [byteAt]
theorem deN_le8 (n : Nat) (h : n < 18446744073709551616) : deN (le8 n) = n := by
  unfold le8
  rw [deN_map, show (256 : Nat) ^ 8 = 18446744073709551616 from by decide]
  exact Nat.mod_eq_of_lt h
theorem flat8_drop : ∀ (l : List Nat) (i n : Nat), l[i]? = some n → ((l.flatMap le8).drop (8 * i)).take 8 = le8 n
  | [], i, n, h => by simp at h
  | m :: l, 0, n, h => by
    simp only [List.getElem?_cons_zero, Option.some.injEq] at h
    subst h
    rw [List.flatMap_cons, Nat.mul_zero, List.drop_zero, List.take_append_of_le_length (by simp), List.take_of_length_le (by simp)]
  | m :: l, i + 1, n, h => by
    rw [List.flatMap_cons, Nat.mul_add, Nat.mul_one, Nat.add_comm (8 * i) 8, ← List.drop_drop, List.drop_left' (length_le8 m)]
    exact flat8_drop l i n (by simpa using h)
theorem enc_half (m : MarkM) : (enc m).take 56 = encH m := by
  unfold enc; rw [List.append_assoc, List.take_append_of_le_length (by simp), List.take_of_length_le (by simp)]
theorem enc_drop56 (m : MarkM) : (enc m).drop 56 = encH m ++ zeros 16 := by
  unfold enc; rw [List.append_assoc, List.drop_append_of_le_length (by simp), List.drop_of_length_le (by simp), List.nil_append]
theorem enc_half2 (m : MarkM) : ((enc m).drop 56).take 56 = encH m := by
  rw [enc_drop56, List.take_append_of_le_length (by simp), List.take_of_length_le (by simp)]
theorem enc_tail (m : MarkM) : (enc m).drop 112 = zeros 16 := by
  rw [show 112 = 56 + 56 from rfl, ← List.drop_drop, enc_drop56, List.drop_append_of_le_length (by simp), List.drop_of_length_le (by simp), List.nil_append]
theorem deAt_enc (m : MarkM) (hm : m.ok) (i n : Nat) (h : m.nums[i]? = some n) : deAt (enc m) i = n := by
  have hi : i < 7 := by
    rcases Nat.lt_or_ge i 7 with h' | h'
    · exact h'
    · rw [List.getElem?_eq_none (by simpa [MarkM.nums] using h')] at h; cases h
  unfold deAt
  have e : ((enc m).drop (8 * i)).take 8 = ((encH m).drop (8 * i)).take 8 := by
    rw [← enc_half, List.drop_take, List.take_take]
    congr 1; omega
  rw [e]
  unfold encH
  rw [flat8_drop _ _ _ h]
  exact deN_le8 n (hm n (List.mem_of_getElem? h))
theorem decM_enc (m : MarkM) (hm : m.ok) : decM (enc m) = m := by
  unfold decM
  rw [deAt_enc m hm 0 m.s rfl, deAt_enc m hm 1 m.w0 rfl, deAt_enc m hm 2 m.w1 rfl, deAt_enc m hm 3 m.w2 rfl, deAt_enc m hm 4 m.w3 rfl, deAt_enc m hm 5 m.w4 rfl, deAt_enc m hm 6 m.w5 rfl]
theorem readOk_enc (m : MarkM) : readOk (enc m) = true := by
  unfold readOk
  rw [enc_half, enc_half2, enc_tail]
  simp [zeros]
theorem readM_enc (m : MarkM) (hm : m.ok) : readM (enc m) = (m, decide (0 < m.s)) := by
  unfold readM
  rw [readOk_enc, decM_enc m hm]; rfl
theorem num0_enc (m : MarkM) (hm : m.ok) : deN ((enc m).take 8) = m.s := by
  have := deAt_enc m hm 0 m.s rfl
  simpa [deAt] using this
theorem num1_enc (m : MarkM) (hm : m.ok) : deN (((enc m).drop 56).take 8) = m.s := by
  rw [enc_drop56, List.take_append_of_le_length (by simp)]
  have := flat8_drop m.nums 0 m.s rfl
  rw [Nat.mul_zero, List.drop_zero] at this
  unfold encH
  rw [this]; exact deN_le8 _ (hm m.s (by simp [MarkM.nums]))
theorem zero_ok : MarkM.zero.ok := by intro n hn; simp [MarkM.zero, MarkM.nums] at hn; omega
theorem enc_zero : enc MarkM.zero = zeros 128 := by decide

/-- Two sectors on which marks stand: the even one on the first, the odd one on the second (or none yet). -/
structure Slots (C : Nat → List UInt8) (m0 m1 : MarkM) : Prop where
  c0 : C 0 = enc m0
  c1 : C 1 = enc m1
  ok0 : m0.ok
  ok1 : m1.ok
  p0 : m0.s % 2 = 0
  p1 : m1 = MarkM.zero ∨ m1.s % 2 = 1
  z0 : m0.s = 0 → m0 = MarkM.zero
theorem step_enc (k : Nat) (p : MarkM × Nat) (m : MarkM) (hm : m.ok) : lookStep k p (enc m) = (if 0 < m.s ∧ p.1.s < m.s ∧ m.s % 2 = k then m else p.1, max p.2 m.s) := by
  unfold lookStep
  simp only [readM_enc m hm, num0_enc m hm, num1_enc m hm, decide_eq_true_eq]
  congr 1
  omega
theorem Slots.look {C : Nat → List UInt8} {m0 m1 : MarkM} (h : Slots C m0 m1) : lookK C 2 = (if m0.s < m1.s then m1 else m0, max m0.s m1.s) := by
  have e1 : lookK C 1 = (m0, m0.s) := by
    show lookStep 0 (MarkM.zero, 0) (C 0) = _
    rw [h.c0, step_enc 0 _ m0 h.ok0]
    rcases Nat.eq_zero_or_pos m0.s with h0 | h0
    · rw [h.z0 h0]; rfl
    · rw [if_pos ⟨h0, h0, h.p0⟩]; simp
  show lookStep 1 (lookK C 1) (C 1) = _
  rw [e1, h.c1, step_enc 1 _ m1 h.ok1]
  rcases h.p1 with hz | hp
  · rw [hz]; simp [MarkM.zero]
  · by_cases hlt : m0.s < m1.s
    · rw [if_pos ⟨by omega, hlt, hp⟩, if_pos hlt]
    · rw [if_neg (fun e => hlt e.2.1), if_neg hlt]

/-- The last one of two. -/
def lastOf (m0 m1 : MarkM) : MarkM := if m0.s < m1.s then m1 else m0
theorem last_s (m0 m1 : MarkM) : (lastOf m0 m1).s = max m0.s m1.s := by unfold lastOf; split <;> omega
section
variable {D : DiskM} {first : Nat} {m0 m1 : MarkM}
theorem Slots.lookR (h : Slots (fun k => D.cur (first + k)) m0 m1) (hd : D.down = false) (hf : first + 1 < D.n) : lookR D first = (lastOf m0 m1, (lastOf m0 m1).s, 0) := by
  unfold Go.Proofs.Ythodcbhejjbhaaa.lookR
  rw [if_neg (by rw [hd]; intro e; rcases e with e | e | e; omega; omega; cases e)]
  simp only [Int.toNat_natCast]
  rw [h.look, last_s]; rfl
theorem Slots.getR (h : Slots (fun k => D.cur (first + k)) m0 m1) (hd : D.down = false) (hf : first + 1 < D.n) : getR D first = if (lastOf m0 m1).s = 0 then (MarkM.zero, 4) else (lastOf m0 m1, 0) := by
  unfold Go.Proofs.Ythodcbhejjbhaaa.getR
  rw [h.lookR hd hf]; rfl
theorem next_last (s : Nat) : nextSeq s s = s + 1 := by
  unfold nextSeq; rw [if_neg (by omega)]

/-- A write and a flush that both are done. -/
theorem putGo_done (m : MarkM) (hd : D.down = false) (hf : first + 1 < D.n) (hfu : D.fuse < 0 ∨ 2 ≤ D.fuse) :
    ∃ D', putGo D first m = (D', m, 0) ∧ D'.down = false ∧ D'.n = D.n ∧ D'.fuse = (if D.fuse < 0 then D.fuse else D.fuse - 2) ∧ (∀ k, D'.pend k = none) ∧ (∀ k, D'.sure k = if k = first + m.s % 2 then enc m else D.cur k) := by
  have hb : D.burns = true := by unfold DiskM.burns; simp; omega
  have hpl : ¬ (((first : Int) + ((m.s % 2 : Nat) : Int)) < 0 ∨ (D.n : Int) ≤ (first : Int) + ((m.s % 2 : Nat) : Int)) := by omega
  obtain ⟨W, hW⟩ : ∃ W : DiskM, W = { D.burn.put ((first : Int) + ((m.s % 2 : Nat) : Int)).toNat (enc m) with nw := wrap64 (D.nw + 1) } := ⟨_, rfl⟩
  have ew : D.write ((first : Int) + ((m.s % 2 : Nat) : Int)) (enc m) = (W, 0) := by
    unfold DiskM.write
    rw [hd, hb, if_neg (by simp), if_neg hpl, if_neg (by simp), if_neg (by simp), if_pos rfl, ← hW]
  have wd : W.down = false := by rw [hW]; show D.burn.down = false; unfold DiskM.burn; split; exact hd; rw [if_neg (by omega)]; exact hd
  have wfu : W.fuse = D.burn.fuse := by rw [hW]; rfl
  have wf : W.fuse = (if D.fuse < 0 then D.fuse else D.fuse - 1) := by
    rw [wfu]; unfold DiskM.burn
    split
    · rfl
    · rw [if_neg (by omega)]
  have wb : W.burns = true := by unfold DiskM.burns; rw [wf]; split <;> simp <;> omega
  have ef : W.flush = ({ W.burn.flushed with nf := wrap64 (W.nf + 1) }, 0) := by
    unfold DiskM.flush; rw [wd, wb]; rfl
  have wn : W.n = D.n := by rw [hW]; exact burn_n D
  have bd : W.burn.down = false := by unfold DiskM.burn; split; exact wd; rw [if_neg (by rw [wf] at *; split <;> omega)]; exact wd
  refine ⟨{ W.burn.flushed with nf := wrap64 (W.nf + 1) }, ?_, bd, (burn_n W).trans wn, ?_, fun k => rfl, fun k => ?_⟩
  · unfold putGo
    rw [ew]
    simp only [ef]
    rfl
  · show W.burn.fuse = _
    unfold DiskM.burn
    by_cases h0 : D.fuse < 0
    · rw [if_pos (by rw [wf, if_pos h0]; exact h0), wf]; simp [h0]
    · rw [if_neg (by rw [wf, if_neg h0]; omega), if_neg (by rw [wf, if_neg h0]; omega)]
      show W.fuse - 1 = _
      rw [wf, if_neg h0, if_neg h0]; omega
  · show W.burn.cur k = _
    have e1 : W.burn.cur k = W.cur k := by unfold DiskM.cur; rw [burn_pend, burn_sure]
    rw [e1, hW]
    unfold DiskM.cur
    show ((D.burn.put _ (enc m)).pend k).getD (D.burn.sure k) = _
    unfold DiskM.put
    simp only [burn_pend, burn_sure]
    have : ((first : Int) + ((m.s % 2 : Nat) : Int)).toNat = first + m.s % 2 := by omega
    rw [this]
    split <;> rfl

theorem mk_s (s : Nat) (xs : List Nat) : (mkMark s xs).s = s := rfl
/-- A mark that is put. -/
theorem Slots.put (h : Slots (fun k => D.cur (first + k)) m0 m1) (hd : D.down = false) (hf : first + 1 < D.n) (hfu : D.fuse < 0 ∨ 2 ≤ D.fuse) (xs : List Nat) (h6 : xs.length ≤ 6) (hx : ∀ x ∈ xs, x < 18446744073709551616) (hs : (lastOf m0 m1).s ≤ 1000000) :
    ∃ D' n0 n1, putR D first xs = (D', mkMark ((lastOf m0 m1).s + 1) xs, 0) ∧ Slots (fun k => D'.cur (first + k)) n0 n1 ∧ lastOf n0 n1 = mkMark ((lastOf m0 m1).s + 1) xs ∧ D'.down = false ∧ D'.n = D.n ∧ D'.fuse = (if D.fuse < 0 then D.fuse else D.fuse - 2) ∧ (∀ k, D'.pend k = none) ∧ (∀ k, D'.sure k = if k = first + ((lastOf m0 m1).s + 1) % 2 then enc (mkMark ((lastOf m0 m1).s + 1) xs) else D.cur k) := by
  have hl := h.lookR hd hf
  have hpm : putMark D first xs = mkMark ((lastOf m0 m1).s + 1) xs := by
    unfold putMark
    rw [hl]
    simp only
    rw [next_last]
  obtain ⟨D', e, g1, g2, g3, g4, g5⟩ := putGo_done (first := first) (mkMark ((lastOf m0 m1).s + 1) xs) hd hf hfu
  have hr : putR D first xs = (D', mkMark ((lastOf m0 m1).s + 1) xs, 0) := by
    unfold putR
    rw [hpm, hl]
    simp only
    rw [if_neg (by simp), if_neg (by omega), if_neg (by unfold topMax; omega), e]
  have hcur : ∀ k, D'.cur k = if k = first + ((lastOf m0 m1).s + 1) % 2 then enc (mkMark ((lastOf m0 m1).s + 1) xs) else D.cur k := fun k => by
    unfold DiskM.cur
    rw [g4 k]
    exact g5 k
  have hok := mk_ok ((lastOf m0 m1).s + 1) xs (by omega) hx
  have hlm := last_s m0 m1
  have k0 := h.c0
  have k1 := h.c1
  simp only [Nat.add_zero] at k0 k1
  by_cases hp : ((lastOf m0 m1).s + 1) % 2 = 0
  · refine ⟨D', mkMark ((lastOf m0 m1).s + 1) xs, m1, hr, ⟨?_, ?_, hok, h.ok1, hp, h.p1, fun e => by rw [mk_s] at e; omega⟩, ?_, g1, g2, g3, g4, g5⟩
    · show D'.cur (first + 0) = _
      rw [hcur, if_pos (by omega)]
    · show D'.cur (first + 1) = _
      rw [hcur, if_neg (by omega)]; exact k1
    · show (if (mkMark ((lastOf m0 m1).s + 1) xs).s < m1.s then _ else _) = _
      rw [if_neg (by rw [mk_s]; omega)]
  · refine ⟨D', m0, mkMark ((lastOf m0 m1).s + 1) xs, hr, ⟨?_, ?_, h.ok0, hok, h.p0, .inr (by rw [mk_s]; omega), h.z0⟩, ?_, g1, g2, g3, g4, g5⟩
    · show D'.cur (first + 0) = _
      rw [hcur, if_neg (by omega)]; exact k0
    · show D'.cur (first + 1) = _
      rw [hcur, if_pos (by omega)]
    · have hlt : m0.s < (mkMark ((lastOf m0 m1).s + 1) xs).s := by rw [mk_s]; omega
      show (if m0.s < (mkMark ((lastOf m0 m1).s + 1) xs).s then _ else _) = _
      rw [if_pos hlt]
theorem slots_new {n : Nat} : Slots (fun k => (DiskM.new n).cur (first + k)) MarkM.zero MarkM.zero :=
  ⟨enc_zero.symm, enc_zero.symm, zero_ok, zero_ok, rfl, .inl rfl, fun _ => rfl⟩
end
end Go.Proofs.Ythodcbhejjbhaaa
