/- Plain laws: a value that was written is read again; one that is read was written so; one that ends too soon. -/
import Derived.Test.YtihidpfkdpjdpaaGreatDoorValL
namespace Go.Proofs.YtihidpfkdpjdpaaGreatDoor

theorem zigN_lt {n : Int} (h1 : -9223372036854775808 ≤ n) (h2 : n ≤ 9223372036854775807) : zigN n < 18446744073709551616 := by unfold zigN; split <;> omega
theorem zag_zig (n : Int) : zagN (zigN n) = n := by
  unfold zagN zigN
  by_cases h : 0 ≤ n
  · rw [if_pos h, if_pos (by omega)]; omega
  · rw [if_neg h, if_neg (by omega)]; omega
theorem zig_zag (n : Nat) : zigN (zagN n) = n := by
  unfold zagN zigN
  by_cases h : n % 2 = 0
  · rw [if_pos h, if_pos (by omega)]; omega
  · rw [if_neg h, if_neg (by omega)]; omega
theorem zag_rg {n : Nat} (h : n < 18446744073709551616) : -9223372036854775808 ≤ zagN n ∧ zagN n ≤ 9223372036854775807 := by unfold zagN; split <;> omega

theorem int_rt {r : RdM} {n : Int} {post : List UInt8} (h1 : -9223372036854775808 ≤ n) (h2 : n ≤ 9223372036854775807) (he : r.err = 0) (hr : r.rest = numB (zigN n) ++ post) : r.int = (n, r.adv (numB (zigN n)).length) := by
  have := num_rt (most := 18446744073709551615) he (zigN_lt h1 h2) (by have := zigN_lt h1 h2; omega) hr
  unfold RdM.int
  rw [this, zag_zig]
theorem text_rt {r : RdM} {s post : List UInt8} (hs : s.length ≤ 4096) (he : r.err = 0) (hr : r.rest = textB s ++ post) : r.text = (s, r.adv (textB s).length) := by
  unfold textB at hr
  rw [List.append_assoc] at hr
  have := num_rt (most := 4096) he (by omega) hs hr
  unfold RdM.text
  rw [this]
  simp only
  have h2 := adv_rest' hr
  rw [take_ok (by rw [adv_err]; exact he) h2, adv_adv]
  simp [textB]
theorem int_inv {r : RdM} (he : r.err = 0) (h : r.int.2.err = 0) : ∃ n post, r.int = (n, r.adv (numB (zigN n)).length) ∧ r.rest = numB (zigN n) ++ post ∧ -9223372036854775808 ≤ n ∧ n ≤ 9223372036854775807 := by
  obtain ⟨n, post, e1, e2, e3, -⟩ := num_inv (most := 18446744073709551615) he h
  refine ⟨zagN n, post, ?_, ?_, (zag_rg e3).1, (zag_rg e3).2⟩
  · unfold RdM.int; rw [e1, zig_zag]
  · rw [zig_zag]; exact e2
theorem take_err {r : RdM} {n : Nat} (h : (r.take n).2.err = 0) : r.err = 0 := (take_inv h).1
theorem text_inv {r : RdM} (he : r.err = 0) (h : r.text.2.err = 0) : ∃ s post, r.text = (s, r.adv (textB s).length) ∧ r.rest = textB s ++ post ∧ s.length ≤ 4096 := by
  unfold RdM.text at h ⊢
  obtain ⟨a1, a2, a3⟩ := take_inv h
  obtain ⟨n, post, e1, e2, e3, e4⟩ := num_inv (most := 4096) he a1
  rw [e1] at a2 a3 ⊢
  simp only at a2 a3 ⊢
  have hre := adv_rest' e2
  rw [hre] at a2 a3
  refine ⟨post.take n, post.drop n, ?_, ?_, by simp; omega⟩
  · rw [a3, adv_adv]; simp [textB, Nat.min_eq_left a2]
  · unfold textB
    rw [List.length_take, Nat.min_eq_left a2, List.append_assoc, List.take_append_drop]; exact e2
theorem int_bad {r : RdM} (h : r.err ≠ 0) : r.int = (0, r) := by unfold RdM.int; rw [num_bad h]; simp [zagN]
theorem text_bad {r : RdM} (h : r.err ≠ 0) : r.text = ([], r) := by unfold RdM.text; rw [num_bad h]; exact take_bad h
theorem int_cut {r : RdM} {n : Int} {cut : Nat} (h1 : -9223372036854775808 ≤ n) (h2 : n ≤ 9223372036854775807) (he : r.err = 0) (hc : cut < (numB (zigN n)).length) (hr : r.rest = (numB (zigN n)).take cut) : r.int.2.err = 6 :=
  (num_cut he (zigN_lt h1 h2) hc hr).2
theorem take_app {α : Type} (a b : List α) (n : Nat) : (a ++ b).take n = if n < a.length then a.take n else a ++ b.take (n - a.length) := by
  rw [List.take_append]
  split
  · rw [show n - a.length = 0 from by omega]; simp
  · rw [List.take_of_length_le (by omega)]
theorem text_cut {r : RdM} {s : List UInt8} {cut : Nat} (hs : s.length ≤ 4096) (he : r.err = 0) (hc : cut < (textB s).length) (hr : r.rest = (textB s).take cut) : r.text.1 = [] ∧ r.text.2.err = 6 := by
  unfold textB at hr hc
  rw [take_app] at hr
  rw [List.length_append] at hc
  unfold RdM.text
  by_cases h : cut < (numB s.length).length
  · rw [if_pos h] at hr
    have := num_cut (most := 4096) he (by omega) h hr
    rw [this.1, take_bad (by rw [this.2]; decide)]
    exact ⟨rfl, this.2⟩
  · rw [if_neg h] at hr
    have := num_rt (most := 4096) he (by omega) hs hr
    rw [this]
    simp only
    rw [take_short (by rw [adv_err]; exact he) (by rw [adv_rest' hr]; simp; omega)]
    exact ⟨rfl, by rw [fail_err, adv_err, if_pos he]⟩

/-- Behind an error nothing more is read. -/
theorem rdV_bad (f : Nat) {r : RdM} (p : Nat) (h : r.err ≠ 0) : rdV (f + 1) r p = ⟨.nil, r, p + 1⟩ := by
  rw [rdV, byte_bad h, rdK, if_pos rfl]
  by_cases hp : 256 < p + 1
  · rw [if_pos hp, fail_bad h]; rfl
  · rw [if_neg hp]; rfl
theorem rdL_bad (f : Nat) : ∀ (n : Nat) {r : RdM} (p : Nat), r.err ≠ 0 → (rdL (rdV (f + 1)) n r p).2.1 = r
  | 0, _, _, _ => rfl
  | n + 1, r, p, h => by
    rw [rdL, rdV_bad f p h]
    exact rdL_bad f n (p + 1) h

mutual
theorem rdV_rt : ∀ (t : VT) (f d p q : Nat) (r : RdM) (post : List UInt8), t.rg → t.walk d p 0 = (q, 0) → f + d = 8 → r.err = 0 → r.rest = t.wr ++ post → rdV (f + 1) r p = ⟨t.cl, r.adv t.wr.length, q⟩
  | .mk k n s l, f, d, p, q, r, post, hg, hw, hf, he, hr => by
    rw [VT.rg] at hg
    obtain ⟨hk1, hk2, hn1, hn2, hs, hl, hgl⟩ := hg
    obtain ⟨hp, his⟩ := walk_is hw
    have hb : ∀ k' : Int, k = k' → 0 ≤ k' → k' < 4 → r.byte = (k'.toNat, r.adv 1) := by
      rintro k' rfl h0 h4
      rw [VT.wr, List.cons_append] at hr
      rw [byte_ok he hr]
      have : (UInt8.ofNat (k % 256).toNat).toNat = k.toNat := by simp; omega
      rw [this]
    have hr1 : (r.adv 1).rest = (if k = 1 then numB (zigN n) else if k = 2 then textB s else if k = 3 then numB l.length ++ VT.wrL l else []) ++ post := by
      rw [VT.wr] at hr
      exact adv_rest' (a := [_]) hr
    have hlen : (VT.mk k n s l).wr.length = 1 + (if k = 1 then numB (zigN n) else if k = 2 then textB s else if k = 3 then numB l.length ++ VT.wrL l else []).length := by
      rw [VT.wr, List.length_cons]; omega
    rw [rdV, rdK, hlen, if_neg (by omega : ¬ 256 < p + 1), VT.cl, ← adv_adv]
    cases his with
    | nil _ _ _ hq =>
      rw [hb 0 rfl (by decide) (by decide)]
      simp [hq, adv_zero]
    | int _ _ _ hq =>
      rw [hb 1 rfl (by decide) (by decide)]
      simp only [if_true] at hr1 ⊢
      have := int_rt hn1 hn2 (by rw [adv_err]; exact he) hr1
      simp [this, hq]
    | text _ _ _ hq hs2 =>
      rw [hb 2 rfl (by decide) (by decide)]
      simp only [if_true] at hr1 ⊢
      have := text_rt (by omega) (by rw [adv_err]; exact he) hr1
      simp [this, hq]
      omega
    | list _ _ _ hd hl2 hwl =>
      rw [hb 3 rfl (by decide) (by decide)]
      obtain ⟨f', rfl⟩ : ∃ f', f = f' + 1 := ⟨f - 1, by omega⟩
      simp only [if_true] at hr1 ⊢
      have e0 : ¬ ((3 : Int) = 1) := by decide
      have e1 : ¬ ((3 : Int) = 2) := by decide
      rw [if_neg e0, if_neg e1, List.append_assoc] at hr1
      have hnum := num_rt (most := 64) (by rw [adv_err]; exact he) (by omega) hl2 hr1
      have hr2 := adv_rest' hr1
      have hL := rdL_rt l f' (d + 1) (p + 1) q _ post hgl hwl (by omega) (by rw [adv_err, adv_err]; exact he) hr2
      have et : (3 : Int).toNat = 3 := rfl
      rw [adv_adv] at hL hnum
      simp [et, rdN, hnum, hL, adv_adv, Nat.add_assoc]
theorem rdL_rt : ∀ (l : List VT) (f d p q : Nat) (r : RdM) (post : List UInt8), VT.rgL l → VT.walkL d p 0 l = (q, 0) → f + d = 8 → r.err = 0 → r.rest = VT.wrL l ++ post → rdL (rdV (f + 1)) l.length r p = (VT.clL l, r.adv (VT.wrL l).length, q)
  | [], f, d, p, q, r, post, _, hw, _, _, _ => by
    rw [VT.walkL] at hw
    rw [VT.clL, VT.wrL]
    show ([], r, p) = _
    have hpq : p = q := congrArg Prod.fst hw
    rw [hpq]; rfl
  | t :: ts, f, d, p, q, r, post, hg, hw, hf, he, hr => by
    rw [VT.rgL] at hg
    rw [VT.wrL, List.append_assoc] at hr
    obtain ⟨q1, hw1, hw2⟩ := walkL_cons hw
    have h1 := rdV_rt t f d p q1 r (VT.wrL ts ++ post) hg.1 hw1 hf he hr
    have h2 := rdL_rt ts f d q1 q (r.adv t.wr.length) post hg.2 hw2 hf (by rw [adv_err]; exact he) (adv_rest' hr)
    rw [List.length_cons, rdL, h1]
    simp only
    rw [h2, VT.clL, VT.wrL, adv_adv, List.length_append]
end

/-- What is read was written so, is as it is cloned, and may be. -/
def RdOk (d : Nat) (f : RdM → Nat → VS) : Prop :=
  ∀ (r : RdM) (p : Nat), r.err = 0 → (f r p).r.err = 0 → ∃ post, r.rest = (f r p).t.wr ++ post ∧ (f r p).r = r.adv (f r p).t.wr.length ∧ (f r p).t.walk d p 0 = ((f r p).p, 0) ∧ (f r p).t.cl = (f r p).t ∧ (f r p).t.rg
theorem rdL_inv {d f : Nat} (h : RdOk d (rdV (f + 1))) : ∀ (n : Nat) (r : RdM) (p : Nat), r.err = 0 → (rdL (rdV (f + 1)) n r p).2.1.err = 0 →
    (rdL (rdV (f + 1)) n r p).1.length = n ∧ ∃ post, r.rest = VT.wrL (rdL (rdV (f + 1)) n r p).1 ++ post ∧ (rdL (rdV (f + 1)) n r p).2.1 = r.adv (VT.wrL (rdL (rdV (f + 1)) n r p).1).length ∧ VT.walkL d p 0 (rdL (rdV (f + 1)) n r p).1 = ((rdL (rdV (f + 1)) n r p).2.2, 0) ∧ VT.clL (rdL (rdV (f + 1)) n r p).1 = (rdL (rdV (f + 1)) n r p).1 ∧ VT.rgL (rdL (rdV (f + 1)) n r p).1
  | 0, r, p, he, _ => ⟨rfl, r.rest, by simp [rdL, VT.wrL], by simp [rdL, VT.wrL, adv_zero], by simp [rdL, VT.walkL], by simp [rdL, VT.clL], by simp [rdL, VT.rgL]⟩
  | n + 1, r, p, he, h2 => by
    rw [rdL] at h2 ⊢
    simp only at h2 ⊢
    have h1 : (rdV (f + 1) r p).r.err = 0 := by
      by_cases hx : (rdV (f + 1) r p).r.err = 0
      · exact hx
      · rw [rdL_bad f n _ hx] at h2; exact absurd h2 hx
    obtain ⟨post, a1, a2, a3, a4, a5⟩ := h r p he h1
    obtain ⟨b0, post2, b1, b2, b3, b4, b5⟩ := rdL_inv h n (rdV (f + 1) r p).r (rdV (f + 1) r p).p h1 h2
    refine ⟨by rw [List.length_cons, b0], post2, ?_, ?_, ?_, ?_, ?_⟩
    · rw [VT.wrL, List.append_assoc, ← b1]
      conv => rhs; rw [a2, adv_rest, a1]
      rw [List.drop_left, a1]
    · rw [VT.wrL, b2, List.length_append, ← adv_adv, ← a2]
    · rw [VT.walkL, if_neg (by simp), a3]; exact b3
    · rw [VT.clL, a4, b4]
    · rw [VT.rgL]; exact ⟨a5, b5⟩
theorem rdV_inv : ∀ (f d : Nat), f + d = 8 → RdOk d (rdV (f + 1)) := by
  intro f
  induction f with
  | zero =>
    intro d hd r p he h
    exact rdV_step 0 d hd (fun _ _ hf => absurd hf (by omega)) r p he h
  | succ f ih =>
    intro d hd r p he h
    exact rdV_step (f + 1) d hd (fun f' e _ => by obtain rfl : f' = f := by omega
                                                  exact ih (d + 1) (by omega)) r p he h
where
  rdV_step (f d : Nat) (hd : f + d = 8) (hL : ∀ f', f = f' + 1 → 0 < f → RdOk (d + 1) (rdV (f' + 1))) : RdOk d (rdV (f + 1)) := by
    intro r p he h
    rw [rdV, rdK] at h ⊢
    have hp : ¬ 256 < p + 1 := by
      intro hp
      rw [if_pos hp] at h
      have hbad : (r.byte.2.fail 2).err ≠ 0 := fail_ne (by decide)
      by_cases h0 : r.byte.1 = 0
      · rw [if_pos h0] at h; exact hbad h
      rw [if_neg h0] at h
      by_cases h1 : r.byte.1 = 1
      · rw [if_pos h1, int_bad hbad] at h; exact hbad h
      rw [if_neg h1] at h
      by_cases h2 : r.byte.1 = 2
      · rw [if_pos h2, text_bad hbad] at h
        simp at h; exact hbad h
      rw [if_neg h2] at h
      by_cases h3 : r.byte.1 = 3
      · rw [if_pos h3] at h
        have : (if f = 0 then (r.byte.2.fail 2).fail 30 else r.byte.2.fail 2) = r.byte.2.fail 2 := by split; exact fail_bad hbad; rfl
        rw [this, num_bad hbad] at h
        exact hbad h
      rw [if_neg h3, fail_bad hbad] at h
      exact hbad h
    rw [if_neg hp] at h ⊢
    rcases byte_cases r he with ⟨-, hb⟩ | ⟨x, b, hr, hb⟩
    · rw [hb] at h
      simp [fail_err, he] at h
    have hxl := x.toNat_lt
    rw [hb] at h ⊢
    simp only at h ⊢
    have he1 : (r.adv 1).err = 0 := by rw [adv_err]; exact he
    have hr1 : (r.adv 1).rest = b := adv_rest' (a := [x]) hr
    have hxk : ∀ m : Nat, x.toNat = m → UInt8.ofNat ((m : Int) % 256).toNat = x := by
      rintro m rfl
      rw [show ((x.toNat : Int) % 256).toNat = x.toNat from by omega]; simp
    by_cases h0 : x.toNat = 0
    · rw [if_pos h0]
      exact ⟨b, by rw [hr, VT.wr]; simp; exact (hxk 0 h0).symm, by simp [VT.wr], by rw [VT.walk]; simp [hp], by simp [VT.cl], by simp [VT.rg, VT.rgL]⟩
    rw [if_neg h0] at h ⊢
    by_cases h1 : x.toNat = 1
    · rw [if_pos h1] at h ⊢
      obtain ⟨n, post, e1, e2, e3, e4⟩ := int_inv he1 h
      rw [e1]
      refine ⟨post, ?_, ?_, by rw [VT.walk]; simp [hp], by simp [VT.cl], by simp [VT.rg, VT.rgL]; omega⟩
      · rw [hr, VT.wr, ← hr1, e2]; simp; exact (hxk 1 h1).symm
      · rw [adv_adv, VT.wr]; simp; rw [Nat.add_comm]
    rw [if_neg h1] at h ⊢
    by_cases h2 : x.toNat = 2
    · rw [if_pos h2] at h ⊢
      have hs : ¬ 256 < (r.adv 1).text.1.length := by
        intro hs
        rw [if_pos hs] at h
        exact fail_ne (by decide) h
      rw [if_neg hs] at h ⊢
      obtain ⟨s, post, e1, e2, e3⟩ := text_inv he1 h
      rw [e1] at hs ⊢
      simp only at hs
      refine ⟨post, ?_, ?_, by rw [VT.walk]; simp [hp]; omega, by simp [VT.cl], by simp [VT.rg, VT.rgL]; omega⟩
      · rw [hr, VT.wr, ← hr1, e2]; simp; exact (hxk 2 h2).symm
      · rw [adv_adv, VT.wr]; simp; rw [Nat.add_comm]
    rw [if_neg h2] at h ⊢
    by_cases h3 : x.toNat = 3
    · rw [if_pos h3] at h ⊢
      by_cases hf : f = 0
      · rw [if_pos hf] at h
        have hbad : ((r.adv 1).fail 30).err ≠ 0 := fail_ne (by decide)
        rw [num_bad hbad] at h
        exact absurd h hbad
      rw [if_neg hf] at h ⊢
      obtain ⟨f', rfl⟩ : ∃ f', f = f' + 1 := ⟨f - 1, by omega⟩
      have hn : ((r.adv 1).num 64).2.err = 0 := by
        by_cases hx : ((r.adv 1).num 64).2.err = 0
        · exact hx
        · rw [rdN] at h
          simp only at h
          rw [rdL_bad f' _ _ hx] at h; exact absurd h hx
      obtain ⟨n, post, e1, e2, e3, e4⟩ := num_inv he1 hn
      rw [e1, rdN] at h ⊢
      simp only at h ⊢
      obtain ⟨b0, post2, b1, b2, b3, b4, b5⟩ := rdL_inv (hL f' rfl (by omega)) n _ (p + 1) (by rw [adv_err]; exact he1) h
      refine ⟨post2, ?_, ?_, ?_, ?_, ?_⟩
      · rw [hr, VT.wr, ← hr1, e2, b0]
        simp
        refine ⟨(hxk 3 h3).symm, ?_⟩
        rw [← b1, adv_rest' e2]
      · rw [b2, adv_adv, adv_adv, VT.wr, b0]; simp; rw [Nat.add_comm]
      · rw [VT.walk]
        have q1 : ¬ 8 ≤ d := by omega
        have q2 : ¬ 64 < n := by omega
        simp [hp, b0, q1, q2, b3]
      · rw [VT.cl]; simp [b4]
      · rw [VT.rg]; refine ⟨by decide, by decide, by decide, by decide, by simp, by rw [b0]; omega, b5⟩
    rw [if_neg h3] at h
    exact absurd h (fail_ne (by decide))

mutual
theorem rdV_cut : ∀ (t : VT) (f d p q cut : Nat) (r : RdM), t.rg → t.walk d p 0 = (q, 0) → f + d = 8 → r.err = 0 → cut < t.wr.length → r.rest = t.wr.take cut → (rdV (f + 1) r p).r.err = 6
  | .mk k n s l, f, d, p, q, cut, r, hg, hw, hf, he, hc, hr => by
    rw [VT.rg] at hg
    obtain ⟨hk1, hk2, hn1, hn2, hs, hl, hgl⟩ := hg
    obtain ⟨hp, his⟩ := walk_is hw
    rw [VT.wr] at hc hr
    rw [rdV, rdK, if_neg (by omega : ¬ 256 < p + 1)]
    rcases Nat.eq_zero_or_pos cut with rfl | hpos
    · rw [byte_short he hr]
      simp [fail_err, he]
    obtain ⟨c, rfl⟩ : ∃ c, cut = c + 1 := ⟨cut - 1, by omega⟩
    rw [List.take_succ_cons] at hr
    rw [List.length_cons] at hc
    have hb : ∀ k' : Int, k = k' → 0 ≤ k' → k' < 4 → r.byte = (k'.toNat, r.adv 1) := by
      rintro k' rfl h0 h4
      rw [byte_ok he hr]
      have : (UInt8.ofNat (k % 256).toNat).toNat = k.toNat := by simp; omega
      rw [this]
    have hr1 := adv_rest' (a := [_]) hr
    have he1 : (r.adv 1).err = 0 := by rw [adv_err]; exact he
    rw [List.length_singleton] at hr1
    cases his with
    | nil _ _ _ hq => simp at hc
    | int _ _ _ hq =>
      rw [hb 1 rfl (by decide) (by decide)]
      simp only [if_true] at hr1 hc
      have := int_cut hn1 hn2 he1 (by omega) hr1
      simpa using this
    | text _ _ _ hq hs2 =>
      rw [hb 2 rfl (by decide) (by decide)]
      simp at hr1 hc
      have := text_cut (s := s) (cut := c) (by omega) he1 (by omega) hr1
      simp [this.1, this.2]
    | list _ _ _ hd hl2 hwl =>
      rw [hb 3 rfl (by decide) (by decide)]
      obtain ⟨f', rfl⟩ : ∃ f', f = f' + 1 := ⟨f - 1, by omega⟩
      have e0 : ¬ ((3 : Int) = 1) := by decide
      have e1 : ¬ ((3 : Int) = 2) := by decide
      rw [if_neg e0, if_neg e1, if_pos rfl, take_app] at hr1
      rw [if_neg e0, if_neg e1, if_pos rfl, List.length_append] at hc
      have et : (3 : Int).toNat = 3 := rfl
      simp only [et]
      by_cases hn : c < (numB l.length).length
      · rw [if_pos hn] at hr1
        have := num_cut (most := 64) he1 (by omega) hn hr1
        rw [if_neg (by decide), if_neg (by decide), if_neg (by decide), if_pos trivial, if_neg (by omega), rdN]
        simp only
        rw [this.1]; exact this.2
      · rw [if_neg hn] at hr1
        have hnum := num_rt (most := 64) he1 (by omega) hl2 hr1
        have hr2 := adv_rest' hr1
        have hL := rdL_cut l f' (d + 1) (p + 1) q (c - (numB l.length).length) _ hgl hwl (by omega) (by rw [adv_err, adv_err]; exact he) (by omega) hr2
        simp [rdN, hnum, hL]
theorem rdL_cut : ∀ (l : List VT) (f d p q cut : Nat) (r : RdM), VT.rgL l → VT.walkL d p 0 l = (q, 0) → f + d = 8 → r.err = 0 → cut < (VT.wrL l).length → r.rest = (VT.wrL l).take cut → (rdL (rdV (f + 1)) l.length r p).2.1.err = 6
  | [], f, d, p, q, cut, r, _, _, _, _, hc, _ => by rw [VT.wrL] at hc; simp at hc
  | t :: ts, f, d, p, q, cut, r, hg, hw, hf, he, hc, hr => by
    rw [VT.rgL] at hg
    rw [VT.wrL, take_app] at hr
    rw [VT.wrL, List.length_append] at hc
    obtain ⟨q1, hw1, hw2⟩ := walkL_cons hw
    rw [List.length_cons, rdL]
    by_cases h : cut < t.wr.length
    · rw [if_pos h] at hr
      have h1 := rdV_cut t f d p q1 cut r hg.1 hw1 hf he h hr
      have := rdL_bad f ts.length (rdV (f + 1) r p).p (r := (rdV (f + 1) r p).r) (by rw [h1]; decide)
      simp only
      rw [this]; exact h1
    · rw [if_neg h] at hr
      have h1 := rdV_rt t f d p q1 r _ hg.1 hw1 hf he hr
      rw [h1]
      exact rdL_cut ts f d q1 q (cut - t.wr.length) (r.adv t.wr.length) hg.2 hw2 hf (by rw [adv_err]; exact he) (by omega) (adv_rest' hr)
end
end Go.Proofs.YtihidpfkdpjdpaaGreatDoor
