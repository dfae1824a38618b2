/- Marks while the power goes, plainly (of TornL what does without Pending), and over any disk. -/
import Derived.Test.YthodcbhejjbhaaaMarkL
import Derived.Test.YthodcbhejjbhaaaDiskX
namespace Go.Proofs.Ythodcbhejjbhaaa
open Go.RowKit

/-- A sector whose two numbers are one byte each, none above B. -/
structure SmallS (c : List UInt8) (B : Nat) : Prop where
  len : c.length = 128
  hi0 : ∀ i, 1 ≤ i → i < 8 → c[i]? = some 0
  hi1 : ∀ i, 1 ≤ i → i < 8 → c[56 + i]? = some 0
  lo0 : ∃ x, c[0]? = some x ∧ x.toNat ≤ B
  lo1 : ∃ x, c[56]? = some x ∧ x.toNat ≤ B
theorem SmallS.mono {c : List UInt8} {B B' : Nat} (h : SmallS c B) (hb : B ≤ B') : SmallS c B' :=
  ⟨h.len, h.hi0, h.hi1, let ⟨x, a, b⟩ := h.lo0; ⟨x, a, by omega⟩, let ⟨x, a, b⟩ := h.lo1; ⟨x, a, by omega⟩⟩
theorem deN_small {c : List UInt8} {x : UInt8} (j : Nat) (h0 : c[j]? = some x) (hz : ∀ i, 1 ≤ i → i < 8 → c[j + i]? = some 0) : deN ((c.drop j).take 8) = x.toNat := by
  have : (c.drop j).take 8 = [x, 0, 0, 0, 0, 0, 0, 0] := by
    apply List.ext_getElem?
    intro i
    rw [List.getElem?_take]
    by_cases hi : i < 8
    · rw [if_pos hi, List.getElem?_drop]
      rcases Nat.eq_zero_or_pos i with rfl | hp
      · simpa using h0
      · rw [hz i hp hi]
        have : i = 1 ∨ i = 2 ∨ i = 3 ∨ i = 4 ∨ i = 5 ∨ i = 6 ∨ i = 7 := by omega
        rcases this with rfl | rfl | rfl | rfl | rfl | rfl | rfl <;> rfl
    · rw [if_neg hi, List.getElem?_eq_none (by simp; omega)]
  rw [this]; simp [deN]
theorem SmallS.num0 {c : List UInt8} {B : Nat} (h : SmallS c B) : deN (c.take 8) ≤ B := by
  obtain ⟨x, hx, hb⟩ := h.lo0
  have := deN_small (c := c) 0 hx (fun i h1 h2 => by rw [Nat.zero_add]; exact h.hi0 i h1 h2)
  rw [List.drop_zero] at this
  omega
theorem SmallS.num1 {c : List UInt8} {B : Nat} (h : SmallS c B) : deN ((c.drop 56).take 8) ≤ B := by
  obtain ⟨x, hx, hb⟩ := h.lo1
  have := deN_small (c := c) 56 hx h.hi1
  omega

/-- The mark of sector k, or nought. -/
def vM (k : Nat) (c : List UInt8) : MarkM := if (readM c).2 = true ∧ (readM c).1.s % 2 = k then (readM c).1 else MarkM.zero
theorem readM_pos {c : List UInt8} (h : (readM c).2 = true) : 0 < (readM c).1.s ∧ (readM c).1.s = deN (c.take 8) := by
  unfold readM at *
  split at h
  · rename_i hr
    rw [if_pos hr]
    refine ⟨by simpa using h, ?_⟩
    show deAt c 0 = _
    simp [deAt]
  · simp at h
theorem vM_s (k : Nat) (c : List UInt8) : vM k c = MarkM.zero ∨ (0 < (vM k c).s ∧ (vM k c).s % 2 = k ∧ (vM k c).s = deN (c.take 8)) := by
  unfold vM
  by_cases h : (readM c).2 = true ∧ (readM c).1.s % 2 = k
  · rw [if_pos h]
    have := readM_pos h.1
    exact .inr ⟨this.1, h.2, this.2⟩
  · rw [if_neg h]; exact .inl rfl
theorem zero_s : MarkM.zero.s = 0 := rfl
theorem look_v (C : Nat → List UInt8) : (lookK C 2).1 = lastOf (vM 0 (C 0)) (vM 1 (C 1)) := by
  have e1 : (lookK C 1).1 = vM 0 (C 0) := by
    show (lookStep 0 (MarkM.zero, 0) (C 0)).1 = _
    unfold lookStep vM
    simp only
    by_cases h : (readM (C 0)).2 = true
    · have := readM_pos h
      by_cases hp : (readM (C 0)).1.s % 2 = 0
      · rw [if_pos ⟨h, this.1, hp⟩, if_pos ⟨h, hp⟩]
      · rw [if_neg (fun e => hp e.2.2), if_neg (fun e => hp e.2)]
    · rw [if_neg (fun e => h e.1), if_neg (fun e => h e.1)]
  show (lookStep 1 (lookK C 1) (C 1)).1 = _
  unfold lookStep
  simp only [e1]
  unfold lastOf
  by_cases h : (readM (C 1)).2 = true ∧ (readM (C 1)).1.s % 2 = 1
  · have ev : vM 1 (C 1) = (readM (C 1)).1 := by unfold vM; rw [if_pos h]
    rw [ev]
    by_cases hl : (vM 0 (C 0)).s < (readM (C 1)).1.s
    · rw [if_pos ⟨h.1, hl, h.2⟩, if_pos hl]
    · rw [if_neg (fun e => hl e.2.1), if_neg hl]
  · have ev : vM 1 (C 1) = MarkM.zero := by unfold vM; rw [if_neg h]
    rw [ev, if_neg (fun e => h ⟨e.1, e.2.2⟩), if_neg (by rw [zero_s]; omega)]
theorem look_top (C : Nat → List UInt8) (B : Nat) (h0 : SmallS (C 0) B) (h1 : SmallS (C 1) B) : (lookK C 2).2 ≤ B ∧ (vM 0 (C 0)).s ≤ (lookK C 2).2 ∧ (vM 1 (C 1)).s ≤ (lookK C 2).2 := by
  have e : (lookK C 2).2 = max (max (max (max 0 (deN ((C 0).take 8))) (deN (((C 0).drop 56).take 8))) (deN ((C 1).take 8))) (deN (((C 1).drop 56).take 8)) := rfl
  have a0 := h0.num0; have a1 := h0.num1; have a2 := h1.num0; have a3 := h1.num1
  rw [e]
  refine ⟨by omega, ?_, ?_⟩
  · rcases vM_s 0 (C 0) with h | h
    · rw [h, zero_s]; omega
    · omega
  · rcases vM_s 1 (C 1) with h | h
    · rw [h, zero_s]; omega
    · omega

theorem torn_get (l s : List UInt8) (a : Int) (h1 : l.length = 128) (_ : s.length = 128) (i : Nat) : (torn l s a)[i]? = if i < tornAt a then l[i]? else s[i]? := by
  have ht := tornAt_le a
  unfold torn
  rw [List.getElem?_append]
  have hl : (l.take (tornAt a)).length = tornAt a := by simp; omega
  rw [hl]
  by_cases hi : i < tornAt a
  · rw [if_pos hi, if_pos hi, List.getElem?_take, if_pos hi]
  · rw [if_neg hi, if_neg hi, List.getElem?_drop]
    congr 1; omega
theorem byte_small (n : Nat) (hn : n < 256) : (byteAt n 0).toNat = n ∧ ∀ j, 1 ≤ j → byteAt n j = 0 := by
  constructor
  · unfold byteAt; simp; omega
  · intro j hj
    unfold byteAt
    have : n / 2 ^ (8 * j) = 0 := Nat.div_eq_of_lt (Nat.lt_of_lt_of_le hn (by rw [show 256 = 2 ^ 8 from rfl]; exact Nat.pow_le_pow_right (by decide) (by omega)))
    rw [this]; rfl
theorem enc_small (m : MarkM) (hs : m.s < 256) : SmallS (enc m) m.s := by
  have g0 : ∀ j, j < 8 → (enc m)[j]? = some (byteAt m.s j) := fun j hj => by
    have := enc_get m 0 0 j m.s (by decide) rfl hj
    simpa using this
  have g1 : ∀ j, j < 8 → (enc m)[56 + j]? = some (byteAt m.s j) := fun j hj => by
    have := enc_get m 1 0 j m.s (by decide) rfl hj
    simpa using this
  obtain ⟨b0, bz⟩ := byte_small m.s hs
  exact ⟨length_enc m, fun i h1 h2 => by rw [g0 i h2, bz i h1], fun i h1 h2 => by rw [g1 i h2, bz i h1], ⟨_, g0 0 (by decide), by omega⟩, ⟨_, g1 0 (by decide), by omega⟩⟩
theorem torn_small (m : MarkM) (hs : m.s < 256) {c : List UInt8} {B : Nat} (h : SmallS c B) (hb : B < m.s) (a : Int) : SmallS (torn (enc m) c a) m.s := by
  have hm := enc_small m hs
  have hc := h.mono (Nat.le_of_lt hb)
  have hg := torn_get (enc m) c a hm.len hc.len
  refine ⟨length_torn _ _ _ hm.len hc.len, fun i h1 h2 => ?_, fun i h1 h2 => ?_, ?_, ?_⟩
  · rw [hg]; split; exact hm.hi0 i h1 h2; exact hc.hi0 i h1 h2
  · rw [hg]; split; exact hm.hi1 i h1 h2; exact hc.hi1 i h1 h2
  · rw [hg]; split; exact hm.lo0; exact hc.lo0
  · rw [hg]; split; exact hm.lo1; exact hc.lo1
theorem deAt_half (l : List UInt8) (i : Nat) (hi : i < 7) : deAt l i = deAt (l.take 56) i := by
  unfold deAt
  have e : (l.drop (8 * i)).take 8 = ((l.take 56).drop (8 * i)).take 8 := by
    rw [List.drop_take, List.take_take]
    congr 1; omega
  rw [e]
theorem decM_half {l l' : List UInt8} (h : l.take 56 = l'.take 56) : decM l = decM l' := by
  unfold decM
  rw [deAt_half l 0 (by omega), deAt_half l 1 (by omega), deAt_half l 2 (by omega), deAt_half l 3 (by omega), deAt_half l 4 (by omega), deAt_half l 5 (by omega), deAt_half l 6 (by omega), h,
    ← deAt_half l' 0 (by omega), ← deAt_half l' 1 (by omega), ← deAt_half l' 2 (by omega), ← deAt_half l' 3 (by omega), ← deAt_half l' 4 (by omega), ← deAt_half l' 5 (by omega), ← deAt_half l' 6 (by omega)]
/-- What a torn sector tells: what it told, the new mark, or nothing. -/
theorem torn_v (m : MarkM) (hm : m.ok) (hs : m.s < 256) {c : List UInt8} {B : Nat} (h : SmallS c B) (hb : B < m.s) (a : Int) :
    torn (enc m) c a = c ∨ vM (m.s % 2) (torn (enc m) c a) = m ∨ vM (m.s % 2) (torn (enc m) c a) = MarkM.zero := by
  have hg := torn_get (enc m) c a (length_enc m) h.len
  rcases Nat.eq_zero_or_pos (tornAt a) with h0 | h0
  · refine .inl (List.ext_getElem? fun i => ?_)
    rw [hg, h0, if_neg (by omega)]
  by_cases h56 : tornAt a ≤ 56
  · refine .inr (.inr ?_)
    have hr : readOk (torn (enc m) c a) = false := by
      cases hr : readOk (torn (enc m) c a) with
      | false => rfl
      | true =>
        exfalso
        unfold readOk at hr
        simp only [Bool.and_eq_true, beq_iff_eq] at hr
        have e := congrArg (fun l => l[0]?) hr.2.1
        simp only [List.getElem?_take, List.getElem?_drop] at e
        rw [if_pos (by omega), if_pos (by omega), hg, hg, if_pos h0, if_neg (by omega)] at e
        obtain ⟨x, hx, hxb⟩ := h.lo1
        have e0 := enc_get m 0 0 0 m.s (by decide) rfl (by decide)
        rw [show 0 * 56 + 8 * 0 + 0 = 0 from rfl] at e0
        rw [e0, show 56 + 0 = 56 from rfl, hx] at e
        have := (byte_small m.s hs).1
        rw [Option.some.inj e] at this
        omega
    unfold vM readM
    rw [hr, if_neg (by simp)]
  · refine .inr ?_
    cases hr : readOk (torn (enc m) c a) with
    | false => right; unfold vM readM; rw [hr, if_neg (by simp)]
    | true =>
      left
      have hd : decM (torn (enc m) c a) = m := by
        have e : (torn (enc m) c a).take 56 = (enc m).take 56 := by
          apply List.ext_getElem?
          intro i
          rw [List.getElem?_take, List.getElem?_take]
          by_cases hi : i < 56
          · rw [if_pos hi, if_pos hi, hg, if_pos (by omega)]
          · rw [if_neg hi, if_neg hi]
        rw [decM_half e, decM_enc m hm]
      unfold vM readM
      rw [hr, hd]
      simp only [if_true]
      rw [if_pos ⟨by simp; omega, trivial⟩]
theorem vM_enc (m : MarkM) (hm : m.ok) (h0 : 0 < m.s) : vM (m.s % 2) (enc m) = m := by
  unfold vM
  rw [readM_enc m hm]
  simp only
  rw [if_pos ⟨by simpa using h0, trivial⟩]

/-- Between the rounds: all is durable, L is the last mark, no number is above B. -/
structure TS (D : DiskM) (L : MarkM) (B : Nat) : Prop where
  up : D.down = false
  n : D.n = 2
  pd : ∀ k, D.pend k = none
  s : ∀ k, k < 2 → SmallS (D.sure k) B
  last : lastOf (vM 0 (D.sure 0)) (vM 1 (D.sure 1)) = L
theorem TS.cur {D : DiskM} {L : MarkM} {B : Nat} (h : TS D L B) (k : Nat) : D.cur k = D.sure k := by unfold DiskM.cur; rw [h.pd k]; rfl
theorem TS.look {D : DiskM} {L : MarkM} {B : Nat} (h : TS D L B) : ∃ top, lookR D 0 = (L, top, 0) ∧ top ≤ B ∧ L.s ≤ top ∧ (vM 0 (D.sure 0)).s ≤ top ∧ (vM 1 (D.sure 1)).s ≤ top := by
  have hc : (fun k => D.cur ((0 : Int).toNat + k)) = D.sure := funext fun k => by rw [h.cur]; simp
  have ht := look_top D.sure B (h.s 0 (by decide)) (h.s 1 (by decide))
  refine ⟨(lookK D.sure 2).2, ?_, ht.1, ?_, ht.2.1, ht.2.2⟩
  · unfold lookR
    rw [if_neg (by rw [h.up, h.n]; intro e; rcases e with e | e | e; omega; omega; cases e)]
    rw [hc, look_v, h.last]
  · rw [← h.last, last_s]; omega
theorem TS.get {D : DiskM} {L : MarkM} {B : Nat} (h : TS D L B) : getR D 0 = if L.s = 0 then (MarkM.zero, 4) else (L, 0) := by
  obtain ⟨top, e, -⟩ := h.look
  unfold getR
  rw [e]; rfl
theorem TS.zero {D : DiskM} {L : MarkM} {B : Nat} (h : TS D L B) (h0 : L.s = 0) : L = MarkM.zero := by
  have hl := h.last
  unfold lastOf at hl
  split at hl
  · rename_i hlt
    rw [hl] at hlt; omega
  · rcases vM_s 0 (D.sure 0) with e | e
    · rw [← hl, e]
    · rw [hl] at e; omega
/-- A sector that is written anew, wholly, in part or not at all. -/
theorem TS.next {D D' : DiskM} {L m : MarkM} {B : Nat} (h : TS D L B) (hm : m.ok) (hs : m.s < 256) (hB : B < 254) (top : Nat) (hlk : lookR D 0 = (L, top, 0)) (hms : m.s = nextSeq L.s top) (hd : D'.down = false) (hn : D'.n = 2) (hp : ∀ k, D'.pend k = none)
    (ho : ∀ k, k ≠ m.s % 2 → D'.sure k = D.sure k) (X : List UInt8) (hX : D'.sure (m.s % 2) = X) (hc : X = D.sure (m.s % 2) ∨ X = enc m ∨ ∃ a, X = torn (enc m) (D.sure (m.s % 2)) a) :
    ∃ L', TS D' L' (B + 2) ∧ (L' = L ∨ (L.s < L'.s ∧ L' = m)) ∧ (X = enc m → L' = m) := by
  obtain ⟨top', e, htB, hLt, hv0, hv1⟩ := h.look
  rw [hlk] at e
  obtain rfl : top = top' := by simpa using e
  have hseq : top < m.s ∧ m.s ≤ top + 2 ∧ (0 < L.s → m.s % 2 ≠ L.s % 2) := by
    rw [hms]; unfold nextSeq
    split
    · omega
    · omega
  have hmk : m.s % 2 < 2 := Nat.mod_lt _ (by decide)
  have hso := h.s (m.s % 2) hmk
  have key : ∀ (hb : SmallS X (B + 2)) (hv : vM (m.s % 2) X = vM (m.s % 2) (D.sure (m.s % 2)) ∨ vM (m.s % 2) X = m ∨ vM (m.s % 2) X = MarkM.zero), ∃ L', TS D' L' (B + 2) ∧ (L' = L ∨ (L.s < L'.s ∧ L' = m)) ∧ (vM (m.s % 2) X = m → L' = m) := by
    intro hb hv
    refine ⟨lastOf (vM 0 (D'.sure 0)) (vM 1 (D'.sure 1)), ⟨hd, hn, hp, fun k hk => ?_, rfl⟩, ?_⟩
    · by_cases hkm : k = m.s % 2
      · rw [hkm, hX]; exact hb
      · rw [ho k hkm]; exact (h.s k hk).mono (by omega)
    have hlast := h.last
    have hV0 := vM_s 0 (D.sure 0)
    have hV1 := vM_s 1 (D.sure 1)
    obtain ⟨V0, eV0⟩ : ∃ V, vM 0 (D.sure 0) = V := ⟨_, rfl⟩
    obtain ⟨V1, eV1⟩ : ∃ V, vM 1 (D.sure 1) = V := ⟨_, rfl⟩
    rw [eV0] at hlast hv0 hV0
    rw [eV1] at hlast hv1 hV1
    have hz := zero_s
    rcases Nat.mod_two_eq_zero_or_one m.s with hp2 | hp2
    · rw [hp2] at hX ho hv
      rw [ho 1 (by omega), hX, hp2, eV1]
      rw [eV0] at hv
      rcases hv with hv | hv | hv
      · rw [hv, hlast]
        refine ⟨.inl rfl, fun e => ?_⟩
        rw [e] at hv0; omega
      · rw [hv]
        have : lastOf m V1 = m := by unfold lastOf; rw [if_neg (by omega)]
        rw [this]
        exact ⟨.inr ⟨by omega, rfl⟩, fun _ => rfl⟩
      · rw [hv]
        have e1 : lastOf MarkM.zero V1 = V1 := by
          unfold lastOf
          split
          · rfl
          · rcases hV1 with e | e
            · exact e.symm
            · omega
        rw [e1]
        refine ⟨.inl ?_, fun e => by rw [← e] at hseq; omega⟩
        rw [← hlast]
        unfold lastOf
        split
        · rfl
        · rename_i hlt
          rcases hV0 with e | e
          · rcases hV1 with e' | e'
            · rw [e, e']
            · rw [e] at hlt; omega
          · exfalso
            have : L = V0 := by rw [← hlast]; unfold lastOf; rw [if_neg hlt]
            have h3 := hseq.2.2 (by rw [this]; omega)
            rw [this] at h3
            omega
    · rw [hp2] at hX ho hv
      rw [ho 0 (by omega), hX, hp2, eV0]
      rw [eV1] at hv
      rcases hv with hv | hv | hv
      · rw [hv, hlast]
        refine ⟨.inl rfl, fun e => ?_⟩
        rw [e] at hv1; omega
      · rw [hv]
        have : lastOf V0 m = m := by unfold lastOf; rw [if_pos (by omega)]
        rw [this]
        exact ⟨.inr ⟨by omega, rfl⟩, fun _ => rfl⟩
      · rw [hv]
        have e1 : lastOf V0 MarkM.zero = V0 := by
          unfold lastOf
          rw [if_neg (by omega)]
        rw [e1]
        refine ⟨.inl ?_, fun e => by rw [← e] at hseq; omega⟩
        rw [← hlast]
        unfold lastOf
        split
        · rename_i hlt
          exfalso
          have : L = V1 := by rw [← hlast]; unfold lastOf; rw [if_pos hlt]
          have := hseq.2.2 (by rw [this]; omega)
          rw [‹L = V1›] at this
          rcases hV1 with e' | e'
          · rw [e'] at hlt; omega
          · omega
        · rfl
  have hve : X = enc m → vM (m.s % 2) X = m := fun e => by rw [e]; exact vM_enc m hm (by omega)
  have hsm : SmallS X (B + 2) ∧ (vM (m.s % 2) X = vM (m.s % 2) (D.sure (m.s % 2)) ∨ vM (m.s % 2) X = m ∨ vM (m.s % 2) X = MarkM.zero) := by
    rcases hc with e | e | ⟨a, e⟩
    · rw [e]; exact ⟨hso.mono (by omega), .inl rfl⟩
    · refine ⟨by rw [e]; exact (enc_small m hs).mono (by omega), .inr (.inl (hve e))⟩
    · have hso' : SmallS (D.sure (m.s % 2)) (m.s - 1) := by
        have ht := look_top D.sure B (h.s 0 (by decide)) (h.s 1 (by decide))
        have htop : top = (lookK D.sure 2).2 := by
          have hcc : (fun k => D.cur ((0 : Int).toNat + k)) = D.sure := funext fun k => by rw [h.cur]; simp
          have := congrArg (fun p => p.2.1) hlk
          unfold lookR at this
          rw [if_neg (by rw [h.up, h.n]; intro e; rcases e with e | e | e; omega; omega; cases e), hcc] at this
          exact this.symm
        have e : (lookK D.sure 2).2 = max (max (max (max 0 (deN ((D.sure 0).take 8))) (deN (((D.sure 0).drop 56).take 8))) (deN ((D.sure 1).take 8))) (deN (((D.sure 1).drop 56).take 8)) := rfl
        have hh : ∀ k, k < 2 → deN ((D.sure k).take 8) ≤ top ∧ deN (((D.sure k).drop 56).take 8) ≤ top := fun k hk => by
          have : k = 0 ∨ k = 1 := by omega
          rcases this with rfl | rfl <;> (rw [htop, e]; omega)
        obtain ⟨x, hx, -⟩ := hso.lo0
        obtain ⟨y, hy, -⟩ := hso.lo1
        have d0 := deN_small (c := D.sure (m.s % 2)) 0 hx (fun i h1 h2 => by rw [Nat.zero_add]; exact hso.hi0 i h1 h2)
        have d1 := deN_small (c := D.sure (m.s % 2)) 56 hy hso.hi1
        rw [List.drop_zero] at d0
        have := hh _ hmk
        exact ⟨hso.len, hso.hi0, hso.hi1, ⟨x, hx, by omega⟩, ⟨y, hy, by omega⟩⟩
      rw [e]
      refine ⟨(torn_small m hs hso' (by omega) a).mono (by omega), ?_⟩
      rcases torn_v m hm hs hso' (by omega) a with e | e | e
      · left; rw [e]
      · right; left; exact e
      · right; right; exact e
  obtain ⟨L', h1, h2, h3⟩ := key hsm.1 hsm.2
  exact ⟨L', h1, h2, fun e => h3 (hve e)⟩

/-- A put while the power goes: what is pending then. -/
theorem putGo_torn {D : DiskM} (m : MarkM) (hd : D.down = false) (hf : 1 < D.n) (hpd : ∀ k, D.pend k = none) (hfu : D.fuse = 0 ∨ D.fuse = 1) :
    ∃ D', putGo D 0 m = (D', MarkM.zero, 50) ∧ D'.n = D.n ∧ D'.sure = D.sure ∧ ((∀ k, D'.pend k = none) ∨ ∀ k, D'.pend k = if k = m.s % 2 then some (enc m) else none) := by
  have hpl : ¬ (((0 : Int) + ((m.s % 2 : Nat) : Int)) < 0 ∨ (D.n : Int) ≤ (0 : Int) + ((m.s % 2 : Nat) : Int)) := by omega
  rcases hfu with h0 | h1
  · have hb : D.burns = false := by unfold DiskM.burns; rw [h0]; rfl
    have ew : D.write ((0 : Int) + ((m.s % 2 : Nat) : Int)) (enc m) = (D.burn, 50) := by
      unfold DiskM.write
      rw [hd, hb, if_neg (by simp), if_neg hpl, if_neg (by simp), if_neg (by simp), if_neg (by simp)]
    refine ⟨D.burn, ?_, burn_n D, burn_sure D, .inl fun k => by rw [burn_pend]; exact hpd k⟩
    unfold putGo; rw [ew]; rfl
  · have hb : D.burns = true := by unfold DiskM.burns; rw [h1]; rfl
    obtain ⟨W, hW⟩ : ∃ W : DiskM, W = { D.burn.put ((0 : Int) + ((m.s % 2 : Nat) : Int)).toNat (enc m) with nw := wrap64 (D.nw + 1) } := ⟨_, rfl⟩
    have ew : D.write ((0 : Int) + ((m.s % 2 : Nat) : Int)) (enc m) = (W, 0) := by
      unfold DiskM.write
      rw [hd, hb, if_neg (by simp), if_neg hpl, if_neg (by simp), if_neg (by simp), if_pos rfl, ← hW]
    have wd : W.down = false := by rw [hW]; show D.burn.down = false; unfold DiskM.burn; split; exact hd; rw [if_neg (by omega)]; exact hd
    have wf : W.fuse = 0 := by
      have : W.fuse = D.burn.fuse := by rw [hW]; rfl
      rw [this]; unfold DiskM.burn
      rw [if_neg (by omega), if_neg (by omega)]
      show D.fuse - 1 = 0; omega
    have wb : W.burns = false := by unfold DiskM.burns; rw [wf]; rfl
    have ws : W.sure = D.sure := by rw [hW]; exact burn_sure D
    have ef : W.flush = (W.burn, 50) := by
      unfold DiskM.flush; rw [wd, wb]; rfl
    have wn : W.n = D.n := by rw [hW]; exact burn_n D
    refine ⟨W.burn, ?_, (burn_n W).trans wn, (burn_sure W).trans ws, .inr fun k => ?_⟩
    · unfold putGo
      rw [ew]
      simp only [ef]
      rfl
    · rw [burn_pend, hW]
      show (if k = ((0 : Int) + ((m.s % 2 : Nat) : Int)).toNat then some (enc m) else D.burn.pend k) = _
      rw [burn_pend, hpd k, show ((0 : Int) + ((m.s % 2 : Nat) : Int)).toNat = m.s % 2 from by omega]

theorem ts_new : TS (DiskM.new 2) MarkM.zero 0 := by
  have hz : SmallS (zeros 128) 0 := by
    have := enc_small MarkM.zero (by decide)
    rw [enc_zero] at this
    exact this
  refine ⟨rfl, rfl, fun _ => rfl, fun _ _ => hz, ?_⟩
  have : ∀ k, vM k (zeros 128) = MarkM.zero := fun k => by
    unfold vM
    rw [← enc_zero, readM_enc MarkM.zero zero_ok]
    rw [if_neg (by simp [zero_s])]
  show lastOf (vM 0 (zeros 128)) (vM 1 (zeros 128)) = _
  rw [this, this]; rfl
/-- The two sectors of marks, by what stands on them: L the last mark, no number above B. -/
def fakeD (C : Nat → List UInt8) : DiskM := ⟨0, 0, 2, C, fun _ => none, false, -1⟩
def TSC (C : Nat → List UInt8) (L : MarkM) (B : Nat) : Prop := TS (fakeD C) L B
theorem TSC.new : TSC (fun _ => zeros 128) MarkM.zero 0 := ts_new
theorem TSC.more {C : Nat → List UInt8} {L : MarkM} {B B' : Nat} (h : TSC C L B) (hb : B ≤ B') : TSC C L B' := ⟨h.up, h.n, h.pd, fun k hk => (h.s k hk).mono hb, h.last⟩
theorem TSC.congr {C C' : Nat → List UInt8} {L : MarkM} {B : Nat} (h : TSC C L B) (hc : ∀ k, k < 2 → C' k = C k) : TSC C' L B := ⟨rfl, rfl, fun _ => rfl, fun k hk => by
  show SmallS (C' k) B
  rw [hc k hk]; exact h.s k hk, by
  show lastOf (vM 0 (C' 0)) (vM 1 (C' 1)) = L
  rw [hc 0 (by decide), hc 1 (by decide)]; exact h.last⟩
section
variable {D : DiskM} {L : MarkM} {B : Nat}
theorem TSC.look (h : TSC (fun k => D.cur k) L B) (hd : D.down = false) (hn : 1 < D.n) : ∃ top, lookR D 0 = (L, top, 0) ∧ lookR (fakeD fun k => D.cur k) 0 = (L, top, 0) ∧ top ≤ B ∧ L.s ≤ top := by
  obtain ⟨top, e, h1, h2, -, -⟩ := TS.look h
  refine ⟨top, ?_, e, h1, h2⟩
  rw [← e]
  unfold lookR
  rw [if_neg (by rw [hd]; intro e; rcases e with e | e | e; omega; omega; cases e), if_neg (by intro e; rcases e with e | e | e; omega; exact absurd e (by show ¬ ((2 : Nat) : Int) ≤ 0 + 1; decide); cases e)]
  rfl
theorem TSC.get (h : TSC (fun k => D.cur k) L B) (hd : D.down = false) (hn : 1 < D.n) : getR D 0 = if L.s = 0 then (MarkM.zero, 4) else (L, 0) := by
  obtain ⟨top, e, -⟩ := h.look hd hn
  unfold getR
  rw [e]; rfl
/-- The mark that is put next; and what the sectors tell behind it, by what stands on its sector. -/
theorem TSC.next (h : TSC (fun k => D.cur k) L B) (hd : D.down = false) (hn : 1 < D.n) (hB : B ≤ 200) (xs : List Nat) (h6 : xs.length ≤ 6) (hx : ∀ x ∈ xs, x < 18446744073709551616) :
    ∃ m, putR D 0 xs = putGo D 0 m ∧ m = mkMark m.s xs ∧ 0 < m.s ∧ ∀ C' : Nat → List UInt8, (∀ k, k < 2 → k ≠ m.s % 2 → C' k = D.cur k) → (C' (m.s % 2) = D.cur (m.s % 2) ∨ C' (m.s % 2) = enc m ∨ ∃ a, C' (m.s % 2) = torn (enc m) (D.cur (m.s % 2)) a) →
      ∃ L', TSC C' L' (B + 2) ∧ (L' = L ∨ L' = m) ∧ (C' (m.s % 2) = enc m → L' = m) := by
  obtain ⟨top, e, ef, htB, hLt⟩ := h.look hd hn
  obtain ⟨m, hm⟩ : ∃ m, mkMark (nextSeq L.s top) xs = m := ⟨_, rfl⟩
  have hms : m.s = nextSeq L.s top := by rw [← hm]; rfl
  have hseq : top < m.s ∧ m.s ≤ top + 2 := by
    rw [hms]; unfold nextSeq
    split <;> omega
  have hmo : m.ok := by rw [← hm]; exact mk_ok _ xs (by omega) hx
  have hpr : putR D 0 xs = putGo D 0 m := by
    unfold putR putMark
    rw [e]
    simp only
    rw [if_neg (by simp), if_neg (by omega), if_neg (by unfold topMax; omega), hm]
  refine ⟨m, hpr, by rw [← hm]; rfl, by omega, fun C' ho hc => ?_⟩
  obtain ⟨L', h1, h2, h3⟩ := TS.next (D' := fakeD fun k => if k < 2 then C' k else D.cur k) h hmo (by omega) (by omega) top ef hms rfl rfl (fun _ => rfl) (fun k hk => by
    show (if k < 2 then C' k else D.cur k) = D.cur k
    by_cases hk2 : k < 2
    · rw [if_pos hk2]; exact ho k hk2 hk
    · rw [if_neg hk2]) (C' (m.s % 2)) (by show (if m.s % 2 < 2 then C' (m.s % 2) else _) = _; rw [if_pos (by omega)]) hc
  refine ⟨L', TSC.congr (C := fun k => if k < 2 then C' k else D.cur k) h1 (fun k hk => by show C' k = (if k < 2 then C' k else D.cur k); rw [if_pos hk]), ?_, h3⟩
  rcases h2 with h2 | ⟨-, h2⟩
  · exact .inl h2
  · exact .inr h2
end
end Go.Proofs.Ythodcbhejjbhaaa
