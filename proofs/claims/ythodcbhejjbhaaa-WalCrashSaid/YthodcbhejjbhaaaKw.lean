/- wal, plainly: the power goes in the middle of an operation. -/
import Derived.Test.YthodcbhejjbhaaaL8F
namespace Go.Proofs.Ythodcbhejjbhaaa
open Go.RowKit

theorem mod_win {x y b c : Nat} (hx1 : b ≤ x) (hx2 : x < b + c) (hy1 : b ≤ y) (hy2 : y < b + c) (h : x % c = y % c) : x = y := by
  have h1 := Nat.sub_mod_eq_zero_of_mod_eq h
  have h2 := Nat.sub_mod_eq_zero_of_mod_eq h.symm
  rw [Nat.mod_eq_of_lt (by omega)] at h1 h2
  omega
theorem sectorL_g {l : List UInt8} {j : Nat} (hj : j < 128) (hl : j < l.length) : (sectorL l)[j]? = l[j]? := by
  unfold sectorL
  rw [List.getElem?_append_left (by rw [List.length_take]; omega), List.getElem?_take_of_lt hj]
theorem pre_g {t T : List UInt8} (h : t <+: T) {i : Nat} (hi : i < t.length) : T[i]? = t[i]? := by
  obtain ⟨s, rfl⟩ := h
  rw [List.getElem?_append_left hi]
/-- In the middle of laying: from 'head' on the old text T stands, durable or not; of the new one TT (of which T is the beginning) what is told up to N. -/
structure KW (D : DiskM) (n0 cnt : Nat) (C0 : Nat → List UInt8) (head : Nat) (T TT : List UInt8) (N : Nat) : Prop where
  n : D.n = n0
  mks : ∀ k, k < 2 → D.sure k = C0 k ∧ D.pend k = none
  len : ∀ k, k < n0 → (D.sure k).length = 128
  plen : ∀ k l, D.pend k = some l → l.length = 128
  keep : ∀ i, head ≤ i → i < T.length → (D.sure (2 + i / 128 % cnt))[i % 128]? = T[i]? ∧ ∀ l, D.pend (2 + i / 128 % cnt) = some l → l[i % 128]? = T[i]?
  cur : D.down = false → ∀ i, head ≤ i → i < N → (D.cur (2 + i / 128 % cnt))[i % 128]? = TT[i]?
section
variable {D : DiskM} {n0 cnt head N : Nat} {C0 : Nat → List UInt8} {T TT : List UInt8}
theorem burn_down (D : DiskM) (h : D.burns = false) : D.burn.down = true := by
  have hf : D.fuse = 0 := by unfold DiskM.burns at h; simpa using h
  unfold DiskM.burn
  rw [if_neg (by omega), if_pos hf]
theorem burn_keeps (D : DiskM) (h : D.burns = true) : D.burn.down = D.down := by
  have hf : D.fuse ≠ 0 := by unfold DiskM.burns at h; simpa using h
  unfold DiskM.burn
  split
  · rfl
  · first | rfl | (rw [if_neg hf])
theorem KW.burnt (h : KW D n0 cnt C0 head T TT N) (hb : D.burns = false ∨ D.burns = true) : KW D.burn n0 cnt C0 head T TT N := by
  refine ⟨(burn_n D).trans h.n, by rw [burn_sure, burn_pend]; exact h.mks, by rw [burn_sure]; exact h.len, by rw [burn_pend]; exact h.plen, by rw [burn_sure, burn_pend]; exact h.keep, fun hd i h1 h2 => ?_⟩
  rcases hb with hb | hb
  · rw [burn_down D hb] at hd; cases hd
  · rw [burn_keeps D hb] at hd
    have := h.cur hd i h1 h2
    unfold DiskM.cur at this ⊢
    rw [burn_sure, burn_pend]; exact this
theorem KW.write (h : KW D n0 cnt C0 head T TT N) {a : Nat} (ha : a % 128 = 0) (hah : head / 128 * 128 ≤ a) (hal : a < TT.length) (hp : T <+: TT) (hr : TT.length ≤ head / 128 * 128 + cnt * 128) (haN : a ≤ N) (hN : N ≤ TT.length) :
    KW (D.write ((2 + a / 128 % cnt : Nat) : Int) (sectorL (TT.drop a))).1 n0 cnt C0 head T TT N ∧ ((D.write ((2 + a / 128 % cnt : Nat) : Int) (sectorL (TT.drop a))).2 = 0 → KW (D.write ((2 + a / 128 % cnt : Nat) : Int) (sectorL (TT.drop a))).1 n0 cnt C0 head T TT (max N (min (a + 128) TT.length))) := by
  have hTl := hp.length_le
  have hsec : ∀ i, head ≤ i → i < TT.length → i / 128 % cnt = a / 128 % cnt → i / 128 = a / 128 := fun i h1 h2 e => by
    have h3 : i / 128 < head / 128 + cnt := by
      rcases Nat.lt_or_ge (i / 128) (head / 128 + cnt) with g | g
      · exact g
      · have := Nat.mul_le_mul_right 128 g
        rw [Nat.add_mul] at this
        omega
    have h4 : a / 128 < head / 128 + cnt := by
      rcases Nat.lt_or_ge (a / 128) (head / 128 + cnt) with g | g
      · exact g
      · have := Nat.mul_le_mul_right 128 g
        rw [Nat.add_mul] at this
        omega
    exact mod_win (b := head / 128) (by omega) h3 (by omega) h4 e
  have hget : ∀ i, i < TT.length → i / 128 = a / 128 → (sectorL (TT.drop a))[i % 128]? = TT[i]? := fun i h1 e => by
    rw [sectorL_g (Nat.mod_lt _ (by decide)) (by rw [List.length_drop]; omega), List.getElem?_drop, show a + i % 128 = i from by omega]
  unfold DiskM.write
  by_cases hd : D.down = true
  · rw [if_pos hd]; exact ⟨h, fun e => (by simp at e)⟩
  rw [if_neg hd]
  split
  · exact ⟨h, fun e => (by simp at e)⟩
  split
  · exact ⟨h, fun e => (by simp at e)⟩
  split
  · exact ⟨h, fun e => (by simp at e)⟩
  by_cases hb : D.burns = true
  · rw [if_pos hb]
    have key : KW { D.burn.put ((2 + a / 128 % cnt : Nat) : Int).toNat (sectorL (TT.drop a)) with nw := wrap64 (D.nw + 1) } n0 cnt C0 head T TT (max N (min (a + 128) TT.length)) := by
      rw [Int.toNat_natCast]
      have hpd : ∀ k, ({ D.burn.put (2 + a / 128 % cnt) (sectorL (TT.drop a)) with nw := wrap64 (D.nw + 1) } : DiskM).pend k = if k = 2 + a / 128 % cnt then some (sectorL (TT.drop a)) else D.pend k := fun k => by
        show (if k = 2 + a / 128 % cnt then some _ else D.burn.pend k) = _
        rw [burn_pend]
      have hsu : ∀ k, ({ D.burn.put (2 + a / 128 % cnt) (sectorL (TT.drop a)) with nw := wrap64 (D.nw + 1) } : DiskM).sure k = D.sure k := fun k => by
        show D.burn.sure k = _
        rw [burn_sure]
      refine ⟨(burn_n D).trans h.n, fun k hk => ?_, fun k hk => ?_, fun k l hl => ?_, fun i h1 h2 => ?_, fun hd' i h1 h2 => ?_⟩
      · rw [hpd, hsu, if_neg (by omega)]; exact h.mks k hk
      · rw [hsu]; exact h.len k hk
      · rw [hpd] at hl
        by_cases e : k = 2 + a / 128 % cnt
        · rw [if_pos e] at hl
          obtain rfl := Option.some.inj hl
          exact length_sectorL _
        · rw [if_neg e] at hl
          exact h.plen k l hl
      · rw [hsu]
        refine ⟨(h.keep i h1 h2).1, fun l hl => ?_⟩
        rw [hpd] at hl
        by_cases e : 2 + i / 128 % cnt = 2 + a / 128 % cnt
        · rw [if_pos e] at hl
          obtain rfl := Option.some.inj hl
          rw [hget i (by omega) (hsec i h1 (by omega) (by omega))]
          exact pre_g hp h2
        · rw [if_neg e] at hl
          exact (h.keep i h1 h2).2 l hl
      · have hdn : D.down = false := by
          have : D.burn.down = false := hd'
          rwa [burn_keeps D hb] at this
        have hiT : i < TT.length := by omega
        unfold DiskM.cur
        rw [hpd, hsu]
        by_cases e : 2 + i / 128 % cnt = 2 + a / 128 % cnt
        · rw [if_pos e]
          exact hget i hiT (hsec i h1 hiT (by omega))
        · rw [if_neg e]
          refine h.cur hdn i h1 ?_
          have hne : i / 128 ≠ a / 128 := fun e' => e (by rw [e'])
          rcases Nat.lt_or_ge i N with g | g
          · exact g
          · exfalso
            have hlt : i < a + 128 := by omega
            have hia : i < a := by
              rcases Nat.lt_or_ge i a with g2 | g2
              · exact g2
              · exact absurd (by omega) hne
            omega
    exact ⟨{ key with cur := fun hd' i h1 h2 => key.cur hd' i h1 (by omega) }, fun _ => key⟩
  · have hb' : D.burns = false := by simpa using hb
    rw [if_neg hb]
    exact ⟨h.burnt (.inl hb'), fun e => (by simp at e)⟩
/-- Sectors are written one behind the other, as long as the power is there. -/
theorem KW.run {R : RingM} (hf2 : R.first = 2) (hc : R.count = cnt) (hp : T <+: TT) (hr : TT.length ≤ head / 128 * 128 + cnt * 128) : ∀ (f a : Nat) (D : DiskM) (N : Nat), KW D n0 cnt C0 head T TT N → a % 128 = 0 → head / 128 * 128 ≤ a → min a TT.length ≤ N → N ≤ TT.length → TT.length ≤ a + f →
    KW (ringRun R f a (TT.drop a) D).1 n0 cnt C0 head T TT N ∧ ((ringRun R f a (TT.drop a) D).2 = 0 → KW (ringRun R f a (TT.drop a) D).1 n0 cnt C0 head T TT TT.length)
  | 0, a, D, N, h, _, _, haN, hNT, hfu => ⟨h, fun _ => { h with cur := fun hd i h1 h2 => h.cur hd i h1 (by omega) }⟩
  | f + 1, a, D, N, h, ha, hah, haN, hNT, hfu => by
    unfold ringRun
    by_cases hne : TT.drop a = []
    · have hle : TT.length ≤ a := by
        have := congrArg List.length hne
        rw [List.length_drop] at this
        simp at this; omega
      rw [if_pos hne]
      exact ⟨h, fun _ => { h with cur := fun hd i h1 h2 => h.cur hd i h1 (by omega) }⟩
    rw [if_neg hne]
    have hal : a < TT.length := by
      rcases Nat.lt_or_ge a TT.length with e | e
      · exact e
      · exact absurd (List.drop_eq_nil_of_le e) hne
    have hsec : R.sector a = 2 + a / 128 % cnt := by unfold RingM.sector; rw [hf2, hc]
    rw [hsec]
    obtain ⟨w1, w2⟩ := h.write ha hah hal hp hr (by omega) hNT
    by_cases hw : (D.write ((2 + a / 128 % cnt : Nat) : Int) (sectorL (TT.drop a))).2 ≠ 0
    · rw [if_pos hw]
      exact ⟨w1, fun e => absurd e hw⟩
    rw [if_neg hw]
    have w3 := w2 (Classical.not_not.1 hw)
    have hN3 : N ≤ max N (min (a + 128) TT.length) := by omega
    by_cases h128 : (TT.drop a).length < 128
    · rw [if_pos h128]
      rw [List.length_drop] at h128
      exact ⟨w1, fun _ => { w3 with cur := fun hd i h1 h2 => w3.cur hd i h1 (by omega) }⟩
    · rw [if_neg h128, List.drop_drop]
      obtain ⟨r1, r2⟩ := KW.run hf2 hc hp hr f (a + 128) _ _ w3 (by omega) (by omega) (by omega) (by omega) (by omega)
      exact ⟨{ r1 with cur := fun hd i h1 h2 => r1.cur hd i h1 (by omega) }, r2⟩
end
/-- A ring whose text is TT so far. -/
structure KR8 (D : DiskM) (R : RingM) (n0 cnt : Nat) (C0 : Nat → List UInt8) (head : Nat) (T TT : List UInt8) : Prop where
  kw : KW D n0 cnt C0 head T TT TT.length
  f2 : R.first = 2
  c : R.count = cnt
  tail : R.tail = TT.length
  rest : R.rest = TT.drop (TT.length / 128 * 128)
  pre : T <+: TT
  hd : head ≤ T.length
  room : TT.length ≤ head / 128 * 128 + cnt * 128
section
variable {D : DiskM} {R : RingM} {n0 cnt head : Nat} {C0 : Nat → List UInt8} {T TT : List UInt8}
theorem KR8.left (h : KR8 D R n0 cnt C0 head T TT) : R.left head = cnt * 128 - (TT.length - head / 128 * 128) := by
  have h1 := h.pre.length_le
  have h2 := h.hd
  unfold RingM.left RingM.size
  rw [h.c, h.tail, Nat.min_eq_left (by omega)]
theorem KR8.append (h : KR8 D R n0 cnt C0 head T TT) (s : List UInt8) : ∃ TT', KR8 (R.append head s D).2.1 (R.append head s D).1 n0 cnt C0 head T TT' ∧ ((R.append head s D).2.2 = 0 → TT' = TT ++ s) ∧ (R.left head < s.length → TT' = TT ∧ (R.append head s D).2.2 = 3) ∧ (¬ R.left head < s.length → (R.append head s D).2.2 ≠ 3) := by
  have hl := h.left
  have hroom := h.room
  unfold RingM.append
  by_cases h1 : R.left head < s.length
  · rw [if_pos h1]; exact ⟨TT, h, fun e => (by simp at e), fun _ => ⟨rfl, rfl⟩, fun e => absurd h1 e⟩
  rw [if_neg h1]
  by_cases h2 : s = []
  · rw [if_pos h2]; exact ⟨TT, h, fun _ => by rw [h2, List.append_nil], fun e => absurd e h1, fun _ => (by show (0 : Int) ≠ 3; decide)⟩
  rw [if_neg h2]
  have hpl := h.pre.length_le
  have hhd := h.hd
  have hall : R.rest ++ s = (TT ++ s).drop (TT.length / 128 * 128) := by
    rw [h.rest, List.drop_append_of_le_length (by omega)]
  have hat : R.tail - R.rest.length = TT.length / 128 * 128 := by
    rw [h.rest, h.tail, List.length_drop]; omega
  have hlen : (TT ++ s).length ≤ head / 128 * 128 + cnt * 128 := by rw [List.length_append]; omega
  have hp := h.pre.trans (List.prefix_append TT s)
  have hk : KW D n0 cnt C0 head T (TT ++ s) TT.length := ⟨h.kw.n, h.kw.mks, h.kw.len, h.kw.plen, h.kw.keep, fun hd i i1 i2 => by rw [h.kw.cur hd i i1 i2]; exact (pre_g (List.prefix_append TT s) i2).symm⟩
  obtain ⟨k1, k2⟩ := KW.run h.f2 h.c hp hlen (R.rest ++ s).length (TT.length / 128 * 128) D TT.length hk (by omega) (by omega) (by omega) (by rw [List.length_append]; omega) (by rw [hall, List.length_drop]; omega)
  have hcode : ∀ (f a : Nat) (all : List UInt8) (D : DiskM), (ringRun R f a all D).2 ≠ 3 := by
    intro f
    induction f with
    | zero => intro a all D; show (0 : Int) ≠ 3; decide
    | succ f ih =>
      intro a all D
      unfold ringRun
      split
      · show (0 : Int) ≠ 3; decide
      split
      · unfold DiskM.write
        split
        · show (50 : Int) ≠ 3; decide
        split
        · show (1 : Int) ≠ 3; decide
        split
        · show (2 : Int) ≠ 3; decide
        split
        · show (6 : Int) ≠ 3; decide
        split
        · show (0 : Int) ≠ 3; decide
        · show (50 : Int) ≠ 3; decide
      split
      · show (0 : Int) ≠ 3; decide
      · exact ih _ _ _
  have hcd := hcode (R.rest ++ s).length (TT.length / 128 * 128) (R.rest ++ s) D
  rw [hall] at k1 k2 hcd
  simp only [hall, hat]
  by_cases h3 : (ringRun R ((TT ++ s).drop (TT.length / 128 * 128)).length (TT.length / 128 * 128) ((TT ++ s).drop (TT.length / 128 * 128)) D).2 = 0
  · rw [if_pos h3]
    refine ⟨TT ++ s, ⟨k2 h3, h.f2, h.c, by show R.tail + s.length = _; rw [h.tail, List.length_append], ?_, hp, h.hd, hlen⟩, fun _ => rfl, fun e => absurd e h1, fun _ => (by show (0 : Int) ≠ 3; decide)⟩
    show ((TT ++ s).drop (TT.length / 128 * 128)).drop (((TT ++ s).drop (TT.length / 128 * 128)).length / 128 * 128) = _
    rw [List.drop_drop]
    congr 1
    rw [List.length_drop, List.length_append]
    omega
  · rw [if_neg h3]
    refine ⟨TT, ⟨⟨k1.n, k1.mks, k1.len, k1.plen, k1.keep, fun hd i i1 i2 => by rw [k1.cur hd i i1 i2]; exact pre_g (List.prefix_append TT s) i2⟩, h.f2, h.c, h.tail, h.rest, h.pre, h.hd, h.room⟩, fun e => absurd e h3, fun e => absurd e h1, fun _ => hcd⟩
end
/-- Frames are laid. -/
theorem KR8.lays {n0 cnt : Nat} {C0 : Nat → List UInt8} {T : List UInt8} : ∀ (gs : List (Nat × List UInt8)) (M : WM) (TT : List UInt8), KR8 M.D M.R n0 cnt C0 M.head T TT →
    ∃ TT', KR8 (M.lays gs).1.D (M.lays gs).1.R n0 cnt C0 M.head T TT' ∧ (M.lays gs).1.head = M.head ∧
      ((M.lays gs).2.2 = 0 ∨ (M.lays gs).2.2 = 3 → (M.lays gs).2.1 = laysN (cnt * 128 - (TT.length - M.head / 128 * 128)) TT.length gs ∧ TT' = TT ++ layT TT.length (gs.take (M.lays gs).2.1)) ∧ ((M.lays gs).2.2 = 0 → (M.lays gs).2.1 = gs.length)
  | [], M, TT, h => ⟨TT, h, rfl, fun _ => ⟨rfl, by show TT = TT ++ layT TT.length []; simp [layT]⟩, fun _ => rfl⟩
  | (k, s) :: gs, M, TT, h => by
    have hl := first_len TT.length k s
    obtain ⟨TT1, k1, k2, k3, k4⟩ := h.append (padN M.R.tail s.length ++ frameN (placeN M.R.tail s.length) k s)
    have hla : M.laid k s = M.R.append M.head (padN M.R.tail s.length ++ frameN (placeN M.R.tail s.length) k s) M.D := rfl
    rw [← hla] at k1 k2 k3 k4
    have hly : M.lay k s = { M with R := (M.laid k s).1, D := (M.laid k s).2.1 } := rfl
    rw [h.tail] at k2 k3 k4
    rw [h.left, hl] at k3 k4
    rw [WM.lays, laysN]
    by_cases he : (M.laid k s).2.2 ≠ 0
    · rw [if_pos he]
      refine ⟨TT1, k1, rfl, fun hc => ?_, fun e => absurd e he⟩
      have h3 : (M.laid k s).2.2 = 3 := hc.resolve_left he
      by_cases hft : cnt * 128 - (TT.length - M.head / 128 * 128) < placeN TT.length s.length + 9 + s.length - TT.length
      · rw [if_pos hft]
        refine ⟨rfl, ?_⟩
        rw [(k3 hft).1]
        show TT = TT ++ layT TT.length []
        simp [layT]
      · exact absurd h3 (k4 hft)
    · have he0 : (M.laid k s).2.2 = 0 := Classical.not_not.1 he
      have hft : ¬ cnt * 128 - (TT.length - M.head / 128 * 128) < placeN TT.length s.length + 9 + s.length - TT.length := fun e => by rw [(k3 e).2] at he0; exact absurd he0 (by decide)
      rw [if_neg he, if_neg hft]
      have hTT1 := k2 he0
      obtain ⟨TT', i1, i2, i3, i4⟩ := KR8.lays gs (M.lay k s) TT1 (by rw [hly]; exact k1)
      have hT1 : TT1.length = placeN TT.length s.length + 9 + s.length := by
        rw [hTT1, List.length_append, hl]; have := place_le TT.length s.length; omega
      have hhd : (M.lay k s).head = M.head := rfl
      rw [hhd] at i1 i2 i3
      refine ⟨TT', i1, i2, fun hc => ?_, fun hc => by rw [List.length_cons]; show ((M.lay k s).lays gs).2.1 + 1 = _; rw [i4 hc]⟩
      obtain ⟨j1, j2⟩ := i3 hc
      have hdd := h.hd
      have hpp := h.pre.length_le
      have hle : cnt * 128 - (TT1.length - M.head / 128 * 128) = cnt * 128 - (TT.length - M.head / 128 * 128) - (placeN TT.length s.length + 9 + s.length - TT.length) := by
        rw [hT1]; have := place_le TT.length s.length; omega
      rw [hle, hT1] at j1
      refine ⟨by show ((M.lay k s).lays gs).2.1 + 1 = _; rw [j1], ?_⟩
      show TT' = TT ++ layT TT.length (((k, s) :: gs).take (((M.lay k s).lays gs).2.1 + 1))
      rw [j2, List.take_succ_cons, layT, hT1, hTT1, List.append_assoc]
/-- Behind a crash. -/
structure Rc (Dc : DiskM) (n0 cnt head : Nat) (X : List UInt8) : Prop where
  up : Dc.down = false
  fuse : Dc.fuse < 0
  n : Dc.n = n0
  pend : ∀ k, Dc.pend k = none
  len : ∀ k, k < n0 → (Dc.sure k).length = 128
  ring : ∀ i, head ≤ i → i < X.length → (Dc.sure (2 + i / 128 % cnt))[i % 128]? = X[i]?
section
variable {D : DiskM} {n0 cnt head N B : Nat} {C0 : Nat → List UInt8} {T TT : List UInt8} {L : MarkM}
theorem KW.crash (h : KW D n0 cnt C0 head T TT N) (keep : List Int) (tear at' : Int) : Rc (D.crash keep tear at').up n0 cnt head T ∧ ∀ k, k < 2 → (D.crash keep tear at').up.sure k = C0 k := by
  have hs : ∀ k, (D.crash keep tear at').up.sure k = D.crashed keep tear at' k := fun k => rfl
  refine ⟨⟨rfl, by show (-1 : Int) < 0; decide, h.n, fun k => rfl, fun k hk => ?_, fun i h1 h2 => ?_⟩, fun k hk => ?_⟩
  · rw [hs]
    unfold DiskM.crashed
    cases hp : D.pend k with
    | none => exact h.len k hk
    | some l =>
      dsimp only
      split
      · exact h.plen k l hp
      split
      · exact length_torn _ _ _ (h.plen k l hp) (h.len k hk)
      · exact h.len k hk
  · rw [hs]
    unfold DiskM.crashed
    obtain ⟨g1, g2⟩ := h.keep i h1 h2
    cases hp : D.pend (2 + i / 128 % cnt) with
    | none => exact g1
    | some l =>
      dsimp only
      split
      · exact g2 l hp
      split
      · have hl := h.plen _ l hp
        have ht := tornAt_le at'
        unfold torn
        rw [List.getElem?_append, List.length_take, hl, Nat.min_eq_left ht]
        split
        · rename_i g
          rw [List.getElem?_take_of_lt g]; exact g2 l hp
        · rename_i g
          rw [List.getElem?_drop, show tornAt at' + (i % 128 - tornAt at') = i % 128 from by omega]; exact g1
      · exact g1
  · rw [hs]
    unfold DiskM.crashed
    rw [(h.mks k hk).2]
    exact (h.mks k hk).1
/-- The power goes while all is made durable, or behind it. -/
theorem settle_crash {M : WM} (h : KR8 M.D M.R n0 cnt C0 M.head T TT) (hn : 2 + cnt ≤ n0) (hm : TSC C0 L B) (hB : B ≤ 200) {p : Nat} (hp : p ≤ 9223372036854775807) (hTT : TT.length ≤ 9223372036854775807) (keep : List Int) (tear at' : Int) :
    Rc ((M.settle p).1.D.crash keep tear at').up n0 cnt M.head T ∧ (TSC (fun k => ((M.settle p).1.D.crash keep tear at').up.cur k) L (B + 2) ∨
      ∃ m, TSC (fun k => ((M.settle p).1.D.crash keep tear at').up.cur k) m (B + 2) ∧ m.w0 = p ∧ m.w1 = TT.length ∧ 0 < m.s ∧ Rc ((M.settle p).1.D.crash keep tear at').up n0 cnt M.head TT) := by
  have hcu : ∀ (D : DiskM) (k : Nat), (D.crash keep tear at').up.cur k = D.crashed keep tear at' k := fun D k => rfl
  have old : ∀ D' : DiskM, KW D' n0 cnt C0 M.head T TT TT.length → Rc (D'.crash keep tear at').up n0 cnt M.head T ∧ (TSC (fun k => (D'.crash keep tear at').up.cur k) L (B + 2) ∨
      ∃ m, TSC (fun k => (D'.crash keep tear at').up.cur k) m (B + 2) ∧ m.w0 = p ∧ m.w1 = TT.length ∧ 0 < m.s ∧ Rc (D'.crash keep tear at').up n0 cnt M.head TT) := fun D' hk => by
    obtain ⟨r1, r2⟩ := hk.crash keep tear at'
    exact ⟨r1, .inl ((hm.congr (fun k hk => r2 k hk)).more (by omega))⟩
  have hkw := h.kw
  unfold WM.settle
  by_cases hfl : M.D.flush.2 ≠ 0
  · rw [if_pos hfl]
    refine old _ ?_
    show KW M.D.flush.1 n0 cnt C0 M.head T TT TT.length
    unfold DiskM.flush at hfl ⊢
    by_cases hd : M.D.down = true
    · rw [if_pos hd]; exact hkw
    rw [if_neg hd] at hfl ⊢
    by_cases hb : M.D.burns = true
    · rw [if_pos hb] at hfl; exact absurd rfl hfl
    · rw [if_neg hb]
      exact hkw.burnt (.inl (by simpa using hb))
  rw [if_neg hfl]
  have hfl0 : M.D.flush.2 = 0 := Classical.not_not.1 hfl
  have hfd : M.D.down = false ∧ M.D.burns = true := by
    unfold DiskM.flush at hfl0
    by_cases hd : M.D.down = true
    · rw [if_pos hd] at hfl0; exact absurd hfl0 (by show ¬ (50 : Int) = 0; decide)
    rw [if_neg hd] at hfl0
    by_cases hb : M.D.burns = true
    · exact ⟨by simpa using hd, hb⟩
    · rw [if_neg hb] at hfl0; exact absurd hfl0 (by show ¬ (50 : Int) = 0; decide)
  obtain ⟨hdn, hbn⟩ := hfd
  obtain ⟨D2, hD2⟩ : ∃ x, M.D.flush.1 = x := ⟨_, rfl⟩
  have e2 : M.D.flush.1 = { M.D.burn.flushed with nf := wrap64 (M.D.nf + 1) } := by unfold DiskM.flush; rw [if_neg (by rw [hdn]; decide), if_pos hbn]
  have s2 : ∀ k, D2.sure k = M.D.cur k := fun k => by
    rw [← hD2, e2]
    show M.D.burn.cur k = _
    exact burn_cur M.D k
  have p2 : ∀ k, D2.pend k = none := fun k => by rw [← hD2, e2]; rfl
  have d2 : D2.down = false := by rw [← hD2, e2]; show M.D.burn.down = false; rw [burn_keeps _ hbn]; exact hdn
  have n2 : D2.n = n0 := by rw [← hD2, e2]; exact (burn_n M.D).trans hkw.n
  have cu2 : ∀ k, D2.cur k = M.D.cur k := fun k => by unfold DiskM.cur; rw [p2 k]; exact s2 k
  have c0 : ∀ k, k < 2 → M.D.cur k = C0 k := fun k hk => by unfold DiskM.cur; rw [(hkw.mks k hk).2]; exact (hkw.mks k hk).1
  have len2 : ∀ k, k < n0 → (M.D.cur k).length = 128 := fun k hk => by
    unfold DiskM.cur
    cases hp : M.D.pend k with
    | none => exact hkw.len k hk
    | some l => exact hkw.plen k l hp
  have ringT : ∀ i, M.head ≤ i → i < TT.length → (M.D.cur (2 + i / 128 % cnt))[i % 128]? = TT[i]? := hkw.cur hdn
  have hTl := h.pre.length_le
  obtain ⟨m, q1, q2, q3, q4⟩ := TSC.next (D := D2) (hm.congr (fun k hk => by show D2.cur k = _; rw [cu2, c0 k hk])) d2 (by omega) hB [p, M.R.tail] (by simp) (fun x hx => by
    have := h.tail
    rcases List.mem_cons.1 hx with e | hx
    · omega
    · rw [List.mem_singleton] at hx; omega)
  have fin : ∀ D' : DiskM, D'.n = n0 → (∀ k, k ≠ m.s % 2 → D'.crashed keep tear at' k = M.D.cur k) → (D'.crashed keep tear at' (m.s % 2) = D2.cur (m.s % 2) ∨ D'.crashed keep tear at' (m.s % 2) = enc m ∨ ∃ a, D'.crashed keep tear at' (m.s % 2) = torn (enc m) (D2.cur (m.s % 2)) a) →
      Rc (D'.crash keep tear at').up n0 cnt M.head T ∧ (TSC (fun k => (D'.crash keep tear at').up.cur k) L (B + 2) ∨
      ∃ m, TSC (fun k => (D'.crash keep tear at').up.cur k) m (B + 2) ∧ m.w0 = p ∧ m.w1 = TT.length ∧ 0 < m.s ∧ Rc (D'.crash keep tear at').up n0 cnt M.head TT) := fun D' hn' hk hs => by
    have hm2 : m.s % 2 < 2 := Nat.mod_lt _ (by decide)
    have hlen' : ∀ k, k < n0 → (D'.crashed keep tear at' k).length = 128 := fun k hk' => by
      by_cases e : k = m.s % 2
      · subst e
        rcases hs with e | e | ⟨a, e⟩
        · rw [e, cu2]; exact len2 _ hk'
        · rw [e]; exact length_enc m
        · rw [e]; exact length_torn _ _ _ (length_enc m) (by rw [cu2]; exact len2 _ hk')
      · rw [hk k e]; exact len2 k hk'
    have rTT : Rc (D'.crash keep tear at').up n0 cnt M.head TT := ⟨rfl, by show (-1 : Int) < 0; decide, hn', fun k => rfl, hlen', fun i h1 h2 => by
      show (D'.crashed keep tear at' _)[i % 128]? = _
      rw [hk _ (by omega)]; exact ringT i h1 h2⟩
    have rT : Rc (D'.crash keep tear at').up n0 cnt M.head T := ⟨rTT.up, rTT.fuse, rTT.n, rTT.pend, rTT.len, fun i h1 h2 => by rw [rTT.ring i h1 (by omega)]; exact pre_g h.pre h2⟩
    obtain ⟨L', l1, l2, -⟩ := q4 (fun k => (D'.crash keep tear at').up.cur k) (fun k hk2 hne => by
      show D'.crashed keep tear at' k = _
      rw [hk k hne, cu2]) hs
    refine ⟨rT, ?_⟩
    rcases l2 with e | e
    · exact .inl (e ▸ l1)
    · subst e
      exact .inr ⟨L', l1, by rw [q2]; rfl, by rw [q2]; exact h.tail, q3, rTT⟩
  rw [hD2, q1]
  by_cases hfu : D2.fuse = 0 ∨ D2.fuse = 1
  · obtain ⟨D', g1, g2, g3, g4⟩ := putGo_torn m d2 (by omega) p2 hfu
    have hD' : (if (putGo D2 0 m).2.2 ≠ 0 then ({ M with D := (putGo D2 0 m).1, failed := true }, (putGo D2 0 m).2.2) else ({ M with D := (putGo D2 0 m).1, head := p, tail := M.R.tail }, (0 : Int)) : WM × Int).1.D = D' := by rw [g1]; rfl
    rw [hD']
    refine fin D' (g2.trans n2) (fun k hk => ?_) ?_
    · unfold DiskM.crashed
      rcases g4 with g4 | g4
      · rw [g4, g3]; exact s2 k
      · rw [g4, if_neg hk, g3]; exact s2 k
    · have hc2 : D2.cur (m.s % 2) = D2.sure (m.s % 2) := by unfold DiskM.cur; rw [p2]; rfl
      unfold DiskM.crashed
      rw [hc2]
      rcases g4 with g4 | g4
      · rw [g4, g3]; exact .inl rfl
      · rw [g4, if_pos rfl, g3]
        dsimp only
        split
        · exact .inr (.inl rfl)
        split
        · exact .inr (.inr ⟨at', rfl⟩)
        · exact .inl rfl
  · obtain ⟨D', g1, -, g3, -, g5, g6⟩ := putGo_done (first := 0) m d2 (by omega) (by omega)
    have g1' : putGo D2 0 m = (D', m, 0) := g1
    have hD' : (if (putGo D2 0 m).2.2 ≠ 0 then ({ M with D := (putGo D2 0 m).1, failed := true }, (putGo D2 0 m).2.2) else ({ M with D := (putGo D2 0 m).1, head := p, tail := M.R.tail }, (0 : Int)) : WM × Int).1.D = D' := by rw [g1']; rfl
    rw [hD']
    have hcr : ∀ k, D'.crashed keep tear at' k = if k = m.s % 2 then enc m else D2.cur k := fun k => by
      unfold DiskM.crashed
      rw [g5 k]
      have := g6 k
      rw [Nat.zero_add] at this
      exact this
    exact fin D' (g3.trans n2) (fun k hk => by rw [hcr, if_neg hk, cu2]) (.inr (.inl (by rw [hcr, if_pos rfl])))
end
/-- From what a crash leaves to a log at rest. -/
theorem recover {Dc : DiskM} {n0 sg head hd tl N : Nat} {X : List UInt8} {fs : List (Nat × List UInt8)} {L : MarkM} (hr : Rc Dc n0 (sg * 16) head X) (hh : head ≤ hd) (hX : X.length = tl) (hht : hd ≤ tl) (hdr : X.drop hd = layT hd fs) (hok : FOk fs) (hroom : tl ≤ hd / 128 * 128 + sg * 2048) (hn : 2 + sg * 16 ≤ n0) (hsg : ((n0 : Int) - 2).tdiv 16 = (sg : Nat)) (s2 : 2 ≤ sg) (hm : TSC (fun k => Dc.cur k) L (2 * N)) (z1 : L.s = 0 → hd = 0 ∧ tl = 0) (z2 : L.s ≠ 0 → L.w0 = hd ∧ L.w1 = tl) (hlen : tl ≤ N * 1000000000) :
    ∃ T0, LP ⟨Dc, RingM.opened Dc 2 (sg * 16) tl, hd, tl, [], false⟩ sg N T0 fs := by
  obtain ⟨T0, hT0⟩ : ∃ x, (List.range hd).map (fun i => (Dc.sure (2 + i / 128 % (sg * 16))).getD (i % 128) 0) = x := ⟨_, rfl⟩
  have hl0 : T0.length = hd := by rw [← hT0]; simp
  have hcur : ∀ k, Dc.cur k = Dc.sure k := fun k => by unfold DiskM.cur; rw [hr.pend k]; rfl
  have hxl : (layT T0.length fs).length = tl - hd := by rw [hl0, ← hdr, List.length_drop, hX]
  have htot : (T0 ++ layT T0.length fs).length = tl := by rw [List.length_append, hxl, hl0]; omega
  have hRS : RS Dc { first := 2, count := sg * 16, tail := tl, rest := (T0 ++ layT T0.length fs).drop (tl / 128 * 128) } (T0 ++ layT T0.length fs) := by
    refine ⟨hr.up, hr.fuse, by rw [hr.n]; exact hn, by show 0 < sg * 16; omega, htot.symm, by rw [htot], fun i hlo hi k hk hik => ?_⟩
    show (Dc.cur (2 + i % (sg * 16)))[k]? = _
    rw [htot] at hik
    rw [hcur]
    have e1 : (i * 128 + k) / 128 = i := by omega
    have e2 : (i * 128 + k) % 128 = k := by omega
    by_cases hlt : i * 128 + k < hd
    · rw [List.getElem?_append_left (by omega), ← hT0, List.getElem?_map, List.getElem?_range hlt, Option.map_some, e1, e2, List.getD_eq_getElem?_getD]
      have hl := hr.len (2 + i % (sg * 16)) (by have := Nat.mod_lt i (show 0 < sg * 16 by omega); omega)
      rw [List.getElem?_eq_getElem (by omega)]; rfl
    · have h1 := hr.ring (i * 128 + k) (by omega) (by omega)
      rw [e1, e2] at h1
      rw [h1, List.getElem?_append_right (by omega), hl0, ← hdr, List.getElem?_drop, show hd + (i * 128 + k - hd) = i * 128 + k from by omega]
  have hop := hRS.opened
  rw [htot] at hop
  exact ⟨T0, ⟨hop, rfl, rfl, by rw [hr.n]; exact hn, by rw [hr.n]; exact hsg, s2, hl0.symm, htot.symm, hok, by rw [htot]; exact hroom, rfl, ⟨L, hm, z1, z2⟩, hr.pend, (fun _ hs => nomatch hs), Nat.zero_le _, by rw [htot]; exact hlen⟩⟩
/-- The power goes in the middle of an operation: what is told then is what was told ahead of it, or what is told behind it. -/
theorem LP.crash_play {M : WM} {Lr : RLog} {sg N : Nat} {T0 : List UInt8} {fs : List (Nat × List UInt8)} (h : LP M sg N T0 fs) (hs : Sam M Lr sg fs) (hN : N ≤ 89) (hlen : ∀ k, k < M.D.n → (M.D.sure k).length = 128) (f k : Int) {s : List UInt8} (hsl : s.length ≤ 100000) (keep : List Int) (tear at' : Int) :
    ∃ hd tl T1 fs', LP ⟨((({ M with D := M.D.setFuse f } : WM).play k s).D.crash keep tear at').up, RingM.opened ((({ M with D := M.D.setFuse f } : WM).play k s).D.crash keep tear at').up 2 (sg * 16) tl, hd, tl, [], false⟩ sg (N + 1) T1 fs' ∧ (fs' = fs ∨ fs' = (Lr.play k s).frames) := by
  obtain ⟨M1, hM1⟩ : ∃ x, ({ M with D := M.D.setFuse f } : WM) = x := ⟨_, rfl⟩
  rw [hM1]
  obtain ⟨T, hT⟩ : ∃ T, T0 ++ layT T0.length fs = T := ⟨_, rfl⟩
  have htl := h.tl
  have hrs := h.rs
  have hroom := h.room
  have hlenN := h.len
  rw [hT] at htl hrs hroom hlenN
  have hhd := h.hd
  have hle : M.head ≤ T.length := by rw [hhd, ← hT, List.length_append]; omega
  have hcu : ∀ k, M.D.cur k = M.D.sure k := fun k => by unfold DiskM.cur; rw [h.pend k]; rfl
  have s1 : M1.D.sure = M.D.sure := by rw [← hM1]; rfl
  have p1 : M1.D.pend = M.D.pend := by rw [← hM1]; rfl
  have n1 : M1.D.n = M.D.n := by rw [← hM1]; rfl
  have r1 : M1.R = M.R := by rw [← hM1]
  have w1 : M1.wait = M.wait := by rw [← hM1]
  have f1 : M1.failed = false := by rw [← hM1]; exact h.nf
  have hd1 : M1.head = M.head := by rw [← hM1]
  have hring : ∀ i, M.head ≤ i → i < T.length → (M.D.sure (2 + i / 128 % (sg * 16)))[i % 128]? = T[i]? := fun i h1 h2 => by
    have := hrs.holds (i / 128) (by rw [h.count]; unfold ups; omega) (by unfold ups; omega) (i % 128) (Nat.mod_lt _ (by decide)) (by omega)
    rw [h.first, h.count, hcu, show i / 128 * 128 + i % 128 = i from by omega] at this
    exact this
  have hkr : KR8 M1.D M1.R M.D.n (sg * 16) M.D.sure M1.head T T := by
    rw [r1, hd1]
    refine ⟨⟨n1, fun k hk => by rw [s1, p1]; exact ⟨rfl, h.pend k⟩, fun k hk => by rw [s1]; exact hlen k hk, fun k l hl => (by rw [p1, h.pend k] at hl; cases hl), fun i h1 h2 => ?_, fun _ i h1 h2 => ?_⟩, h.first, h.count, hrs.tail, hrs.rest, List.prefix_refl _, hle, by omega⟩
    · rw [s1, p1, h.pend]
      exact ⟨hring i h1 h2, fun l hl => by cases hl⟩
    · unfold DiskM.cur
      rw [s1, p1, h.pend]; exact hring i h1 h2
  obtain ⟨L, hm, z1, z2⟩ := h.marks
  have hmS : TSC M.D.sure L (2 * N) := hm.congr (fun k _ => (hcu k).symm)
  have hdr : T.drop M.head = layT M.head fs := by rw [← hT, hhd, List.drop_left]
  have hsg := h.sgn
  have hdn := h.dn
  have hs2 := h.s2
  -- what was ahead of it
  have old : ∀ D' : DiskM, Rc (D'.crash keep tear at').up M.D.n (sg * 16) M.head T → TSC (fun k => (D'.crash keep tear at').up.cur k) L (2 * (N + 1)) → ∃ hd tl T1 fs', LP ⟨(D'.crash keep tear at').up, RingM.opened (D'.crash keep tear at').up 2 (sg * 16) tl, hd, tl, [], false⟩ sg (N + 1) T1 fs' ∧ (fs' = fs ∨ fs' = (Lr.play k s).frames) := fun D' g1 g2 => by
    obtain ⟨T1, hp⟩ := recover (hd := M.head) (tl := M.tail) (fs := fs) g1 (Nat.le_refl _) htl.symm (by rw [htl]; exact hle) hdr h.fok (by rw [htl]; exact hroom) hdn hsg hs2 g2 z1 z2 (by rw [htl]; exact Nat.le_trans hlenN (Nat.mul_le_mul_right _ (Nat.le_succ N)))
    exact ⟨_, _, T1, fs, hp, .inl rfl⟩
  have oldKW : ∀ D' TT, KW D' M.D.n (sg * 16) M.D.sure M.head T TT TT.length → ∃ hd tl T1 fs', LP ⟨(D'.crash keep tear at').up, RingM.opened (D'.crash keep tear at').up 2 (sg * 16) tl, hd, tl, [], false⟩ sg (N + 1) T1 fs' ∧ (fs' = fs ∨ fs' = (Lr.play k s).frames) := fun D' TT g => by
    obtain ⟨g1, g2⟩ := g.crash keep tear at'
    exact old D' g1 ((hmS.congr (fun k hk => g2 k hk)).more (by omega))
  have hkw0 := hkr.kw
  rw [hd1] at hkw0
  have hMt : M.tail ≤ N * 1000000000 := by rw [htl]; exact hlenN
  have h9 : N * 1000000000 ≤ 89 * 1000000000 := Nat.mul_le_mul_right _ hN
  -- the new text, from a place on
  have new : ∀ (M2 : WM) (TT : List UInt8) (p : Nat) (fs2 : List (Nat × List UInt8)), KR8 M2.D M2.R M.D.n (sg * 16) M.D.sure M.head T TT → M2.head = M.head → M.head ≤ p → p ≤ TT.length → TT.drop p = layT p fs2 → FOk fs2 → TT.length ≤ (N + 1) * 1000000000 → fs2 = (Lr.play k s).frames →
      ∃ hd tl T1 fs', LP ⟨((M2.settle p).1.D.crash keep tear at').up, RingM.opened ((M2.settle p).1.D.crash keep tear at').up 2 (sg * 16) tl, hd, tl, [], false⟩ sg (N + 1) T1 fs' ∧ (fs' = fs ∨ fs' = (Lr.play k s).frames) := fun M2 TT p fs2 g1 g2 g3 g4 g5 g6 g7 g8 => by
    rw [← g2] at g1
    have g10 : (N + 1) * 1000000000 ≤ 90 * 1000000000 := Nat.mul_le_mul_right _ (by omega)
    obtain ⟨c1, c2⟩ := settle_crash g1 (by omega) hmS (by omega) (p := p) (by omega) (by omega) keep tear at'
    rw [g2] at c1 c2
    rcases c2 with c2 | ⟨m, c2, c3, c4, c5, c6⟩
    · exact old _ c1 c2
    · have hro := g1.room
      rw [g2] at hro
      obtain ⟨T1, hp⟩ := recover (hd := p) (tl := TT.length) (fs := fs2) c6 g3 rfl g4 g5 g6 (by have := Nat.div_le_div_right (c := 128) g3; omega) hdn hsg hs2 c2 (fun e => by omega) (fun _ => ⟨c3, c4⟩) g7
      exact ⟨_, _, T1, fs2, hp, .inr g8⟩
  by_cases k0 : k = 0
  · have hD : (M1.play k s).D = M1.D := by
      unfold WM.play; rw [if_pos k0]
      unfold WM.submit
      split
      · rfl
      · split
        · rfl
        · split <;> rfl
    rw [hD]; exact oldKW _ _ hkw0
  by_cases k1 : k = 1
  · have hpl : M1.play k s = M1.commit.1 := by unfold WM.play; rw [if_neg k0, if_pos k1]
    have hrp : Lr.play k s = Lr.commit := by unfold RLog.play; rw [if_neg k0, if_pos k1]
    rw [hpl]
    obtain ⟨W, hW⟩ : ∃ W, (M1.wait.map fun s => ((1 : Nat), s)) = W := ⟨_, rfl⟩
    obtain ⟨TT, i1, i2, i3, -⟩ := KR8.lays W M1 T hkr
    rw [hd1] at i1 i2 i3
    have hcm : M1.commit.1.D = (M1.lays W).1.D ∨ (((M1.lays W).2.2 = 0 ∨ (M1.lays W).2.2 = 3) ∧ M1.commit.1.D = ((M1.lays W).1.settle M.head).1.D) := by
      unfold WM.commit
      rw [hW, f1, if_neg (by simp), i2]
      by_cases c1 : (M1.lays W).2.2 ≠ 0 ∧ (M1.lays W).2.2 ≠ 3
      · rw [if_pos c1]; exact .inl rfl
      rw [if_neg c1]
      have c1' : (M1.lays W).2.2 = 0 ∨ (M1.lays W).2.2 = 3 := by
        by_cases e : (M1.lays W).2.2 = 0
        · exact .inl e
        · exact .inr (Classical.not_not.1 fun e' => c1 ⟨e, e'⟩)
      by_cases c2 : (M1.lays W).2.1 = 0
      · rw [if_pos c2]; exact .inl rfl
      rw [if_neg c2]
      by_cases c3 : ((M1.lays W).1.settle M.head).2 ≠ 0
      · rw [if_pos c3]; exact .inr ⟨c1', rfl⟩
      · rw [if_neg c3]; exact .inr ⟨c1', rfl⟩
    rcases hcm with e | ⟨hc, e⟩
    · rw [e]; exact oldKW _ _ i1.kw
    · rw [e]
      obtain ⟨j1, j2⟩ := i3 hc
      obtain ⟨n, hn⟩ : ∃ n, (M1.lays W).2.1 = n := ⟨_, rfl⟩
      rw [hn] at j1 j2
      have hWt : W.take n = (M.wait.take n).map fun s => ((1 : Nat), s) := by rw [← hW, w1, List.map_take]
      have hTT : TT = T0 ++ layT M.head (fs ++ (M.wait.take n).map fun s => (1, s)) := by
        rw [j2, hWt, ← hT, layT_app, hhd, List.append_assoc, List.length_append]
      have hokw : FOk ((M.wait.take n).map fun s => ((1 : Nat), s)) := fun x hx => by
        obtain ⟨s, hs, rfl⟩ := List.mem_map.1 hx
        exact ⟨Nat.le_refl 1, (by show 1 ≤ 3; decide), h.w39 s (List.mem_of_mem_take hs)⟩
      have hll := layT_len ((M.wait.take n).map fun s => ((1 : Nat), s)) T.length hokw
      rw [List.length_map, List.length_take] at hll
      have h64 := h.w64
      have hTl : TT.length = T.length + (layT T.length ((M.wait.take n).map fun s => ((1 : Nat), s))).length := by rw [j2, hWt, List.length_append]
      refine new _ TT M.head (fs ++ (M.wait.take n).map fun s => (1, s)) i1 i2 (Nat.le_refl _) (by omega) ?_ ?_ (by omega) ?_
      · rw [hTT, hhd, List.drop_left]
      · intro x hx
        rcases List.mem_append.1 hx with hx | hx
        · exact h.fok x hx
        · exact hokw x hx
      · rw [hrp]
        unfold RLog.commit RLog.fit rleft
        rw [hs.frames, hs.wait, hs.size, hs.first, hs.tail]
        have : laysN (sg * 2048 - (M.tail - M.head / 128 * 128)) M.tail (bats M.wait) = n := by
          rw [j1, ← hW, w1, htl, show sg * 16 * 128 = sg * 2048 from by omega]; rfl
        rw [this]; rfl
  by_cases k3 : k = 3
  · have k2 : ¬ k = 2 := by omega
    have hpl : M1.play k s = (M1.checkpoint s).1 := by unfold WM.play; rw [if_neg k0, if_neg k1, if_neg k2, if_pos k3]
    have hrp : Lr.play k s = (Lr.check s).1 := by unfold RLog.play; rw [if_neg k0, if_neg k1, if_neg k2, if_pos k3]
    rw [hpl]
    have hRl : M1.R.left M1.head = sg * 2048 - (M.tail - M.head / 128 * 128) := by rw [hkr.left, hd1, htl]; omega
    have hRt : M1.R.tail = M.tail := by rw [r1, hrs.tail, htl]
    have hcs : (layT M.tail (cutL s)).length = costN M.tail s.length := cut_cost (s.length + 1) M.tail s (Nat.lt_succ_self _)
    obtain ⟨TT, i1, i2, i3, i4⟩ := KR8.lays (cutL s) M1 T hkr
    rw [hd1] at i1 i2 i3
    by_cases hw : M.wait ≠ []
    · have hD : (M1.checkpoint s).1.D = M1.D := by unfold WM.checkpoint; rw [f1, if_neg (by simp), if_pos (by rw [w1]; exact hw)]
      rw [hD]; exact oldKW _ _ hkw0
    by_cases hcost : sg * 2048 - (M.tail - M.head / 128 * 128) < costN M.tail s.length
    · have hD : (M1.checkpoint s).1.D = M1.D := by unfold WM.checkpoint; rw [f1, if_neg (by simp), if_neg (by rw [w1]; exact hw), hRl, hRt, if_pos hcost]
      rw [hD]; exact oldKW _ _ hkw0
    by_cases hc : (M1.lays (cutL s)).2.2 ≠ 0
    · have hD : (M1.checkpoint s).1.D = (M1.lays (cutL s)).1.D := by unfold WM.checkpoint; rw [f1, if_neg (by simp), if_neg (by rw [w1]; exact hw), hRl, hRt, if_neg hcost, if_pos hc]
      rw [hD]; exact oldKW _ _ i1.kw
    · have hc0 := Classical.not_not.1 hc
      have hD : (M1.checkpoint s).1.D = ((M1.lays (cutL s)).1.settle (placeN M.tail (min s.length 2039))).1.D := by unfold WM.checkpoint; rw [f1, if_neg (by simp), if_neg (by rw [w1]; exact hw), hRl, hRt, if_neg hcost, if_neg hc]
      rw [hD]
      obtain ⟨-, j2⟩ := i3 (.inl hc0)
      rw [i4 hc0, List.take_length] at j2
      obtain ⟨kk, s0, r0, hc1, hs0⟩ := cut_first s
      have hok := cut_ok s _ (Nat.le_refl _)
      have hs39 : s0.length ≤ 2039 := by omega
      have hlp := layT_place M.tail kk s0 r0 hs39
      rw [← hc1, hs0] at hlp
      have hpp := place_pad M.tail (min s.length 2039)
      have hTT : TT = (T ++ padN M.tail (min s.length 2039)) ++ layT (placeN M.tail (min s.length 2039)) (cutL s) := by
        rw [j2, ← htl, hlp, List.append_assoc]
      have hpl2 : (T ++ padN M.tail (min s.length 2039)).length = placeN M.tail (min s.length 2039) := by rw [List.length_append, ← htl, hpp]
      have hTl : TT.length = T.length + (layT M.tail (cutL s)).length := by rw [j2, List.length_append, ← htl]
      have hro := i1.room
      have hpd := pad_len M.tail (min s.length 2039)
      refine new _ TT _ (cutL s) i1 i2 ?_ ?_ ?_ hok ?_ ?_
      · have := place_le M.tail (min s.length 2039); omega
      · rw [hTT, List.length_append, hpl2]; omega
      · rw [hTT, ← hpl2, List.drop_left, hpl2]
      · have h2 := cut_n _ s (Nat.le_refl _)
        have h3 := layT_len (cutL s) M.tail hok
        have := Nat.mul_le_mul_left 4096 h2
        omega
      · rw [hrp]
        unfold RLog.check rleft
        rw [hs.wait, if_neg hw, hs.size, hs.first, hs.tail, hcs, if_neg hcost]
  · have hD : (M1.play k s).D = M1.D := by
      unfold WM.play; rw [if_neg k0, if_neg k1]
      split
      · rfl
      · first | rfl | (rw [if_neg k3])
    rw [hD]; exact oldKW _ _ hkw0
end Go.Proofs.Ythodcbhejjbhaaa
