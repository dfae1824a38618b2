/- RingKeeps: the plain law: bytes that were flushed stay, whatever is written behind them and however the power goes. -/
import Derived.Test.YtepndjojodbhdaaRig
namespace Go.Proofs.Ytepndjojodbhdaa
open Go.RowKit

/-- Where the text's bytes are to stand they stand: among each sector's durable bytes, and among those that wait. -/
def Keeps (D : DiskM) (t : List UInt8) : Prop := ∀ i, i < t.length → (D.sure (1 + i / 128))[i % 128]? = t[i]? ∧ ∀ l, D.pend (1 + i / 128) = some l → l[i % 128]? = t[i]?
theorem Keeps.same {D D' : DiskM} {t : List UInt8} (h : Keeps D t) (h1 : D'.sure = D.sure) (h2 : D'.pend = D.pend) : Keeps D' t := by
  unfold Keeps
  rw [h1, h2]; exact h
theorem burn_same (D : DiskM) : D.burn.sure = D.sure ∧ D.burn.pend = D.pend ∧ D.burn.n = D.n := by
  unfold DiskM.burn
  split
  · exact ⟨rfl, rfl, rfl⟩
  split
  · exact ⟨rfl, rfl, rfl⟩
  · exact ⟨rfl, rfl, rfl⟩
theorem Keeps.write {D : DiskM} {t : List UInt8} (h : Keeps D t) (n : Nat) (l : List UInt8) (hl : ∀ i, i < t.length → 1 + i / 128 = n → l[i % 128]? = t[i]?) : Keeps (D.write (n : Int) l).1 t ∧ (D.write (n : Int) l).1.n = D.n := by
  obtain ⟨b1, b2, b3⟩ := burn_same D
  unfold DiskM.write
  split
  · exact ⟨h, rfl⟩
  split
  · exact ⟨h, rfl⟩
  split
  · exact ⟨h, rfl⟩
  split
  · exact ⟨h, rfl⟩
  split
  · refine ⟨fun i hi => ⟨?_, fun l' hl' => ?_⟩, b3⟩
    · show (D.burn.sure (1 + i / 128))[i % 128]? = t[i]?
      rw [b1]; exact (h i hi).1
    · have hl2 : (if 1 + i / 128 = (n : Int).toNat then some l else D.burn.pend (1 + i / 128)) = some l' := hl'
      rw [Int.toNat_natCast] at hl2
      by_cases e : 1 + i / 128 = n
      · rw [if_pos e] at hl2
        cases hl2
        exact hl i hi e
      · rw [if_neg e, b2] at hl2
        exact (h i hi).2 l' hl2
  · exact ⟨h.same b1 b2, b3⟩
theorem prefix_get {t T : List UInt8} (h : t <+: T) {i : Nat} (hi : i < t.length) : T[i]? = t[i]? := by
  obtain ⟨s, rfl⟩ := h
  rw [List.getElem?_append_left hi]
theorem sectorL_get {l : List UInt8} {j : Nat} (hj : j < 128) (hl : j < l.length) : (sectorL l)[j]? = l[j]? := by
  unfold sectorL
  rw [List.getElem?_append_left (by rw [List.length_take]; omega), List.getElem?_take_of_lt hj]
theorem Keeps.run {R : RingM} (h1 : R.first = 1) (h5 : R.count = 5) {T t : List UInt8} (hp : t <+: T) (hT : T.length ≤ 640) : ∀ (f a : Nat) (D : DiskM), Keeps D t → a % 128 = 0 → Keeps (ringRun R f a (T.drop a) D).1 t ∧ (ringRun R f a (T.drop a) D).1.n = D.n
  | 0, _, _, h, _ => ⟨h, rfl⟩
  | f + 1, a, D, h, ha => by
    unfold ringRun
    by_cases hne : T.drop a = []
    · rw [if_pos hne]; exact ⟨h, rfl⟩
    rw [if_neg hne]
    have hal : a < T.length := by
      rcases Nat.lt_or_ge a T.length with e | e
      · exact e
      · exact absurd (List.drop_eq_nil_of_le e) hne
    have hsec : R.sector a = 1 + a / 128 := by unfold RingM.sector; rw [h1, h5]; omega
    have hw := h.write (R.sector a) (sectorL (T.drop a)) (fun i hi e => by
      rw [hsec] at e
      have hiT : i < T.length := Nat.lt_of_lt_of_le hi hp.length_le
      rw [sectorL_get (Nat.mod_lt _ (by decide)) (by rw [List.length_drop]; omega), List.getElem?_drop, show a + i % 128 = i from by omega]
      exact prefix_get hp hi)
    split
    · exact hw
    split
    · exact hw
    · rw [List.drop_drop]
      obtain ⟨e1, e2⟩ := Keeps.run h1 h5 hp hT f (a + 128) (D.write (R.sector a) (sectorL (T.drop a))).1 hw.1 (by omega)
      exact ⟨e1, e2.trans hw.2⟩

/-- A ring over five sectors, from the second one on, whose text begins with t; the power may go. -/
structure KR (D : DiskM) (R : RingM) (t T : List UInt8) : Prop where
  f1 : R.first = 1
  c5 : R.count = 5
  tail : R.tail = T.length
  rest : R.rest = T.drop (T.length / 128 * 128)
  le : T.length ≤ 640
  pre : t <+: T
  keeps : Keeps D t
  n6 : D.n = 6
theorem KR.left {D : DiskM} {R : RingM} {t T : List UInt8} (h : KR D R t T) : R.left 0 = 640 - T.length := by
  unfold RingM.left RingM.size
  rw [h.c5, h.tail, Nat.zero_min]
  show 5 * 128 - (T.length - 0) = 640 - T.length
  omega
theorem KR.append {D : DiskM} {R : RingM} {t T : List UInt8} (h : KR D R t T) (s : List UInt8) : ∃ T', KR (R.append 0 s D).2.1 (R.append 0 s D).1 t T' := by
  have hl := h.left
  have hle := h.le
  unfold RingM.append
  by_cases h1 : R.left 0 < s.length
  · rw [if_pos h1]; exact ⟨T, h⟩
  rw [if_neg h1]
  by_cases h2 : s = []
  · rw [if_pos h2]; exact ⟨T, h⟩
  rw [if_neg h2]
  have hall : R.rest ++ s = (T ++ s).drop (T.length / 128 * 128) := by
    rw [h.rest, List.drop_append_of_le_length (by omega)]
  have hat : R.tail - R.rest.length = T.length / 128 * 128 := by
    rw [h.rest, h.tail, List.length_drop]; omega
  have hlen : (T ++ s).length ≤ 640 := by rw [List.length_append]; omega
  obtain ⟨k1, k2⟩ := Keeps.run h.f1 h.c5 (h.pre.trans (List.prefix_append T s)) hlen (R.rest ++ s).length (T.length / 128 * 128) D h.keeps (by omega)
  rw [hall] at k1 k2
  simp only [hall, hat]
  by_cases h3 : (ringRun R ((T ++ s).drop (T.length / 128 * 128)).length (T.length / 128 * 128) ((T ++ s).drop (T.length / 128 * 128)) D).2 = 0
  · rw [if_pos h3]
    refine ⟨T ++ s, h.f1, h.c5, by show R.tail + s.length = _; rw [h.tail, List.length_append], ?_, hlen, h.pre.trans (List.prefix_append T s), k1, k2.trans h.n6⟩
    show ((T ++ s).drop (T.length / 128 * 128)).drop (((T ++ s).drop (T.length / 128 * 128)).length / 128 * 128) = _
    rw [List.drop_drop]
    congr 1
    rw [List.length_drop, List.length_append]
    omega
  · rw [if_neg h3]
    exact ⟨T, h.f1, h.c5, h.tail, h.rest, h.le, h.pre, k1, k2.trans h.n6⟩
theorem torn_get {l s : List UInt8} {at' : Int} {j : Nat} {x : Option UInt8} (h1 : l[j]? = x) (h2 : s[j]? = x) (hl : l.length = 128) : (torn l s at')[j]? = x := by
  have ha := tornAt_le at'
  unfold torn
  rw [List.getElem?_append, List.length_take, hl, Nat.min_eq_left ha]
  split
  · rename_i h
    rw [List.getElem?_take_of_lt h]; exact h1
  · rename_i h
    rw [List.getElem?_drop, show tornAt at' + (j - tornAt at') = j from by omega]; exact h2
theorem Keeps.crash {D : DiskM} {t : List UInt8} (h : Keeps D t) (hl : ∀ k l, D.pend k = some l → l.length = 128) (keep : List Int) (tear at' : Int) : Keeps (D.crash keep tear at').up t := by
  intro i hi
  refine ⟨?_, fun l hl' => ?_⟩
  · show (D.crashed keep tear at' (1 + i / 128))[i % 128]? = t[i]?
    unfold DiskM.crashed
    obtain ⟨h1, h2⟩ := h i hi
    cases hp : D.pend (1 + i / 128) with
    | none => exact h1
    | some l =>
      dsimp only
      split
      · exact h2 l hp
      split
      · exact torn_get (h2 l hp) h1 (hl _ _ hp)
      · exact h1
  · have e : (if (D.crash keep tear at').down then (fun _ => none) else (D.crash keep tear at').pend) (1 + i / 128) = some l := hl'
    simp [DiskM.crash] at e
theorem keeps_rs {D : DiskM} {t : List UInt8} (h : Keeps D t) (hl : t.length ≤ 300) (hd : D.down = false) (hf : D.fuse < 0) (hn : D.n = 6) (hp : ∀ k, D.pend k = none) : RS D (RingM.opened D 1 5 t.length) t := by
  have hcur : ∀ k, D.cur k = D.sure k := fun k => by unfold DiskM.cur; rw [hp k]; rfl
  refine ⟨hd, hf, by show 1 + 5 ≤ D.n; omega, by show 0 < 5; decide, rfl, ?_, fun i _ hi k hk hik => ?_⟩
  · show (D.cur (1 + t.length / 128 % 5)).take (t.length % 128) = t.drop (t.length / 128 * 128)
    rw [hcur]
    refine List.ext_getElem? (fun j => ?_)
    rw [List.getElem?_drop]
    by_cases hj : j < t.length % 128
    · rw [List.getElem?_take_of_lt hj]
      have := (h (t.length / 128 * 128 + j) (by omega)).1
      rw [show (t.length / 128 * 128 + j) / 128 = t.length / 128 % 5 from by omega, show (t.length / 128 * 128 + j) % 128 = j from by omega] at this
      exact this
    · rw [List.getElem?_take_eq_none (by omega), List.getElem?_eq_none (by omega)]
  · show (D.cur (1 + i % 5))[k]? = t[i * 128 + k]?
    unfold ups at hi
    rw [hcur]
    have := (h (i * 128 + k) hik).1
    rw [show (i * 128 + k) / 128 = i % 5 from by omega, show (i * 128 + k) % 128 = k from by omega] at this
    exact this
theorem keeps_flushed {D : DiskM} {R : RingM} {t : List UInt8} (h : RS D R t) (h1 : R.first = 1) (h5 : R.count = 5) (hn : D.n = 6) (hl : t.length ≤ 300) : D.flush.2 = 0 ∧ KR D.flush.1 R t t ∧ (∀ k, D.flush.1.pend k = none) := by
  have hb : D.burns = true := by have := h.fuse; unfold DiskM.burns; simp; omega
  have hbu : D.burn = D := by unfold DiskM.burn; rw [if_pos h.fuse]
  have e2 : D.flush = ({ D.flushed with nf := wrap64 (D.nf + 1) }, 0) := by unfold DiskM.flush; rw [h.up, hb, hbu]; rfl
  rw [e2]
  refine ⟨rfl, ⟨h1, h5, h.tail, h.rest, by omega, List.prefix_refl _, fun i hi => ⟨?_, fun l hl' => by cases hl'⟩, hn⟩, fun k => rfl⟩
  show (D.cur (1 + i / 128))[i % 128]? = t[i]?
  have := h.holds (i / 128) (by rw [h5]; unfold ups; omega) (by unfold ups; omega) (i % 128) (Nat.mod_lt _ (by decide)) (by omega)
  rw [h1, h5, show i / 128 % 5 = i / 128 from by omega, show i / 128 * 128 + i % 128 = i from by omega] at this
  exact this
end Go.Proofs.Ytepndjojodbhdaa
