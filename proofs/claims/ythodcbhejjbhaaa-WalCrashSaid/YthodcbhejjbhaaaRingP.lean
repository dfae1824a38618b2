/- The ring's plain law: the disk's sectors under a ring hold the text's last bytes. -/
import Derived.Test.YthodcbhejjbhaaaRingB
namespace Go.Proofs.Ythodcbhejjbhaaa
open Go.RowKit

def Holds (D : DiskM) (R : RingM) (text : List UInt8) (lo hi : Nat) : Prop := ∀ i, lo ≤ i → i < hi → ∀ k, k < 128 → i * 128 + k < text.length → (D.cur (R.first + i % R.count))[k]? = text[i * 128 + k]?

def ups (n : Nat) : Nat := (n + 127) / 128

/-- A ring over a disk with power: the text of all bytes that ever were. -/
structure RS (D : DiskM) (R : RingM) (text : List UInt8) : Prop where
  up : D.down = false
  fuse : D.fuse < 0
  fits : R.first + R.count ≤ D.n
  c0 : 0 < R.count
  tail : R.tail = text.length
  rest : R.rest = text.drop (text.length / 128 * 128)
  holds : Holds D R text (ups text.length - R.count) (ups text.length)

theorem write_up (D : DiskM) (h1 : D.down = false) (h2 : D.fuse < 0) (s : Nat) (l : List UInt8) (hs : s < D.n) (hl : l.length = 128) : ∃ D', D.write s l = (D', 0) ∧ D'.down = false ∧ D'.fuse < 0 ∧ D'.n = D.n ∧ ∀ k, D'.cur k = if k = s then l else D.cur k := by
  have hb : D.burns = true := by unfold DiskM.burns; simp; omega
  have hbu : D.burn = D := by unfold DiskM.burn; rw [if_pos h2]
  have e2 : D.write s l = ({ D.burn.put s l with nw := wrap64 (D.nw + 1) }, 0) := by simp [DiskM.write, h1, hl, hb]; omega
  refine ⟨_, e2, ?_, ?_, ?_, ?_⟩
  · rw [hbu]; exact h1
  · rw [hbu]; exact h2
  · rw [hbu]; rfl
  · intro k
    rw [hbu]
    simp only [DiskM.cur, DiskM.put]
    split <;> rfl

theorem run_holds (R : RingM) (text : List UInt8) (hc : 0 < R.count) : ∀ (f i : Nat) (D : DiskM), (text.drop (i * 128)).length ≤ f → i ≤ ups text.length → D.down = false → D.fuse < 0 → R.first + R.count ≤ D.n → Holds D R text (ups text.length - R.count) i →
    ∃ D', ringRun R f (i * 128) (text.drop (i * 128)) D = (D', 0) ∧ D'.down = false ∧ D'.fuse < 0 ∧ D'.n = D.n ∧ Holds D' R text (ups text.length - R.count) (ups text.length) := by
  intro f
  induction f with
  | zero =>
    intro i D hf hi h1 h2 h3 hh
    have hlen : text.length ≤ i * 128 := by rw [List.length_drop] at hf; omega
    have hi' : i = ups text.length := by unfold ups at *; omega
    subst hi'
    exact ⟨D, rfl, h1, h2, rfl, hh⟩
  | succ f ih =>
    intro i D hf hi h1 h2 h3 hh
    rw [List.length_drop] at hf
    by_cases he : text.drop (i * 128) = []
    · rw [he, run_nil]
      have hlen : text.length ≤ i * 128 := List.drop_eq_nil_iff.1 he
      have hi' : i = ups text.length := by unfold ups at *; omega
      subst hi'
      exact ⟨D, rfl, h1, h2, rfl, hh⟩
    · have hlen : i * 128 < text.length := by
        rcases Nat.lt_or_ge (i * 128) text.length with h | h
        · exact h
        · exact absurd (List.drop_eq_nil_iff.2 h) he
      have hiH : i < ups text.length := by unfold ups; omega
      have hmod := Nat.mod_lt i hc
      have hsec : R.sector (i * 128) = R.first + i % R.count := by unfold RingM.sector; rw [Nat.mul_div_cancel _ (by decide)]
      obtain ⟨D', hw, g1, g2, g3, g4⟩ := write_up D h1 h2 (R.sector (i * 128)) (sectorL (text.drop (i * 128))) (by rw [hsec]; omega) (length_sectorL _)
      have hH : Holds D' R text (ups text.length - R.count) (i + 1) := by
        intro j hlo hj k hk hjk
        rw [g4]
        by_cases hji : j = i
        · subst hji
          rw [hsec, if_pos rfl]
          have hk2 : k < (text.drop (j * 128)).length := by rw [List.length_drop]; omega
          unfold sectorL
          rw [List.getElem?_append_left (by rw [List.length_take]; omega), List.getElem?_take_of_lt hk, List.getElem?_drop]
        · have hne : ¬ R.first + j % R.count = R.sector (i * 128) := by
            rw [hsec]
            intro e
            have e' : i % R.count = j % R.count := by omega
            have h0 := Nat.sub_mod_eq_zero_of_mod_eq e'
            rw [Nat.mod_eq_of_lt (by omega)] at h0
            omega
          rw [if_neg hne]
          exact hh j hlo (by omega) k hk hjk
      by_cases hl : (text.drop (i * 128)).length < 128
      · rw [run_last _ _ _ _ _ (Nat.succ_pos f) he (by rw [hw]) hl, hw]
        have hi' : i + 1 = ups text.length := by rw [List.length_drop] at hl; unfold ups; omega
        rw [hi'] at hH
        exact ⟨D', rfl, g1, g2, g3, hH⟩
      · rw [run_next _ _ _ _ _ (Nat.succ_pos f) he (by rw [hw]) hl, hw, List.drop_drop]
        have e1 : i * 128 + 128 = (i + 1) * 128 := by omega
        rw [e1, Nat.succ_sub_one]
        obtain ⟨D2, r1, r2, r3, r4, r5⟩ := ih (i + 1) D' (by rw [List.length_drop]; omega) (by omega) g1 g2 (by omega) hH
        exact ⟨D2, r1, r2, r3, by omega, r5⟩

theorem RS.append {D : DiskM} {R : RingM} {text : List UInt8} (h : RS D R text) (head : Nat) (s : List UInt8) (hl : s.length ≤ R.left head) :
    ∃ R' D', R.append head s D = (R', D', 0) ∧ RS D' R' (text ++ s) ∧ R'.first = R.first ∧ R'.count = R.count ∧ D'.n = D.n := by
  by_cases he : s = []
  · subst he
    refine ⟨R, D, ?_, by rw [List.append_nil]; exact h, rfl, rfl, rfl⟩
    unfold RingM.append
    rw [if_neg (by omega), if_pos rfl]
  · have hr := h.rest
    have hrl : R.rest.length = text.length % 128 := by rw [hr, List.length_drop]; omega
    have hat : R.tail - R.rest.length = text.length / 128 * 128 := by rw [h.tail, hrl]; omega
    have hall : R.rest ++ s = (text ++ s).drop (text.length / 128 * 128) := by
      rw [List.drop_append_of_le_length (by omega), hr]
    have hholds : Holds D R (text ++ s) (ups (text ++ s).length - R.count) (text.length / 128) := by
      intro i hlo hi k hk hik
      have h1 : i * 128 + k < text.length := by omega
      rw [List.getElem?_append_left h1]
      refine h.holds i ?_ ?_ k hk h1
      · rw [List.length_append] at hlo; unfold ups at *; omega
      · unfold ups; omega
    obtain ⟨D', r1, r2, r3, r4, r5⟩ := run_holds R (text ++ s) h.c0 ((text ++ s).drop (text.length / 128 * 128)).length (text.length / 128) D (Nat.le_refl _) (by rw [List.length_append]; unfold ups; omega) h.up h.fuse h.fits hholds
    refine ⟨{ R with tail := R.tail + s.length, rest := ((text ++ s).drop (text.length / 128 * 128)).drop (((text ++ s).drop (text.length / 128 * 128)).length / 128 * 128) }, D', ?_, ⟨r2, r3, by rw [r4]; exact h.fits, h.c0, ?_, ?_, r5⟩, rfl, rfl, r4⟩
    · rw [append_eq he hl hall.symm hat.symm r1, if_pos rfl]
    · rw [List.length_append, ← h.tail]
    · show ((text ++ s).drop (text.length / 128 * 128)).drop _ = _
      rw [List.drop_drop]
      congr 1
      rw [List.length_drop, List.length_append]; omega

/-- Reading some bytes of one sector. -/
theorem RS.piece {D : DiskM} {R : RingM} {text : List UInt8} (h : RS D R text) (at' n : Nat) (han : at' + n ≤ text.length) (hlo : ups text.length * 128 - at' ≤ R.count * 128) (hcl : (D.cur (R.sector at')).length = 128) :
    ((D.cur (R.sector at')).drop (at' % 128)).take n = (text.drop at').take (min n (128 - at' % 128)) := by
  apply List.ext_getElem?
  intro i
  by_cases hi : i < n
  · by_cases hi2 : i < 128 - at' % 128
    · rw [List.getElem?_take_of_lt hi, List.getElem?_take_of_lt (by omega), List.getElem?_drop, List.getElem?_drop]
      have e : at' + i = at' / 128 * 128 + (at' % 128 + i) := by omega
      have h1 := h.holds (at' / 128) (by unfold ups at *; omega) (by unfold ups; omega) (at' % 128 + i) (by omega) (by omega)
      rw [e, ← h1]
      rfl
    · rw [List.getElem?_eq_none (by rw [List.length_take, List.length_drop]; omega), List.getElem?_eq_none (by rw [List.length_take]; omega)]
  · rw [List.getElem?_eq_none (by rw [List.length_take]; omega), List.getElem?_eq_none (by rw [List.length_take]; omega)]

theorem RS.opened {D : DiskM} {R : RingM} {text : List UInt8} (h : RS D R text) : RS D (RingM.opened D R.first R.count text.length) text := by
  refine ⟨h.up, h.fuse, h.fits, h.c0, rfl, ?_, h.holds⟩
  show (D.cur (R.first + text.length / 128 % R.count)).take (text.length % 128) = _
  apply List.ext_getElem?
  intro i
  by_cases hi : i < text.length % 128
  · rw [List.getElem?_take_of_lt hi, List.getElem?_drop]
    exact h.holds (text.length / 128) (by have := h.c0; unfold ups; omega) (by unfold ups; omega) i (by omega) (by omega)
  · rw [List.getElem?_eq_none (by rw [List.length_take]; omega), List.getElem?_eq_none (by rw [List.length_drop]; omega)]

theorem RS.cur {D D' : DiskM} {R : RingM} {text : List UInt8} (h : RS D R text) (h1 : D'.down = false) (h2 : D'.fuse < 0) (h3 : D'.n = D.n) (h4 : ∀ k, D'.cur k = D.cur k) : RS D' R text := by
  refine ⟨h1, h2, by rw [h3]; exact h.fits, h.c0, h.tail, h.rest, fun i hlo hi k hk hik => ?_⟩
  rw [h4]; exact h.holds i hlo hi k hk hik
end Go.Proofs.Ythodcbhejjbhaaa
