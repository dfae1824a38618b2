/- A ring with its disk, over the text of all bytes that ever were: the calls' contracts in one word. -/
import Derived.Test.YthodcbhejjbhaaaRingR
import Derived.Test.YthodcbhejjbhaaaRingO
namespace Go.Proofs.Ythodcbhejjbhaaa
open Go.RowKit

/-- Ring r over disk b: from sector 'first' on 'count' of the disk's n sectors; G: the blocks of both. -/
def Rig (w : World) (r b first count n : Nat) (text : List UInt8) (G : Nat → Prop) : Prop :=
  ∃ D R F FD, RingAt w r b R F ∧ DiskAt w b D FD ∧ (∀ k, F k → ¬ FD k) ∧ RS D R text ∧ R.first = first ∧ R.count = count ∧ D.n = n ∧ ∀ k, G k ↔ F k ∨ FD k

section
variable {w w' : World} {r b first count n : Nat} {text : List UInt8} {G H : Nat → Prop}

theorem Rig.only (h : Rig w r b first count n text G) (ho : Only H w w') (hd : ∀ k, G k → ¬ H k) : Rig w' r b first count n text G := by
  obtain ⟨D, R, F, FD, h1, h2, h3, h4, h5, h6, h7, h8⟩ := h
  exact ⟨D, R, F, FD, h1.only ho (fun k hk => hd k ((h8 k).2 (.inl hk))), h2.only ho (fun k hk => hd k ((h8 k).2 (.inr hk))), h3, h4, h5, h6, h7, h8⟩
theorem Rig.lt (h : Rig w r b first count n text G) {k : Nat} (hk : G k) : k < w.heap.size := by
  obtain ⟨D, R, F, FD, h1, h2, h3, h4, h5, h6, h7, h8⟩ := h
  rcases (h8 k).1 hk with e | e
  · obtain ⟨rv, hR⟩ := h1; exact hR.lt k e
  · exact h2.lt e

theorem rig_tail (h : Rig w r b first count n text G) : Calls Try.prog 48 #[.pointer (some ⟨r, 0, none⟩)] w fun e w' => e = .returned (.int .u64 text.length) ∧ w = w' := by
  obtain ⟨D, R, F, FD, h1, h2, h3, h4, h5, h6, h7, h8⟩ := h
  rw [← h4.tail]; exact tail_c h1
theorem rig_size (h : Rig w r b first count n text G) : Calls Try.prog 57 #[.pointer (some ⟨r, 0, none⟩)] w fun e w' => e = .returned (.int .i64 (count * 128 : Nat)) ∧ w = w' := by
  obtain ⟨D, R, F, FD, h1, h2, h3, h4, h5, h6, h7, h8⟩ := h
  have : R.size = count * 128 := by unfold RingM.size; rw [h6]
  rw [← this]; exact size_c h1
theorem rig_left (h : Rig w r b first count n text G) (head : Nat) (hh : head ≤ text.length) : Calls Try.prog 34 #[.pointer (some ⟨r, 0, none⟩), .int .u64 head] w fun e w' => e = .returned (.int .i64 (count * 128 - (text.length - head / 128 * 128) : Nat)) ∧ w = w' := by
  obtain ⟨D, R, F, FD, h1, h2, h3, h4, h5, h6, h7, h8⟩ := h
  have ht := h4.tail
  have hb : R.tail ≤ 18446744073709551615 := by obtain ⟨rv, hR⟩ := h1; exact hR.t0
  have : R.left head = count * 128 - (text.length - head / 128 * 128) := by unfold RingM.left RingM.size; rw [h6, ht, Nat.min_eq_left hh]
  rw [← this]; exact left_c h1 head (by omega)

/-- An append that fits. -/
theorem rig_append (h : Rig w r b first count n text G) (head : Nat) (hh : head ≤ text.length) (v : Value) (ps : List (List UInt8)) (hp : PartsAt w v ps G) (hfit : ps.flatten.length ≤ count * 128 - (text.length - head / 128 * 128)) (hlen : text.length ≤ 4611686018427387904) :
    Calls Try.prog 59 #[.pointer (some ⟨r, 0, none⟩), .int .u64 head, v] w fun e w' => e = .returned (.int .i64 0) ∧ ∃ G', Rig w' r b first count n (text ++ ps.flatten) G' ∧ Only G w w' ∧ ∀ k, G' k → G k ∨ w.heap.size ≤ k := by
  obtain ⟨D, R, F, FD, h1, h2, h3, h4, h5, h6, h7, h8⟩ := h
  have ht := h4.tail
  have hl : R.left head = count * 128 - (text.length - head / 128 * 128) := by unfold RingM.left RingM.size; rw [h6, ht, Nat.min_eq_left hh]
  have hc : count ≤ 4096 := by obtain ⟨rv, hR⟩ := h1; have := hR.c0; omega
  obtain ⟨R', D', hq, hrs, hf, hcc, hn⟩ := h4.append head ps.flatten (by rw [hl]; exact hfit)
  by_cases hne : ps.flatten = []
  · refine (append_no h1 v ps G hp head (by omega) (D := D) (.inr hne)).mono ?_
    rintro e w' ⟨rfl, -, -, rfl⟩
    rw [hq]
    refine ⟨rfl, G, ⟨D, R, F, FD, h1, h2, h3, by rw [hne, List.append_nil]; exact h4, h5, h6, h7, h8⟩, Only.refl _ _, fun k hk => .inl hk⟩
  · refine (append_go h1 h2 h3 h4.fits v ps (hp.mono (fun k _ hk => (h8 k).2 hk)) head (by omega) hne (by rw [hl]; exact hfit) (by omega)).mono ?_
    rintro e w' ⟨rfl, F', FD', g1, g2, g3, g4, g5, g6⟩
    rw [hq] at g1 g2 ⊢
    refine ⟨rfl, fun k => F' k ∨ FD' k, ⟨D', R', F', FD', g1, g2, g3, hrs, by rw [hf]; exact h5, by rw [hcc]; exact h6, by rw [hn]; exact h7, fun k => Iff.rfl⟩, g4.mono (fun k _ hk => (h8 k).2 hk), fun k hk => ?_⟩
    rcases hk with hk | hk
    · rcases g5 k hk with e | e
      · exact .inl ((h8 k).2 (.inl e))
      · exact .inr e
    · rcases g6 k hk with e | e
      · exact .inl ((h8 k).2 (.inr e))
      · exact .inr e
/-- An append that does not fit. -/
theorem rig_full (h : Rig w r b first count n text G) (head : Nat) (hh : head ≤ text.length) (v : Value) (ps : List (List UInt8)) (hp : PartsAt w v ps G) (hbad : count * 128 - (text.length - head / 128 * 128) < ps.flatten.length) :
    Calls Try.prog 59 #[.pointer (some ⟨r, 0, none⟩), .int .u64 head, v] w fun e w' => e = .returned (.int .i64 3) ∧ w = w' := by
  obtain ⟨D, R, F, FD, h1, h2, h3, h4, h5, h6, h7, h8⟩ := h
  have ht := h4.tail
  have hl : R.left head = count * 128 - (text.length - head / 128 * 128) := by unfold RingM.left RingM.size; rw [h6, ht, Nat.min_eq_left hh]
  have hb : R.tail ≤ 18446744073709551615 := by obtain ⟨rv, hR⟩ := h1; exact hR.t0
  refine (append_no h1 v ps G hp head (by omega) (D := D) (.inl (by rw [hl]; exact hbad))).mono ?_
  rintro e w' ⟨rfl, -, -, rfl⟩
  have : (R.append head ps.flatten D).2.2 = 3 := by unfold RingM.append; rw [if_pos (by rw [hl]; exact hbad)]
  rw [this]; exact ⟨rfl, rfl⟩

theorem rig_read (h : Rig w r b first count n text G) (at' m : Nat) (hat : at' + m ≤ text.length) (hlen : text.length ≤ 4611686018427387904) (hok : ups text.length * 128 - at' ≤ count * 128) :
    Calls Try.prog 54 #[.pointer (some ⟨r, 0, none⟩), .int .u64 at', .int .i64 m] w fun e w' => ∃ bo cap, e = .returned (.tuple #[.slice bo m cap, .int .i64 0]) ∧ BOut w' bo cap ((text.drop at').take m) w.heap.size ∧ Only (fun _ => False) w w' := by
  obtain ⟨D, R, F, FD, h1, h2, h3, h4, h5, h6, h7, h8⟩ := h
  exact rread_ok h1 h2 h4 at' m hat (by rw [h4.tail]; exact hlen) (by unfold RingM.size; rw [h6]; exact hok)
theorem rig_missing (h : Rig w r b first count n text G) (at' m : Nat) (hat : at' + m ≤ text.length) (hlen : text.length ≤ 4611686018427387904) (hbad : count * 128 < ups text.length * 128 - at') :
    Calls Try.prog 54 #[.pointer (some ⟨r, 0, none⟩), .int .u64 at', .int .i64 m] w fun e w' => e = .returned (.tuple #[.slice none 0 0, .int .i64 4]) ∧ w = w' := by
  obtain ⟨D, R, F, FD, h1, h2, h3, h4, h5, h6, h7, h8⟩ := h
  exact rread_missing h1 at' m (by rw [h4.tail]; exact hat) (by rw [h4.tail]; exact hlen) (by unfold RingM.size; rw [h6, h4.tail]; exact hbad)
theorem rig_range (h : Rig w r b first count n text G) (at' : Nat) (m : Int) (hat : at' ≤ text.length) (hbad : m < 0 ∨ (text.length : Int) - at' < m) (hm : m ≤ 9223372036854775807) :
    Calls Try.prog 54 #[.pointer (some ⟨r, 0, none⟩), .int .u64 at', .int .i64 m] w fun e w' => e = .returned (.tuple #[.slice none 0 0, .int .i64 1]) ∧ w = w' := by
  obtain ⟨D, R, F, FD, h1, h2, h3, h4, h5, h6, h7, h8⟩ := h
  exact rread_range h1 at' m (by rw [h4.tail]; exact hat) (by rw [h4.tail]; exact hbad) hm

/-- A new ring over a new disk. -/
theorem rig_new {FD : Nat → Prop} (h : DiskAt w b (DiskM.new n) FD) (first count : Nat) (hc : 0 < count) (hf : first + count ≤ n) :
    Calls Try.prog 32 #[.pointer (some ⟨b, 0, none⟩), .int .i64 first, .int .i64 count, .int .u64 0] w fun e w' => ∃ r G, e = .returned (.tuple #[.pointer (some ⟨r, 0, none⟩), .int .i64 0]) ∧ Rig w' r b first count n [] G ∧ Only (fun _ => False) w w' ∧ ∀ k, G k → FD k ∨ w.heap.size ≤ k := by
  refine (open_ok h first count 0 hc hf (by decide) rfl).mono ?_
  rintro e w' ⟨r, F, rfl, hR, ho, hF⟩
  refine ⟨r, fun k => F k ∨ FD k, rfl, ⟨DiskM.new n, _, F, FD, hR, h.only ho (fun _ _ e => e), fun k hk hd => by have := hF k hk; have := h.lt hd; omega, ⟨rfl, (by show (-1 : Int) < 0; decide), hf, hc, rfl, rfl, fun i _ hi => absurd hi (Nat.not_lt_zero i)⟩, rfl, rfl, rfl, fun k => Iff.rfl⟩, ho, fun k hk => ?_⟩
  rcases hk with hk | hk
  · exact .inr (hF k hk)
  · exact .inl hk
/-- The ring is opened anew where it ends. -/
theorem rig_again (h : Rig w r b first count n text G) (hlen : text.length ≤ 4611686018427387904) :
    Calls Try.prog 32 #[.pointer (some ⟨b, 0, none⟩), .int .i64 first, .int .i64 count, .int .u64 text.length] w fun e w' => ∃ r' G', e = .returned (.tuple #[.pointer (some ⟨r', 0, none⟩), .int .i64 0]) ∧ Rig w' r' b first count n text G' ∧ Only (fun _ => False) w w' ∧ ∀ k, G' k → G k ∨ w.heap.size ≤ k := by
  obtain ⟨D, R, F, FD, h1, h2, h3, h4, h5, h6, h7, h8⟩ := h
  have hfit := h4.fits; have hc0 := h4.c0
  have hop := h4.opened
  rw [h5, h6] at hop
  refine (open_ok h2 first count text.length (by omega) (by omega) (by omega) h4.up).mono ?_
  rintro e w' ⟨r', F', rfl, hR, ho, hF⟩
  refine ⟨r', fun k => F' k ∨ FD k, rfl, ⟨D, _, F', FD, hR, h2.only ho (fun _ _ e => e), fun k hk hd => by have := hF k hk; have := h2.lt hd; omega, hop, rfl, rfl, h7, fun k => Iff.rfl⟩, ho, fun k hk => ?_⟩
  rcases hk with hk | hk
  · exact .inr (hF k hk)
  · exact .inl ((h8 k).2 (.inr hk))
theorem rig_flush (h : Rig w r b first count n text G) : Calls Try.prog 60 #[.pointer (some ⟨b, 0, none⟩)] w fun e w' => e = .returned (.int .i64 0) ∧ Rig w' r b first count n text G ∧ Only G w w' := by
  obtain ⟨D, R, F, FD, h1, h2, h3, h4, h5, h6, h7, h8⟩ := h
  have hb : D.burns = true := by have := h4.fuse; unfold DiskM.burns; simp; omega
  have hbu : D.burn = D := by unfold DiskM.burn; rw [if_pos h4.fuse]
  have e2 : D.flush = ({ D.flushed with nf := wrap64 (D.nf + 1) }, 0) := by unfold DiskM.flush; rw [h4.up, hb, hbu]; rfl
  refine (flush_c h2).mono ?_
  rintro e w' ⟨rfl, g1, g2⟩
  rw [e2] at g1 ⊢
  exact ⟨rfl, ⟨_, R, F, FD, h1.only g2 h3, g1, h3, h4.cur h4.up h4.fuse rfl (fun k => rfl), h5, h6, h7, h8⟩, g2.mono (fun k _ hk => (h8 k).2 (.inr hk))⟩
end
end Go.Proofs.Ythodcbhejjbhaaa
