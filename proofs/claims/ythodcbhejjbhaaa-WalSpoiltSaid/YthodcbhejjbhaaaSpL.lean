/- wal, plainly: a spoilt byte of a frame is found out. -/
import Derived.Test.YthodcbhejjbhaaaL8F
import Derived.Test.YthodcbhejjbhaaaDiskP
namespace Go.Proofs.Ythodcbhejjbhaaa
open Go.RowKit

theorem xor_left_ne {c a b : Nat} (h : a ≠ b) : c ^^^ a ≠ c ^^^ b := fun e => h (by
  have := congrArg (fun y => c ^^^ y) e
  simpa [← Nat.xor_assoc] using this)
theorem crcSh_inj {c d : Nat} (hc : c < 4294967296) (hd : d < 4294967296) (h : crcSh c = crcSh d) : c = d := by
  have bit : ∀ e, e < 4294967296 → (e / 2).testBit 31 = false := fun e he => Nat.testBit_lt_two_pow (by omega)
  have pb : Nat.testBit 3988292384 31 = true := by decide
  unfold crcSh at h
  by_cases h1 : c % 2 = 1 <;> by_cases h2 : d % 2 = 1
  · rw [if_pos h1, if_pos h2] at h
    have : c / 2 = d / 2 := by
      have := congrArg (fun y => y ^^^ 3988292384) h
      simpa [Nat.xor_assoc] using this
    omega
  · rw [if_pos h1, if_neg h2] at h
    have := congrArg (fun y => y.testBit 31) h
    simp only [Nat.testBit_xor, bit _ hc, bit _ hd, pb] at this
    cases this
  · rw [if_neg h1, if_pos h2] at h
    have := congrArg (fun y => y.testBit 31) h
    simp only [Nat.testBit_xor, bit _ hc, bit _ hd, pb] at this
    cases this
  · rw [if_neg h1, if_neg h2] at h
    omega
theorem crcShN_inj : ∀ (n : Nat) {c d : Nat}, c < 4294967296 → d < 4294967296 → crcShN n c = crcShN n d → c = d
  | 0, _, _, _, _, h => h
  | n + 1, _, _, hc, hd, h => crcShN_inj n hc hd (crcSh_inj (crcShN_lt hc n) (crcShN_lt hd n) h)
theorem crcB_inj {c d : Nat} (hc : c < 4294967296) (hd : d < 4294967296) (x : UInt8) (h : crcB c x = crcB d x) : c = d := by
  have := crcShN_inj 8 (xor8_lt hc x) (xor8_lt hd x) h
  have := congrArg (fun y => y ^^^ x.toNat) this
  simpa [Nat.xor_assoc] using this
theorem crcL_inj : ∀ (l : List UInt8) {c d : Nat}, c < 4294967296 → d < 4294967296 → crcL c l = crcL d l → c = d
  | [], _, _, _, _, h => h
  | x :: l, _, _, hc, hd, h => crcB_inj hc hd x (crcL_inj l (crcB_lt hc x) (crcB_lt hd x) h)
/-- One byte is another one: so is the sum. -/
theorem crc_byte (a b : List UInt8) {x y : UInt8} (h : x ≠ y) : crc (a ++ x :: b) ≠ crc (a ++ y :: b) := fun e => by
  unfold crc at e
  have e1 : crcL 4294967295 (a ++ x :: b) = crcL 4294967295 (a ++ y :: b) := by
    have := congrArg (fun z => z ^^^ 4294967295) e
    simpa [Nat.xor_assoc] using this
  rw [crcL_app, crcL_app] at e1
  have hd := crcL_lt a (show (4294967295 : Nat) < 4294967296 by decide)
  have e2 := crcL_inj b (crcB_lt hd x) (crcB_lt hd y) e1
  have e3 := crcShN_inj 8 (xor8_lt hd x) (xor8_lt hd y) e2
  exact xor_left_ne (fun h' => h (UInt8.toNat_inj.1 h')) e3
theorem deN_inj : ∀ {a b : List UInt8}, a.length = b.length → deN a = deN b → a = b
  | [], [], _, _ => rfl
  | x :: a, y :: b, hl, h => by
    have h1 := x.toNat_lt; have h2 := y.toNat_lt
    have h' : x.toNat + 256 * deN a = y.toNat + 256 * deN b := h
    have e1 : x.toNat = y.toNat := by omega
    have e2 : deN a = deN b := by omega
    rw [UInt8.toNat_inj.1 e1, deN_inj (by simpa using hl) e2]
/-- A byte of a list is spoilt. -/
theorem spoil_app (A B : List UInt8) (i : Nat) (x : UInt8) : spoilL (A ++ B) i x = if i < A.length then spoilL A i x ++ B else A ++ spoilL B (i - A.length) x := by
  unfold spoilL
  split
  · rename_i h
    rw [List.set_append_left _ _ h]
    congr 2
    rw [List.getD_eq_getElem?_getD, List.getD_eq_getElem?_getD, List.getElem?_append_left h]
  · rename_i h
    rw [List.set_append_right _ _ (by omega)]
    congr 3
    rw [List.getD_eq_getElem?_getD, List.getD_eq_getElem?_getD, List.getElem?_append_right (by omega)]
theorem spoil_at {l : List UInt8} {i : Nat} {x : UInt8} (hi : i < l.length) (hx : x ≠ 0) : ∃ a b y z, y ≠ z ∧ l = a ++ y :: b ∧ spoilL l i x = a ++ z :: b := by
  obtain ⟨y, hy⟩ : ∃ y, l[i]? = some y := ⟨_, List.getElem?_eq_getElem hi⟩
  refine ⟨l.take i, l.drop (i + 1), y, y ^^^ x, fun e => hx ?_, ?_, ?_⟩
  · have := congrArg (fun z => y ^^^ z) e
    simpa [← UInt8.xor_assoc] using this.symm
  · have : l.drop i = y :: l.drop (i + 1) := by
      rw [List.drop_eq_getElem_cons hi]; congr 1; exact Option.some.inj ((List.getElem?_eq_getElem hi).symm.trans hy)
    rw [← this, List.take_append_drop]
  · unfold spoilL
    rw [List.set_eq_take_append_cons_drop, if_pos hi, List.getD_eq_getElem?_getD, hy]; rfl
theorem spoil_ne {l : List UInt8} {i : Nat} {x : UInt8} (hi : i < l.length) (hx : x ≠ 0) : spoilL l i x ≠ l := by
  obtain ⟨a, b, y, z, h1, h2, h3⟩ := spoil_at hi hx
  intro e
  rw [h3] at e
  rw [h2] at e
  have := List.append_cancel_left e
  simp at this
  exact h1 this.symm
/-- Is a place among those of which the frames' sums tell? -/
def insideL (at' : Nat) : Nat → List (Nat × List UInt8) → Bool
  | _, [] => false
  | a, (_, s) :: fs => (decide (placeN a s.length + 4 ≤ at') && decide (at' < placeN a s.length + (9 + s.length)) && decide (at' ≠ placeN a s.length + 8)) || insideL at' (placeN a s.length + (9 + s.length)) fs
theorem inside_le {at' : Nat} : ∀ (fs : List (Nat × List UInt8)) (a : Nat), insideL at' a fs = true → a + 4 ≤ at' ∧ at' < a + (layT a fs).length
  | [], _, h => by cases h
  | (k, s) :: fs, a, h => by
    have hp := place_le a s.length
    have hl : (layT a ((k, s) :: fs)).length = (placeN a s.length + 9 + s.length - a) + (layT (placeN a s.length + 9 + s.length) fs).length := by rw [layT, List.length_append, first_len]
    rw [hl]
    simp only [insideL, Bool.or_eq_true, Bool.and_eq_true, decide_eq_true_eq] at h
    rcases h with h | h
    · omega
    · have := inside_le fs _ h
      rw [← Nat.add_assoc] at this
      omega
/-- From a place on: what is left free ahead of a frame is skipped. -/
theorem pad_skip {U : List UInt8} {a n : Nat} {R : List UInt8} {X : List (Nat × List UInt8) × Int} (hn : n ≤ 2039) (ha : a ≤ U.length) (hU : U.drop a = padN a n ++ R) (hX : ∀ f, U.length < placeN a n + f → U.drop (placeN a n) = R → readF U U.length f (placeN a n) = X) : ∀ f, U.length < a + f → readF U U.length f a = X := by
  intro f hf
  have hpl := place_pad a n
  have hlen := congrArg List.length hU
  rw [List.length_drop, List.length_append] at hlen
  have hdr : U.drop (placeN a n) = R := by rw [hpl]; exact drop_of hU
  by_cases hft : roomN a < 9 + n
  · have hpd : padN a n = zeros (roomN a) := by unfold padN; rw [if_pos hft]
    have hp : placeN a n = a + roomN a := by unfold placeN; rw [if_pos hft]
    have hrm := room_pos a
    rw [hpd, length_zeros] at hlen
    obtain ⟨f, rfl⟩ : ∃ g, f = g + 1 := ⟨f - 1, by omega⟩
    have hm : min (roomN a) (U.length - a) = roomN a := by omega
    have hfin := hX f (by omega) hdr
    rw [hp] at hfin
    rw [readF_step (by omega), hm]
    by_cases h9 : roomN a < 9
    · rw [if_pos h9]; exact hfin
    · rw [if_neg h9, hU, hpd, if_pos (zeros_head (roomN a) _ (by omega))]
      exact hfin
  · have hp : placeN a n = a := by unfold placeN; rw [if_neg hft]
    have := hX f (by omega) hdr
    rw [hp] at this; exact this
/-- A frame with any four bytes as its sum, and any data. -/
theorem frame_any {U : List UInt8} {p k : Nat} {c4 d R : List UInt8} {n : Nat} (hk1 : 1 ≤ k) (hk3 : k ≤ 3) (hn : n ≤ 2039) (hp : 9 + n ≤ roomN p) (hc : c4.length = 4) (hd : d.length = n) (hU : U.drop p = le4 n ++ (c4 ++ UInt8.ofNat k :: d) ++ R) (hpl : p ≤ U.length) {f : Nat} :
    readF U U.length (f + 1) p = if sealN p k d ≠ deN c4 then ([], 80) else if (readF U U.length f (p + 9 + n)).2 = 0 then ((k, d) :: (readF U U.length f (p + 9 + n)).1, 0) else ([], (readF U U.length f (p + 9 + n)).2) := by
  have hlen := congrArg List.length hU
  simp only [List.length_drop, List.length_append, List.length_cons, length_le4, hc, hd] at hlen
  have hm : 9 + n ≤ min (roomN p) (U.length - p) := by omega
  have e9 : (U.drop p).take 9 = le4 n ++ (c4 ++ [UInt8.ofNat k]) := by
    rw [hU, show le4 n ++ (c4 ++ UInt8.ofNat k :: d) ++ R = (le4 n ++ (c4 ++ [UInt8.ofNat k])) ++ (d ++ R) from by simp]
    exact List.take_left' (by simp [hc])
  have hd9 : U.drop (p + 9) = d ++ R := by
    rw [← List.drop_drop, hU, show le4 n ++ (c4 ++ UInt8.ofNat k :: d) ++ R = (le4 n ++ (c4 ++ [UInt8.ofNat k])) ++ (d ++ R) from by simp]
    exact List.drop_left' (by simp [hc])
  have h1 : deN ((le4 n ++ (c4 ++ [UInt8.ofNat k])).take 4) = n := by rw [List.take_left' (length_le4 n), deN_le4 _ (by omega)]
  have h2 : (((le4 n ++ (c4 ++ [UInt8.ofNat k])).drop 4).take 4) = c4 := by rw [List.drop_left' (length_le4 n), List.take_left' hc]
  have h3 : ((le4 n ++ (c4 ++ [UInt8.ofNat k])).getD 8 0).toNat = k := by
    rw [List.getD_eq_getElem?_getD, List.getElem?_append_right (by simp), List.getElem?_append_right (by simp [hc])]
    simp [hc]
    omega
  have hs9 : (U.drop (p + 9)).take n = d := by rw [hd9, List.take_left' hd]
  rw [readF_step (by omega), e9, h1, h2, h3, hs9, if_neg (by omega), if_neg (by omega), if_neg (by omega)]
/-- What is spoilt is found out. -/
theorem read_spoilt {x : UInt8} (hx : x ≠ 0) {at' : Nat} : ∀ (fs : List (Nat × List UInt8)) (a : Nat) (U : List UInt8), FOk fs → insideL at' a fs = true → a ≤ U.length → U.drop a = spoilL (layT a fs) (at' - a) x → ∀ f, U.length < a + f → readF U U.length f a = ([], 80)
  | [], _, _, _, h, _, _ => by cases h
  | (k, s) :: fs, a, U, hok, hin, ha, hU => by
    obtain ⟨hk1, hk3, hsl⟩ := hok (k, s) (List.mem_cons_self ..)
    have hk1 : 1 ≤ k := hk1
    have hk3 : k ≤ 3 := hk3
    have hsl : s.length ≤ 2039 := hsl
    have hok' : FOk fs := fun y hy => hok y (List.mem_cons_of_mem _ hy)
    obtain ⟨hlo, -⟩ := inside_le _ _ hin
    obtain ⟨p, hp⟩ : ∃ p, placeN a s.length = p := ⟨_, rfl⟩
    have hpl := place_pad a s.length
    have hft := place_fits a s.length hsl
    have hcs : (p + 4 ≤ at' ∧ at' < p + (9 + s.length) ∧ at' ≠ p + 8) ∨ insideL at' (p + (9 + s.length)) fs = true := by
      simp only [insideL, Bool.or_eq_true, Bool.and_eq_true, decide_eq_true_eq, hp] at hin
      rcases hin with h | h
      · exact .inl ⟨h.1.1, h.1.2, h.2⟩
      · exact .inr h
    have hap : p + 4 ≤ at' := by
      rcases hcs with h | h
      · exact h.1
      · have := (inside_le _ _ h).1; omega
    rw [hp] at hpl hft
    have hlay : layT a ((k, s) :: fs) = padN a s.length ++ (frameN p k s ++ layT (p + 9 + s.length) fs) := by rw [layT, hp, List.append_assoc]
    rw [hlay, spoil_app, if_neg (by omega), show at' - a - (padN a s.length).length = at' - p from by omega] at hU
    have hfl : (frameN p k s).length = 9 + s.length := by rw [frame_len]
    refine pad_skip hsl ha hU ?_
    rw [hp]
    intro f hf hd
    have hpU : p ≤ U.length := by
      have := congrArg List.length hd
      rw [List.length_drop, length_spoilL, List.length_append, hfl] at this
      omega
    obtain ⟨f, rfl⟩ : ∃ g, f = g + 1 := ⟨f - 1, by
      have := congrArg List.length hd
      rw [List.length_drop, length_spoilL, List.length_append, hfl] at this
      omega⟩
    have hq : sealN p k s < 4294967296 := crc_lt _
    rcases hcs with ⟨h1, h2, h3⟩ | h
    · rw [spoil_app, if_pos (by omega), show frameN p k s = le4 s.length ++ (le4 (sealN p k s) ++ (UInt8.ofNat k :: s)) from rfl, spoil_app, if_neg (by simp; omega), length_le4, spoil_app, length_le4] at hd
      by_cases h4 : at' - p - 4 < 4
      · rw [if_pos h4] at hd
        rw [frame_any (c4 := spoilL (le4 (sealN p k s)) (at' - p - 4) x) (d := s) (n := s.length) hk1 hk3 hsl hft (by simp) rfl hd hpU, if_pos]
        intro e
        refine spoil_ne (l := le4 (sealN p k s)) (by simpa using h4) hx (deN_inj (by simp) ?_)
        rw [← e, deN_le4 _ hq]
      · rw [if_neg h4, show UInt8.ofNat k :: s = [UInt8.ofNat k] ++ s from rfl, spoil_app, if_neg (by simp; omega), List.length_singleton] at hd
        rw [frame_any (c4 := le4 (sealN p k s)) (d := spoilL s (at' - p - 4 - 4 - 1) x) (n := s.length) hk1 hk3 hsl hft rfl (by simp) hd hpU, if_pos]
        rw [deN_le4 _ hq]
        obtain ⟨A, B, y, z, g1, g2, g3⟩ := spoil_at (l := s) (i := at' - p - 4 - 4 - 1) (by omega) hx
        intro e
        unfold sealN at e
        rw [length_spoilL, g3] at e
        have e' : crc ((le4 (p % 4294967296) ++ (le4 (p / 4294967296) ++ (le4 (s.length % 4294967296) ++ (UInt8.ofNat k :: A)))) ++ z :: B) = crc ((le4 (p % 4294967296) ++ (le4 (p / 4294967296) ++ (le4 (s.length % 4294967296) ++ (UInt8.ofNat k :: A)))) ++ y :: B) := by
          simp only [List.append_assoc, List.cons_append] at e ⊢
          rw [g2] at e
          simp only [List.length_append, List.length_cons] at e ⊢
          have : s.length = A.length + (B.length + 1) := by rw [g2]; simp
          rw [this]
          exact e
        exact crc_byte _ _ g1.symm e'
    · have hlo2 := (inside_le _ _ h).1
      rw [spoil_app, if_neg (by omega), hfl] at hd
      have hd' : U.drop p = le4 s.length ++ (le4 (sealN p k s) ++ UInt8.ofNat k :: s) ++ spoilL (layT (p + 9 + s.length) fs) (at' - p - (9 + s.length)) x := hd
      rw [frame_any (c4 := le4 (sealN p k s)) (d := s) (n := s.length) hk1 hk3 hsl hft rfl rfl hd' hpU, if_neg (by rw [deN_le4 _ hq]; simp)]
      have hdn : U.drop (p + 9 + s.length) = spoilL (layT (p + 9 + s.length) fs) (at' - (p + 9 + s.length)) x := by
        have := drop_of hd'
        rw [show (le4 s.length ++ (le4 (sealN p k s) ++ UInt8.ofNat k :: s)).length = 9 + s.length from hfl, ← Nat.add_assoc] at this
        rw [this]; congr 1; omega
      have hle : p + 9 + s.length ≤ U.length := by
        have := congrArg List.length hd'
        rw [List.length_drop, List.length_append, show (le4 s.length ++ (le4 (sealN p k s) ++ UInt8.ofNat k :: s)).length = 9 + s.length from hfl] at this
        omega
      rw [← Nat.add_assoc] at h
      rw [read_spoilt hx fs (p + 9 + s.length) U hok' h hle hdn f (by omega)]
      rfl
theorem spoil_get (l : List UInt8) (a k : Nat) (x : UInt8) : (spoilL l a x)[k]? = if k = a then (l[k]?).map (· ^^^ x) else l[k]? := by
  unfold spoilL
  rw [List.getElem?_set]
  by_cases h : k = a
  · subst h
    rw [if_pos rfl, if_pos rfl]
    by_cases hl : k < l.length
    · rw [if_pos hl, List.getD_eq_getElem?_getD, List.getElem?_eq_getElem hl]; rfl
    · rw [if_neg hl, List.getElem?_eq_none (by omega)]; rfl
  · rw [if_neg (fun e => h e.symm), if_neg h]
/-- A byte behind the marks is spoilt: what the log's opening finds. -/
theorem LP.spoilt {M : WM} {N : Nat} {fs : List (Nat × List UInt8)} (h : LP M 2 N [] fs) {at' : Nat} (ha : at' < 4096) (x : UInt8) : ∃ mk ec, getR (M.D.spoilt (2 + at' / 128) (at' % 128) x) 0 = (mk, ec) ∧ (ec = 0 ∨ ec = 4) ∧ mk.w0 = 0 ∧ mk.w1 = (layT 0 fs).length ∧ RS (M.D.spoilt (2 + at' / 128) (at' % 128) x) (RingM.opened (M.D.spoilt (2 + at' / 128) (at' % 128) x) 2 (2 * 16) (layT 0 fs).length) (spoilL (layT 0 fs) at' x) ∧ (layT 0 fs).length ≤ 4096 := by
  obtain ⟨D', hD'⟩ : ∃ D', M.D.spoilt (2 + at' / 128) (at' % 128) x = D' := ⟨_, rfl⟩
  rw [hD']
  have hT : ([] : List UInt8) ++ layT ([] : List UInt8).length fs = layT 0 fs := rfl
  have hhd : M.head = 0 := h.hd
  have htl : M.tail = (layT 0 fs).length := h.tl
  have hrm := h.room
  rw [hT, hhd] at hrm
  have hlen : (layT 0 fs).length ≤ 4096 := by omega
  have hrs := h.rs
  rw [hT] at hrs
  have hcD : ∀ k, M.D.cur k = M.D.sure k := fun k => by unfold DiskM.cur; rw [h.pend k]; rfl
  have hcur : ∀ k, D'.cur k = if k = 2 + at' / 128 then spoilL (M.D.cur k) (at' % 128) x else M.D.cur k := fun k => by
    have : D'.cur k = D'.sure k := by
      unfold DiskM.cur
      rw [← hD']
      show (M.D.pend k).getD _ = _
      rw [h.pend k]; rfl
    rw [this, ← hD', hcD]
    show (if k = 2 + at' / 128 then spoilL (M.D.sure (2 + at' / 128)) (at' % 128) x else M.D.sure k) = _
    split
    · rename_i e; rw [e]
    · rfl
  have hdn : D'.down = false := by rw [← hD']; exact hrs.up
  have hn : D'.n = M.D.n := by rw [← hD']; rfl
  have hRS : RS D' { M.R with rest := (spoilL (layT 0 fs) at' x).drop ((spoilL (layT 0 fs) at' x).length / 128 * 128) } (spoilL (layT 0 fs) at' x) := by
    refine ⟨hdn, by rw [← hD']; exact hrs.fuse, by rw [hn]; exact hrs.fits, hrs.c0, by rw [length_spoilL]; exact hrs.tail, rfl, fun i hlo hi k hk hik => ?_⟩
    rw [length_spoilL] at hlo hi hik
    show (D'.cur (M.R.first + i % M.R.count))[k]? = _
    have h1 := hrs.holds i hlo hi k hk hik
    have hi32 : i < 32 := by omega
    rw [h.first, h.count] at h1 ⊢
    rw [show i % (2 * 16) = i from by omega] at h1 ⊢
    rw [hcur, spoil_get]
    by_cases e : i = at' / 128
    · subst e
      rw [if_pos rfl, spoil_get, h1]
      by_cases e2 : k = at' % 128
      · rw [if_pos e2, if_pos (by omega)]
      · rw [if_neg e2, if_neg (by omega)]
    · rw [if_neg (by omega), if_neg (by omega)]
      exact h1
  have hop := hRS.opened
  rw [length_spoilL] at hop
  have e2 : ({ M.R with rest := (spoilL (layT 0 fs) at' x).drop ((layT 0 fs).length / 128 * 128) } : RingM).first = 2 := h.first
  have e3 : ({ M.R with rest := (spoilL (layT 0 fs) at' x).drop ((layT 0 fs).length / 128 * 128) } : RingM).count = 2 * 16 := h.count
  rw [e2, e3] at hop
  obtain ⟨m0, m1, hs, -, hz, hl⟩ := h.marks
  have hs' : Slots (fun k => D'.cur (0 + k)) m0 m1 := ⟨by show D'.cur (0 + 0) = _; rw [hcur, if_neg (by omega)]; exact hs.c0, by show D'.cur (0 + 1) = _; rw [hcur, if_neg (by omega)]; exact hs.c1, hs.ok0, hs.ok1, hs.p0, hs.p1, hs.z0⟩
  have hg := hs'.getR hdn (first := 0) (by rw [hn]; have := h.dn; omega)
  by_cases h0 : (lastOf m0 m1).s = 0
  · rw [if_pos h0] at hg
    obtain ⟨z1, z2⟩ := hz h0
    exact ⟨MarkM.zero, 4, hg, .inr rfl, rfl, by rw [← htl, z2]; rfl, hop, hlen⟩
  · rw [if_neg h0] at hg
    obtain ⟨z1, z2⟩ := hl h0
    exact ⟨_, 0, hg, .inl rfl, by rw [z1, hhd], by rw [z2, htl], hop, hlen⟩
end Go.Proofs.Ythodcbhejjbhaaa
