/- The ring: Append, what is taken. -/
import Derived.Test.YthodcbhejjbhaaaRingA
import Derived.Test.YthodcbhejjbhaaaAddb
namespace Go.Proofs.Ythodcbhejjbhaaa
open Go.RowKit

def RAppPost (w : World) (r b : Nat) (q : RingM × DiskM × Int) (F FD : Nat → Prop) (e : Ending) (w' : World) : Prop :=
  e = .returned (.int .i64 q.2.2) ∧ ∃ F' FD', RingAt w' r b q.1 F' ∧ DiskAt w' b q.2.1 FD' ∧ (∀ k, F' k → ¬ FD' k) ∧ Only (fun k => F k ∨ FD k) w w' ∧ (∀ k, F' k → F k ∨ w.heap.size ≤ k) ∧ ∀ k, FD' k → FD k ∨ w.heap.size ≤ k

theorem run_nil (R : RingM) (f a : Nat) (D : DiskM) : ringRun R f a [] D = (D, 0) := by cases f <;> simp [ringRun]
theorem run_bad (R : RingM) (f a : Nat) (al : List UInt8) (D : DiskM) (hf : 0 < f) (h : al ≠ []) (hb : (D.write (R.sector a) (sectorL al)).2 ≠ 0) : ringRun R f a al D = D.write (R.sector a) (sectorL al) := by
  obtain ⟨f, rfl⟩ := Nat.exists_eq_succ_of_ne_zero (Nat.ne_of_gt hf)
  simp only [ringRun, if_neg h, if_pos hb]
theorem run_last (R : RingM) (f a : Nat) (al : List UInt8) (D : DiskM) (hf : 0 < f) (h : al ≠ []) (hb : (D.write (R.sector a) (sectorL al)).2 = 0) (hl : al.length < 128) : ringRun R f a al D = ((D.write (R.sector a) (sectorL al)).1, 0) := by
  obtain ⟨f, rfl⟩ := Nat.exists_eq_succ_of_ne_zero (Nat.ne_of_gt hf)
  simp only [ringRun, if_neg h, hb, ne_eq, not_true_eq_false, if_false, if_pos hl]
theorem run_next (R : RingM) (f a : Nat) (al : List UInt8) (D : DiskM) (hf : 0 < f) (h : al ≠ []) (hb : (D.write (R.sector a) (sectorL al)).2 = 0) (hl : ¬ al.length < 128) : ringRun R f a al D = ringRun R (f - 1) (a + 128) (al.drop 128) (D.write (R.sector a) (sectorL al)).1 := by
  obtain ⟨f, rfl⟩ := Nat.exists_eq_succ_of_ne_zero (Nat.ne_of_gt hf)
  simp only [ringRun, if_neg h, hb, ne_eq, not_true_eq_false, if_false, if_neg hl, Nat.succ_eq_add_one, Nat.add_sub_cancel]

/-- Behind some sectors of an append: what is left of the bytes, where it goes, the disk then. -/
structure AppInv (w wr : World) (b : Nat) (R : RingM) (D : DiskM) (FD : Nat → Prop) (all0 : List UInt8) (at0 j : Nat) (al : List UInt8) (at' : Nat) (D1 : DiskM) (F1 : Nat → Prop) : Prop where
  eq : al = all0.drop (j * 128)
  le : j * 128 ≤ all0.length
  pos : at' = at0 + j * 128
  run : ringRun R all0.length at0 all0 D = ringRun R (all0.length - j) at' al D1
  disk : DiskAt wr b D1 F1
  only : Only FD w wr
  inF : ∀ k, F1 k → FD k ∨ w.heap.size ≤ k

theorem Row.src' {w : World} {g c : Nat} {l : List UInt8} {xs : List Value} (h : Row w g 5 c xs) (e : xs = bytesV l) : Src w (.slice (some ⟨g, 0, none⟩) l.length c) l := by subst e; exact h.src
def lenOfV : Value → Nat | .slice _ n _ => n | _ => 0
theorem appStep {w wr w4 w5 : World} {FD F1 F5 : Nat → Prop} (h1 : Only FD w wr) (h2 : ∀ k, F1 k → FD k ∨ w.heap.size ≤ k) (h3 : Only (fun _ => False) wr w4) (h5 : Only F1 w4 w5) (h6 : ∀ k, F5 k → F1 k ∨ w4.heap.size ≤ k) : Only FD w w5 ∧ ∀ k, F5 k → FD k ∨ w.heap.size ≤ k := by
  have s1 := h1.size
  have s2 := h3.size
  refine ⟨(h1.trans h3 (fun _ _ e => e.elim)).trans h5 (fun k hk e => ?_), fun k hk => ?_⟩
  · rcases h2 k e with h | h
    · exact h
    · omega
  · rcases h6 k hk with h | h
    · exact h2 k h
    · right; omega

theorem appFin {w W w6 : World} {r b L g6 cap6 : Nat} {R : RingM} {D2 : DiskM} {F FD F2 : Nat → Prop} {q : RingM × DiskM × Int} {al : List UInt8} (HH : RingAt w r b R F) (hdis : ∀ k, F k → ¬ FD k) (HoW : Only FD w W) (HDW : DiskAt W b D2 F2) (HFW : ∀ k, F2 k → FD k ∨ w.heap.size ≤ k)
    (hq : q = ({ R with tail := R.tail + L, rest := al }, D2, 0)) (hlen : al.length = (R.tail + L) % 128) (ht : R.tail + L ≤ 18446744073709551615)
    (ho6 : Only (fun _ => False) (W.setCell ⟨r, 3, none⟩ (.int .u64 (R.tail + L))) w6) (hrow6 : Row w6 g6 5 cap6 (bytesV al)) (hg6 : W.heap.size ≤ g6) :
    RAppPost w r b q F FD (.returned (.int .i64 0)) (w6.setCell ⟨r, 4, none⟩ (.slice (some ⟨g6, 0, none⟩) al.length cap6)) := by
  obtain ⟨rv, hR⟩ := HH
  have hFr := hR.own
  have hrW : r < W.heap.size := Nat.lt_of_lt_of_le (hR.lt r hFr) HoW.size
  have hblk : W.heap[r]? = some (.cells (ringCells R b rv) 114 (0, 0)) := blk_only hR.blk HoW (hdis r hFr)
  have hblk3 := blk_set hblk 3 (.int .u64 (R.tail + L))
  have hblk6 := blk_set (blk_only hblk3 ho6 (fun e => e)) 4 (.slice (some ⟨g6, 0, none⟩) al.length cap6)
  have hs6 := ho6.size
  rw [World.size_setCell] at hs6
  have hsW := HoW.size
  have hgr : g6 ≠ r := by omega
  have hgl := hrow6.lt
  have hd : ∀ k, F2 k → k ≠ r := fun k hk e => by
    rcases HFW k hk with h | h
    · exact hdis r hFr (e ▸ h)
    · have := hR.lt r hFr; omega
  subst hq
  refine ⟨rfl, fun k => F k ∨ k = g6, F2, ⟨.slice (some ⟨g6, 0, none⟩) al.length cap6, hblk6, (hrow6.setCell_other _ _ hgr).src, ?_, .inl hFr, ?_, hR.c0, ht, hlen⟩, ?_, ?_, ?_, ?_, HFW⟩
  · intro g o c e
    simp only [Value.slice.injEq, Option.some.injEq, Addr.mk.injEq] at e
    exact .inr e.1.1.symm
  · rw [World.size_setCell]
    rintro k (hk | rfl)
    · have := hR.lt k hk; omega
    · exact hgl
  · refine ((HDW.only (only_set r 3 _) (fun k hk => hd k hk)).only ho6 (fun _ _ e => e)).only (only_set r 4 _) (fun k hk => hd k hk)
  · rintro k (hk | rfl) h2
    · rcases HFW k h2 with h | h
      · exact hdis k hk h
      · have := hR.lt k hk; omega
    · have := HDW.lt h2; omega
  · refine ((((HoW.mono (G := fun k => F k ∨ FD k) (fun _ _ e => .inr e)).trans (only_set r 3 _) (fun k _ e => .inl (e ▸ hFr))).trans ho6 (fun _ _ e => e.elim)).trans (only_set r 4 _) (fun k _ e => .inl (e ▸ hFr)))
  · rintro k (hk | rfl)
    · exact .inl hk
    · right; omega

/-- An append that goes through, from its writes. -/
theorem append_eq {R : RingM} {head : Nat} {s : List UInt8} {D : DiskM} (h1 : s ≠ []) (h2 : s.length ≤ R.left head) {all : List UInt8} {at0 : Nat} (ha : all = R.rest ++ s) (hat : at0 = R.tail - R.rest.length) {q : DiskM × Int} (hq : ringRun R all.length at0 all D = q) :
    R.append head s D = if q.2 = 0 then ({ R with tail := R.tail + s.length, rest := all.drop (all.length / 128 * 128) }, q.1, 0) else (R, q.1, q.2) := by
  subst ha hat hq
  unfold RingM.append
  rw [if_neg (by omega), if_neg h1]

section
variable {w : World} {r b : Nat} {D : DiskM} {R : RingM} {F FD : Nat → Prop}

set_option maxRecDepth 100000 in
set_option maxHeartbeats 1600000 in
theorem append_go (h : RingAt w r b R F) (hD : DiskAt w b D FD) (hdis : ∀ k, F k → ¬ FD k) (hRD : R.first + R.count ≤ D.n) (v : Value) (ps : List (List UInt8)) (hp : PartsAt w v ps (fun k => F k ∨ FD k)) (head : Nat) (hh : head ≤ 18446744073709551615) (hne : ps.flatten ≠ []) (hfit : ps.flatten.length ≤ R.left head) (htl : R.tail + ps.flatten.length ≤ 18446744073709551615) :
    Calls Try.prog 59 #[.pointer (some ⟨r, 0, none⟩), .int .u64 head, v] w (RAppPost w r b (R.append head ps.flatten D) F FD) := by
  have HS := hid (size_c h)
  have HL := hid (left_c h head hh)
  have hsz : R.size ≤ 524288 := by obtain ⟨rv, h⟩ := h; have := h.c0; unfold RingM.size; omega
  have hll := left_le R head
  have hlb : (R.left head : Int) ≤ 524288 := by omega
  have hsb : (R.size : Int) ≤ 524288 := by omega
  have hpos : 0 < ps.flatten.length := List.length_pos_iff.2 hne
  have HH := hid h; have HD := hid hD; have HDis := hid hdis; have HRD := hid hRD; have HPA := hid hp; have HTl := hid htl
  clear h hD hdis hRD htl
  obtain ⟨a, c, rfl, hpl, hpp⟩ := hp
  have HP := hid hpp
  clear hpp hne
  go_enter Try.func59, Try.ntmps59
  go_wp2_with fail
  try go_frame
  go_loop [19, 7] (fun i n => ∃ k : Nat, i = .int .i64 k ∧ k ≤ ps.length ∧ n = .int .i64 (ps.take k).flatten.length ∧ (ps.take k).flatten.length ≤ R.size) (fun i _ => ps.length - (intOf i).toNat)
  case atStart => exact ⟨0, rfl, Nat.zero_le _, by simp, by simp⟩
  case round =>
    obtain ⟨k, rfl, hk, rfl, hn⟩ := hrel
    have hni : (((ps.take k).flatten.length : Nat) : Int) ≤ 524288 := by omega
    by_cases hkl : k < ps.length
    · obtain ⟨g, o, pa, pc, rfl, -, hc, -, -, hlb2⟩ := HP.out k ps[k] (List.getElem?_eq_getElem hkl)
      have hlb3 : ((ps[k].length : Nat) : Int) ≤ 1000000 := by omega
      have hsum : (ps.take (k + 1)).flatten.length = (ps.take k).flatten.length + ps[k].length := by rw [take_flat ps k hkl, List.length_append]
      have hle0 : (ps.take (k + 1)).flatten.length ≤ ps.flatten.length := take_flat_le ps (k + 1)
      obtain ⟨L, hL⟩ : ∃ L, L = (ps.take k).flatten.length := ⟨_, rfl⟩
      obtain ⟨M, hM⟩ : ∃ M, M = ps[k].length := ⟨_, rfl⟩
      rw [← hL] at hn hni hsum ⊢
      rw [← hM] at hc hlb2 hlb3 hsum
      have hle : (L : Int) + (M : Int) ≤ (R.size : Int) := by omega
      have HSum := hid hsum; have HLL := hid hL; have HMM := hid hM
      clear hsum hL hM hle0
      go_wp2_with (go_at_call 57; refine HS.out.mono ?_; rintro e w' ⟨rfl, rfl⟩)
      go_round
      case rel => exact ⟨k + 1, by go_num, by omega, by rw [HSum.out]; go_num, by rw [HSum.out]; omega⟩
      case measure => simp [intOf]; omega
    · have hkk : k = ps.length := by omega
      subst hkk
      rw [List.take_length] at hn hni ⊢
      have hlf' : (ps.flatten.length : Int) ≤ (R.left head : Int) := by omega
      have hl0 : ((ps.flatten.length : Int) == 0) = false := by rw [beq_eq_false_iff_ne]; omega
      obtain ⟨L, hL⟩ : ∃ L, L = ps.flatten.length := ⟨_, rfl⟩
      rw [← hL] at hn hni hlf' hl0 hpos hfit ⊢
      have HLL := hid hL
      clear hL
      obtain ⟨rv, ra, rc, rfl, hrc, hrz⟩ := HH.out.cells
      have hc0 := hrc 0; have hc3 := hrc 3; have hc4 := hrc 4
      have hrlt : r < w.heap.size := HH.out.lt
      have hcA : ∀ ob, (w.alloc ob).cell? ⟨r, 4, none⟩ = some (.slice ra R.rest.length rc) := fun ob => (World.cell?_alloc_lt _ _ _ hrlt).trans hc4
      clear hrc
      have hrs0 : Src (w.alloc (.cells #[] 5)) (.slice ra R.rest.length rc) R.rest := by
        obtain ⟨rv', hR⟩ := HH.out
        have e1 : rv' = .slice ra R.rest.length rc := by
          have e := hR.blk
          have h4 : w.cell? ⟨r, 4, none⟩ = some rv' := by rw [cell_blk e]; rfl
          rw [hc4] at h4; exact (Option.some.inj h4).symm
        subst e1
        exact hR.rest.only ((Only.refl (fun _ => False) w).alloc _) (fun _ _ _ _ _ e => e)
      have HRS := hid hrs0
      have hrl : R.rest.length < 128 := by obtain ⟨rv', hR⟩ := HH.out; have := hR.len; omega
      have hrt : (R.rest.length : Int) ≤ (R.tail : Int) := by obtain ⟨rv', hR⟩ := HH.out; have := hR.len; omega
      have htb : (R.tail : Int) ≤ 18446744073709551615 := by obtain ⟨rv', hR⟩ := HH.out; have := hR.t0; omega
      clear hrs0
      go_wp2_with (first | (go_at_call 34; refine HL.out.mono ?_; rintro e w' ⟨rfl, rfl⟩) | (refine wpList_addb rfl (.tmp 41) (.tmp 45) rfl w.heap.size 0 [] rfl (Row.new' _ _ _ _ rfl) ra R.rest rc rfl HRS.out (by simp; omega) ?_; intro g1 cap1 w1 hcap1 hrow1 hg1 ho1; have hd3 : w1.cell? ⟨r, 3, none⟩ = some (.int .u64 R.tail) := (World.cell?_of_block (ho1.block r (by simp; omega) (by show ¬ r = _; omega))).trans ((World.cell?_alloc_lt _ _ _ hrlt).trans hc3); have Hrow1 := hid hrow1; have Hg1 := hid hg1; have Ho1 := hid (((Only.refl (fun _ => False) w).alloc _).trans ho1 (fun k hk e => by omega)); clear hrow1 hg1 ho1 hcap1 hcA hc4 hc3 hc0))
      try go_frame
      go_loopw [57, 10, 13] (fun i v _ wr => ∃ (k g cap : Nat) (lk : List UInt8), i = .int .i64 k ∧ k ≤ ps.length ∧ lk = R.rest ++ (ps.take k).flatten ∧ v = .slice (some ⟨g, 0, none⟩) lk.length cap ∧ Row wr g 5 cap (bytesV lk) ∧ w.heap.size ≤ g ∧ Only (fun _ => False) w wr) (fun i _ _ _ => ps.length - (intOf i).toNat)
      case atStart => exact ⟨0, g1, cap1, R.rest, rfl, Nat.zero_le _, by simp, rfl, Hrow1.out, by rcases Hg1.out with h | h <;> (first | omega | (simp at h; omega)), Ho1.out⟩
      case round =>
        obtain ⟨k, g, cap, lk, rfl, hk, hlk, rfl, hrow, hg, ho⟩ := hrel
        have hlen : lk.length ≤ 524416 := by
          have h1 := take_flat_le ps k
          have h2 := HLL.out
          rw [hlk, List.length_append]; omega
        have Hlk := hid hlk; have Hrow := hid hrow; have Ho := hid ho
        clear hlk hrow ho
        by_cases hkl : k < ps.length
        · obtain ⟨gp, op, pa, pc, rfl, -, hcp, hsp, hnp, hlbp⟩ := HP.out k ps[k] (List.getElem?_eq_getElem hkl)
          have hgl := World.block_lt_of_cell? _ _ hcp
          have hcw : wr.cell? ⟨gp, op + k, none⟩ = some (.slice pa ps[k].length pc) := (World.cell?_of_block (Ho.out.block gp hgl (fun e => e))).trans hcp
          have HSP := hid (hsp.only Ho.out (fun _ _ _ _ _ e => e))
          have hsum : R.rest ++ (ps.take (k + 1)).flatten = lk ++ ps[k] := by rw [take_flat ps k hkl, Hlk.out, List.append_assoc]
          have hpl2 : ps[k].length ≤ 524288 := by
            have h1 := take_flat_le ps (k + 1)
            rw [take_flat ps k hkl, List.length_append] at h1
            have h2 := HLL.out
            omega
          obtain ⟨M, hM⟩ : ∃ M, M = ps[k] := ⟨_, rfl⟩
          rw [← hM] at hcw hpl2 hsum HSP
          have HSum := hid hsum
          clear hsum hM hlbp hcp hsp hnp hgl
          go_wp2_with (first | (refine wpList_addb rfl (.tmp 61) (.tmp 62) rfl g cap lk rfl Hrow.out pa M pc rfl HSP.out (by omega) ?_; intro g2 cap2 w2 hcap2 hrow2 hg2 ho2; have Hrow2 := hid hrow2; have Hg2 := hid hg2; have Ho2 := hid (Ho.out.trans ho2 (fun j hj e => by omega)); clear hrow2 hg2 ho2 hcap2))
          go_roundw
          case rel => exact ⟨k + 1, g2, cap2, lk ++ M, by go_num, by omega, HSum.out.symm, by rw [List.length_append], Hrow2.out, by have h1 := Ho.out.size; rcases Hg2.out with h | h <;> omega, Ho2.out⟩
          case measure => simp [intOf]; omega
        · obtain rfl : k = ps.length := by omega
          have hlk := Hlk.out
          rw [List.take_length] at hlk
          have hlkl : lk.length = R.rest.length + L := by rw [hlk, List.length_append, HLL.out]
          obtain ⟨at0, hat0⟩ : ∃ at0 : Nat, at0 = R.tail - R.rest.length := ⟨_, rfl⟩
          have hate : (R.tail : Int) - (R.rest.length : Int) = (at0 : Int) := by omega
          rw [hate]
          have hsum : at0 + lk.length ≤ 18446744073709551615 := by have := HTl.out; rw [← HLL.out] at this; omega
          have hgD : Hid (¬ FD g) := hid (fun e => by have := HD.out.lt e; omega)
          have HR3 := hid (HH.out.only Ho.out (fun _ _ e => e))
          have HI : Hid (AppInv w wr b R D FD lk at0 0 lk at0 D FD) := hid ⟨by simp, by omega, by omega, rfl, HD.out.only Ho.out (fun _ _ e => e), Ho.out.mono (fun _ _ e => e.elim), fun _ hk => .inl hk⟩
          have HNe : Hid (ps.flatten ≠ []) := hid (fun e => by have := HLL.out; rw [e] at this; simp at this; omega)
          have HFit : Hid (ps.flatten.length ≤ R.left head) := hid (by rw [← HLL.out]; exact hfit)
          have HRL : Hid (R.rest.length = R.tail % 128) := hid (by obtain ⟨rv', hR⟩ := HH.out; exact hR.len)
          have Hlkeq := hid hlk; have Hlkl := hid hlkl; have Hat0 := hid hat0
          have htl9 : (R.tail : Int) + (L : Int) ≤ 18446744073709551615 := by have := HTl.out; rw [← HLL.out] at this; omega
          clear hlk hlkl hat0 hate Hlk
          have hcap0 : lk.length ≤ cap := by have := Hrow.out.le; rw [length_bytesV] at this; exact this
          obtain ⟨w2, hw2⟩ : ∃ w2, w2 = wr := ⟨_, rfl⟩
          rw [← hw2] at HR3 Hrow Ho
          have Hw2 := hid hw2
          clear hw2
          go_wp2_with fail
          try go_frame
          go_loopw [10, 11, 14, 15, 16] (fun v at' _ _ _ wr => ∃ (j al : _) (a1 : Nat) (D1 : DiskM) (F1 : Nat → Prop) (o c1 : Nat), AppInv w wr b R D FD lk at0 j al a1 D1 F1 ∧ at' = .int .u64 a1 ∧ v = .slice (some ⟨g, o, none⟩) al.length c1 ∧ al.length ≤ c1 ∧ Src wr (.slice (some ⟨g, o, none⟩) al.length c1) al ∧ ¬ F1 g) (fun v _ _ _ _ _ => lenOfV v)
          case atStart => exact ⟨0, lk, at0, D, FD, 0, cap, HI.out, rfl, rfl, hcap0, by rw [← Hw2.out]; exact Hrow.out.src, hgD.out⟩
          case round =>
            obtain ⟨j, al, a1, D1, F1, o, c1, hinv, rfl, rfl, hlc, hsrc, hgF⟩ := hrel
            have HInv := hid hinv; have HSrc := hid hsrc; have HgF := hid hgF
            have halen : al.length = lk.length - j * 128 := by rw [hinv.eq, List.length_drop]
            have hjle := hinv.le
            have ha1 : a1 = at0 + j * 128 := hinv.pos
            have hrlt2 : r < wr.heap.size := Nat.lt_of_lt_of_le HH.out.lt hinv.only.size
            clear hinv hsrc hgF
            by_cases hal : al = []
            · have HDf := hid HInv.out.disk
              have Hof := hid HInv.out.only
              have HFf := hid HInv.out.inF
              have Hfin : Hid (R.append head ps.flatten D = ({ R with tail := R.tail + L, rest := al }, D1, 0)) := hid (by
                have h1 := HInv.out.run
                rw [hal, run_nil] at h1
                rw [append_eq HNe.out HFit.out Hlkeq.out Hat0.out h1, if_pos rfl, ← HLL.out]
                have h2 : lk.drop (lk.length / 128 * 128) = [] := by
                  have h3 : al.length = 0 := by rw [hal]; rfl
                  rw [List.drop_eq_nil_iff]; omega
                rw [h2, hal])
              have hlen9 : al.length = (R.tail + L) % 128 := by
                have h3 : al.length = 0 := by rw [hal]; rfl
                have h4 := HRL.out; have h5 := Hlkl.out
                omega
              have Hal := hid hal
              have hal0 : (al.length : Int) ≤ 0 := by rw [hal]; decide
              have Hlen9 := hid hlen9
              obtain ⟨rv9, hR9⟩ := HH.out.only Hof.out HDis.out
              have HBlk := hid hR9.blk
              have hrcell : wr.cell? ⟨r, 3, none⟩ = some (.int .u64 R.tail) := cell_blk HBlk.out 3
              have hrfr : wr.frozen? ⟨r, 3, none⟩ = false := frozen_blk HBlk.out 3
              have HRow0 : Hid (Row ((wr.setCell ⟨r, 3, none⟩ (.int .u64 (R.tail + L))).alloc (.cells #[] 5)) wr.heap.size 5 0 (bytesV [])) := hid (by have := Row.new' (wr.setCell ⟨r, 3, none⟩ (.int .u64 (R.tail + L))) [] 5 0 rfl; rw [World.size_setCell] at this; exact this)
              have HSf : Hid (Src ((wr.setCell ⟨r, 3, none⟩ (.int .u64 (R.tail + L))).alloc (.cells #[] 5)) (.slice (some ⟨g, o, none⟩) al.length c1) al) := hid ⟨_, _, rfl, fun e => absurd Hal.out e⟩
              clear halen hjle ha1 hlen9 hal hR9
              go_wp2_with (first | (refine wpList_addb rfl (.tmp 103) (.tmp 104) rfl wr.heap.size 0 [] rfl HRow0.out (some ⟨g, o, none⟩) al c1 rfl HSf.out (by simp; omega) ?_; intro g6 cap6 w6 hcap6 hrow6 hg6 ho6; have Hrow6 := hid hrow6; have Hg6 := hid hg6; have Ho6 := hid (((Only.refl (fun _ => False) (wr.setCell ⟨r, 3, none⟩ (.int .u64 (R.tail + L)))).alloc _).trans ho6 (fun k hk e => by rw [World.size_setCell] at hk; omega)); have hblk6 := blk_only (blk_set HBlk.out 3 (.int .u64 (R.tail + L))) Ho6.out (fun e => e); have hf4 := frozen_blk hblk6 4; have hf5 : w6.cell? ⟨r, 4, none⟩ = some rv9 := cell_blk hblk6 4; clear hrow6 hg6 ho6 hcap6 hblk6))
              go_ret
              exact appFin HH.out HDis.out Hof.out HDf.out HFf.out Hfin.out Hlen9.out (by omega) Ho6.out Hrow6.out (by rcases Hg6.out with h | h <;> (first | omega | (simp at h; omega)))
            · have halp : 0 < al.length := List.length_pos_iff.2 hal
              have Hal := hid hal; have Halen := hid halen; have Hjle := hid hjle; have Ha1 := hid ha1
              have ha1b : a1 ≤ 18446744073709551615 := by omega
              have hall : al.length ≤ 524416 := by omega
              clear hal halen hjle ha1
              have hmk := make128
              obtain ⟨m, hm⟩ : ∃ m, m = min al.length 128 := ⟨_, rfl⟩
              have hml : (bytesV (al.take 128)).length = m := by rw [length_bytesV, List.length_take, hm]; omega
              have Hml := hid hml; have Hm := hid hm
              have hm128 : (m : Int) ≤ 128 := by omega
              have hml2 : (m : Int) ≤ (al.length : Int) := by omega
              clear hml hm
              obtain ⟨q, hq⟩ : ∃ q, D1.write (R.sector a1) (sectorL al) = q := ⟨_, rfl⟩
              have Hq := hid hq
              clear hq
              go_wp2_with (first | (refine wpList_cpy rfl (.tmp 69) (.tmp 70) 33 33 rfl 5 Try.underlying33 (by kernel_rfl) wr.heap.size 0 128 128 rfl 128 (bytesV (zeros 128)) (Row.new' _ _ _ _ (by simp)) (some ⟨g, o, none⟩) al.length c1 rfl (bytesV (al.take 128)) (by simp; omega) ?c1 (by simp; omega) (oneCell_bytesV _) ?_; rotate_right 1; intro w3 hrow3 ho3 hs3; rw [Hml.out]; have Hrow3 := hid hrow3; have Ho3 := hid (((Only.refl (fun _ => False) wr).alloc _).trans ho3 (fun k hk e => by omega)); clear hrow3 ho3 hs3))
              · have HD3 := hid (HInv.out.disk.only Ho3.out (fun _ _ e => e))
                have hr3 := HH.out.only (HInv.out.only.trans Ho3.out (fun _ _ e => e.elim)) HDis.out
                have HR3d := hid (hr3.only (Only.refl (fun _ => False) w3).drew (fun _ _ e => e))
                obtain ⟨rv3, ra3, rc3, -, hcc3, -⟩ := hr3.cells
                have hd0 := hcc3 0
                have hrw3 : r < w3.heap.size := hr3.lt
                have hrF : Hid (¬ F1 r) := hid (fun e => by
                  have hF : F r := by obtain ⟨rv, h⟩ := HH.out; exact h.own
                  rcases HInv.out.inF r e with h | h
                  · exact HDis.out r hF h
                  · have := HH.out.lt; omega)
                have HSec : Hid (Src w3.drew (.slice (some ⟨wr.heap.size, 0, none⟩) 128 128) (sectorL al)) := hid (by
                  have hl : lay (bytesV (zeros 128)) 0 (bytesV (al.take 128)) = bytesV (sectorL al) := by
                    rw [lay_zeros]
                    have : 128 - (al.take 128).length = 128 - al.length := by simp; omega
                    rw [this]; rfl
                  have := Hrow3.out.drew.src' (l := sectorL al) hl
                  rw [length_sectorL] at this; exact this)
                have hgn : Hid (¬ F1 wr.heap.size) := hid (fun e => Nat.lt_irrefl _ (HInv.out.disk.lt e))
                have HWw : ∀ w4, Only (fun _ => False) w3.drew w4 → Hid (Calls Try.prog 72 #[.pointer (some ⟨b, 0, none⟩), .int .i64 (R.sector a1), .slice (some ⟨wr.heap.size, 0, none⟩) 128 128] w4 fun e w' => e = .returned (.int .i64 q.2) ∧ DStep w4 w' b q.1 F1) := fun w4 ho4 => by
                  have := write_c ((HD3.out.only (Only.refl (fun _ => False) w3).drew (fun _ _ e => e)).only ho4 (fun _ _ e => e)) (R.sector a1 : Nat) (.slice (some ⟨wr.heap.size, 0, none⟩) 128 128) (sectorL al) (HSec.out.only ho4 (fun _ _ _ _ _ e => e)) (fun g' o' c' e => by simp only [Value.slice.injEq, Option.some.injEq, Addr.mk.injEq] at e; rw [← e.1.1]; exact hgn.out) (by simp)
                  rw [Hq.out] at this; exact this
                clear hcc3 hr3
                by_cases hc : q.2 = 0
                · have hc0 : (q.2 == 0) = true := by simp [hc]
                  go_region_held3 (fun W' => W'.cell? ⟨r, 0, none⟩ = some (.pointer (some ⟨b, 0, none⟩)))
                    (first | exact (World.cell?_of_block (Ho4.out.block r hrw3 (fun e => e))).trans hd0 | exact (World.cell?_of_block (Ho5.out.block r (Nat.lt_of_lt_of_le hrw3 Ho4.out.size) hrF.out)).trans ((World.cell?_of_block (Ho4.out.block r hrw3 (fun e => e))).trans hd0) | go_keep)
                    (first
                      | (go_at_call 52; refine (ringsector_c HR3d.out a1 ha1b).mono ?_; rintro e w4 ⟨rfl, -, ho4⟩; have HWr := HWw w4 ho4; have Ho4 := hid ho4; clear ho4)
                      | (go_at_call 72; refine HWr.out.mono ?_; rintro e w5 ⟨rfl, F5, hD5, ho5, hF5⟩; have HD5 := hid hD5; have Ho5 := hid ho5; have HF5 := hid hF5; clear hD5 ho5 hF5; rw [hc]))
                  all_goals
                    have hstep := appStep HInv.out.only HInv.out.inF (Ho3.out.drew.trans Ho4.out (fun _ _ e => e)) Ho5.out HF5.out
                    have Hof := hid hstep.1
                    have HFf := hid hstep.2
                    have HDf := HD5
                    have HSrc5 : Hid (Src w5 (.slice (some ⟨g, o, none⟩) al.length c1) al) := hid ((HSrc.out.only (Ho3.out.drew.trans Ho4.out (fun _ _ e => e)) (fun _ _ _ _ _ e => e)).only Ho5.out (fun _ g' o' c' e => by simp only [Value.slice.injEq, Option.some.injEq, Addr.mk.injEq] at e; rw [← e.1.1]; exact HgF.out))
                    have hgr9 : Hid (¬ g = r) := hid (fun e => by have := HH.out.lt; omega)
                    have hjlt : Hid (0 < lk.length - j) := hid (by have h1 := Halen.out; omega)
                    have hrlt5 : r < w5.heap.size := Nat.lt_of_lt_of_le hrw3 (Nat.le_trans Ho4.out.size Ho5.out.size)
                    clear hstep
                    by_cases hm1 : al.length < 128
                    · have hmlt : (m : Int) < 128 := by have := Hm.out; omega
                      have Hfin : Hid (R.append head ps.flatten D = ({ R with tail := R.tail + L, rest := al }, q.1, 0)) := hid (by
                        have h1 := HInv.out.run
                        rw [run_last _ _ _ _ _ hjlt.out Hal.out (by rw [Hq.out]; exact hc) hm1, Hq.out] at h1
                        rw [append_eq HNe.out HFit.out Hlkeq.out Hat0.out h1, if_pos rfl, ← HLL.out]
                        have h2 : lk.drop (lk.length / 128 * 128) = al := by
                          rw [HInv.out.eq]
                          have h3 := Halen.out
                          have h4 := Hjle.out
                          congr 1; omega
                        rw [h2])
                      have hlen9 : al.length = (R.tail + L) % 128 := by
                        have h3 := Halen.out; have h4 := HRL.out; have h5 := Hlkl.out; have h6 := Hjle.out
                        omega
                      have Hlen9 := hid hlen9
                      obtain ⟨rv9, hR9⟩ := HH.out.only Hof.out HDis.out
                      have HBlk := hid hR9.blk
                      have hrcell : w5.cell? ⟨r, 3, none⟩ = some (.int .u64 R.tail) := cell_blk HBlk.out 3
                      have hrfr : w5.frozen? ⟨r, 3, none⟩ = false := frozen_blk HBlk.out 3
                      have HRow0 : Hid (Row ((w5.setCell ⟨r, 3, none⟩ (.int .u64 (R.tail + L))).alloc (.cells #[] 5)) w5.heap.size 5 0 (bytesV [])) := hid (by have := Row.new' (w5.setCell ⟨r, 3, none⟩ (.int .u64 (R.tail + L))) [] 5 0 rfl; rw [World.size_setCell] at this; exact this)
                      have HSf : Hid (Src ((w5.setCell ⟨r, 3, none⟩ (.int .u64 (R.tail + L))).alloc (.cells #[] 5)) (.slice (some ⟨g, o, none⟩) al.length c1) al) := hid (HSrc5.out.only (((only_set r 3 _).alloc _).mono (G := fun k => k = r) (fun _ _ e => e)) (fun _ g' o' c' e => by simp only [Value.slice.injEq, Option.some.injEq, Addr.mk.injEq] at e; rw [← e.1.1]; exact hgr9.out))
                      clear hlen9 hR9
                      go_wp2_with (first | (refine wpList_addb rfl (.tmp 103) (.tmp 104) rfl w5.heap.size 0 [] rfl HRow0.out (some ⟨g, o, none⟩) al c1 rfl HSf.out (by simp; omega) ?_; intro g6 cap6 w6 hcap6 hrow6 hg6 ho6; have Hrow6 := hid hrow6; have Hg6 := hid hg6; have Ho6 := hid (((Only.refl (fun _ => False) (w5.setCell ⟨r, 3, none⟩ (.int .u64 (R.tail + L)))).alloc _).trans ho6 (fun k hk e => by rw [World.size_setCell] at hk; omega)); have hblk6 := blk_only (blk_set HBlk.out 3 (.int .u64 (R.tail + L))) Ho6.out (fun e => e); have hf4 := frozen_blk hblk6 4; have hf5 : w6.cell? ⟨r, 4, none⟩ = some rv9 := cell_blk hblk6 4; clear hrow6 hg6 ho6 hcap6 hblk6))
                      go_ret
                      exact appFin HH.out HDis.out Hof.out HDf.out HFf.out Hfin.out Hlen9.out (by omega) Ho6.out Hrow6.out (by rcases Hg6.out with h | h <;> (first | omega | (simp at h; omega)))
                    · have hmeq : m = 128 := by have := Hm.out; omega
                      subst hmeq
                      have hge : (128 : Int) ≤ (al.length : Int) := by omega
                      have hlc' : (al.length : Int) ≤ (c1 : Int) := by omega
                      have hat9 : (a1 : Int) + 128 ≤ 18446744073709551615 := by have h3 := Halen.out; have h6 := Hjle.out; have h7 := Ha1.out; omega
                      go_wp2_with fail
                      go_roundw
                      case rel =>
                        have hg5 : ¬ F5 g := fun e => by
                          rcases HF5.out g e with h | h
                          · exact HgF.out h
                          · have h1 := HSrc.out.lt rfl Hal.out
                            have h2 := Ho3.out.size; have h3 := Ho4.out.size
                            have h4 : w3.drew.heap.size = w3.heap.size := rfl
                            omega
                        refine ⟨j + 1, al.drop 128, a1 + 128, q.1, F5, if c1 = 128 then o else o + 128, c1 - 128, ⟨?_, ?_, ?_, ?_, HD5.out, Hof.out, HFf.out⟩, by go_num, ?_, ?_, ?_, hg5⟩
                        · rw [HInv.out.eq, List.drop_drop]; congr 1; omega
                        · have := Halen.out; omega
                        · have := Ha1.out; omega
                        · rw [HInv.out.run, run_next _ _ _ _ _ hjlt.out Hal.out (by rw [Hq.out]; exact hc) hm1, Hq.out, Nat.sub_sub]
                        · rw [List.length_drop]; split <;> rfl
                        · rw [List.length_drop]; omega
                        · refine ⟨_, _, rfl, fun hne => ?_⟩
                          have hlen : 128 < al.length := by
                            rcases Nat.lt_or_ge 128 al.length with h | h
                            · exact h
                            · exact absurd (List.drop_eq_nil_iff.2 h) hne
                          obtain ⟨ad, e, hcell⟩ := HSrc5.out.adds (by omega)
                          cases e
                          rw [if_neg (by omega)]
                          refine ⟨g, o + 128, rfl, fun i u hu => ?_⟩
                          have h1 := hcell (128 + i) u (by rw [bytesV_get] at hu ⊢; rw [List.getElem?_drop] at hu; exact hu)
                          rw [addr_add] at h1
                          rw [Nat.add_assoc]; exact h1
                      case measure => simp [lenOfV]; omega
                · have hc0 : (q.2 == 0) = false := by simp [hc]
                  go_region_held3 (fun W' => W'.cell? ⟨r, 0, none⟩ = some (.pointer (some ⟨b, 0, none⟩)))
                    (first | exact (World.cell?_of_block (Ho4.out.block r hrw3 (fun e => e))).trans hd0 | exact (World.cell?_of_block (Ho5.out.block r (Nat.lt_of_lt_of_le hrw3 Ho4.out.size) hrF.out)).trans ((World.cell?_of_block (Ho4.out.block r hrw3 (fun e => e))).trans hd0) | go_keep)
                    (first
                      | (go_at_call 52; refine (ringsector_c HR3d.out a1 ha1b).mono ?_; rintro e w4 ⟨rfl, -, ho4⟩; have HWr := HWw w4 ho4; have Ho4 := hid ho4; clear ho4)
                      | (go_at_call 72; refine HWr.out.mono ?_; rintro e w5 ⟨rfl, F5, hD5, ho5, hF5⟩; have HD5 := hid hD5; have Ho5 := hid ho5; have HF5 := hid hF5; clear hD5 ho5 hF5))
                  all_goals
                    have hstep := appStep HInv.out.only HInv.out.inF (Ho3.out.drew.trans Ho4.out (fun _ _ e => e)) Ho5.out HF5.out
                    have Hof := hid hstep.1
                    have HFf := hid hstep.2
                    clear hstep
                    go_wp2_with fail
                    go_ret
                    have h1 := HInv.out.run
                    rw [run_bad _ _ _ _ _ (by have := Halen.out; omega) Hal.out (by rw [Hq.out]; exact hc), Hq.out] at h1
                    have h2 := append_eq HNe.out HFit.out Hlkeq.out Hat0.out h1
                    rw [if_neg hc] at h2
                    rw [h2]
                    refine ⟨rfl, F, F5, HH.out.only Hof.out HDis.out, HD5.out, fun k hk h5 => ?_, Hof.out.mono (fun _ _ e => .inr e), fun _ hk => .inl hk, HFf.out⟩
                    rcases HFf.out k h5 with h | h
                    · exact HDis.out k hk h
                    · obtain ⟨rv', hR⟩ := HH.out
                      have := hR.lt k hk; omega
              · intro hpos
                obtain ⟨ad, e, hcell⟩ := HSrc.out.adds halp
                refine ⟨ad, e, fun j u hj => ?_⟩
                have hj' : (bytesV al)[j]? = some u := by
                  rw [bytesV_get] at hj ⊢
                  by_cases hjm : j < 128
                  · rw [List.getElem?_take_of_lt hjm] at hj; exact hj
                  · rw [List.getElem?_eq_none (by simp; omega)] at hj; cases hj
                have h1 := hcell j u hj'
                rw [World.cell?_alloc_lt]
                · exact h1
                · exact World.block_lt_of_cell? _ _ h1
end
end Go.Proofs.Ythodcbhejjbhaaa
