/- The ring: Open. -/
import Derived.Test.YthodcbhejjbhaaaRing
namespace Go.Proofs.Ythodcbhejjbhaaa
open Go.RowKit

def RingM.opened (D : DiskM) (first count tail : Nat) : RingM := { first := first, count := count, tail := tail, rest := (D.cur (first + tail / 128 % count)).take (tail % 128) }

theorem addr0 (g i : Nat) : ((⟨g, 0, none⟩ : Addr).add i) = ⟨g, i, none⟩ := by rw [addr_add, Nat.zero_add]

section
variable {w : World} {r b : Nat} {D : DiskM} {R : RingM} {F : Nat → Prop}

theorem open_no (h : DiskAt w b D F) (first count : Int) (tail : Nat) (hbad : first < 0 ∨ count < 1 ∨ (D.n : Int) < count ∨ (D.n : Int) - count < first) :
    Calls Try.prog 32 #[.pointer (some ⟨b, 0, none⟩), .int .i64 first, .int .i64 count, .int .u64 tail] w fun e w' => e = .returned (.tuple #[.pointer none, .int .i64 1]) ∧ w = w' := by
  have HS := hid (sectors_c h)
  have hn : (D.n : Int) ≤ 4096 := by have := h.n0; omega
  clear h
  by_cases h1 : first < 0
  · clear hbad
    go_enter Try.func32, Try.ntmps32
    go_wp2_with fail
    go_ret2
    exact ⟨rfl, rfl⟩
  by_cases h2 : count < 1
  · clear hbad
    go_enter Try.func32, Try.ntmps32
    go_wp2_with fail
    go_ret2
    exact ⟨rfl, rfl⟩
  by_cases h3 : (D.n : Int) < count
  · clear hbad
    go_enter Try.func32, Try.ntmps32
    go_wp2_with (go_at_call 49; refine HS.out.mono ?_; rintro e w' ⟨rfl, rfl⟩)
    go_ret2
    exact ⟨rfl, rfl⟩
  have h4 : (D.n : Int) - count < first := by omega
  clear hbad
  go_enter Try.func32, Try.ntmps32
  go_wp2_with (go_at_call 49; refine HS.out.mono ?_; rintro e w' ⟨rfl, rfl⟩)
  go_ret2
  exact ⟨rfl, rfl⟩

set_option maxRecDepth 100000 in
set_option maxHeartbeats 800000 in
theorem open_ok (h : DiskAt w b D F) (first count tail : Nat) (hc : 0 < count) (hf : first + count ≤ D.n) (ht : tail ≤ 18446744073709551615) (hd : D.down = false) :
    Calls Try.prog 32 #[.pointer (some ⟨b, 0, none⟩), .int .i64 first, .int .i64 count, .int .u64 tail] w fun e w' => ∃ r F', e = .returned (.tuple #[.pointer (some ⟨r, 0, none⟩), .int .i64 0]) ∧ RingAt w' r b (RingM.opened D first count tail) F' ∧ Only (fun _ => False) w w' ∧ (∀ k, F' k → w.heap.size ≤ k) := by
  have HS := hid (sectors_c h)
  have HD := hid h
  have hn := h.n0.2
  have hi1 : ¬ (first : Int) < 0 := by omega
  have hi2 : ¬ (count : Int) < 1 := by omega
  have hi3 : ¬ (D.n : Int) < (count : Int) := by omega
  have hi4 : ¬ (D.n : Int) - (count : Int) < (first : Int) := by omega
  have hHd := hid hd
  clear h hd
  by_cases hp : tail % 128 = 0
  · have hp' : (tail : Int) % 128 = 0 := by omega
    have hpg : decide ((0 : Int) < (tail : Int) % 128) = false := by simp; omega
    have Hp := hid hp
    clear hp
    go_enter Try.func32, Try.ntmps32
    go_wp2_with (go_at_call 49; refine HS.out.mono ?_; rintro e w' ⟨rfl, rfl⟩)
    go_ret2
    refine ⟨w.heap.size, fun k => k = w.heap.size, rfl, ⟨.slice none 0 0, ⟨blk_new w _, ⟨none, 0, ?_, ?_⟩, ?_, rfl, fun k hk => by simp [hk], ⟨hc, (by show first + count ≤ 4096; omega)⟩, ht, ?_⟩⟩, (Only.refl _ _).alloc _, fun k hk => by omega⟩
    · simp [RingM.opened, Hp.out]
    · intro hne; exact absurd (by simp [RingM.opened, Hp.out]) hne
    · intro g o c e; cases e
    · simp [RingM.opened, Hp.out]
  · have hlt : first + tail / 128 % count < D.n := by have := Nat.mod_lt (tail / 128) hc; omega
    have hpg : decide ((0 : Int) < (tail : Int) % 128) = true := by simp; omega
    have hle : (tail : Int) % 128 ≤ 128 := by omega
    have hge : 0 ≤ (tail : Int) % 128 := by omega
    have Hp := hid hp
    clear hp
    go_enter Try.func32, Try.ntmps32
    go_wp2_with (go_at_call 49; refine HS.out.mono ?_; rintro e w' ⟨rfl, rfl⟩)
    refine (ringsector_raw (blk_new w _) ⟨hc, by omega⟩ tail ht).mono ?_
    rintro e w2 ⟨rfl, hh, ho2⟩
    have Hh := hid hh; have Ho2 := hid (((Only.refl (fun _ => False) w).alloc _).trans ho2 (fun _ _ e => e))
    have hb2 := blk_only (blk_new w _) ho2 (fun e => e)
    have Hb2 := hid hb2
    clear hh ho2 hb2
    go_wp2_with fail
    refine (read_ok (HD.out.only Ho2.out (fun _ _ e => e)) hHd.out ((first + tail / 128 % count : Nat) : Int) (by omega) (by omega)).mono ?_
    rintro e w3 ⟨g, c, rfl, hm, ho3⟩
    have Hb3 := hid (blk_only Hb2.out ho3 (fun e => e))
    have hc3 := cell_blk Hb3.out
    have hz3 := frozen_blk Hb3.out
    have Hm := hid hm; have Ho3 := hid ho3
    have hcc : (128 : Int) ≤ (c : Int) := by
      have h1 := hm.row.le
      rw [length_bytesV, HD.out.cur_len (by omega)] at h1; omega
    clear hm ho3
    unfold secV
    go_wp2_with fail
    go_ret2
    have hlo := Hm.out.lo
    have hsz2 : w.heap.size < w2.heap.size := by rw [Hh.out]; simp
    have hg : g ≠ w.heap.size := by omega
    have hlen : (RingM.opened D first count tail).rest.length = tail % 128 := by
      show ((D.cur (first + tail / 128 % count)).take (tail % 128)).length = _
      rw [List.length_take, HD.out.cur_len hlt]; omega
    have hrow : Row (w3.setCell ⟨w.heap.size, 4, none⟩ (.slice (some ⟨g, 0, none⟩) (tail % 128) (tail % 128))) g 5 c (bytesV (D.cur (first + tail / 128 % count))) := by
      have := Hm.out.row
      rw [Int.toNat_natCast] at this
      exact this.setCell_other _ _ hg
    refine ⟨w.heap.size, fun k => k = w.heap.size ∨ k = g, rfl, ⟨.slice (some ⟨g, 0, none⟩) (tail % 128) (tail % 128), ⟨blk_set Hb3.out 4 _, ⟨some ⟨g, 0, none⟩, tail % 128, by rw [hlen], fun _ => ⟨g, 0, rfl, ?_⟩⟩, ?_, .inl rfl, ?_, ⟨hc, (by show first + count ≤ 4096; omega)⟩, ht, hlen⟩⟩, ?_, ?_⟩
    · intro i u hu
      have hu' : (bytesV (D.cur (first + tail / 128 % count)))[i]? = some u := by
        simp only [RingM.opened] at hu
        rw [bytesV_get] at hu ⊢
        by_cases hi : i < tail % 128
        · rw [List.getElem?_take_of_lt hi] at hu; exact hu
        · rw [List.getElem?_eq_none (by simp; omega)] at hu; cases hu
      rw [Nat.zero_add, ← addr0 g i]
      exact hrow.news i u hu'
    · intro g' o c' e
      simp only [Value.slice.injEq, Option.some.injEq, Addr.mk.injEq] at e
      exact .inr e.1.1.symm
    · have h1 := Ho3.out.size
      have h2 := Hm.out.hi
      rintro k (hk | hk)
      · simp only [World.size_setCell]; omega
      · simp only [World.size_setCell]; omega
    · exact (Ho2.out.trans Ho3.out (fun _ _ e => e)).setCell _ _ (fun h => absurd h (Nat.lt_irrefl _))
    · rintro k (hk | hk)
      · omega
      · omega

theorem open_down (h : DiskAt w b D F) (first count tail : Nat) (hc : 0 < count) (hf : first + count ≤ D.n) (ht : tail ≤ 18446744073709551615) (hd : D.down = true) (hp : tail % 128 ≠ 0) :
    Calls Try.prog 32 #[.pointer (some ⟨b, 0, none⟩), .int .i64 first, .int .i64 count, .int .u64 tail] w fun e w' => e = .returned (.tuple #[.pointer none, .int .i64 50]) ∧ Only (fun _ => False) w w' := by
  have HS := hid (sectors_c h)
  have HD := hid h
  have hn := h.n0.2
  have hi1 : ¬ (first : Int) < 0 := by omega
  have hi2 : ¬ (count : Int) < 1 := by omega
  have hi3 : ¬ (D.n : Int) < (count : Int) := by omega
  have hi4 : ¬ (D.n : Int) - (count : Int) < (first : Int) := by omega
  have hHd := hid hd
  clear h hd
  have hpg : decide ((0 : Int) < (tail : Int) % 128) = true := by simp; omega
  have hge : 0 ≤ (tail : Int) % 128 := by omega
  clear hp
  go_enter Try.func32, Try.ntmps32
  go_wp2_with (go_at_call 49; refine HS.out.mono ?_; rintro e w' ⟨rfl, rfl⟩)
  refine (ringsector_raw (blk_new w _) ⟨hc, by omega⟩ tail ht).mono ?_
  rintro e w2 ⟨rfl, hh, ho2⟩
  have Ho2 := hid (((Only.refl (fun _ => False) w).alloc _).trans ho2 (fun _ _ e => e))
  clear hh ho2
  go_wp2_with fail
  refine (read_down (HD.out.only Ho2.out (fun _ _ e => e)) hHd.out _).mono ?_
  rintro e w3 ⟨rfl, rfl⟩
  go_wp2_with fail
  go_ret2
  exact ⟨rfl, Ho2.out⟩
end
end Go.Proofs.Ythodcbhejjbhaaa
