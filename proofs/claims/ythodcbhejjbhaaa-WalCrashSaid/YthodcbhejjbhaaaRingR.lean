/- The ring: Read. -/
import Derived.Test.YthodcbhejjbhaaaRingP
namespace Go.Proofs.Ythodcbhejjbhaaa
open Go.RowKit

section
variable {w : World} {r b : Nat} {D : DiskM} {R : RingM} {F FD : Nat → Prop} {text : List UInt8}

theorem rread_range (h : RingAt w r b R F) (at' : Nat) (n : Int) (hat : at' ≤ R.tail) (hbad : n < 0 ∨ (R.tail : Int) - at' < n) (hn : n ≤ 9223372036854775807) :
    Calls Try.prog 54 #[.pointer (some ⟨r, 0, none⟩), .int .u64 at', .int .i64 n] w fun e w' => e = .returned (.tuple #[.slice none 0 0, .int .i64 1]) ∧ w = w' := by
  obtain ⟨rv, a, c, -, hc, hz⟩ := h.cells
  have hc3 := hc 3
  have htb : (R.tail : Int) ≤ 18446744073709551615 := by obtain ⟨rv', hR⟩ := h; have := hR.t0; omega
  have hat' : ¬ (R.tail : Int) < (at' : Int) := by omega
  clear h hc hz hat
  by_cases h1 : n < 0
  · clear hbad
    go_enter Try.func54, Try.ntmps54
    go_wp2_with fail
    go_ret2
    exact ⟨rfl, rfl⟩
  · have h2 : (R.tail : Int) - at' < n := by omega
    have h3 : 0 ≤ n := by omega
    clear hbad
    go_enter Try.func54, Try.ntmps54
    go_wp2_with fail
    go_ret2
    exact ⟨rfl, rfl⟩

set_option maxRecDepth 100000 in
theorem rread_missing (h : RingAt w r b R F) (at' n : Nat) (hat : at' + n ≤ R.tail) (htl : R.tail ≤ 4611686018427387904) (hbad : R.size < ups R.tail * 128 - at') :
    Calls Try.prog 54 #[.pointer (some ⟨r, 0, none⟩), .int .u64 at', .int .i64 n] w fun e w' => e = .returned (.tuple #[.slice none 0 0, .int .i64 4]) ∧ w = w' := by
  obtain ⟨rv, a, c, -, hc, hz⟩ := h.cells
  have hc3 := hc 3
  have HS := hid (size_c h)
  have hsz : (R.size : Int) ≤ 524288 := by obtain ⟨rv', hR⟩ := h; have := hR.c0; unfold RingM.size; omega
  clear h hc hz
  have h1 : ¬ (n : Int) < 0 := by omega
  have h2 : ¬ (R.tail : Int) < (at' : Int) := by omega
  have h3 : ¬ (R.tail : Int) - (at' : Int) < (n : Int) := by omega
  have htl' : (R.tail : Int) ≤ 4611686018427387904 := by omega
  have h4 : (R.size : Int) < ((R.tail : Int) + 128 - 1) / 128 * 128 - (at' : Int) := by unfold ups at hbad; omega
  have h5 : ((R.tail : Int) + 128 - 1) / 128 * 128 ≤ 4611686018427388031 := by omega
  have h6 : (at' : Int) ≤ ((R.tail : Int) + 128 - 1) / 128 * 128 := by omega
  clear hbad
  go_enter Try.func54, Try.ntmps54
  go_wp2_with (go_at_call 57; refine HS.out.mono ?_; rintro e w' ⟨rfl, rfl⟩)
  go_ret2
  exact ⟨rfl, rfl⟩

set_option maxRecDepth 100000 in
set_option maxHeartbeats 1600000 in
theorem rread_ok (h : RingAt w r b R F) (hD : DiskAt w b D FD) (hS : RS D R text) (at0 n0 : Nat) (hat : at0 + n0 ≤ text.length) (htl : R.tail ≤ 4611686018427387904) (hok : ups text.length * 128 - at0 ≤ R.size) :
    Calls Try.prog 54 #[.pointer (some ⟨r, 0, none⟩), .int .u64 at0, .int .i64 n0] w fun e w' => ∃ bo cap, e = .returned (.tuple #[.slice bo n0 cap, .int .i64 0]) ∧ BOut w' bo cap ((text.drop at0).take n0) w.heap.size ∧ Only (fun _ => False) w w' := by
  obtain ⟨rv, a, c, -, hc, hz⟩ := h.cells
  have hc0 := hc 0
  have hc3 := hc 3
  have HS := hid (size_c h)
  have htail := hS.tail
  have hsz : (R.size : Int) ≤ 524288 := by obtain ⟨rv', hR⟩ := h; have := hR.c0; unfold RingM.size; omega
  have hrlt : r < w.heap.size := h.lt
  have HH := hid h; have HD := hid hD; have HRS := hid hS; have HAt := hid hat; have HOk := hid hok
  clear h hc hz hD hS
  have h1 : ¬ (n0 : Int) < 0 := by omega
  have h2 : ¬ (R.tail : Int) < (at0 : Int) := by omega
  have h3 : ¬ (R.tail : Int) - (at0 : Int) < (n0 : Int) := by omega
  have htl' : (R.tail : Int) ≤ 4611686018427387904 := by omega
  have h4 : ¬ (R.size : Int) < ((R.tail : Int) + 128 - 1) / 128 * 128 - (at0 : Int) := by unfold ups at hok; omega
  have h5 : ((R.tail : Int) + 128 - 1) / 128 * 128 ≤ 4611686018427388031 := by omega
  have h6 : (at0 : Int) ≤ ((R.tail : Int) + 128 - 1) / 128 * 128 := by omega
  have hn0 : n0 ≤ 524288 := by unfold ups at hok; omega
  have hatb : (at0 : Int) + (n0 : Int) ≤ 4611686018427387904 := by omega
  clear hok hat htail
  go_enter Try.func54, Try.ntmps54
  go_wp2_with (go_at_call 57; refine HS.out.mono ?_; rintro e w' ⟨rfl, rfl⟩)
  try go_frame
  go_loopw [1, 2, 9, 10, 11] (fun at' n v _ _ wr => ∃ (a1 k rem : Nat) (l : List UInt8) (bo : Option Addr) (cap : Nat), at' = .int .u64 a1 ∧ n = .int .i64 rem ∧ a1 = at0 + k ∧ k + rem = n0 ∧ l = (text.drop at0).take k ∧ v = .slice bo l.length cap ∧ BOut wr bo cap l w.heap.size ∧ Only (fun _ => False) w wr) (fun _ n _ _ _ _ => (intOf n).toNat)
  case atStart => exact ⟨at0, 0, n0, [], none, 0, rfl, rfl, rfl, by omega, rfl, rfl, .inl ⟨rfl, rfl, rfl⟩, Only.refl _ _⟩
  case round =>
    obtain ⟨a1, k, rem, l, bo, cap, rfl, rfl, ha1, hkr, hl, rfl, hout, ho⟩ := hrel
    have HOut := hid hout; have Ho := hid ho; have Hl := hid hl
    have hll : l.length = k := by rw [hl, List.length_take, List.length_drop]; have := HAt.out; omega
    have Hll := hid hll
    have Ha1 := hid ha1; have Hkr := hid hkr
    have ha1b : a1 ≤ 4611686018427387904 := by omega
    have ha1r : (a1 : Int) + (rem : Int) ≤ 4611686018427387904 := by omega
    have hremb : rem ≤ 524288 := by omega
    clear hout ho hl hll ha1 hkr
    by_cases hr0 : rem = 0
    · have hr0' : (rem : Int) ≤ 0 := by omega
      go_wp2_with fail
      go_ret2
      have hk : k = n0 := by have := Hkr.out; omega
      have hll := Hll.out
      have hl := Hl.out
      rw [hk] at hll hl
      refine ⟨bo, cap, by rw [hll]; rfl, ?_, Ho.out⟩
      rw [← hl]; exact HOut.out
    · have hrp : (0 : Int) < (rem : Int) := by omega
      have hrw : r < wr.heap.size := Nat.lt_of_lt_of_le hrlt Ho.out.size
      have hd0 : wr.cell? ⟨r, 0, none⟩ = some (.pointer (some ⟨b, 0, none⟩)) := (World.cell?_of_block (Ho.out.block r hrlt (fun e => e))).trans hc0
      have HRd := hid (HH.out.only Ho.out.drew (fun _ _ e => e))
      have HDd := hid (HD.out.only Ho.out.drew (fun _ _ e => e))
      have hsec : R.sector a1 < D.n := by
        have h1 := HRS.out.fits; have h2 := HRS.out.c0
        have := Nat.mod_lt (a1 / 128) h2
        unfold RingM.sector; omega
      have HSec := hid hsec
      clear hsec
      go_wp2_with fail
      go_region_held3 (fun W' => W'.cell? ⟨r, 0, none⟩ = some (.pointer (some ⟨b, 0, none⟩)))
        (first | exact (World.cell?_of_block (Ho4.out.block r hrw (fun e => e))).trans hd0 | exact (World.cell?_of_block (Ho5.out.block r (Nat.lt_of_lt_of_le hrw Ho4.out.size) (fun e => e))).trans ((World.cell?_of_block (Ho4.out.block r hrw (fun e => e))).trans hd0) | go_keep)
        (first
          | (go_at_call 52; refine (ringsector_c HRd.out a1 (by omega)).mono ?_; rintro e w4 ⟨rfl, -, ho4⟩; have HRe := hid (read_ok (HDd.out.only ho4 (fun _ _ e => e)) HRS.out.up (R.sector a1 : Nat) (by omega) (by have := HSec.out; omega)); have Ho4 := hid ho4; clear ho4)
          | (go_at_call 51; refine HRe.out.mono ?_; rintro e w5 ⟨g, c5, rfl, hm, ho5⟩; unfold secV; have Hm := hid hm; have Ho5 := hid ho5; clear hm ho5))
      all_goals
        have hcl : (D.cur (R.sector a1)).length = 128 := HD.out.cur_len HSec.out
        have hrow := Hm.out.row
        rw [Int.toNat_natCast] at hrow
        have hc5 : 128 ≤ c5 := by have := hrow.le; rw [length_bytesV, hcl] at this; exact this
        have hc5' : (128 : Int) ≤ (c5 : Int) := by omega
        have hp1 : (a1 : Int) % 128 ≤ 128 := by omega
        have hp2 : 0 ≤ (a1 : Int) % 128 := by omega
        have HRow := hid hrow; have Hcl := hid hcl
        have HoAll := hid ((Ho.out.drew.trans Ho4.out (fun _ _ e => e)).trans Ho5.out (fun _ _ e => e))
        have HOut5 : Hid (BOut w5 bo cap l w.heap.size) := hid ((((HOut.out.only (Only.refl (fun _ => False) wr).drew (fun _ _ _ e => e))).only Ho4.out (fun _ _ _ e => e)).only Ho5.out (fun _ _ _ e => e))
        have hlo5 : w.heap.size ≤ w5.heap.size := HoAll.out.size
        clear hrow hcl hc5
        by_cases hmin : rem ≤ 128 - a1 % 128
        · have hmin1 : (rem : Int) ≤ 128 - (a1 : Int) % 128 := by omega
          have hxm : ((D.cur (R.sector a1)).drop (a1 % 128)).take (rem) = (text.drop a1).take (rem) := by
            have hpc := HRS.out.piece a1 (rem) (by have h1 := HAt.out; have h2 := Ha1.out; have h3 := Hkr.out; omega) (by have h1 := HOk.out; have h2 := Ha1.out; unfold RingM.size at h1; omega) Hcl.out
            rw [hpc]; congr 1; omega
          have hxl : ((text.drop a1).take (rem)).length = rem := by rw [List.length_take, List.length_drop]; have h1 := HAt.out; have h2 := Ha1.out; have h3 := Hkr.out; omega
          have HSrc : ∀ c', Src w5 (.slice (some ⟨g, a1 % 128, none⟩) (rem) c') ((text.drop a1).take (rem)) := fun c' => HRow.out.piece _ _ _ _ hxl hxm.symm
          have HSr := hid HSrc; have Hxl := hid hxl
          clear HSrc hxl hxm
          go_wp2_with (refine wpList_addon rfl (.tmp 74) (.tmp 75) rfl bo cap w.heap.size l rfl HOut5.out hlo5 _ ((text.drop a1).take (rem)) (rem) _ Hxl.out rfl (HSr.out _) (by have := Hll.out; have := Hkr.out; omega) ?_; intro bo6 cap6 w6 hout6 ho6; have HOut6 := hid hout6; have Ho6 := hid (HoAll.out.trans ho6 (fun k hk e => by have : w.heap.size ≤ k := e; omega)); clear hout6 ho6)
          go_roundw
          case rel =>
            refine ⟨a1 + (rem), k + (rem), rem - (rem), l ++ (text.drop a1).take (rem), bo6, cap6, by go_num, by go_num, by have := Ha1.out; omega, by have := Hkr.out; omega, ?_, by rw [List.length_append, Hxl.out], HOut6.out, Ho6.out⟩
            rw [Hl.out, Ha1.out, ← List.drop_drop, List.take_add]
          case measure => simp [intOf]; omega
        · have hmin1 : 128 - (a1 : Int) % 128 < (rem : Int) := by omega
          have hxm : ((D.cur (R.sector a1)).drop (a1 % 128)).take (128 - a1 % 128) = (text.drop a1).take (128 - a1 % 128) := by
            have hpc := HRS.out.piece a1 (128 - a1 % 128) (by have h1 := HAt.out; have h2 := Ha1.out; have h3 := Hkr.out; omega) (by have h1 := HOk.out; have h2 := Ha1.out; unfold RingM.size at h1; omega) Hcl.out
            rw [hpc]; congr 1; omega
          have hxl : ((text.drop a1).take (128 - a1 % 128)).length = 128 - a1 % 128 := by rw [List.length_take, List.length_drop]; have h1 := HAt.out; have h2 := Ha1.out; have h3 := Hkr.out; omega
          have HSrc : ∀ c', Src w5 (.slice (some ⟨g, a1 % 128, none⟩) (128 - a1 % 128) c') ((text.drop a1).take (128 - a1 % 128)) := fun c' => HRow.out.piece _ _ _ _ hxl hxm.symm
          have HSr := hid HSrc; have Hxl := hid hxl
          clear HSrc hxl hxm
          go_wp2_with (refine wpList_addon rfl (.tmp 74) (.tmp 75) rfl bo cap w.heap.size l rfl HOut5.out hlo5 _ ((text.drop a1).take (128 - a1 % 128)) (128 - a1 % 128) _ Hxl.out rfl (HSr.out _) (by have := Hll.out; have := Hkr.out; omega) ?_; intro bo6 cap6 w6 hout6 ho6; have HOut6 := hid hout6; have Ho6 := hid (HoAll.out.trans ho6 (fun k hk e => by have : w.heap.size ≤ k := e; omega)); clear hout6 ho6)
          go_roundw
          case rel =>
            refine ⟨a1 + (128 - a1 % 128), k + (128 - a1 % 128), rem - (128 - a1 % 128), l ++ (text.drop a1).take (128 - a1 % 128), bo6, cap6, by go_num, by go_num, by have := Ha1.out; omega, by have := Hkr.out; omega, ?_, by rw [List.length_append, Hxl.out], HOut6.out, Ho6.out⟩
            rw [Hl.out, Ha1.out, ← List.drop_drop, List.take_add]
          case measure => simp [intOf]; omega
end
end Go.Proofs.Ythodcbhejjbhaaa
