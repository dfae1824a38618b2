/- The law's own helpers on bytes: full, sector. -/
import Derived.Test.YtepndjojodbhdaaDiskX
namespace Go.Proofs.Ytepndjojodbhdaa
open Go.RowKit

theorem make128 : ∀ w, (Instr.makeSlice 30 (.int .i64 128) (.int .i64 128)).run Try.prog w = .ok (.slice (some ⟨w.heap.size, 0, none⟩) 128 128) (w.alloc (.cells (bytesV (zeros 128)).toArray 5)) := fun w => make_bytes w 128 (by decide)

def fill (x : UInt8) (k : Nat) : List UInt8 := List.replicate k x ++ List.replicate (128 - k) 0
@[simp] theorem length_fill (x : UInt8) (k : Nat) (h : k ≤ 128) : (fill x k).length = 128 := by simp [fill]; omega
theorem fill_set (x : UInt8) (k : Nat) (h : k < 128) : (fill x k).set k x = fill x (k + 1) := by
  unfold fill
  rw [List.set_append_right _ _ (by simp)]
  simp only [List.length_replicate, Nat.sub_self]
  have : 128 - k = (128 - (k + 1)) + 1 := by omega
  rw [this, List.replicate_succ, List.set_cons_zero, List.replicate_succ']
  simp
theorem bytesV_set (l : List UInt8) (i : Nat) (x : UInt8) : (bytesV l).set i (.int .u8 x.toNat) = bytesV (l.set i x) := by simp [bytesV, List.map_set]

set_option maxRecDepth 100000 in
set_option maxHeartbeats 400000 in
theorem full_c (w : World) (n : Int) (x : UInt8) (hn : n = x.toNat) :
    Calls Try.prog 33 #[.int .u8 n] w fun e w' => ∃ g, e = .returned (.slice (some ⟨g, 0, none⟩) 128 128) ∧ Made w w' (.slice (some ⟨g, 0, none⟩) 128 128) (List.replicate 128 x) g 128 ∧ Only (fun _ => False) w w' := by
  have hmk := make128
  have HN := hid hn
  clear hn
  go_enter Try.func33, Try.ntmps33
  go_wp2
  try go_frame
  go_loopw [8, 4] (fun i _ wr => ∃ k : Nat, i = .int .i64 k ∧ k ≤ 128 ∧ Row wr w.heap.size 5 128 (bytesV (fill x k)) ∧ Only (fun _ => False) w wr) (fun i _ _ => 128 - (intOf i).toNat)
  case atStart => exact ⟨0, rfl, by omega, Row.new' _ _ _ _ (by simp), (Only.refl _ _).alloc _⟩
  case round =>
    obtain ⟨k, rfl, hk, hrow, ho⟩ := hrel
    by_cases hkl : k < 128
    · have hc : wr.cell? ⟨w.heap.size, k, none⟩ = some (.int .u8 ((fill x k)[k]'(by rw [length_fill _ _ (by omega)]; exact hkl)).toNat) := by
        rw [hrow.cell k (by rw [length_bytesV, length_fill _ _ (by omega)]; exact hkl), bytesV_get, List.getElem?_eq_getElem (by rw [length_fill _ _ (by omega)]; exact hkl)]
        rfl
      have hz := hrow.frozen k
      have Hrow := hid hrow; have Ho := hid ho
      clear hrow ho
      go_wp2
      go_roundw
      case rel =>
        refine ⟨k + 1, by go_num, by omega, ?_, Ho.out.setCell _ _ (fun h => absurd h (Nat.lt_irrefl _))⟩
        have := Hrow.out.set k (.int .u8 x.toNat) (by rw [length_bytesV, length_fill _ _ (by omega)]; exact hkl)
        rw [bytesV_set, fill_set _ _ hkl, ← HN.out] at this
        exact this
      case measure => simp [intOf]; omega
    · have : k = 128 := by omega
      subst this
      have Hrow := hid hrow; have Ho := hid ho
      clear hrow ho
      go_wp2
      go_ret
      have hf : fill x 128 = List.replicate 128 x := by simp [fill]
      refine ⟨_, rfl, ⟨by simp, Nat.le_refl _, Hrow.out.lt, by have := Hrow.out; rw [hf] at this; exact this⟩, Ho.out⟩

/-- Bytes, noughts behind them, of a sector's length. -/
def sectorL (l : List UInt8) : List UInt8 := l.take 128 ++ zeros (128 - l.length)
@[simp] theorem length_sectorL (l : List UInt8) : (sectorL l).length = 128 := by simp [sectorL]; omega

theorem lay_zeros (n : Nat) (l : List UInt8) : lay (bytesV (zeros n)) 0 (bytesV l) = bytesV (l ++ zeros (n - l.length)) := by
  simp [lay, bytesV, zeros]

theorem Made.apart {w w' : World} {v : Value} {l : List UInt8} {g c b : Nat} {D : DiskM} {F : Nat → Prop} (hm : Made w w' v l g c) (h : DiskAt w b D F) : ∀ g' o c', v = .slice (some ⟨g', o, none⟩) l.length c' → ¬ F g' := by
  intro g' o c' e hf
  have := hm.val.symm.trans e
  cases this
  have := h.lt hf
  have := hm.lo
  omega

set_option maxRecDepth 100000 in
set_option maxHeartbeats 400000 in
theorem sector_c (w : World) (v : Value) (l : List UInt8) (hs : Src w v l) :
    Calls Try.prog 29 #[v] w fun e w' => ∃ g, e = .returned (.slice (some ⟨g, 0, none⟩) 128 128) ∧ Made w w' (.slice (some ⟨g, 0, none⟩) 128 128) (sectorL l) g 128 ∧ Only (fun _ => False) w w' := by
  have hmk := make128
  obtain ⟨a, c, rfl, hsrc⟩ := hs
  have HS := hid hsrc
  clear hsrc
  go_enter Try.func29, Try.ntmps29
  go_wp2_with (refine wpList_cpy rfl (.tmp 5) (.tmp 6) 30 30 rfl 5 Try.underlying30 (by kernel_rfl) w.heap.size 0 128 128 rfl 128 (bytesV (zeros 128)) (Row.new' _ _ _ _ (by simp)) a l.length c rfl (bytesV (l.take 128)) (by simp; omega) ?c1 (by simp; omega) (oneCell_bytesV _) ?_; rotate_right 1; intro w1 hrow1 ho1 hs1)
  · go_ret
    refine ⟨_, rfl, ⟨by simp, Nat.le_refl _, hrow1.lt, ?_⟩, ((Only.refl _ w).alloc _).trans ho1 (fun k hk e => by omega)⟩
    have hl : lay (bytesV (zeros 128)) 0 (bytesV (l.take 128)) = bytesV (sectorL l) := by
      rw [lay_zeros]
      have : 128 - (l.take 128).length = 128 - l.length := by simp; omega
      rw [this]; rfl
    rw [← hl]; exact hrow1
  · intro hpos
    obtain ⟨g, o, rfl, hc⟩ := HS.out (by rintro rfl; simp at hpos)
    refine ⟨_, rfl, fun j u hj => ?_⟩
    have hj' : (bytesV l)[j]? = some u := by
      rw [bytesV_get] at hj ⊢
      by_cases hjm : j < 128
      · rw [List.getElem?_take_of_lt hjm] at hj; exact hj
      · rw [List.getElem?_eq_none (by simp; omega)] at hj; cases hj
    have h1 := hc j u hj'
    rw [addr_add, World.cell?_alloc_lt]
    · exact h1
    · exact World.block_lt_of_cell? _ _ h1

def W1 : DiskM := ((DiskM.new 2).write 1 (List.replicate 128 7)).1
def W2 : DiskM := W1.flush.1
def W3 : DiskM := (W2.write 1 (List.replicate 128 9)).1
def W5 : DiskM := (W3.crash [] 1 3).up
theorem w1_code : ((DiskM.new 2).write 1 (List.replicate 128 7)).2 = 0 := by kernel_rfl
theorem w2_code : W1.flush.2 = 0 := by kernel_rfl
theorem w3_code : (W2.write 1 (List.replicate 128 9)).2 = 0 := by kernel_rfl
theorem w5_down : W5.down = false := by kernel_rfl
theorem w5_n : W5.n = 2 := by kernel_rfl
theorem w5_nw : W5.nw = 2 := by kernel_rfl
theorem w5_nf : W5.nf = 1 := by kernel_rfl
theorem w5_2 : (bytesV (W5.cur 1))[2]? = some (.int .u8 9) := by kernel_rfl
theorem w5_3 : (bytesV (W5.cur 1))[3]? = some (.int .u8 7) := by kernel_rfl

set_option maxRecDepth 100000 in
set_option maxHeartbeats 1600000 in
theorem works_c (w : World) : Calls Try.prog 23 #[] w fun e w' => e = .returned (.bool true) ∧ Only (fun _ => False) w w' := by
  go_enter Try.func23, Try.ntmps23
  go_wp2_with fail
  refine (new_ok w 2 (by decide) (by decide)).mono ?_
  rintro e w1 ⟨b, F0, rfl, h0, ho0, hF0⟩
  have Ho0 := hid ho0; have HF0 := hid hF0; have H0 := hid h0
  clear ho0 hF0 h0
  go_wp2_with fail
  refine (sectors_c H0.out).mono ?_
  rintro e w' ⟨rfl, rfl⟩
  rw [show (((DiskM.new 2).n : Nat) : Int) = 2 from rfl]
  go_wp2_with fail
  refine (full_c w1 7 7 rfl).mono ?_
  rintro e w2 ⟨g7, rfl, hm, ho⟩
  have h1 := H0.out.only ho (fun _ _ e => e)
  have HC := hid (write_c h1 1 _ _ (by have := hm.src; exact this) (hm.apart H0.out) (by simp))
  rw [w1_code] at HC
  have Ho1 := hid (Ho0.out.trans ho (fun _ _ e => e))
  clear h1 hm ho
  go_wp2_with fail
  refine HC.out.mono ?_
  rintro e w3 ⟨rfl, F1, h1, ho, hF1⟩
  have H1 : Hid (DiskAt w3 b W1 F1) := hid h1
  have Ho2 := hid (Ho1.out.trans ho (fun k hk hf => by have := HF0.out k hf; omega))
  have HF1 : Hid (∀ k, F1 k → w.heap.size ≤ k) := hid (fun k hk => by have h5 := Ho1.out.size; rcases hF1 k hk with h | h; exact HF0.out k h; omega)
  clear HC Ho1 Ho0 HF0 h1 ho hF1
  go_wp2_with fail
  have hf := flush_c H1.out
  rw [w2_code] at hf
  refine hf.mono ?_
  rintro e w4 ⟨rfl, h2, ho⟩
  have H2 : Hid (DiskAt w4 b W2 F1) := hid h2
  have Ho3 := hid (Ho2.out.trans ho (fun k hk hf => by have := HF1.out k hf; omega))
  clear hf h2 ho Ho2 H1
  go_wp2_with fail
  refine (full_c w4 9 9 rfl).mono ?_
  rintro e w5 ⟨g9, rfl, hm, ho⟩
  have h3 := H2.out.only ho (fun _ _ e => e)
  have HC := hid (write_c h3 1 _ _ (by have := hm.src; exact this) (hm.apart H2.out) (by simp))
  rw [w3_code] at HC
  have Ho4 := hid (Ho3.out.trans ho (fun _ _ e => e))
  clear h3 hm ho Ho3 H2
  go_wp2_with fail
  refine HC.out.mono ?_
  rintro e w6 ⟨rfl, F2, h1, ho, hF2⟩
  have H3 : Hid (DiskAt w6 b W3 F2) := hid h1
  have Ho5 := hid (Ho4.out.trans ho (fun k hk hf => by have := HF1.out k hf; omega))
  have HF2 : Hid (∀ k, F2 k → w.heap.size ≤ k) := hid (fun k hk => by have h5 := Ho4.out.size; rcases hF2 k hk with h | h; exact HF1.out k h; omega)
  clear HC Ho4 HF1 h1 ho hF2
  go_wp2_with fail
  refine (crash_c H3.out (.slice none 0 0) [] ⟨none, 0, rfl, by simp [intsV]⟩ (by simp) (by simp) 1 3).mono ?_
  rintro e w7 ⟨rfl, h4, ho⟩
  have H4 := hid h4
  have Ho6 := hid (Ho5.out.trans ho (fun k hk hf => by have := HF2.out k hf; omega))
  clear h4 ho Ho5 H3
  go_wp2_with fail
  refine (down_c H4.out).mono ?_
  rintro e w' ⟨rfl, rfl⟩
  rw [show (W3.crash [] 1 3).down = true from rfl]
  go_wp2_with fail
  refine (up_c H4.out).mono ?_
  rintro e w8 ⟨rfl, h5, ho⟩
  have H5 : Hid (DiskAt w8 b W5 F2) := hid h5
  have Ho7 := hid (Ho6.out.trans ho (fun k hk hf => by have := HF2.out k hf; omega))
  clear h5 ho Ho6 H4
  go_wp2_with fail
  refine (read_ok H5.out w5_down 1 (by decide) (by rw [w5_n]; decide)).mono ?_
  rintro e w9 ⟨g, c, rfl, hm, ho⟩
  have h6 := H5.out.only ho (fun _ _ e => e)
  have hc2 : w9.cell? ⟨g, 2, none⟩ = some (.int .u8 9) := by rw [hm.row.cell 2 (by rw [length_bytesV, H5.out.cur_len (by rw [w5_n]; decide)]; decide)]; exact w5_2
  have hc3 : w9.cell? ⟨g, 3, none⟩ = some (.int .u8 7) := by rw [hm.row.cell 3 (by rw [length_bytesV, H5.out.cur_len (by rw [w5_n]; decide)]; decide)]; exact w5_3
  have HW := hid (writes_c h6)
  have HFl := hid (flushes_c h6)
  rw [w5_nw] at HW
  rw [w5_nf] at HFl
  have Ho8 := hid (Ho7.out.trans ho (fun _ _ e => e.elim))
  clear h6 hm ho Ho7 H5
  unfold secV
  go_wp2_with fail
  refine HW.out.mono ?_
  rintro e w' ⟨rfl, rfl⟩
  go_wp2_with fail
  refine HFl.out.mono ?_
  rintro e w' ⟨rfl, rfl⟩
  go_wp2_with fail
  go_ret
  exact ⟨rfl, Ho8.out⟩
end Go.Proofs.Ytepndjojodbhdaa
