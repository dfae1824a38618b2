/- A mark, as a plain thing; its bytes. -/
import Derived.Test.YthodcbhejjbhaaaMarkA
import Derived.Test.YthodcbhejjbhaaaStrB
namespace Go.Proofs.Ythodcbhejjbhaaa
open Go.RowKit

structure MarkM where
  s : Nat
  w0 : Nat
  w1 : Nat
  w2 : Nat
  w3 : Nat
  w4 : Nat
  w5 : Nat
  deriving DecidableEq
def MarkM.nums (m : MarkM) : List Nat := [m.s, m.w0, m.w1, m.w2, m.w3, m.w4, m.w5]
def MarkM.V (m : MarkM) : Array Value := #[.int .u64 m.s, .int .u64 m.w0, .int .u64 m.w1, .int .u64 m.w2, .int .u64 m.w3, .int .u64 m.w4, .int .u64 m.w5]
def MarkM.zero : MarkM := ⟨0, 0, 0, 0, 0, 0, 0⟩
/-- Each number is one of 64 bits. -/
def MarkM.ok (m : MarkM) : Prop := ∀ n ∈ m.nums, n < 18446744073709551616

def byteAt (n j : Nat) : UInt8 := UInt8.ofNat (n / 2 ^ (8 * j))
def le8 (n : Nat) : List UInt8 := (List.range 8).map (byteAt n)
@[simp] theorem length_le8 (n : Nat) : (le8 n).length = 8 := by simp [le8]
theorem le8_get (n j : Nat) (h : j < 8) : (le8 n)[j]? = some (byteAt n j) := by simp [le8, h]
theorem flat8_len (l : List Nat) : (l.flatMap le8).length = 8 * l.length := by
  induction l with
  | nil => rfl
  | cons n l ih => simp [ih, Nat.mul_add, Nat.add_comm]
theorem flat8_get : ∀ (l : List Nat) (i j : Nat) (n : Nat), l[i]? = some n → j < 8 → (l.flatMap le8)[8 * i + j]? = some (byteAt n j)
  | [], i, j, n, h, _ => by simp at h
  | m :: l, 0, j, n, h, hj => by
    simp only [List.getElem?_cons_zero, Option.some.injEq] at h
    subst h
    rw [List.flatMap_cons, List.getElem?_append_left (by simp; omega), Nat.mul_zero, Nat.zero_add, le8_get _ _ hj]
  | m :: l, i + 1, j, n, h, hj => by
    rw [List.flatMap_cons, List.getElem?_append_right (by simp; omega), length_le8, show 8 * (i + 1) + j - 8 = 8 * i + j from by omega]
    exact flat8_get l i j n (by simpa using h) hj
/-- A mark's half of its sector; its sector. -/
def encH (m : MarkM) : List UInt8 := m.nums.flatMap le8
def enc (m : MarkM) : List UInt8 := encH m ++ encH m ++ zeros 16
@[simp] theorem length_encH (m : MarkM) : (encH m).length = 56 := by rw [encH, flat8_len]; rfl
@[simp] theorem length_enc (m : MarkM) : (enc m).length = 128 := by simp [enc]
theorem enc_get (m : MarkM) (k i j n : Nat) (hk : k < 2) (hn : m.nums[i]? = some n) (hj : j < 8) : (enc m)[k * 56 + 8 * i + j]? = some (byteAt n j) := by
  have hi : i < 7 := by
    rcases Nat.lt_or_ge i 7 with h | h
    · exact h
    · rw [List.getElem?_eq_none (by simpa [MarkM.nums] using h)] at hn; cases hn
  have h := flat8_get m.nums i j n hn hj
  have hl : (m.nums.flatMap le8).length = 56 := length_encH m
  unfold enc encH
  obtain rfl | rfl : k = 0 ∨ k = 1 := by omega
  · rw [List.getElem?_append_left (by simp [hl]; omega), List.getElem?_append_left (by rw [hl]; omega)]
    rw [← h]; congr 1; omega
  · rw [List.getElem?_append_left (by simp [hl]; omega), List.getElem?_append_right (by rw [hl]; omega), hl]
    rw [← h]; congr 1; omega
/-- The first p bytes of l, noughts behind. -/
def mfill (l : List UInt8) (p : Nat) : List UInt8 := l.take p ++ zeros (l.length - p)
theorem mfill_zero (l : List UInt8) : mfill l 0 = zeros l.length := by simp [mfill]
theorem mfill_all (l : List UInt8) : mfill l l.length = l := by simp [mfill, zeros]
@[simp] theorem length_mfill (l : List UInt8) (p : Nat) (h : p ≤ l.length) : (mfill l p).length = l.length := by simp [mfill]; omega
theorem mfill_set (l : List UInt8) (p : Nat) (x : UInt8) (h : l[p]? = some x) : (mfill l p).set p x = mfill l (p + 1) := by
  have hp : p < l.length := by
    rcases Nat.lt_or_ge p l.length with g | g
    · exact g
    · rw [List.getElem?_eq_none g] at h; cases h
  have hx : l[p] = x := by rw [List.getElem?_eq_getElem hp] at h; exact Option.some.inj h
  unfold mfill
  rw [List.set_append_right _ _ (by simp; omega), List.take_succ_eq_append_getElem hp, hx]
  have : l.length - p = (l.length - (p + 1)) + 1 := by omega
  rw [this]
  have hm : min p l.length = p := by omega
  rw [show p - (l.take p).length = 0 from by simp; omega]
  simp [zeros, List.replicate_succ]
theorem mfill_tail (m : MarkM) : mfill (enc m) 112 = enc m := by
  unfold mfill enc
  rw [List.take_append_of_le_length (by simp), List.take_of_length_le (by simp)]
  congr 1
theorem wrap_byte (n j : Nat) : Value.int .u8 ((n : Int) / 2 ^ (8 * j) % 256) = .int .u8 ((byteAt n j).toNat : Nat) := by
  have h1 : (n : Int) / 2 ^ (8 * j) = ((n / 2 ^ (8 * j) : Nat) : Int) := by simp
  have h2 : (((n / 2 ^ (8 * j) : Nat) : Int)) % 256 = (((n / 2 ^ (8 * j)) % 256 : Nat) : Int) := by simp
  rw [h1, h2]
  simp [byteAt]
theorem mfill_row {w : World} {g c p : Nat} {l : List UInt8} {x : UInt8} (h : Row w g 5 c (bytesV (mfill l p))) (hx : l[p]? = some x) : Row (w.setCell ⟨g, p, none⟩ (.int .u8 x.toNat)) g 5 c (bytesV (mfill l (p + 1))) := by
  have hp : p < l.length := by
    rcases Nat.lt_or_ge p l.length with g | g
    · exact g
    · rw [List.getElem?_eq_none g] at hx; cases hx
  have := h.set p (.int .u8 x.toNat) (by rw [length_bytesV, length_mfill _ _ (by omega)]; exact hp)
  rw [← mfill_set l p x hx]
  have e : bytesV ((mfill l p).set p x) = (bytesV (mfill l p)).set p (.int .u8 x.toNat) := by simp [bytesV, List.map_set]
  rw [e]; exact this

set_option maxRecDepth 100000 in
set_option maxHeartbeats 1600000 in
theorem bytes_c (w : World) (m : MarkM) (hm : m.ok) :
    Calls Try.prog 75 #[.agg m.V] w fun e w' => ∃ g, e = .returned (.slice (some ⟨g, 0, none⟩) 128 128) ∧ w.heap.size ≤ g ∧ Row w' g 5 128 (bytesV (enc m)) ∧ Only (fun _ => False) w w' := by
  have Hm := hid hm
  clear hm
  have hmk : ∀ w, (Instr.makeSlice 33 (.int .i64 128) (.int .i64 128)).run Try.prog w = .ok (.slice (some ⟨w.heap.size, 0, none⟩) 128 128) (w.alloc (.cells (bytesV (zeros 128)).toArray 5)) := fun w => make_bytes w 128 (by decide)
  unfold MarkM.V
  go_enter Try.func75, Try.ntmps75
  go_wp2_with fail
  clear hmk
  go_loopw [9, 4, 5, 6, 7] (fun i _ _ _ _ wr => ∃ k : Nat, i = .int .i64 k ∧ k ≤ 2 ∧ Row wr (w.heap.size + 1) 5 128 (bytesV (mfill (enc m) (k * 56))) ∧ wr.heap[w.heap.size]? = some (.cells m.V 85 (0, 0)) ∧ Only (fun _ => False) w wr) (fun i _ _ _ _ _ => 2 - (intOf i).toNat)
  case atStart =>
    refine ⟨0, rfl, by omega, ?_, blk_alloc (blk_new w _), ((Only.refl _ _).alloc _).alloc _⟩
    rw [Nat.zero_mul, mfill_zero, length_enc]
    have := Row.new' (w.alloc (.cells m.V 85)) (bytesV (zeros 128)) 5 128 (by simp)
    rwa [World.size_alloc] at this
  case round =>
    obtain ⟨k, rfl, hk, hrow, hbox, ho⟩ := hrel
    have HRow := hid hrow; have HBox := hid hbox; have Ho := hid ho
    clear hrow hbox ho
    obtain ⟨wo, rfl⟩ : ∃ wo : World, wo = wr := ⟨_, rfl⟩
    by_cases hk2 : k < 2
    · go_wp2_with fail
      go_loopw [12, 5, 6, 7] (fun i _ _ _ wr => ∃ j : Nat, i = .int .i64 j ∧ j ≤ 7 ∧ Row wr (w.heap.size + 1) 5 128 (bytesV (mfill (enc m) (k * 56 + 8 * j))) ∧ wr.heap[w.heap.size]? = some (.cells m.V 85 (0, 0)) ∧ Only (fun _ => False) w wr) (fun i _ _ _ _ => 7 - (intOf i).toNat)
      case atStart => exact ⟨0, rfl, by omega, HRow.out, HBox.out, Ho.out⟩
      case round =>
        obtain ⟨j, rfl, hj, hrow, hbox, ho⟩ := hrel
        have HRow := hid hrow; have HBox := hid hbox; have Ho := hid ho
        clear hrow hbox ho
        obtain ⟨w3, rfl⟩ : ∃ w3 : World, w3 = wr := ⟨_, rfl⟩
        by_cases hj7 : j < 7
        · obtain ⟨nj, hnj⟩ : ∃ nj, m.nums[j]? = some nj := ⟨_, List.getElem?_eq_getElem (by simpa [MarkM.nums] using hj7)⟩
          have hok : nj < 18446744073709551616 := Hm.out nj (List.mem_of_getElem? hnj)
          have HOk := hid hok
          have hV : m.V[j]? = some (.int .u64 nj) := by
            have : m.V = (m.nums.map fun x => Value.int .u64 (x : Nat)).toArray := rfl
            rw [this, List.getElem?_toArray, List.getElem?_map, hnj]; rfl
          have hc0 : w3.cell? ⟨w.heap.size, 0, none⟩ = some (.int .u64 m.s) := (cell_blk HBox.out 0).trans rfl
          have HNj := hid hnj
          have HV := hid hV
          clear hnj hV hok
          by_cases hj0 : (j : Int) = 0
          · obtain rfl : j = 0 := by omega
            obtain rfl : nj = m.s := by have := HNj.out; simpa [MarkM.nums] using this.symm
            go_wp2_with fail
            go_loopw [24, 7] (fun i _ wr => ∃ l : Nat, i = .int .i64 l ∧ l ≤ 8 ∧ Row wr (w.heap.size + 1) 5 128 (bytesV (mfill (enc m) (k * 56 + 8 * 0 + l))) ∧ wr.heap[w.heap.size]? = some (.cells m.V 85 (0, 0)) ∧ Only (fun _ => False) w wr) (fun i _ _ => 8 - (intOf i).toNat)
            case atStart => exact ⟨0, rfl, by omega, HRow.out, HBox.out, Ho.out⟩
            case round =>
              obtain ⟨l, rfl, hl, hrow, hbox, ho⟩ := hrel
              have HRow := hid hrow; have HBox := hid hbox; have Ho := hid ho
              have hfz := hrow.frozen (k * 56 + l)
              have hcx : l < 8 → ∃ x, wr.cell? ⟨w.heap.size + 1, k * 56 + l, none⟩ = some x := fun hl8 => by
                refine ⟨_, (hrow.cell (k * 56 + l) (by rw [length_bytesV, length_mfill _ _ (by rw [length_enc]; omega), length_enc]; omega)).trans (List.getElem?_eq_getElem (by rw [length_bytesV, length_mfill _ _ (by rw [length_enc]; omega), length_enc]; omega))⟩
              clear hrow hbox ho
              by_cases hl8 : l < 8
              · obtain ⟨x, hcx⟩ := hcx hl8
                go_wp2_with fail
                go_roundw
                case rel =>
                  have hg := enc_get m k 0 l m.s hk2 HNj.out hl8
                  have hst := mfill_row HRow.out hg
                  rw [← wrap_byte] at hst
                  exact ⟨l + 1, by go_num, by omega, hst, blk_set_other HBox.out (by omega), Ho.out.setCell _ _ (fun h => absurd h (by show ¬ (w.heap.size + 1 < w.heap.size); omega))⟩
                case measure => simp [intOf]; omega
              · obtain rfl : l = 8 := by omega
                clear hcx
                go_wp2_with fail
                go_roundw
                case rel => exact ⟨0 + 1, by go_num, by omega, HRow.out, HBox.out, Ho.out⟩
                case measure => simp [intOf]
          · have hj1 : 1 ≤ (j : Int) := by omega
            have hcj : w3.cell? ⟨w.heap.size, 1 + (j - 1), none⟩ = some (.int .u64 nj) := by
              rw [show 1 + (j - 1) = j from by omega]; exact (cell_blk HBox.out j).trans HV.out
            clear hj0
            go_wp2_with fail
            go_loopw [24, 7] (fun i _ wr => ∃ l : Nat, i = .int .i64 l ∧ l ≤ 8 ∧ Row wr (w.heap.size + 1) 5 128 (bytesV (mfill (enc m) (k * 56 + 8 * j + l))) ∧ wr.heap[w.heap.size]? = some (.cells m.V 85 (0, 0)) ∧ Only (fun _ => False) w wr) (fun i _ _ => 8 - (intOf i).toNat)
            case atStart => exact ⟨0, rfl, by omega, HRow.out, HBox.out, Ho.out⟩
            case round =>
              obtain ⟨l, rfl, hl, hrow, hbox, ho⟩ := hrel
              have HRow := hid hrow; have HBox := hid hbox; have Ho := hid ho
              have hfz := hrow.frozen (k * 56 + 8 * j + l)
              have hcx : l < 8 → ∃ x, wr.cell? ⟨w.heap.size + 1, k * 56 + 8 * j + l, none⟩ = some x := fun hl8 => by
                refine ⟨_, (hrow.cell (k * 56 + 8 * j + l) (by rw [length_bytesV, length_mfill _ _ (by rw [length_enc]; omega), length_enc]; omega)).trans (List.getElem?_eq_getElem (by rw [length_bytesV, length_mfill _ _ (by rw [length_enc]; omega), length_enc]; omega))⟩
              clear hrow hbox ho
              by_cases hl8 : l < 8
              · obtain ⟨x, hcx⟩ := hcx hl8
                go_wp2_with fail
                go_roundw
                case rel =>
                  have hg := enc_get m k j l nj hk2 HNj.out hl8
                  have hst := mfill_row HRow.out hg
                  rw [← wrap_byte] at hst
                  exact ⟨l + 1, by go_num, by omega, hst, blk_set_other HBox.out (by omega), Ho.out.setCell _ _ (fun h => absurd h (by show ¬ (w.heap.size + 1 < w.heap.size); omega))⟩
                case measure => simp [intOf]; omega
              · obtain rfl : l = 8 := by omega
                clear hcx
                go_wp2_with fail
                go_roundw
                case rel => exact ⟨j + 1, by go_num, by omega, HRow.out, HBox.out, Ho.out⟩
                case measure => simp [intOf]; omega
        · obtain rfl : j = 7 := by omega
          go_wp2_with fail
          go_roundw
          case rel => exact ⟨k + 1, by go_num, by omega, by rw [show (k + 1) * 56 = k * 56 + 8 * 7 from by omega]; exact HRow.out, HBox.out, Ho.out⟩
          case measure => simp [intOf]; omega
    · obtain rfl : k = 2 := by omega
      go_wp2_with fail
      go_ret
      exact ⟨w.heap.size + 1, rfl, by omega, by rw [← mfill_tail]; exact HRow.out, Ho.out⟩
end Go.Proofs.Ythodcbhejjbhaaa
