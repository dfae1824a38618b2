/- The mark's small functions: eight bytes as a number, a slot. A mark, as a plain thing; its bytes. A mark's sector is read. The last mark of two sectors is looked for. The last mark of two sectors is had; a mark is put: the parts that are no walk of Put's own. A mark is put. The marks' plain law: what is written is read. Marks while the power goes, plainly (of TornL what does without Pending), and over any disk. -/
import Derived.Test.YtfmdngeooelcpaaGreatRig
import Derived.Laws.Bits64b
import Derived.Test.YtfmdngeooelcpaaGreatStrB
import Derived.Test.YtfmdngeooelcpaaGreatWhole
import Derived.Deep.QuietTactic
import Derived.BigQuiet
import Derived.ChangeAlike
import Derived.Deep.RegionHeld3
import Derived.Test.YtfmdngeooelcpaaGreatFuse
import Derived.Deep.DrawnRows
namespace Go.Proofs.YtfmdngeooelcpaaGreat
open Go.RowKit

/-- Bytes as a number, the lowest first. -/
def deN : List UInt8 → Nat
  | [] => 0
  | x :: xs => x.toNat + 256 * deN xs
theorem deN_lt : ∀ l : List UInt8, deN l < 256 ^ l.length
  | [] => by simp [deN]
  | x :: xs => by
    have h := deN_lt xs
    have hx : x.toNat < 256 := x.toNat_lt
    simp only [deN, List.length_cons, Nat.pow_succ]
    omega
theorem deN_snoc : ∀ (l : List UInt8) (x : UInt8), deN (l ++ [x]) = deN l + 256 ^ l.length * x.toNat
  | [], x => by simp [deN]
  | y :: l, x => by
    simp only [List.cons_append, deN, deN_snoc l x, List.length_cons, Nat.pow_succ, Nat.mul_add]
    rw [Nat.add_assoc, ← Nat.mul_assoc, Nat.mul_comm 256 (256 ^ l.length)]

/-- A sum's low part and its high part, by 'or'. -/
theorem or_shl (n x k : Nat) (hn : n < 2 ^ k) : n ||| (x * 2 ^ k) = n + 2 ^ k * x := by
  rw [Nat.mul_comm, Nat.add_comm, Nat.or_comm]
  exact (Nat.two_pow_add_eq_or_of_lt hn x).symm

theorem slot_c (w : World) (first : Int) (seq : Nat) (h0 : 0 ≤ first) (h1 : first ≤ 1000000) :
    Calls Tryz.prog 73 #[.int .i64 first, .int .u64 seq] w fun e w' => e = .returned (.int .i64 (first + (seq % 2 : Nat))) ∧ w = w' := by
  go_enter Tryz.func73, Tryz.ntmps73
  go_wp2
  go_ret
  refine ⟨?_, rfl⟩
  rw [Int.natCast_emod]; rfl

/-- One byte more, by 'or' and a shift. -/
theorem or_step (l : List UInt8) (k : Nat) (hk : k < 8) (hl : k < l.length) :
    bits .or .u64 (deN (l.take k) : Nat) (IntKind.u64.wrap (IntKind.u64.wrap ((l[k]).toNat : Nat) * 2 ^ (8 * k))) = (deN (l.take (k + 1)) : Nat) := by
  have hx : (l[k]).toNat < 256 := (l[k]).toNat_lt
  have h1 : IntKind.u64.wrap (((l[k]).toNat : Nat) : Int) = ((l[k]).toNat : Nat) := by rw [IntKind.wrap_u64]; omega
  have hp : 2 ^ (8 * k) * 256 ≤ 2 ^ 64 := by
    have : 2 ^ (8 * k) * 256 = 2 ^ (8 * k + 8) := by rw [Nat.pow_add]
    rw [this]; exact Nat.pow_le_pow_right (by decide) (by omega)
  have hxl : (l[k]).toNat * 2 ^ (8 * k) < 18446744073709551616 := by
    have : (l[k]).toNat * 2 ^ (8 * k) < 256 * 2 ^ (8 * k) := Nat.mul_lt_mul_of_pos_right hx (Nat.two_pow_pos _)
    have h64 : (2 : Nat) ^ 64 = 18446744073709551616 := by decide
    rw [Nat.mul_comm 256] at this
    omega
  have h2 : (((l[k]).toNat : Nat) : Int) * 2 ^ (8 * k) = (((l[k]).toNat * 2 ^ (8 * k) : Nat) : Int) := by simp
  have hlen : (l.take k).length = k := by simp; omega
  have hd := deN_lt (l.take k)
  rw [hlen] at hd
  have h256 : (256 : Nat) ^ k = 2 ^ (8 * k) := by rw [Nat.pow_mul]
  have hdl : deN (l.take k) < 18446744073709551616 := by
    have h64 : (2 : Nat) ^ 64 = 18446744073709551616 := by decide
    omega
  rw [h1, h2, IntKind.wrap_u64]
  rw [show (((l[k]).toNat * 2 ^ (8 * k) : Nat) : Int) % 18446744073709551616 = (((l[k]).toNat * 2 ^ (8 * k) : Nat) : Int) from by omega]
  rw [bits_or_u64_nat _ _ hdl hxl, or_shl _ _ _ (by rw [← h256]; exact hd)]
  rw [List.take_succ_eq_append_getElem hl, deN_snoc, hlen, h256]

set_option maxHeartbeats 400000 in
theorem mnumber_c (w : World) (v : Value) (l : List UInt8) (h : Src w v l) (h8 : 8 ≤ l.length) (hb : l.length ≤ 1000000) (hcap : ∀ a c, v = .slice a l.length c → 8 ≤ c) :
    Calls Tryz.prog 71 #[v] w fun e w' => e = .returned (.int .u64 (deN (l.take 8))) ∧ w = w' := by
  obtain ⟨a, c, rfl, hs⟩ := h
  have hc8 := hcap _ _ rfl
  obtain ⟨g, o, rfl, hc⟩ := hs (by intro e; rw [e] at h8; simp at h8)
  have HC := hid hc
  clear hc hs hcap
  go_enter Tryz.func71, Tryz.ntmps71
  go_wp2
  go_loop [9, 3, 4, 5] (fun i n _ _ => ∃ k : Nat, k ≤ 8 ∧ i = .int .i64 k ∧ n = .int .u64 (deN (l.take k))) (fun i _ _ _ => 8 - (intOf i).toNat)
  case atStart => exact ⟨0, by omega, rfl, rfl⟩
  case round =>
    obtain ⟨k, hk, rfl, rfl⟩ := hrel
    by_cases hk8 : k < 8
    · have hlt : k < l.length := by omega
      have hcell : w.cell? ⟨g, o + k, none⟩ = some (.int .u8 (l[k]).toNat) := HC.out k _ (by rw [bytesV_get, List.getElem?_eq_getElem hlt]; rfl)
      have hst := or_step l k hk8 hlt
      have HST := hid hst
      clear hst
      go_wp2
      go_round
      case rel => exact ⟨k + 1, by omega, by go_num, by rw [HST.out]⟩
      case measure => simp [intOf]; omega
    · obtain rfl : k = 8 := by omega
      go_wp2
      go_ret
      exact ⟨rfl, rfl⟩
end Go.Proofs.YtfmdngeooelcpaaGreat
namespace Go.Proofs.YtfmdngeooelcpaaGreat
open Go.RowKit

structure MarkM where
  s : Nat
  w0 : Nat
  w1 : Nat
  w2 : Nat
  w3 : Nat
  w4 : Nat
  w5 : Nat
  deriving DecidableEq
def MarkM.nums (m : MarkM) : List Nat := [m.s, m.w0, m.w1, m.w2, m.w3, m.w4, m.w5]
def MarkM.V (m : MarkM) : Array Value := #[.int .u64 m.s, .int .u64 m.w0, .int .u64 m.w1, .int .u64 m.w2, .int .u64 m.w3, .int .u64 m.w4, .int .u64 m.w5]
def MarkM.zero : MarkM := ⟨0, 0, 0, 0, 0, 0, 0⟩
/-- Each number is one of 64 bits. -/
def MarkM.ok (m : MarkM) : Prop := ∀ n ∈ m.nums, n < 18446744073709551616

def byteAt (n j : Nat) : UInt8 := UInt8.ofNat (n / 2 ^ (8 * j))
def le8 (n : Nat) : List UInt8 := (List.range 8).map (byteAt n)
@[simp] theorem length_le8 (n : Nat) : (le8 n).length = 8 := by simp [le8]
theorem le8_get (n j : Nat) (h : j < 8) : (le8 n)[j]? = some (byteAt n j) := by simp [le8, h]
theorem flat8_len (l : List Nat) : (l.flatMap le8).length = 8 * l.length := by
  induction l with
  | nil => rfl
  | cons n l ih => simp [ih, Nat.mul_add, Nat.add_comm]
theorem flat8_get : ∀ (l : List Nat) (i j : Nat) (n : Nat), l[i]? = some n → j < 8 → (l.flatMap le8)[8 * i + j]? = some (byteAt n j)
  | [], i, j, n, h, _ => by simp at h
  | m :: l, 0, j, n, h, hj => by
    simp only [List.getElem?_cons_zero, Option.some.injEq] at h
    subst h
    rw [List.flatMap_cons, List.getElem?_append_left (by simp; omega), Nat.mul_zero, Nat.zero_add, le8_get _ _ hj]
  | m :: l, i + 1, j, n, h, hj => by
    rw [List.flatMap_cons, List.getElem?_append_right (by simp; omega), length_le8, show 8 * (i + 1) + j - 8 = 8 * i + j from by omega]
    exact flat8_get l i j n (by simpa using h) hj
/-- A mark's half of its sector; its sector. -/
def encH (m : MarkM) : List UInt8 := m.nums.flatMap le8
def enc (m : MarkM) : List UInt8 := encH m ++ encH m ++ zeros 16
@[simp] theorem length_encH (m : MarkM) : (encH m).length = 56 := by rw [encH, flat8_len]; rfl
@[simp] theorem length_enc (m : MarkM) : (enc m).length = 128 := by simp [enc]
theorem enc_get (m : MarkM) (k i j n : Nat) (hk : k < 2) (hn : m.nums[i]? = some n) (hj : j < 8) : (enc m)[k * 56 + 8 * i + j]? = some (byteAt n j) := by
  have hi : i < 7 := by
    rcases Nat.lt_or_ge i 7 with h | h
    · exact h
    · rw [List.getElem?_eq_none (by simpa [MarkM.nums] using h)] at hn; cases hn
  have h := flat8_get m.nums i j n hn hj
  have hl : (m.nums.flatMap le8).length = 56 := length_encH m
  unfold enc encH
  obtain rfl | rfl : k = 0 ∨ k = 1 := by omega
  · rw [List.getElem?_append_left (by simp [hl]; omega), List.getElem?_append_left (by rw [hl]; omega)]
    rw [← h]; congr 1; omega
  · rw [List.getElem?_append_left (by simp [hl]; omega), List.getElem?_append_right (by rw [hl]; omega), hl]
    rw [← h]; congr 1; omega
/-- The first p bytes of l, noughts behind. -/
def mfill (l : List UInt8) (p : Nat) : List UInt8 := l.take p ++ zeros (l.length - p)
theorem mfill_zero (l : List UInt8) : mfill l 0 = zeros l.length := by simp [mfill]
@[simp] theorem length_mfill (l : List UInt8) (p : Nat) (h : p ≤ l.length) : (mfill l p).length = l.length := by simp [mfill]; omega
theorem mfill_set (l : List UInt8) (p : Nat) (x : UInt8) (h : l[p]? = some x) : (mfill l p).set p x = mfill l (p + 1) := by
  have hp : p < l.length := by
    rcases Nat.lt_or_ge p l.length with g | g
    · exact g
    · rw [List.getElem?_eq_none g] at h; cases h
  have hx : l[p] = x := by rw [List.getElem?_eq_getElem hp] at h; exact Option.some.inj h
  unfold mfill
  rw [List.set_append_right _ _ (by simp; omega), List.take_succ_eq_append_getElem hp, hx]
  have : l.length - p = (l.length - (p + 1)) + 1 := by omega
  rw [this]
  have hm : min p l.length = p := by omega
  rw [show p - (l.take p).length = 0 from by simp; omega]
  simp [zeros, List.replicate_succ]
theorem mfill_tail (m : MarkM) : mfill (enc m) 112 = enc m := by
  unfold mfill enc
  rw [List.take_append_of_le_length (by simp), List.take_of_length_le (by simp)]
  congr 1
theorem wrap_byte (n j : Nat) : Value.int .u8 ((n : Int) / 2 ^ (8 * j) % 256) = .int .u8 ((byteAt n j).toNat : Nat) := by
  have h1 : (n : Int) / 2 ^ (8 * j) = ((n / 2 ^ (8 * j) : Nat) : Int) := by simp
  have h2 : (((n / 2 ^ (8 * j) : Nat) : Int)) % 256 = (((n / 2 ^ (8 * j)) % 256 : Nat) : Int) := by simp
  rw [h1, h2]
  simp [byteAt]
theorem mfill_row {w : World} {g c p : Nat} {l : List UInt8} {x : UInt8} (h : Row w g 5 c (bytesV (mfill l p))) (hx : l[p]? = some x) : Row (w.setCell ⟨g, p, none⟩ (.int .u8 x.toNat)) g 5 c (bytesV (mfill l (p + 1))) := by
  have hp : p < l.length := by
    rcases Nat.lt_or_ge p l.length with g | g
    · exact g
    · rw [List.getElem?_eq_none g] at hx; cases hx
  have := h.set p (.int .u8 x.toNat) (by rw [length_bytesV, length_mfill _ _ (by omega)]; exact hp)
  rw [← mfill_set l p x hx]
  have e : bytesV ((mfill l p).set p x) = (bytesV (mfill l p)).set p (.int .u8 x.toNat) := by simp [bytesV, List.map_set]
  rw [e]; exact this

set_option maxRecDepth 100000 in
set_option maxHeartbeats 1600000 in
theorem bytes_c (w : World) (m : MarkM) (hm : m.ok) :
    Calls Tryz.prog 84 #[.agg m.V] w fun e w' => ∃ g, e = .returned (.slice (some ⟨g, 0, none⟩) 128 128) ∧ w.heap.size ≤ g ∧ Row w' g 5 128 (bytesV (enc m)) ∧ Only (fun _ => False) w w' := by
  have Hm := hid hm
  clear hm
  have hmk : ∀ w, (Instr.makeSlice 31 (.int .i64 128) (.int .i64 128)).run Tryz.prog w = .ok (.slice (some ⟨w.heap.size, 0, none⟩) 128 128) (w.alloc (.cells (bytesV (zeros 128)).toArray 5)) := fun w => make_bytes w 128 (by decide)
  unfold MarkM.V
  go_enter Tryz.func84, Tryz.ntmps84
  go_wp2_with fail
  clear hmk
  go_loopw [9, 4, 5, 6, 7] (fun i _ _ _ _ wr => ∃ k : Nat, i = .int .i64 k ∧ k ≤ 2 ∧ Row wr (w.heap.size + 1) 5 128 (bytesV (mfill (enc m) (k * 56))) ∧ wr.heap[w.heap.size]? = some (.cells m.V 75 (0, 0)) ∧ Only (fun _ => False) w wr) (fun i _ _ _ _ _ => 2 - (intOf i).toNat)
  case atStart =>
    refine ⟨0, rfl, by omega, ?_, blk_alloc (blk_new w _), ((Only.refl _ _).alloc _).alloc _⟩
    rw [Nat.zero_mul, mfill_zero, length_enc]
    have := Row.new' (w.alloc (.cells m.V 75)) (bytesV (zeros 128)) 5 128 (by simp)
    rwa [World.size_alloc] at this
  case round =>
    obtain ⟨k, rfl, hk, hrow, hbox, ho⟩ := hrel
    have HRow := hid hrow; have HBox := hid hbox; have Ho := hid ho
    clear hrow hbox ho
    obtain ⟨wo, rfl⟩ : ∃ wo : World, wo = wr := ⟨_, rfl⟩
    by_cases hk2 : k < 2
    · go_wp2_with fail
      go_loopw [12, 5, 6, 7] (fun i _ _ _ wr => ∃ j : Nat, i = .int .i64 j ∧ j ≤ 7 ∧ Row wr (w.heap.size + 1) 5 128 (bytesV (mfill (enc m) (k * 56 + 8 * j))) ∧ wr.heap[w.heap.size]? = some (.cells m.V 75 (0, 0)) ∧ Only (fun _ => False) w wr) (fun i _ _ _ _ => 7 - (intOf i).toNat)
      case atStart => exact ⟨0, rfl, by omega, HRow.out, HBox.out, Ho.out⟩
      case round =>
        obtain ⟨j, rfl, hj, hrow, hbox, ho⟩ := hrel
        have HRow := hid hrow; have HBox := hid hbox; have Ho := hid ho
        clear hrow hbox ho
        obtain ⟨w3, rfl⟩ : ∃ w3 : World, w3 = wr := ⟨_, rfl⟩
        by_cases hj7 : j < 7
        · obtain ⟨nj, hnj⟩ : ∃ nj, m.nums[j]? = some nj := ⟨_, List.getElem?_eq_getElem (by simpa [MarkM.nums] using hj7)⟩
          have hok : nj < 18446744073709551616 := Hm.out nj (List.mem_of_getElem? hnj)
          have HOk := hid hok
          have hV : m.V[j]? = some (.int .u64 nj) := by
            have : m.V = (m.nums.map fun x => Value.int .u64 (x : Nat)).toArray := rfl
            rw [this, List.getElem?_toArray, List.getElem?_map, hnj]; rfl
          have hc0 : w3.cell? ⟨w.heap.size, 0, none⟩ = some (.int .u64 m.s) := (cell_blk HBox.out 0).trans rfl
          have HNj := hid hnj
          have HV := hid hV
          clear hnj hV hok
          by_cases hj0 : (j : Int) = 0
          · obtain rfl : j = 0 := by omega
            obtain rfl : nj = m.s := by have := HNj.out; simpa [MarkM.nums] using this.symm
            go_wp2_with fail
            go_loopw [24, 7] (fun i _ wr => ∃ l : Nat, i = .int .i64 l ∧ l ≤ 8 ∧ Row wr (w.heap.size + 1) 5 128 (bytesV (mfill (enc m) (k * 56 + 8 * 0 + l))) ∧ wr.heap[w.heap.size]? = some (.cells m.V 75 (0, 0)) ∧ Only (fun _ => False) w wr) (fun i _ _ => 8 - (intOf i).toNat)
            case atStart => exact ⟨0, rfl, by omega, HRow.out, HBox.out, Ho.out⟩
            case round =>
              obtain ⟨l, rfl, hl, hrow, hbox, ho⟩ := hrel
              have HRow := hid hrow; have HBox := hid hbox; have Ho := hid ho
              have hfz := hrow.frozen (k * 56 + l)
              have hcx : l < 8 → ∃ x, wr.cell? ⟨w.heap.size + 1, k * 56 + l, none⟩ = some x := fun hl8 => by
                refine ⟨_, (hrow.cell (k * 56 + l) (by rw [length_bytesV, length_mfill _ _ (by rw [length_enc]; omega), length_enc]; omega)).trans (List.getElem?_eq_getElem (by rw [length_bytesV, length_mfill _ _ (by rw [length_enc]; omega), length_enc]; omega))⟩
              clear hrow hbox ho
              by_cases hl8 : l < 8
              · obtain ⟨x, hcx⟩ := hcx hl8
                go_wp2_with fail
                go_roundw
                case rel =>
                  have hg := enc_get m k 0 l m.s hk2 HNj.out hl8
                  have hst := mfill_row HRow.out hg
                  rw [← wrap_byte] at hst
                  exact ⟨l + 1, by go_num, by omega, hst, blk_set_other HBox.out (by omega), Ho.out.setCell _ _ (fun h => absurd h (by show ¬ (w.heap.size + 1 < w.heap.size); omega))⟩
                case measure => simp [intOf]; omega
              · obtain rfl : l = 8 := by omega
                clear hcx
                go_wp2_with fail
                go_roundw
                case rel => exact ⟨0 + 1, by go_num, by omega, HRow.out, HBox.out, Ho.out⟩
                case measure => simp [intOf]
          · have hj1 : 1 ≤ (j : Int) := by omega
            have hcj : w3.cell? ⟨w.heap.size, 1 + (j - 1), none⟩ = some (.int .u64 nj) := by
              rw [show 1 + (j - 1) = j from by omega]; exact (cell_blk HBox.out j).trans HV.out
            clear hj0
            go_wp2_with fail
            go_loopw [24, 7] (fun i _ wr => ∃ l : Nat, i = .int .i64 l ∧ l ≤ 8 ∧ Row wr (w.heap.size + 1) 5 128 (bytesV (mfill (enc m) (k * 56 + 8 * j + l))) ∧ wr.heap[w.heap.size]? = some (.cells m.V 75 (0, 0)) ∧ Only (fun _ => False) w wr) (fun i _ _ => 8 - (intOf i).toNat)
            case atStart => exact ⟨0, rfl, by omega, HRow.out, HBox.out, Ho.out⟩
            case round =>
              obtain ⟨l, rfl, hl, hrow, hbox, ho⟩ := hrel
              have HRow := hid hrow; have HBox := hid hbox; have Ho := hid ho
              have hfz := hrow.frozen (k * 56 + 8 * j + l)
              have hcx : l < 8 → ∃ x, wr.cell? ⟨w.heap.size + 1, k * 56 + 8 * j + l, none⟩ = some x := fun hl8 => by
                refine ⟨_, (hrow.cell (k * 56 + 8 * j + l) (by rw [length_bytesV, length_mfill _ _ (by rw [length_enc]; omega), length_enc]; omega)).trans (List.getElem?_eq_getElem (by rw [length_bytesV, length_mfill _ _ (by rw [length_enc]; omega), length_enc]; omega))⟩
              clear hrow hbox ho
              by_cases hl8 : l < 8
              · obtain ⟨x, hcx⟩ := hcx hl8
                go_wp2_with fail
                go_roundw
                case rel =>
                  have hg := enc_get m k j l nj hk2 HNj.out hl8
                  have hst := mfill_row HRow.out hg
                  rw [← wrap_byte] at hst
                  exact ⟨l + 1, by go_num, by omega, hst, blk_set_other HBox.out (by omega), Ho.out.setCell _ _ (fun h => absurd h (by show ¬ (w.heap.size + 1 < w.heap.size); omega))⟩
                case measure => simp [intOf]; omega
              · obtain rfl : l = 8 := by omega
                clear hcx
                go_wp2_with fail
                go_roundw
                case rel => exact ⟨j + 1, by go_num, by omega, HRow.out, HBox.out, Ho.out⟩
                case measure => simp [intOf]; omega
        · obtain rfl : j = 7 := by omega
          go_wp2_with fail
          go_roundw
          case rel => exact ⟨k + 1, by go_num, by omega, by rw [show (k + 1) * 56 = k * 56 + 8 * 7 from by omega]; exact HRow.out, HBox.out, Ho.out⟩
          case measure => simp [intOf]; omega
    · obtain rfl : k = 2 := by omega
      go_wp2_with fail
      go_ret
      exact ⟨w.heap.size + 1, rfl, by omega, by rw [← mfill_tail]; exact HRow.out, Ho.out⟩
end Go.Proofs.YtfmdngeooelcpaaGreat
namespace Go.Proofs.YtfmdngeooelcpaaGreat
open Go.RowKit

def deAt (l : List UInt8) (i : Nat) : Nat := deN ((l.drop (8 * i)).take 8)
theorem deAt_lt (l : List UInt8) (i : Nat) : deAt l i < 18446744073709551616 := by
  have h := deN_lt ((l.drop (8 * i)).take 8)
  have h2 : ((l.drop (8 * i)).take 8).length ≤ 8 := by simp; omega
  have h3 : 256 ^ ((l.drop (8 * i)).take 8).length ≤ 256 ^ 8 := Nat.pow_le_pow_right (by decide) h2
  have h4 : (256 : Nat) ^ 8 = 18446744073709551616 := by decide
  unfold deAt; omega
/-- The mark of bytes, if they are one's. -/
def decM (l : List UInt8) : MarkM := ⟨deAt l 0, deAt l 1, deAt l 2, deAt l 3, deAt l 4, deAt l 5, deAt l 6⟩
def readOk (l : List UInt8) : Bool := l.length == 128 && (l.take 56 == (l.drop 56).take 56 && (l.drop 112).all (· == 0))
def readM (l : List UInt8) : MarkM × Bool := if readOk l = true then (decM l, decide (0 < (decM l).s)) else (MarkM.zero, false)
theorem decM_ok (l : List UInt8) : (decM l).ok := by
  intro n hn
  simp only [decM, MarkM.nums, List.mem_cons, List.not_mem_nil, or_false] at hn
  rcases hn with rfl | rfl | rfl | rfl | rfl | rfl | rfl <;> exact deAt_lt _ _

/-- A mark of which the first i numbers are told. -/
def part (l : List UInt8) (i : Nat) : Array Value := ((List.range 7).map fun j => Value.int .u64 ((if j < i then deAt l j else 0 : Nat) : Int)).toArray
@[simp] theorem part_size (l : List UInt8) (i : Nat) : (part l i).size = 7 := by simp [part]
theorem part_set (l : List UInt8) (i : Nat) (_ : i < 7) : (part l i).setIfInBounds i (.int .u64 (deAt l i : Nat)) = part l (i + 1) := by
  apply Array.ext
  · simp
  · intro j h1 h2
    have hj : j < 7 := by simpa using h2
    rw [Array.getElem_setIfInBounds (by simpa using hj)]
    by_cases e : i = j
    · subst e; simp [part]
    · rw [if_neg e]
      simp only [part, List.getElem_toArray, List.getElem_map, List.getElem_range]
      congr 2
      by_cases h3 : j < i
      · rw [if_pos h3, if_pos (by omega)]
      · rw [if_neg h3, if_neg (by omega)]

theorem all_zero_get {l : List UInt8} (h : (l.drop 112).all (· == 0) = true) (k : Nat) (hk : 112 + k < l.length) : l[112 + k] = 0 := by
  have := List.all_eq_true.1 h (l[112 + k]) (by rw [List.mem_drop_iff_getElem]; exact ⟨k, by omega, by simp [Nat.add_comm]⟩)
  simpa using this

theorem info_mark : (Tryz.prog.info? 75).map (·.size) = some 7 := by kernel_rfl
theorem V_one (m : MarkM) : m.V.all (·.oneCell') = true := by simp [MarkM.V, Value.oneCell']

theorem Src.piece {w : World} {g o n c : Nat} {l : List UInt8} (h : Src w (.slice (some ⟨g, o, none⟩) n c) l) (k m c' : Nat) (p : List UInt8) (hp : p = (l.drop k).take m) (hm : p.length = m) : Src w (.slice (some ⟨g, o + k, none⟩) m c') p := by
  obtain ⟨a, c0, e, hs⟩ := h
  simp only [Value.slice.injEq] at e
  obtain ⟨rfl, -, -⟩ := e
  refine ⟨_, c', by rw [hm], fun hne => ⟨g, o + k, rfl, fun i u hu => ?_⟩⟩
  have hi : i < m := by
    rcases Nat.lt_or_ge i m with h | h
    · exact h
    · rw [bytesV_get, List.getElem?_eq_none (by omega)] at hu; cases hu
  have hl : k + i < l.length := by
    have : ((l.drop k).take m).length = m := by rw [← hp]; exact hm
    rw [List.length_take, List.length_drop] at this; omega
  obtain ⟨g', o', e', hc⟩ := hs (by intro e; rw [e] at hl; simp at hl)
  simp only [Option.some.injEq, Addr.mk.injEq, and_true] at e'
  obtain ⟨rfl, rfl⟩ := e'
  rw [Nat.add_assoc]
  refine hc (k + i) u ?_
  rw [bytesV_get] at hu ⊢
  rw [hp, List.getElem?_take_of_lt hi, List.getElem?_drop] at hu
  exact hu
theorem set7 {w : World} {b : Nat} {a0 a1 a2 a3 a4 a5 a6 : Value} {T : TypeId} (h : w.heap[b]? = some (.cells #[a0, a1, a2, a3, a4, a5, a6] T (0, 0))) (v0 v1 v2 v3 v4 v5 v6 : Value) :
    (((((((w.setCell ⟨b, 0, none⟩ v0).setCell ⟨b, 1, none⟩ v1).setCell ⟨b, 2, none⟩ v2).setCell ⟨b, 3, none⟩ v3).setCell ⟨b, 4, none⟩ v4).setCell ⟨b, 5, none⟩ v5).setCell ⟨b, 6, none⟩ v6).heap[b]? = some (.cells #[v0, v1, v2, v3, v4, v5, v6] T (0, 0)) := by
  have h0 := blk_set h 0 v0
  simp only [List.setIfInBounds_toArray, List.set_cons_zero] at h0
  have h1 := blk_set h0 1 v1
  simp only [List.setIfInBounds_toArray, List.set_cons_succ, List.set_cons_zero] at h1
  have h2 := blk_set h1 2 v2
  simp only [List.setIfInBounds_toArray, List.set_cons_succ, List.set_cons_zero] at h2
  have h3 := blk_set h2 3 v3
  simp only [List.setIfInBounds_toArray, List.set_cons_succ, List.set_cons_zero] at h3
  have h4 := blk_set h3 4 v4
  simp only [List.setIfInBounds_toArray, List.set_cons_succ, List.set_cons_zero] at h4
  have h5 := blk_set h4 5 v5
  simp only [List.setIfInBounds_toArray, List.set_cons_succ, List.set_cons_zero] at h5
  have h6 := blk_set h5 6 v6
  simp only [List.setIfInBounds_toArray, List.set_cons_succ, List.set_cons_zero] at h6
  exact h6
theorem set7_only (w : World) {b : Nat} (v0 v1 v2 v3 v4 v5 v6 : Value) :
    Only (fun k => k = b) w (((((((w.setCell ⟨b, 0, none⟩ v0).setCell ⟨b, 1, none⟩ v1).setCell ⟨b, 2, none⟩ v2).setCell ⟨b, 3, none⟩ v3).setCell ⟨b, 4, none⟩ v4).setCell ⟨b, 5, none⟩ v5).setCell ⟨b, 6, none⟩ v6) := by
  have e : ∀ {w' : World}, Only (fun k => k = b) w w' → ∀ (o : Nat) (v : Value), Only (fun k => k = b) w (w'.setCell ⟨b, o, none⟩ v) := fun h o v => h.setCell _ _ (fun _ => rfl)
  exact e (e (e (e (e (e (e (Only.refl _ _) 0 v0) 1 v1) 2 v2) 3 v3) 4 v4) 5 v5) 6 v6
theorem part_get (l : List UInt8) (i j : Nat) (h : j < 7) : ∃ x, (part l i)[j]? = some x := ⟨_, Array.getElem?_eq_getElem (by simpa using h)⟩

set_option maxRecDepth 100000 in
set_option maxHeartbeats 3200000 in
theorem read_ok' (w : World) (v : Value) (l : List UInt8) (h : Src w v l) (hl : l.length = 128) (hcap : ∀ a c, v = .slice a 128 c → 128 ≤ c) :
    Calls Tryz.prog 72 #[v] w fun e w' => e = .returned (.tuple #[.agg (readM l).1.V, .bool (readM l).2]) ∧ Only (fun _ => False) w w' := by
  obtain ⟨a, c, rfl, hs⟩ := h
  rw [hl] at hcap ⊢
  have hc8 := hcap _ _ rfl
  obtain ⟨g, o, rfl, hc⟩ := hs (by intro e; rw [e] at hl; simp at hl)
  have hsrc : Src w (.slice (some ⟨g, o, none⟩) 128 c) l := ⟨_, c, by rw [hl], hs⟩
  have HC := hid hc; have HS := hid hsrc; have HL := hid hl
  clear hc hs hcap hsrc hl
  have hcv1 : ∀ ob n, (convert 31 9 (.slice (some ⟨g, o, none⟩) 56 c)).run Tryz.prog ((w.alloc ob).drewN n) = .ok (.string (strOf (l.take 56))) ((w.alloc ob).drewN n) := fun ob n => by
    have h1 := HS.out.piece 0 56 c (l.take 56) (by simp) (by simp; have := HL.out; omega)
    exact conv_str (h1.only (((Only.refl (fun _ => False) w).alloc ob).trans (only_drewN _ n) (fun _ _ e => e)) (fun _ _ _ _ _ e => e))
  have hcv2 : ∀ ob n, (convert 31 9 (.slice (some ⟨g, o + 56, none⟩) 56 (c - 56))).run Tryz.prog ((w.alloc ob).drewN n) = .ok (.string (strOf ((l.drop 56).take 56))) ((w.alloc ob).drewN n) := fun ob n => by
    have h1 := HS.out.piece 56 56 (c - 56) ((l.drop 56).take 56) rfl (by simp; have := HL.out; omega)
    exact conv_str (h1.only (((Only.refl (fun _ => False) w).alloc ob).trans (only_drewN _ n) (fun _ _ e => e)) (fun _ _ _ _ _ e => e))
  by_cases hhalf : l.take 56 = (l.drop 56).take 56
  · have hse : ((strOf (List.take 56 l)).toList == (strOf (List.take 56 (List.drop 56 l))).toList) = true := by rw [← hhalf]; exact beq_self_eq_true _
    have Hhalf := hid hhalf
    clear hhalf
    go_enter Tryz.func72, Tryz.ntmps72
    go_wp2_with fail
    go_quiet (fail)
    clear hcv1 hcv2
    have hb0 : ((w.alloc (.cells #[.int .u64 0, .int .u64 0, .int .u64 0, .int .u64 0, .int .u64 0, .int .u64 0, .int .u64 0] 75)).drewN nq).heap[w.heap.size]? = some (.cells MarkM.zero.V 75 (0, 0)) := blk_new w _
    have ho0 : Only (fun _ => False) w ((w.alloc (.cells #[.int .u64 0, .int .u64 0, .int .u64 0, .int .u64 0, .int .u64 0, .int .u64 0, .int .u64 0] 75)).drewN nq) := ((Only.refl _ _).alloc _).trans (only_drewN _ _) (fun _ _ e => e)
    have hs0 : ((w.alloc (.cells #[.int .u64 0, .int .u64 0, .int .u64 0, .int .u64 0, .int .u64 0, .int .u64 0, .int .u64 0] 75)).drewN nq).heap.size = w.heap.size + 1 := by simp
    generalize (w.alloc (.cells #[.int .u64 0, .int .u64 0, .int .u64 0, .int .u64 0, .int .u64 0, .int .u64 0, .int .u64 0] 75)).drewN nq = W at hb0 ho0 hs0 ⊢
    have HCW : Hid (∀ i u, (bytesV l)[i]? = some u → W.cell? ⟨g, o + i, none⟩ = some u) := hid (fun i u hu => (World.cell?_of_block (ho0.block g (World.block_lt_of_cell? _ _ (HC.out i u hu)) (fun e => e))).trans (HC.out i u hu))
    have Hb0 := hid hb0; have Ho0 := hid ho0; have Hs0 := hid hs0
    clear hb0 ho0 hs0
    go_wp2_with fail
    go_loop [26, 5] (fun i _ => ∃ k : Nat, i = .int .i64 k ∧ k ≤ 16 ∧ ∀ j, j < k → l[112 + j]? = some 0) (fun i _ => 16 - (intOf i).toNat)
    case atStart => exact ⟨0, rfl, by omega, fun j hj => absurd hj (by omega)⟩
    case round =>
      obtain ⟨k, rfl, hk, hz⟩ := hrel
      have HZ := hid hz
      clear hz
      by_cases hk16 : k < 16
      · obtain ⟨x, hx⟩ : ∃ x, l[112 + k]? = some x := ⟨_, List.getElem?_eq_getElem (by have := HL.out; omega)⟩
        have hcell : W.cell? ⟨g, o + 112 + k, none⟩ = some (.int .u8 x.toNat) := by rw [Nat.add_assoc]; exact HCW.out (112 + k) _ (by rw [bytesV_get, hx]; rfl)
        have HX := hid hx
        clear hx
        by_cases hx0 : (x.toNat : Int) = 0
        · go_wp2_with fail
          go_round
          case rel => exact ⟨k + 1, by go_num, by omega, fun j hj => by
            by_cases e : j = k
            · rw [e, HX.out]; congr 1; exact UInt8.toNat_inj.1 (by show x.toNat = 0; omega)
            · exact HZ.out j (by omega)⟩
          case measure => simp [intOf]; omega
        · have hr : readM l = (MarkM.zero, false) := by
            have : readOk l = false := by
              cases h : readOk l with
              | false => rfl
              | true =>
                exfalso
                unfold readOk at h
                simp only [Bool.and_eq_true] at h
                have hlt : 112 + k < l.length := by have := HL.out; omega
                have h2 := all_zero_get h.2.2 k hlt
                have h3 := HX.out
                rw [List.getElem?_eq_getElem hlt, h2] at h3
                have h4 := Option.some.inj h3
                rw [← h4] at hx0; exact hx0 rfl
            unfold readM; rw [this]; rfl
          have Hr := hid hr
          clear hr
          have hxn : ((x.toNat : Int) == 0) = false := by simpa using hx0
          go_wp2_with (refine wpList_store_all rfl 75 (.tmp 2) (.tmp 32) rfl w.heap.size MarkM.zero.V rfl rfl MarkM.zero.V 75 Hb0.out rfl info_mark (V_one _) ?_; intro w3 hb3 ho3 hs3; have Hb3 := hid hb3; have Ho3 := hid ho3; clear hb3 ho3 hs3)
          refine bodyPost_ret (results_cell1 (q := 3) rfl _ _ w.heap.size 75 MarkM.zero.V _ _ rfl Hb3.out Tryz.underlying75 rfl info_mark) rfl ⟨by rw [Hr.out]; rfl, ?_⟩
          exact Ho0.out.trans Ho3.out (fun k hk e => absurd hk (by rw [e]; exact Nat.lt_irrefl _))
      · obtain rfl : k = 16 := by omega
        have hok : readOk l = true := by
          unfold readOk
          have h3 : (l.drop 112).all (· == 0) = true := by
            rw [List.all_eq_true]
            intro x hx
            obtain ⟨j, hj, rfl⟩ := List.mem_drop_iff_getElem.1 hx
            have := HZ.out j (by have := HL.out; omega)
            rw [List.getElem?_eq_getElem (by omega)] at this
            have := Option.some.inj this
            simpa [Nat.add_comm] using this
          rw [h3, HL.out, ← Hhalf.out]; simp
        have hr : readM l = (decM l, decide (0 < (decM l).s)) := by unfold readM; rw [hok]; rfl
        have Hr := hid hr
        clear hok hr HZ Hhalf hse
        have hzs : W.heap.size = w.heap.size + 1 := Hs0.out
        go_wp2_with fail
        go_loopw [34, 7, 8, 9] (fun i _ _ _ wr => ∃ k : Nat, i = .int .i64 k ∧ k ≤ 7 ∧ wr.heap[w.heap.size + 1]? = some (.cells (part l k) 75 (0, 0)) ∧ Only (fun _ => False) W wr) (fun i _ _ _ _ => 7 - (intOf i).toNat)
        case atStart =>
          refine ⟨0, rfl, by omega, ?_, (Only.refl _ _).alloc _⟩
          have := blk_new W (.cells MarkM.zero.V 75)
          rw [hzs] at this
          exact this
        case round =>
          obtain ⟨k, rfl, hk, hblk, ho⟩ := hrel
          have Ho := hid ho
          obtain ⟨w3, rfl⟩ : ∃ w3 : World, w3 = wr := ⟨_, rfl⟩
          by_cases hk7 : k < 7
          · have HBlk := hid hblk
            clear hblk ho
            go_wp2_with fail
            go_loop [37, 8, 9] (fun i n _ => ∃ j : Nat, i = .int .i64 j ∧ j ≤ 8 ∧ n = .int .u64 (deN ((l.drop (8 * k)).take j))) (fun i _ _ => 8 - (intOf i).toNat)
            case atStart => exact ⟨0, rfl, by omega, rfl⟩
            case round =>
              obtain ⟨j, rfl, hj, rfl⟩ := hrel
              by_cases hj8 : j < 8
              · have hlt : j < (l.drop (8 * k)).length := by rw [List.length_drop]; have := HL.out; omega
                have hcell : w3.cell? ⟨g, o + (8 * k + j), none⟩ = some (.int .u8 ((l.drop (8 * k))[j]).toNat) := by
                  have h1 := HCW.out (8 * k + j) (.int .u8 ((l.drop (8 * k))[j]).toNat) (by
                    rw [bytesV_get, ← List.getElem?_drop, List.getElem?_eq_getElem hlt]; rfl)
                  exact (World.cell?_of_block (Ho.out.block g (World.block_lt_of_cell? _ _ h1) (fun e => e))).trans h1
                have hst := or_step (l.drop (8 * k)) j hj8 hlt
                simp only [List.getElem_drop] at hst hcell
                have HST := hid hst
                clear hst
                go_wp2_with fail
                go_round
                case rel => exact ⟨j + 1, by go_num, by omega, by rw [HST.out]⟩
                case measure => simp [intOf]; omega
              · obtain rfl : j = 8 := by omega
                have hd : deN ((l.drop (8 * k)).take 8) = deAt l k := rfl
                rw [hd]
                clear hd
                have hfz := frozen_blk HBlk.out
                by_cases hk0 : (k : Int) = 0
                · obtain rfl : k = 0 := by omega
                  obtain ⟨x, hx⟩ := part_get l 0 0 (by omega)
                  have hcx := (cell_blk HBlk.out 0).trans hx
                  clear hx
                  go_wp2_with fail
                  go_roundw
                  case rel =>
                    have hb := blk_set HBlk.out 0 (.int .u64 (deAt l 0))
                    rw [part_set l 0 (by omega)] at hb
                    exact ⟨1, rfl, by omega, hb, Ho.out.setCell _ _ (fun h => absurd h (by show ¬ (w.heap.size + 1 < W.heap.size); omega))⟩
                  case measure => simp [intOf]
                · obtain ⟨x, hx⟩ := part_get l k k hk7
                  have hk1 : 1 ≤ (k : Int) := by omega
                  have hcx : w3.cell? ⟨w.heap.size + 1, 1 + (k - 1), none⟩ = some x := by
                    rw [show 1 + (k - 1) = k from by omega]; exact (cell_blk HBlk.out k).trans hx
                  clear hx hk0
                  go_wp2_with fail
                  go_roundw
                  case rel =>
                    have hb := blk_set HBlk.out k (.int .u64 (deAt l k))
                    rw [part_set l k hk7] at hb
                    have e : 1 + (k - 1) = k := by omega
                    refine ⟨k + 1, by go_num, by omega, ?_, Ho.out.setCell _ _ (fun h => absurd h (by show ¬ (w.heap.size + 1 < W.heap.size); omega))⟩
                    rw [e]; exact hb
                  case measure => simp [intOf]; omega
          · obtain rfl : k = 7 := by omega
            have hc := cell_blk hblk
            have c0 : w3.cell? ⟨w.heap.size + 1, 0, none⟩ = some (.int .u64 (deAt l 0)) := hc 0
            have c1 : w3.cell? ⟨w.heap.size + 1, 1, none⟩ = some (.int .u64 (deAt l 1)) := hc 1
            have c2 : w3.cell? ⟨w.heap.size + 1, 2, none⟩ = some (.int .u64 (deAt l 2)) := hc 2
            have c3 : w3.cell? ⟨w.heap.size + 1, 3, none⟩ = some (.int .u64 (deAt l 3)) := hc 3
            have c4 : w3.cell? ⟨w.heap.size + 1, 4, none⟩ = some (.int .u64 (deAt l 4)) := hc 4
            have c5 : w3.cell? ⟨w.heap.size + 1, 5, none⟩ = some (.int .u64 (deAt l 5)) := hc 5
            have c6 : w3.cell? ⟨w.heap.size + 1, 6, none⟩ = some (.int .u64 (deAt l 6)) := hc 6
            clear hc hblk ho
            have Hb4 : Hid (w3.heap[w.heap.size]? = some (.cells MarkM.zero.V 75 (0, 0))) := hid ((Ho.out.block _ (by omega) (fun e => e)).trans Hb0.out)
            go_wp2_with fail
            have Hb5 : Hid (w3.drew.heap[w.heap.size]? = some (.cells MarkM.zero.V 75 (0, 0))) := Hb4
            have z0 := frozen_blk Hb4.out
            have y0 : w3.cell? ⟨w.heap.size, 0, none⟩ = some (.int .u64 0) := cell_blk Hb4.out 0
            have y1 : w3.cell? ⟨w.heap.size, 1, none⟩ = some (.int .u64 0) := cell_blk Hb4.out 1
            have y2 : w3.cell? ⟨w.heap.size, 2, none⟩ = some (.int .u64 0) := cell_blk Hb4.out 2
            have y3 : w3.cell? ⟨w.heap.size, 3, none⟩ = some (.int .u64 0) := cell_blk Hb4.out 3
            have y4 : w3.cell? ⟨w.heap.size, 4, none⟩ = some (.int .u64 0) := cell_blk Hb4.out 4
            have y5 : w3.cell? ⟨w.heap.size, 5, none⟩ = some (.int .u64 0) := cell_blk Hb4.out 5
            have y6 : w3.cell? ⟨w.heap.size, 6, none⟩ = some (.int .u64 0) := cell_blk Hb4.out 6
            clear hzs
            go_region_held3 (fun W' => W'.cell? ⟨w.heap.size + 1, 0, none⟩ = some (.int .u64 (deAt l 0)) ∧ W'.cell? ⟨w.heap.size + 1, 1, none⟩ = some (.int .u64 (deAt l 1)) ∧ W'.cell? ⟨w.heap.size + 1, 2, none⟩ = some (.int .u64 (deAt l 2)) ∧ W'.cell? ⟨w.heap.size + 1, 3, none⟩ = some (.int .u64 (deAt l 3)) ∧ W'.cell? ⟨w.heap.size + 1, 4, none⟩ = some (.int .u64 (deAt l 4)) ∧ W'.cell? ⟨w.heap.size + 1, 5, none⟩ = some (.int .u64 (deAt l 5)) ∧ W'.cell? ⟨w.heap.size + 1, 6, none⟩ = some (.int .u64 (deAt l 6))) (go_keep) (fail)
            go_wp2_with fail
            refine bodyPost_ret (results_cell1 (q := 3) rfl _ _ w.heap.size 75 (decM l).V (0, 0) _ rfl ?_ Tryz.underlying75 rfl info_mark) rfl ⟨?_, ?_⟩
            · rw [heap_drew]
              exact set7 (a0 := .int .u64 0) (a1 := .int .u64 0) (a2 := .int .u64 0) (a3 := .int .u64 0) (a4 := .int .u64 0) (a5 := .int .u64 0) (a6 := .int .u64 0) Hb4.out (.int .u64 (deAt l 0)) (.int .u64 (deAt l 1)) (.int .u64 (deAt l 2)) (.int .u64 (deAt l 3)) (.int .u64 (deAt l 4)) (.int .u64 (deAt l 5)) (.int .u64 (deAt l 6))
            · rw [Hr.out]; rfl
            · refine (Ho0.out.trans Ho.out (fun _ _ e => e)).trans ?_ (G := fun k => k = w.heap.size) (fun k hk e => absurd hk (by rw [e]; exact Nat.lt_irrefl _))
              exact (set7_only (b := w.heap.size) w3 (.int .u64 (deAt l 0)) (.int .u64 (deAt l 1)) (.int .u64 (deAt l 2)) (.int .u64 (deAt l 3)) (.int .u64 (deAt l 4)) (.int .u64 (deAt l 5)) (.int .u64 (deAt l 6))).drew
  · have hse : ((strOf (List.take 56 l)).toList == (strOf (List.take 56 (List.drop 56 l))).toList) = false := by
      rw [strOf_list, strOf_list]; simpa using hhalf
    have hr : readM l = (MarkM.zero, false) := by
      have : readOk l = false := by unfold readOk; simp [HL.out, hhalf]
      unfold readM; rw [this]; rfl
    rw [hr]
    clear hhalf hr
    go_enter Tryz.func72, Tryz.ntmps72
    go_wp2_with fail
    go_quiet (fail)
    clear hcv1 hcv2
    go_wp2_with (refine wpList_store_all rfl 75 (.tmp 2) (.tmp 22) rfl w.heap.size MarkM.zero.V rfl rfl MarkM.zero.V 75 (blk_new w _) rfl info_mark (V_one _) ?_; intro w3 hb3 ho3 hs3; have Hb3 := hid hb3; have Ho3 := hid ho3; clear hb3 ho3 hs3)
    refine bodyPost_ret (results_cell1 (q := 3) rfl _ _ w.heap.size 75 MarkM.zero.V _ _ rfl Hb3.out Tryz.underlying75 rfl info_mark) rfl ⟨rfl, ?_⟩
    exact (((Only.refl _ w).alloc _).trans (only_drewN _ _) (fun _ _ e => e)).trans Ho3.out (fun k hk e => absurd hk (by rw [e]; exact Nat.lt_irrefl _))
end Go.Proofs.YtfmdngeooelcpaaGreat
namespace Go.Proofs.YtfmdngeooelcpaaGreat
open Go.RowKit

/-- Sector k's turn: the last mark so far, the greatest number. -/
def lookStep (k : Nat) (p : MarkM × Nat) (l : List UInt8) : MarkM × Nat :=
  (if (readM l).2 = true ∧ p.1.s < (readM l).1.s ∧ (readM l).1.s % 2 = k then (readM l).1 else p.1, max (max p.2 (deN (l.take 8))) (deN ((l.drop 56).take 8)))
def lookK (c : Nat → List UInt8) : Nat → MarkM × Nat
  | 0 => (MarkM.zero, 0)
  | k + 1 => lookStep k (lookK c k) (c k)

theorem slice_cap {g n c n' c' : Nat} {a : Option Addr} {o : Nat} (h : (.slice (some ⟨g, o, none⟩) n c : Value) = .slice a n' c') : c = c' := by
  simp only [Value.slice.injEq] at h; exact h.2.2

/-- What is told of a place at which no marks are. -/
def lookErr (n : Nat) (first : Int) : Int := if first < 0 ∨ (n : Int) - 1 ≤ first then 1 else 50

section
variable {w : World} {b : Nat} {D : DiskM} {F : Nat → Prop}
set_option maxRecDepth 100000 in
set_option maxHeartbeats 1600000 in
theorem look_no (h : DiskAt w b D F) (first : Int) (hf : first ≤ 9223372036854775807) (hno : first < 0 ∨ (D.n : Int) - 1 ≤ first ∨ D.down = true) :
    Calls Tryz.prog 43 #[.pointer (some ⟨b, 0, none⟩), .int .i64 first] w fun e w' => e = .returned (.tuple #[.agg MarkM.zero.V, .int .u64 0, .int .i64 (lookErr D.n first)]) ∧ Only (fun _ => False) w w' := by
  have hn0 := h.n0
  have HW : ∀ w1, Only (fun _ => False) w w1 → Hid (DiskAt w1 b D F) := fun w1 ho => hid (h.only ho (fun _ _ e => e))
  have HNo := hid hno
  clear h hno
  go_enter Tryz.func43, Tryz.ntmps43
  go_wp2_with fail
  go_loopw [12, 5, 6, 7, 8, 9, 10, 11] (fun i top e _ _ _ _ _ wr => i = .int .i64 0 ∧ top = .int .u64 0 ∧ e = .int .i64 0 ∧ wr.heap[w.heap.size]? = some (.cells MarkM.zero.V 75 (0, 0)) ∧ Only (fun _ => False) w wr) (fun _ _ _ _ _ _ _ _ _ => 0)
  case atStart => exact ⟨rfl, rfl, rfl, blk_new w _, (Only.refl _ _).alloc _⟩
  case round =>
    obtain ⟨rfl, rfl, rfl, hb, ho⟩ := hrel
    have Hb := hid hb; have Ho := hid ho; have HA := HW _ ho
    have HSec := hid (sectors_c HA.out)
    clear hb ho
    by_cases h1 : first < 0
    · have e1 : lookErr D.n first = 1 := if_pos (.inl h1)
      have E1 := hid e1
      clear e1
      go_wp2_with (refine wpList_store_all rfl 75 (.tmp 4) (.tmp 24) rfl w.heap.size MarkM.zero.V rfl rfl MarkM.zero.V 75 Hb.out rfl info_mark (V_one _) ?_; intro w3 hb3 ho3 hs3; have Hb3 := hid hb3; have Ho3 := hid ho3; clear hb3 ho3 hs3)
      refine bodyPost_ret (results_cell2 (q := 5) (r := 6) rfl _ _ w.heap.size 75 MarkM.zero.V _ _ rfl Hb3.out Tryz.underlying75 rfl info_mark) rfl ⟨by rw [E1.out]; rfl, ?_⟩
      exact Ho.out.trans Ho3.out (fun k hk e => absurd hk (by rw [e]; exact Nat.lt_irrefl _))
    · by_cases h2 : (D.n : Int) - 1 ≤ first
      · have e1 : lookErr D.n first = 1 := if_pos (.inr h2)
        have E1 := hid e1
        clear e1
        go_wp2_with (first | (go_at_call 42; refine HSec.out.mono ?_; rintro e w' ⟨rfl, rfl⟩) | (refine wpList_store_all rfl 75 (.tmp 4) (.tmp 24) rfl w.heap.size MarkM.zero.V rfl rfl MarkM.zero.V 75 Hb.out rfl info_mark (V_one _) ?_; intro w3 hb3 ho3 hs3; have Hb3 := hid hb3; have Ho3 := hid ho3; clear hb3 ho3 hs3))
        refine bodyPost_ret (results_cell2 (q := 5) (r := 6) rfl _ _ w.heap.size 75 MarkM.zero.V _ _ rfl Hb3.out Tryz.underlying75 rfl info_mark) rfl ⟨by rw [E1.out]; rfl, ?_⟩
        exact Ho.out.trans Ho3.out (fun k hk e => absurd hk (by rw [e]; exact Nat.lt_irrefl _))
      · have hd : D.down = true := by
          rcases HNo.out with h | h | h
          · exact absurd h h1
          · exact absurd h h2
          · exact h
        have e1 : lookErr D.n first = 50 := if_neg (by omega)
        have E1 := hid e1
        have HR := hid (read_down HA.out hd first)
        clear e1 hd
        go_wp2_with (first | (go_at_call 42; refine HSec.out.mono ?_; rintro e w' ⟨rfl, rfl⟩) | (go_at_call 44; refine HR.out.mono ?_; rintro e w' ⟨rfl, rfl⟩) | (refine wpList_store_all rfl 75 (.tmp 4) (.tmp 35) rfl w.heap.size MarkM.zero.V rfl rfl MarkM.zero.V 75 Hb.out rfl info_mark (V_one _) ?_; intro w3 hb3 ho3 hs3; have Hb3 := hid hb3; have Ho3 := hid ho3; clear hb3 ho3 hs3))
        refine bodyPost_ret (results_cell2 (q := 5) (r := 6) rfl _ _ w.heap.size 75 MarkM.zero.V _ _ rfl Hb3.out Tryz.underlying75 rfl info_mark) rfl ⟨by rw [E1.out]; rfl, ?_⟩
        exact Ho.out.trans Ho3.out (fun k hk e => absurd hk (by rw [e]; exact Nat.lt_irrefl _))

theorem MadeC.cap {w w' : World} {g c : Nat} {l : List UInt8} (h : MadeC w w' (secV g c) l g c) (hl : l.length = 128) : 128 ≤ c := by
  have := h.row.le; rw [length_bytesV, hl] at this; exact this

set_option maxRecDepth 100000 in
set_option maxHeartbeats 3200000 in
theorem look_ok (h : DiskAt w b D F) (hd : D.down = false) (first : Nat) (hf : first + 1 < D.n) :
    Calls Tryz.prog 43 #[.pointer (some ⟨b, 0, none⟩), .int .i64 first] w fun e w' => e = .returned (.tuple #[.agg (lookK (fun k => D.cur (first + k)) 2).1.V, .int .u64 (lookK (fun k => D.cur (first + k)) 2).2, .int .i64 0]) ∧ Only (fun _ => False) w w' := by
  have hn0 := h.n0
  have HW : ∀ w1, Only (fun _ => False) w w1 → Hid (DiskAt w1 b D F) := fun w1 ho => hid (h.only ho (fun _ _ e => e))
  have HLen : Hid (∀ k, k < 2 → (D.cur (first + k)).length = 128) := hid (fun k hk => h.cur_len (by omega))
  have Hd := hid hd
  clear h hd
  obtain ⟨C, hC⟩ : ∃ C : Nat → List UInt8, (fun k => D.cur (first + k)) = C := ⟨_, rfl⟩
  rw [hC]
  have HC : Hid (∀ k, D.cur (first + k) = C k) := hid (fun k => congrFun hC k)
  clear hC
  go_enter Tryz.func43, Tryz.ntmps43
  go_wp2_with fail
  go_loopw [12, 5, 6, 7, 8, 9, 10, 11] (fun i top e _ _ _ _ _ wr => ∃ k : Nat, i = .int .i64 k ∧ k ≤ 2 ∧ top = .int .u64 (lookK C k).2 ∧ e = .int .i64 0 ∧ wr.heap[w.heap.size]? = some (.cells (lookK C k).1.V 75 (0, 0)) ∧ Only (fun _ => False) w wr) (fun i _ _ _ _ _ _ _ _ => 2 - (intOf i).toNat)
  case atStart => exact ⟨0, rfl, by omega, rfl, rfl, blk_new w _, (Only.refl _ _).alloc _⟩
  case round =>
    obtain ⟨k, rfl, hk, rfl, rfl, hb, ho⟩ := hrel
    obtain ⟨w3, rfl⟩ : ∃ w3 : World, w3 = wr := ⟨_, rfl⟩
    have Hb := hid hb; have Ho := hid ho; have HA := HW _ ho
    clear hb ho
    by_cases hk2 : k < 2
    · obtain ⟨P, hP⟩ : ∃ P, lookK C k = P := ⟨_, rfl⟩
      have HP := hid hP
      rw [hP] at Hb ⊢
      clear hP
      have HSec := hid (sectors_c HA.out)
      have HR := hid (read_ok HA.out Hd.out ((first : Int) + (k : Int)) (by omega) (by omega))
      rw [show ((first : Int) + (k : Int)).toNat = first + k from by omega, HC.out k] at HR
      have HL := hid (HLen.out k hk2)
      rw [HC.out k] at HL
      go_wp2_with (first | (go_at_call 42; refine HSec.out.mono ?_; rintro e w' ⟨rfl, rfl⟩) | (go_at_call 44; refine HR.out.mono ?_; rintro e w4 ⟨g, c, rfl, hmade, ho4⟩; unfold secV; have Hmade := hid hmade; have Ho4 := hid ho4; clear hmade ho4))
      have hc128 : 128 ≤ c := Hmade.out.cap HL.out
      have hgl := Hmade.out.hi
      have HS := hid (secV_src Hmade.out.row HL.out)
      unfold secV at HS
      obtain ⟨n1, hn1⟩ : ∃ n1, deN ((C k).take 8) = n1 := ⟨_, rfl⟩
      obtain ⟨n2, hn2⟩ : ∃ n2, deN (((C k).drop 56).take 8) = n2 := ⟨_, rfl⟩
      obtain ⟨M1, hM1⟩ : ∃ M1 : Nat, max P.2 n1 = M1 := ⟨_, rfl⟩
      obtain ⟨M2, hM2⟩ : ∃ M2 : Nat, max M1 n2 = M2 := ⟨_, rfl⟩
      have hmx1 : (if P.2 < n1 then (n1 : Int) else (P.2 : Int)) = (M1 : Int) := by split <;> omega
      have hmx2 : (if M1 < n2 then (n2 : Int) else (M1 : Int)) = (M2 : Int) := by split <;> omega
      have hN1 : ∀ n, Calls Tryz.prog 71 #[.slice (some ⟨g, 0, none⟩) 128 c] (w4.drewN n) fun e w' => e = .returned (.int .u64 n1) ∧ w' = w4.drewN n := fun n => by
        rw [← hn1]
        exact (mnumber_c (w4.drewN n) _ (C k) (HS.out.only (only_drewN _ n) (fun _ _ _ _ _ e => e)) (by have := HL.out; omega) (by have := HL.out; omega) (fun a c' e => by have := slice_cap e; omega)).mono (fun e w' h => ⟨h.1, h.2.symm⟩)
      have hN2 : ∀ n, Calls Tryz.prog 71 #[.slice (some ⟨g, 56, none⟩) 72 (c - 56)] (w4.drewN n) fun e w' => e = .returned (.int .u64 n2) ∧ w' = w4.drewN n := fun n => by
        rw [← hn2]
        have hp := HS.out.piece 56 72 (c - 56) ((C k).drop 56) (by rw [List.take_of_length_le]; simp; have := HL.out; omega) (by simp; have := HL.out; omega)
        rw [Nat.zero_add] at hp
        exact (mnumber_c (w4.drewN n) _ ((C k).drop 56) (hp.only (only_drewN _ n) (fun _ _ _ _ _ e => e)) (by simp; have := HL.out; omega) (by simp; have := HL.out; omega) (fun a c' e => by have := slice_cap e; omega)).mono (fun e w' h => ⟨h.1, h.2.symm⟩)
      have HN1 := hid hN1; have HN2 := hid hN2
      have HM := hid (show max (max P.2 (deN ((C k).take 8))) (deN (((C k).drop 56).take 8)) = M2 by rw [hn1, hn2, hM1, hM2])
      clear hN1 hN2 hn1 hn2 hM1 hM2
      go_quiet ((first | (with_reducible exact Calls.quiet_of_same (HN1.out _)) | (with_reducible exact Calls.quiet_of_same (HN2.out _))))
      clear hmx1 hmx2
      obtain ⟨w5, hw5⟩ : ∃ w5, w4.drewN nq = w5 := ⟨_, rfl⟩
      have Ho35 : Hid (Only (fun _ => False) w3 (w4.drewN nq)) := hid (Ho4.out.trans (only_drewN w4 nq) (fun _ _ e => e))
      have Ho5 := hid (Ho.out.trans (Ho4.out.trans (only_drewN w4 nq) (fun _ _ e => e)) (fun _ _ e => e))
      have HRd := hid (read_ok' (w4.drewN nq) _ (C k) (HS.out.only (only_drewN _ nq) (fun _ _ _ _ _ e => e)) HL.out (fun a c' e => by have := slice_cap e; omega))
      rw [hw5] at Ho5 HRd Ho35 ⊢
      clear hw5
      obtain ⟨m, hm⟩ : ∃ m, (readM (C k)).1 = m := ⟨_, rfl⟩
      obtain ⟨ok, hok⟩ : ∃ ok, (readM (C k)).2 = ok := ⟨_, rfl⟩
      rw [hm, hok] at HRd
      have HMO := hid (And.intro hm hok)
      have Hb5 : Hid (w5.heap[w.heap.size]? = some (.cells P.1.V 75 (0, 0))) := by
        exact hid ((Ho35.out.block _ (blk_lt Hb.out) (fun e => e)).trans Hb.out)
      clear hm hok
      have hsl0 : ∃ sl : Int, (first : Int) + ((m.s % 2 : Nat) : Int) = sl := ⟨_, rfl⟩
      obtain ⟨sl, hsl⟩ := hsl0
      have HSl : ∀ w1, Hid (Calls Tryz.prog 73 #[.int .i64 first, .int .u64 m.s] w1 fun e w' => e = .returned (.int .i64 sl) ∧ w1 = w') := fun w1 => hid (by rw [← hsl]; exact slot_c w1 first m.s (by omega) (by omega))
      have Hsl := hid hsl
      clear hsl
      have HK : ∀ X : MarkM, (if ok = true ∧ P.1.s < m.s ∧ m.s % 2 = k then m else P.1) = X → Hid (lookK C (k + 1) = (X, M2)) := fun X hX => by
        have e : lookK C (k + 1) = lookStep k (lookK C k) (C k) := rfl
        rw [HP.out] at e
        unfold lookStep at e
        rw [HM.out, HMO.out.1, HMO.out.2, hX] at e
        exact hid e
      cases ok with
      | false =>
        have HLK := HK P.1 (if_neg (fun h => by cases h.1))
        go_wp2_with (first | (go_at_call 72; refine HRd.out.mono ?_; rintro e w6 ⟨rfl, ho6⟩; have Ho6 := hid ho6; have Hb6 := hid ((ho6.block _ (blk_lt Hb5.out) (fun e => e)).trans Hb5.out); clear ho6) | (refine wpList_store_all rfl 75 (.tmp 10) (.tmp 47) rfl w6.heap.size m.V rfl rfl MarkM.zero.V 75 (blk_new w6 _) rfl info_mark (V_one _) ?_; intro w7 hb7 ho7 hs7; have c7 : w7.cell? ⟨w6.heap.size, 0, none⟩ = some (.int .u64 m.s) := cell_blk hb7 0; have hb7' : w7.heap[w.heap.size]? = some (.cells P.1.V 75 (0, 0)) := (ho7.block _ (blk_lt (blk_alloc Hb6.out)) (by show ¬ w.heap.size = w6.heap.size; have := blk_lt Hb6.out; omega)).trans (blk_alloc Hb6.out); have c8 : w7.cell? ⟨w.heap.size, 0, none⟩ = some (.int .u64 P.1.s) := cell_blk hb7' 0; have Hb7 := hid hb7; have Hb7' := hid hb7'; have Ho7 := hid (Ho6.out.trans (((Only.refl (fun _ => False) w6).alloc _).trans ho7 (fun k hk e => by have e' : k = w6.heap.size := e; omega)) (fun _ _ e => e)); clear hb7 hb7' ho7 hs7))
        go_roundw
        case rel =>
          exact ⟨k + 1, by go_num, by omega, by rw [HLK.out], rfl, by rw [HLK.out]; exact Hb7'.out, Ho5.out.trans Ho7.out (fun _ _ e => e)⟩
        case measure => simp [intOf]; omega
      | true =>
        by_cases hlt : P.1.s < m.s
        · by_cases hp : m.s % 2 = k
          · have HLK := HK m (if_pos ⟨rfl, hlt, hp⟩)
            have hq : (sl == (first : Int) + (k : Int)) = true := by rw [beq_iff_eq, ← Hsl.out, hp]
            clear hp
            go_wp2_with (first | (go_at_call 72; refine HRd.out.mono ?_; rintro e w6 ⟨rfl, ho6⟩; have Ho6 := hid ho6; have Hb6 := hid ((ho6.block _ (blk_lt Hb5.out) (fun e => e)).trans Hb5.out); clear ho6) | (refine wpList_store_all rfl 75 (.tmp 10) (.tmp 47) rfl w6.heap.size m.V rfl rfl MarkM.zero.V 75 (blk_new w6 _) rfl info_mark (V_one _) ?_; intro w7 hb7 ho7 hs7; have c7 : w7.cell? ⟨w6.heap.size, 0, none⟩ = some (.int .u64 m.s) := cell_blk hb7 0; have hb7' : w7.heap[w.heap.size]? = some (.cells P.1.V 75 (0, 0)) := (ho7.block _ (blk_lt (blk_alloc Hb6.out)) (by show ¬ w.heap.size = w6.heap.size; have := blk_lt Hb6.out; omega)).trans (blk_alloc Hb6.out); have c8 : w7.cell? ⟨w.heap.size, 0, none⟩ = some (.int .u64 P.1.s) := cell_blk hb7' 0; have Hb7 := hid hb7; have Hb7' := hid hb7'; have Ho7 := hid (Ho6.out.trans (((Only.refl (fun _ => False) w6).alloc _).trans ho7 (fun k hk e => by have e' : k = w6.heap.size := e; omega)) (fun _ _ e => e)); clear hb7 hb7' ho7 hs7) | (go_at_call 73; refine (HSl _).out.mono ?_; rintro e w' ⟨rfl, rfl⟩) | (refine wpList_load_row rfl 75 (.tmp 10) rfl w6.heap.size rfl 75 m.V (0, 0) _ Hb7.out Tryz.underlying75 rfl info_mark ?_) | (refine wpList_store_all rfl 75 (.tmp 4) (.tmp 67) rfl w.heap.size m.V rfl rfl P.1.V 75 Hb7'.out rfl info_mark (V_one _) ?_; intro w8 hb8 ho8 hs8; have Hb8 := hid hb8; have Ho8 := hid ho8; clear hb8 ho8 hs8))
            go_roundw
            case rel =>
              exact ⟨k + 1, by go_num, by omega, by rw [HLK.out], rfl, by rw [HLK.out]; exact Hb8.out, (Ho5.out.trans Ho7.out (fun _ _ e => e)).trans Ho8.out (fun j hj e => by have e' : j = w.heap.size := e; omega)⟩
            case measure => simp [intOf]; omega
          · have HLK := HK P.1 (if_neg (fun h => hp h.2.2))
            have hq : (sl == (first : Int) + (k : Int)) = false := by rw [beq_eq_false_iff_ne, ← Hsl.out]; omega
            clear hp
            go_wp2_with (first | (go_at_call 72; refine HRd.out.mono ?_; rintro e w6 ⟨rfl, ho6⟩; have Ho6 := hid ho6; have Hb6 := hid ((ho6.block _ (blk_lt Hb5.out) (fun e => e)).trans Hb5.out); clear ho6) | (refine wpList_store_all rfl 75 (.tmp 10) (.tmp 47) rfl w6.heap.size m.V rfl rfl MarkM.zero.V 75 (blk_new w6 _) rfl info_mark (V_one _) ?_; intro w7 hb7 ho7 hs7; have c7 : w7.cell? ⟨w6.heap.size, 0, none⟩ = some (.int .u64 m.s) := cell_blk hb7 0; have hb7' : w7.heap[w.heap.size]? = some (.cells P.1.V 75 (0, 0)) := (ho7.block _ (blk_lt (blk_alloc Hb6.out)) (by show ¬ w.heap.size = w6.heap.size; have := blk_lt Hb6.out; omega)).trans (blk_alloc Hb6.out); have c8 : w7.cell? ⟨w.heap.size, 0, none⟩ = some (.int .u64 P.1.s) := cell_blk hb7' 0; have Hb7 := hid hb7; have Hb7' := hid hb7'; have Ho7 := hid (Ho6.out.trans (((Only.refl (fun _ => False) w6).alloc _).trans ho7 (fun k hk e => by have e' : k = w6.heap.size := e; omega)) (fun _ _ e => e)); clear hb7 hb7' ho7 hs7) | (go_at_call 73; refine (HSl _).out.mono ?_; rintro e w' ⟨rfl, rfl⟩))
            go_roundw
            case rel =>
              exact ⟨k + 1, by go_num, by omega, by rw [HLK.out], rfl, by rw [HLK.out]; exact Hb7'.out, Ho5.out.trans Ho7.out (fun _ _ e => e)⟩
            case measure => simp [intOf]; omega
        · have HLK := HK P.1 (if_neg (fun h => hlt h.2.1))
          go_wp2_with (first | (go_at_call 72; refine HRd.out.mono ?_; rintro e w6 ⟨rfl, ho6⟩; have Ho6 := hid ho6; have Hb6 := hid ((ho6.block _ (blk_lt Hb5.out) (fun e => e)).trans Hb5.out); clear ho6) | (refine wpList_store_all rfl 75 (.tmp 10) (.tmp 47) rfl w6.heap.size m.V rfl rfl MarkM.zero.V 75 (blk_new w6 _) rfl info_mark (V_one _) ?_; intro w7 hb7 ho7 hs7; have c7 : w7.cell? ⟨w6.heap.size, 0, none⟩ = some (.int .u64 m.s) := cell_blk hb7 0; have hb7' : w7.heap[w.heap.size]? = some (.cells P.1.V 75 (0, 0)) := (ho7.block _ (blk_lt (blk_alloc Hb6.out)) (by show ¬ w.heap.size = w6.heap.size; have := blk_lt Hb6.out; omega)).trans (blk_alloc Hb6.out); have c8 : w7.cell? ⟨w.heap.size, 0, none⟩ = some (.int .u64 P.1.s) := cell_blk hb7' 0; have Hb7 := hid hb7; have Hb7' := hid hb7'; have Ho7 := hid (Ho6.out.trans (((Only.refl (fun _ => False) w6).alloc _).trans ho7 (fun k hk e => by have e' : k = w6.heap.size := e; omega)) (fun _ _ e => e)); clear hb7 hb7' ho7 hs7))
          go_roundw
          case rel =>
            exact ⟨k + 1, by go_num, by omega, by rw [HLK.out], rfl, by rw [HLK.out]; exact Hb7'.out, Ho5.out.trans Ho7.out (fun _ _ e => e)⟩
          case measure => simp [intOf]; omega
    · obtain rfl : k = 2 := by omega
      go_wp2_with (first | (refine wpList_load_row rfl 75 (.tmp 4) rfl w.heap.size rfl 75 (lookK C 2).1.V (0, 0) _ Hb.out Tryz.underlying75 rfl info_mark ?_) | (refine wpList_store_all rfl 75 (.tmp 4) (.tmp 69) rfl w.heap.size (lookK C 2).1.V rfl rfl (lookK C 2).1.V 75 Hb.out rfl info_mark (V_one _) ?_; intro w8 hb8 ho8 hs8; have Hb8 := hid hb8; have Ho8 := hid ho8; clear hb8 ho8 hs8))
      refine bodyPost_ret (results_cell2 (q := 5) (r := 6) rfl _ _ w.heap.size 75 (lookK C 2).1.V _ _ rfl Hb8.out Tryz.underlying75 rfl info_mark) rfl ⟨rfl, ?_⟩
      exact Ho.out.trans Ho8.out (fun k hk e => absurd hk (by rw [e]; exact Nat.lt_irrefl _))
end
end Go.Proofs.YtfmdngeooelcpaaGreat
namespace Go.Proofs.YtfmdngeooelcpaaGreat
open Go.RowKit

section
variable {P : Program} {ops : Array Oper} {rest : List Oper} {o : Oper} {a : Act} {Q : Exit → Act → World → Prop} {w : World}
/-- copy into the middle of a block that is known whole. -/
theorem wp_cpy_in {K : Act → World → Prop} (d s : Operand) (dT sT : TypeId)
    (ho : o.op = .call { callee := .builtin .copy, args := #[d, s], argTypes := #[dT, sT] }) (e : TypeId) (hu : P.underlying dT = some (.slice e)) (hsz : (P.info? e).map (·.size) = some 1)
    (g off dLen dCap : Nat) (hd : a.eval d = .slice (some ⟨g, off, none⟩) dLen dCap) (cur : Array Value) (t : TypeId) (hg : w.heap[g]? = some (.cells cur t (0, 0)))
    (sp : Option Addr) (sLen sCap : Nat) (hs : a.eval s = .slice sp sLen sCap) (cs : List Value) (hn : cs.length = min sLen dLen)
    (hsrc : 0 < cs.length → ∃ ad, sp = some ad ∧ ∀ j v, cs[j]? = some v → w.cell? (ad.add j) = some v)
    (hfit : off + cs.length ≤ cur.size) (h1 : ∀ v ∈ cs, v.oneCell' = true)
    (h : ∀ w', w'.heap[g]? = some (.cells (lay cur.toList off cs).toArray t (0, 0)) → Only (fun k => k = g) w w' → w'.heap.size = w.heap.size → K (a.put o.dst (.int .i64 cs.length)) w') :
    o.wp P a w K Q := by
  obtain ⟨i, hi, hi1⟩ := Option.map_eq_some_iff.1 hsz
  have hmin : min sLen dLen = cs.length := hn.symm
  have hmin' : Nat.min sLen dLen = cs.length := hn.symm
  have hfc : (Builtin.firstCells 1 cs.length (.slice sp sLen sCap)).run P w = .ok cs.toArray w := by
    rcases Nat.eq_zero_or_pos cs.length with h0 | h0
    · obtain rfl : cs = [] := List.eq_nil_of_length_eq_zero h0
      cases sp <;> simp [Builtin.firstCells, loadCells, loadCellsFrom]
    · obtain ⟨ad, rfl, hc⟩ := hsrc h0
      exact run_firstCells_some (P := P) w 1 cs.length ad sLen sCap cs (by simp) hc
  have hst := run_storeCells_at (P := P) g off t cs 0 cur w hg (by omega) h1
  have hr : (Builtin.copy_ #[dT, sT] o.type #[.slice (some ⟨g, off, none⟩) dLen dCap, .slice sp sLen sCap]).run P w = .ok (.int .i64 cs.length) (w.setRow g (lay cur.toList off cs).toArray) := by
    simp only [Nat.add_zero] at hst
    simp [Builtin.copy_, run_underlying hu, sizeOf, typeInfo, hi, hi1, Builtin.lenOf, hmin', hfc, hst, goInt, lay]
  unfold Oper.wp execOp
  simp only [ho, resolve, invoke, builtin, Sem.run_bind, Sem.run_pure, Result.andThen_ok, List.map_toArray, List.map_cons, List.map_nil, hd, hs, hr]
  exact h _ (setRow_heap w g cur _ t _ hg) ((Only.refl _ _).setRow _ _ (fun _ => rfl)) (by simp [World.setRow])
theorem wpList_cpy_in (hgd : o.guard = none) (d s : Operand) (dT sT : TypeId)
    (ho : o.op = .call { callee := .builtin .copy, args := #[d, s], argTypes := #[dT, sT] }) (e : TypeId) (hu : P.underlying dT = some (.slice e)) (hsz : (P.info? e).map (·.size) = some 1)
    (g off dLen dCap : Nat) (hd : a.eval d = .slice (some ⟨g, off, none⟩) dLen dCap) (cur : Array Value) (t : TypeId) (hg : w.heap[g]? = some (.cells cur t (0, 0)))
    (sp : Option Addr) (sLen sCap : Nat) (hs : a.eval s = .slice sp sLen sCap) (cs : List Value) (hn : cs.length = min sLen dLen)
    (hsrc : 0 < cs.length → ∃ ad, sp = some ad ∧ ∀ j v, cs[j]? = some v → w.cell? (ad.add j) = some v)
    (hfit : off + cs.length ≤ cur.size) (h1 : ∀ v ∈ cs, v.oneCell' = true)
    (h : ∀ w', w'.heap[g]? = some (.cells (lay cur.toList off cs).toArray t (0, 0)) → Only (fun k => k = g) w w' → w'.heap.size = w.heap.size → wpList P ops Q rest (a.put o.dst (.int .i64 cs.length)) w') :
    wpList P ops Q (o :: rest) a w :=
  wpList_plain hgd fun _ hK => wp_cpy_in d s dT sT ho e hu hsz g off dLen dCap hd cur t hg sp sLen sCap hs cs hn hsrc hfit h1 (fun x0 x1 x2 x3 => hK _ _ (h x0 x1 x2 x3))
end

/-- What two sectors tell: the last mark, the greatest number, the error. -/
def lookR (D : DiskM) (first : Int) : MarkM × Nat × Int :=
  if first < 0 ∨ (D.n : Int) - 1 ≤ first ∨ D.down = true then (MarkM.zero, 0, lookErr D.n first)
  else ((lookK (fun k => D.cur (first.toNat + k)) 2).1, (lookK (fun k => D.cur (first.toNat + k)) 2).2, 0)
def getR (D : DiskM) (first : Int) : MarkM × Int :=
  if (lookR D first).2.2 = 0 then (if (lookR D first).1.s = 0 then (MarkM.zero, 4) else ((lookR D first).1, 0)) else (MarkM.zero, (lookR D first).2.2)

section
variable {w : World} {b : Nat} {D : DiskM} {F : Nat → Prop}
theorem look_c (h : DiskAt w b D F) (first : Int) (hf : first ≤ 9223372036854775807) :
    Calls Tryz.prog 43 #[.pointer (some ⟨b, 0, none⟩), .int .i64 first] w fun e w' => e = .returned (.tuple #[.agg (lookR D first).1.V, .int .u64 (lookR D first).2.1, .int .i64 (lookR D first).2.2]) ∧ Only (fun _ => False) w w' := by
  unfold lookR
  by_cases hno : first < 0 ∨ (D.n : Int) - 1 ≤ first ∨ D.down = true
  · rw [if_pos hno]; exact look_no h first hf hno
  · rw [if_neg hno]
    obtain ⟨f, rfl⟩ : ∃ f : Nat, first = f := ⟨first.toNat, by omega⟩
    have hd : D.down = false := by cases hd : D.down <;> simp_all
    exact look_ok h hd f (by omega)

set_option maxRecDepth 100000 in
set_option maxHeartbeats 1600000 in
theorem get_c (h : DiskAt w b D F) (first : Int) (hf : first ≤ 9223372036854775807) :
    Calls Tryz.prog 20 #[.pointer (some ⟨b, 0, none⟩), .int .i64 first] w fun e w' => e = .returned (.tuple #[.agg (getR D first).1.V, .int .i64 (getR D first).2]) ∧ Only (fun _ => False) w w' := by
  have HA : ∀ ob, Hid (DiskAt (w.alloc ob) b D F) := fun ob => hid (h.only ((Only.refl (fun _ => False) w).alloc ob) (fun _ _ e => e))
  clear h
  have HLk := fun ob => hid (look_c (HA ob).out first hf)
  have HG := hid (show getR D first = (if (lookR D first).2.2 = 0 then (if (lookR D first).1.s = 0 then (MarkM.zero, 4) else ((lookR D first).1, 0)) else (MarkM.zero, (lookR D first).2.2)) from rfl)
  obtain ⟨G, hG⟩ : ∃ G, getR D first = G := ⟨_, rfl⟩
  obtain ⟨m, hm⟩ : ∃ m, (lookR D first).1 = m := ⟨_, rfl⟩
  obtain ⟨top, htop⟩ : ∃ top, (lookR D first).2.1 = top := ⟨_, rfl⟩
  obtain ⟨err, herr⟩ : ∃ err, (lookR D first).2.2 = err := ⟨_, rfl⟩
  rw [hG] at HG ⊢
  rw [hm, herr] at HG
  simp only [hm, htop, herr] at HLk
  clear hG hm htop herr
  have HS : ∀ w2 : World, Only (fun _ => False) (w.alloc (.cells MarkM.zero.V 75)) w2 → Hid (w2.heap[w.heap.size]? = some (.cells MarkM.zero.V 75 (0, 0))) := fun w2 ho => hid ((ho.block w.heap.size (by simp) (fun e => e)).trans (blk_new w _))
  by_cases he : err = 0
  · have he1 : (err == 0) = true := by simpa using he
    by_cases hs : m.s = 0
    · have hG := HG.out
      rw [if_pos he, if_pos hs] at hG
      have HG2 := hid hG
      have hs1 : ((m.s : Int) == 0) = true := by rw [hs]; rfl
      clear hG hs he
      go_enter Tryz.func20, Tryz.ntmps20
      go_wp2_with (first | (go_at_call 43; refine (HLk _).out.mono ?_; rintro e w2 ⟨rfl, ho2⟩; have Hb2 := HS w2 ho2; have Ho2 := hid ho2; clear ho2) | (refine wpList_store_all rfl 75 (.tmp 6) (.tmp 13) rfl w2.heap.size m.V rfl rfl MarkM.zero.V 75 (blk_new w2 _) rfl info_mark (V_one _) ?_; intro w3 hb3 ho3 hs3; have c0 : w3.cell? ⟨w2.heap.size, 0, none⟩ = some (.int .u64 m.s) := cell_blk hb3 0; have Hb3 := hid hb3; have Hb3' := hid ((ho3.block w.heap.size (blk_lt (blk_alloc Hb2.out)) (by show ¬ w.heap.size = w2.heap.size; have := blk_lt Hb2.out; omega)).trans (blk_alloc Hb2.out)); have Ho3 := hid (Ho2.out.trans (((Only.refl (fun _ => False) w2).alloc _).trans ho3 (fun k hk e => by have e' : k = w2.heap.size := e; omega)) (fun _ _ e => e)); clear hb3 ho3 hs3) | (refine wpList_store_all rfl 75 (.tmp 4) (.tmp 25) rfl w.heap.size MarkM.zero.V rfl rfl MarkM.zero.V 75 Hb3'.out rfl info_mark (V_one _) ?_; intro w4 hb4 ho4 hs4; have Hb4 := hid hb4; have Ho4 := hid ho4; clear hb4 ho4 hs4))
      refine bodyPost_ret (results_cell1 (q := 5) rfl _ _ w.heap.size 75 MarkM.zero.V _ _ rfl Hb4.out Tryz.underlying75 rfl info_mark) rfl ⟨by rw [HG2.out]; rfl, ?_⟩
      exact (((Only.refl _ w).alloc _).trans Ho3.out (fun _ _ e => e)).trans Ho4.out (fun k hk e => absurd hk (by rw [e]; exact Nat.lt_irrefl _))
    · have hG := HG.out
      rw [if_pos he, if_neg hs] at hG
      have HG2 := hid hG
      have hs1 : ((m.s : Int) == 0) = false := by simpa using hs
      clear hG he
      go_enter Tryz.func20, Tryz.ntmps20
      go_wp2_with (first | (go_at_call 43; refine (HLk _).out.mono ?_; rintro e w2 ⟨rfl, ho2⟩; have Hb2 := HS w2 ho2; have Ho2 := hid ho2; clear ho2) | (refine wpList_store_all rfl 75 (.tmp 6) (.tmp 13) rfl w2.heap.size m.V rfl rfl MarkM.zero.V 75 (blk_new w2 _) rfl info_mark (V_one _) ?_; intro w3 hb3 ho3 hs3; have c0 : w3.cell? ⟨w2.heap.size, 0, none⟩ = some (.int .u64 m.s) := cell_blk hb3 0; have Hb3 := hid hb3; have Hb3' := hid ((ho3.block w.heap.size (blk_lt (blk_alloc Hb2.out)) (by show ¬ w.heap.size = w2.heap.size; have := blk_lt Hb2.out; omega)).trans (blk_alloc Hb2.out)); have Ho3 := hid (Ho2.out.trans (((Only.refl (fun _ => False) w2).alloc _).trans ho3 (fun k hk e => by have e' : k = w2.heap.size := e; omega)) (fun _ _ e => e)); clear hb3 ho3 hs3) | (refine wpList_load_row rfl 75 (.tmp 6) rfl w2.heap.size rfl 75 m.V (0, 0) _ Hb3.out Tryz.underlying75 rfl info_mark ?_) | (refine wpList_store_all rfl 75 (.tmp 4) (.tmp 26) rfl w.heap.size m.V rfl rfl MarkM.zero.V 75 Hb3'.out rfl info_mark (V_one _) ?_; intro w4 hb4 ho4 hs4; have Hb4 := hid hb4; have Ho4 := hid ho4; clear hb4 ho4 hs4))
      refine bodyPost_ret (results_cell1 (q := 5) rfl _ _ w.heap.size 75 m.V _ _ rfl Hb4.out Tryz.underlying75 rfl info_mark) rfl ⟨by rw [HG2.out]; rfl, ?_⟩
      exact (((Only.refl _ w).alloc _).trans Ho3.out (fun _ _ e => e)).trans Ho4.out (fun k hk e => absurd hk (by rw [e]; exact Nat.lt_irrefl _))
  · have hG := HG.out
    rw [if_neg he] at hG
    have HG2 := hid hG
    have he1 : (err == 0) = false := by simpa using he
    clear hG
    go_enter Tryz.func20, Tryz.ntmps20
    go_wp2_with (first | (go_at_call 43; refine (HLk _).out.mono ?_; rintro e w2 ⟨rfl, ho2⟩; have Hb2 := HS w2 ho2; have Ho2 := hid ho2; clear ho2) | (refine wpList_store_all rfl 75 (.tmp 6) (.tmp 13) rfl w2.heap.size m.V rfl rfl MarkM.zero.V 75 (blk_new w2 _) rfl info_mark (V_one _) ?_; intro w3 hb3 ho3 hs3; have Hb3' := hid ((ho3.block w.heap.size (blk_lt (blk_alloc Hb2.out)) (by show ¬ w.heap.size = w2.heap.size; have := blk_lt Hb2.out; omega)).trans (blk_alloc Hb2.out)); have Ho3 := hid (Ho2.out.trans (((Only.refl (fun _ => False) w2).alloc _).trans ho3 (fun k hk e => by have e' : k = w2.heap.size := e; omega)) (fun _ _ e => e)); clear hb3 ho3 hs3) | (refine wpList_store_all rfl 75 (.tmp 4) (.tmp 19) rfl w.heap.size MarkM.zero.V rfl rfl MarkM.zero.V 75 Hb3'.out rfl info_mark (V_one _) ?_; intro w4 hb4 ho4 hs4; have Hb4 := hid hb4; have Ho4 := hid ho4; clear hb4 ho4 hs4))
    refine bodyPost_ret (results_cell1 (q := 5) rfl _ _ w.heap.size 75 MarkM.zero.V _ _ rfl Hb4.out Tryz.underlying75 rfl info_mark) rfl ⟨by rw [HG2.out]; rfl, ?_⟩
    exact (((Only.refl _ w).alloc _).trans Ho3.out (fun _ _ e => e)).trans Ho4.out (fun k hk e => absurd hk (by rw [e]; exact Nat.lt_irrefl _))
end
end Go.Proofs.YtfmdngeooelcpaaGreat
namespace Go.Proofs.YtfmdngeooelcpaaGreat
open Go.RowKit

def mkMark (s : Nat) (xs : List Nat) : MarkM := ⟨s, xs.getD 0 0, xs.getD 1 0, xs.getD 2 0, xs.getD 3 0, xs.getD 4 0, xs.getD 5 0⟩
def nextSeq (last top : Nat) : Nat := if 0 < last ∧ (top + 1) % 2 = last % 2 then top + 2 else top + 1
def nat64 (xs : List Nat) : List Value := xs.map fun x => Value.int .u64 (x : Nat)
@[simp] theorem length_nat64 (xs : List Nat) : (nat64 xs).length = xs.length := by simp [nat64]
def topMax : Nat := 18446744073709551613
def putMark (D : DiskM) (first : Int) (xs : List Nat) : MarkM := mkMark (nextSeq (lookR D first).1.s (lookR D first).2.1) xs
/-- A mark is put: the disk then, the mark, the error. -/
def putGo (D : DiskM) (first : Int) (m : MarkM) : DiskM × MarkM × Int :=
  if (D.write (first + (m.s % 2 : Nat)) (enc m)).2 ≠ 0 then ((D.write (first + (m.s % 2 : Nat)) (enc m)).1, MarkM.zero, (D.write (first + (m.s % 2 : Nat)) (enc m)).2)
  else if (D.write (first + (m.s % 2 : Nat)) (enc m)).1.flush.2 ≠ 0 then ((D.write (first + (m.s % 2 : Nat)) (enc m)).1.flush.1, MarkM.zero, (D.write (first + (m.s % 2 : Nat)) (enc m)).1.flush.2)
  else ((D.write (first + (m.s % 2 : Nat)) (enc m)).1.flush.1, m, 0)
def putR (D : DiskM) (first : Int) (xs : List Nat) : DiskM × MarkM × Int :=
  if (lookR D first).2.2 ≠ 0 then (D, MarkM.zero, (lookR D first).2.2)
  else if 6 < xs.length then (D, MarkM.zero, 2)
  else if topMax < (lookR D first).2.1 then (D, MarkM.zero, 3)
  else putGo D first (putMark D first xs)

theorem lay_mark (s : Nat) (xs : List Nat) (h : xs.length ≤ 6) : lay [Value.int .u64 (s : Nat), .int .u64 0, .int .u64 0, .int .u64 0, .int .u64 0, .int .u64 0, .int .u64 0] 1 (nat64 xs) = (mkMark s xs).V.toList := by
  match xs, h with
  | [], _ => rfl
  | [a], _ => rfl
  | [a, b], _ => rfl
  | [a, b, c], _ => rfl
  | [a, b, c, d], _ => rfl
  | [a, b, c, d, e], _ => rfl
  | [a, b, c, d, e, f], _ => rfl
  | _ :: _ :: _ :: _ :: _ :: _ :: _ :: l, h => simp at h
theorem mk_ok (s : Nat) (xs : List Nat) (hs : s < 18446744073709551616) (h : ∀ x ∈ xs, x < 18446744073709551616) : (mkMark s xs).ok := by
  have hg : ∀ i, xs.getD i 0 < 18446744073709551616 := fun i => by
    rw [List.getD_eq_getElem?_getD]
    cases hi : xs[i]? with
    | none => simp
    | some x => exact h x (List.mem_of_getElem? hi)
  intro n hn
  simp only [mkMark, MarkM.nums, List.mem_cons, List.not_mem_nil, or_false] at hn
  rcases hn with rfl | rfl | rfl | rfl | rfl | rfl | rfl
  · exact hs
  all_goals exact hg _

theorem set_first {w : World} {b : Nat} {a0 a1 a2 a3 a4 a5 a6 : Value} {T : TypeId} (h : w.heap[b]? = some (.cells #[a0, a1, a2, a3, a4, a5, a6] T (0, 0))) (v : Value) : (w.setCell ⟨b, 0, none⟩ v).heap[b]? = some (.cells #[v, a1, a2, a3, a4, a5, a6] T (0, 0)) := by
  have h0 := blk_set h 0 v
  simp only [List.setIfInBounds_toArray, List.set_cons_zero] at h0
  exact h0

section
variable {w : World} {b : Nat} {D : DiskM} {F : Nat → Prop}
set_option maxRecDepth 100000 in
set_option maxHeartbeats 1600000 in
theorem put_no (h : DiskAt w b D F) (first : Int) (hf : first ≤ 9223372036854775807) (v : Value) (xs : List Nat) (hv : SrcV w v (nat64 xs)) (hxl : xs.length ≤ 9223372036854775807)
    (hno : (lookR D first).2.2 ≠ 0 ∨ 6 < xs.length ∨ topMax < (lookR D first).2.1) :
    Calls Tryz.prog 61 #[.pointer (some ⟨b, 0, none⟩), .int .i64 first, v] w fun e w' => e = .returned (.tuple #[.agg MarkM.zero.V, .int .i64 (putR D first xs).2.2]) ∧ Only (fun _ => False) w w' ∧ (putR D first xs).1 = D ∧ (putR D first xs).2.1 = MarkM.zero := by
  have HA : ∀ ob, Hid (DiskAt (w.alloc ob) b D F) := fun ob => hid (h.only ((Only.refl (fun _ => False) w).alloc ob) (fun _ _ e => e))
  clear h
  obtain ⟨a, c, rfl, -⟩ := hv
  rw [length_nat64]
  have HLk := fun ob => hid (look_c (HA ob).out first hf)
  obtain ⟨G, hG⟩ : ∃ G, putR D first xs = G := ⟨_, rfl⟩
  have hG1 := hG
  unfold putR at hG1
  rw [hG]
  obtain ⟨m, hm⟩ : ∃ m, (lookR D first).1 = m := ⟨_, rfl⟩
  obtain ⟨top, htop⟩ : ∃ top, (lookR D first).2.1 = top := ⟨_, rfl⟩
  obtain ⟨err, herr⟩ : ∃ err, (lookR D first).2.2 = err := ⟨_, rfl⟩
  rw [herr, htop] at hG1 hno
  simp only [hm, htop, herr] at HLk
  clear hG hm htop herr
  have HS : ∀ w2 : World, Only (fun _ => False) (w.alloc (.cells MarkM.zero.V 75)) w2 → Hid (w2.heap[w.heap.size]? = some (.cells MarkM.zero.V 75 (0, 0))) := fun w2 ho => hid ((ho.block w.heap.size (by simp) (fun e => e)).trans (blk_new w _))
  by_cases he : err = 0
  · have he1 : (err == 0) = true := by simpa using he
    rw [if_neg (by simpa using he)] at hG1
    by_cases hx : 6 < (xs.length : Int)
    · rw [if_pos (by omega)] at hG1
      have HG2 := hid hG1
      clear hG1 hno he
      go_enter Tryz.func61, Tryz.ntmps61
      go_wp2_with (first | (go_at_call 43; refine (HLk _).out.mono ?_; rintro e w2 ⟨rfl, ho2⟩; have Hb2 := HS w2 ho2; have Ho2 := hid ho2; clear ho2) | (refine wpList_store_all rfl 75 (.tmp 8) (.tmp 18) rfl w2.heap.size m.V rfl rfl MarkM.zero.V 75 (blk_new w2 _) rfl info_mark (V_one _) ?_; intro w3 hb3 ho3 hs3; have c0 : w3.cell? ⟨w2.heap.size, 0, none⟩ = some (.int .u64 m.s) := cell_blk hb3 0; have Hb3 := hid hb3; have Hb3' := hid ((ho3.block w.heap.size (blk_lt (blk_alloc Hb2.out)) (by show ¬ w.heap.size = w2.heap.size; have := blk_lt Hb2.out; omega)).trans (blk_alloc Hb2.out)); have Ho3 := hid (Ho2.out.trans (((Only.refl (fun _ => False) w2).alloc _).trans ho3 (fun k hk e => by have e' : k = w2.heap.size := e; omega)) (fun _ _ e => e)); clear hb3 ho3 hs3) | (refine wpList_store_all rfl 75 (.tmp 6) (.tmp 30) rfl w.heap.size MarkM.zero.V rfl rfl MarkM.zero.V 75 Hb3'.out rfl info_mark (V_one _) ?_; intro w4 hb4 ho4 hs4; have Hb4 := hid hb4; have Ho4 := hid ho4; clear hb4 ho4 hs4))
      refine bodyPost_ret (results_cell1 (q := 7) rfl _ _ w.heap.size 75 MarkM.zero.V _ _ rfl Hb4.out Tryz.underlying75 rfl info_mark) rfl ⟨by rw [← HG2.out]; rfl, ?_, by rw [← HG2.out], by rw [← HG2.out]⟩
      exact (((Only.refl _ w).alloc _).trans Ho3.out (fun _ _ e => e)).trans Ho4.out (fun k hk e => absurd hk (by rw [e]; exact Nat.lt_irrefl _))
    · rw [if_neg (by omega), if_pos (by rcases hno with h | h | h; exact absurd he h; omega; exact h)] at hG1
      have HG2 := hid hG1
      have htop : ((18446744073709551613 : Int) < (top : Int)) := by
        have : topMax < top := by rcases hno with h | h | h; exact absurd he h; omega; exact h
        unfold topMax at this; omega
      clear hG1 hno he
      go_enter Tryz.func61, Tryz.ntmps61
      go_wp2_with (first | (go_at_call 43; refine (HLk _).out.mono ?_; rintro e w2 ⟨rfl, ho2⟩; have Hb2 := HS w2 ho2; have Ho2 := hid ho2; clear ho2) | (refine wpList_store_all rfl 75 (.tmp 8) (.tmp 18) rfl w2.heap.size m.V rfl rfl MarkM.zero.V 75 (blk_new w2 _) rfl info_mark (V_one _) ?_; intro w3 hb3 ho3 hs3; have c0 : w3.cell? ⟨w2.heap.size, 0, none⟩ = some (.int .u64 m.s) := cell_blk hb3 0; have Hb3 := hid hb3; have Hb3' := hid ((ho3.block w.heap.size (blk_lt (blk_alloc Hb2.out)) (by show ¬ w.heap.size = w2.heap.size; have := blk_lt Hb2.out; omega)).trans (blk_alloc Hb2.out)); have Ho3 := hid (Ho2.out.trans (((Only.refl (fun _ => False) w2).alloc _).trans ho3 (fun k hk e => by have e' : k = w2.heap.size := e; omega)) (fun _ _ e => e)); clear hb3 ho3 hs3) | (refine wpList_store_all rfl 75 (.tmp 6) (.tmp 34) rfl w.heap.size MarkM.zero.V rfl rfl MarkM.zero.V 75 Hb3'.out rfl info_mark (V_one _) ?_; intro w4 hb4 ho4 hs4; have Hb4 := hid hb4; have Ho4 := hid ho4; clear hb4 ho4 hs4))
      refine bodyPost_ret (results_cell1 (q := 7) rfl _ _ w.heap.size 75 MarkM.zero.V _ _ rfl Hb4.out Tryz.underlying75 rfl info_mark) rfl ⟨by rw [← HG2.out]; rfl, ?_, by rw [← HG2.out], by rw [← HG2.out]⟩
      exact (((Only.refl _ w).alloc _).trans Ho3.out (fun _ _ e => e)).trans Ho4.out (fun k hk e => absurd hk (by rw [e]; exact Nat.lt_irrefl _))
  · have he1 : (err == 0) = false := by simpa using he
    rw [if_pos (by simpa using he)] at hG1
    have HG2 := hid hG1
    clear hG1 hno
    go_enter Tryz.func61, Tryz.ntmps61
    go_wp2_with (first | (go_at_call 43; refine (HLk _).out.mono ?_; rintro e w2 ⟨rfl, ho2⟩; have Hb2 := HS w2 ho2; have Ho2 := hid ho2; clear ho2) | (refine wpList_store_all rfl 75 (.tmp 8) (.tmp 18) rfl w2.heap.size m.V rfl rfl MarkM.zero.V 75 (blk_new w2 _) rfl info_mark (V_one _) ?_; intro w3 hb3 ho3 hs3; have c0 : w3.cell? ⟨w2.heap.size, 0, none⟩ = some (.int .u64 m.s) := cell_blk hb3 0; have Hb3 := hid hb3; have Hb3' := hid ((ho3.block w.heap.size (blk_lt (blk_alloc Hb2.out)) (by show ¬ w.heap.size = w2.heap.size; have := blk_lt Hb2.out; omega)).trans (blk_alloc Hb2.out)); have Ho3 := hid (Ho2.out.trans (((Only.refl (fun _ => False) w2).alloc _).trans ho3 (fun k hk e => by have e' : k = w2.heap.size := e; omega)) (fun _ _ e => e)); clear hb3 ho3 hs3) | (refine wpList_store_all rfl 75 (.tmp 6) (.tmp 24) rfl w.heap.size MarkM.zero.V rfl rfl MarkM.zero.V 75 Hb3'.out rfl info_mark (V_one _) ?_; intro w4 hb4 ho4 hs4; have Hb4 := hid hb4; have Ho4 := hid ho4; clear hb4 ho4 hs4))
    refine bodyPost_ret (results_cell1 (q := 7) rfl _ _ w.heap.size 75 MarkM.zero.V _ _ rfl Hb4.out Tryz.underlying75 rfl info_mark) rfl ⟨by rw [← HG2.out]; rfl, ?_, by rw [← HG2.out], by rw [← HG2.out]⟩
    exact (((Only.refl _ w).alloc _).trans Ho3.out (fun _ _ e => e)).trans Ho4.out (fun k hk e => absurd hk (by rw [e]; exact Nat.lt_irrefl _))

theorem blkMark {w : World} {g : Nat} {s : Int} {n : Nat} {xs : List Nat} (hs : s = n) (h6 : xs.length ≤ 6) (h : w.heap[g]? = some (.cells (lay (#[.int .u64 s, .int .u64 0, .int .u64 0, .int .u64 0, .int .u64 0, .int .u64 0, .int .u64 0] : Array Value).toList 1 (nat64 xs)).toArray 75 (0, 0))) : w.heap[g]? = some (.cells (mkMark n xs).V 75 (0, 0)) := by
  subst hs
  rw [h]
  have := lay_mark n xs h6
  simp only [this, Array.toArray_toList]

/-- What stands behind the write: the disk, and two blocks of the call's own. -/
structure PutW (w w8 : World) (b : Nat) (WD : DiskM) (F F8 : Nat → Prop) (g1 g2 : Nat) (o1 o2 : Obj) : Prop where
  disk : DiskAt w8 b WD F8
  only : Only F w w8
  new : ∀ k, F8 k → F k ∨ w.heap.size ≤ k
  n1 : ¬ F8 g1
  n2 : ¬ F8 g2
  b1 : w8.heap[g1]? = some o1
  b2 : w8.heap[g2]? = some o2
  l1 : w.heap.size ≤ g1
theorem PutW.mk' {w w7 w8 : World} {b : Nat} {WD : DiskM} {F : Nat → Prop} {g1 g2 : Nat} {o1 o2 : Obj} (h : DStep w7 w8 b WD F) (ho : Only (fun _ => False) w w7) (hlt : ∀ k, F k → k < w.heap.size) (l1 : w.heap.size ≤ g1) (l2 : w.heap.size ≤ g2) (h1 : w7.heap[g1]? = some o1) (h2 : w7.heap[g2]? = some o2) :
    ∃ F8, PutW w w8 b WD F F8 g1 g2 o1 o2 := by
  obtain ⟨F8, hd, hon, hn⟩ := h
  have n1 : ¬ F g1 := fun e => by have := hlt _ e; omega
  have n2 : ¬ F g2 := fun e => by have := hlt _ e; omega
  refine ⟨F8, hd, (ho.mono (fun _ _ e => e.elim)).trans hon (fun _ _ e => e), fun k hk => ?_, fun e => ?_, fun e => ?_, blk_only h1 hon n1, blk_only h2 hon n2, l1⟩
  · rcases hn k hk with e | e
    · exact .inl e
    · have := ho.size; exact .inr (by omega)
  · rcases hn _ e with e | e
    · exact n1 e
    · have := blk_lt h1; omega
  · rcases hn _ e with e | e
    · exact n2 e
    · have := blk_lt h2; omega
theorem PutW.step {w w8 w9 : World} {b : Nat} {WD WD' : DiskM} {F F8 : Nat → Prop} {g1 g2 : Nat} {o1 o2 : Obj} (h : PutW w w8 b WD F F8 g1 g2 o1 o2) (hd : DiskAt w9 b WD' F8) (hon : Only F8 w8 w9) : PutW w w9 b WD' F F8 g1 g2 o1 o2 :=
  ⟨hd, h.only.trans hon (fun k hk e => (h.new k e).resolve_right (by omega)), h.new, h.n1, h.n2, blk_only h.b1 hon h.n1, blk_only h.b2 hon h.n2, h.l1⟩
theorem PutW.done {w w8 w9 : World} {b : Nat} {WD : DiskM} {F F8 : Nat → Prop} {g1 g2 : Nat} {o1 o2 : Obj} (h : PutW w w8 b WD F F8 g1 g2 o1 o2) (ho : Only (fun k => k = g1) w8 w9) : DStep w w9 b WD F :=
  ⟨F8, h.disk.only ho (fun k hk e => h.n1 (by have e' : k = g1 := e; rw [← e']; exact hk)), h.only.trans ho (fun k hk e => by have e' : k = g1 := e; have := h.l1; omega), h.new⟩

set_option maxRecDepth 100000 in
set_option maxHeartbeats 6400000 in
theorem put_go (h : DiskAt w b D F) (first : Nat) (hf : (first : Int) + 1 < D.n) (v : Value) (xs : List Nat) (hv : SrcV w v (nat64 xs)) (hx6 : xs.length ≤ 6) (hxs : ∀ x ∈ xs, x < 18446744073709551616)
    (he : (lookR D first).2.2 = 0) (ht : (lookR D first).2.1 ≤ topMax) :
    Calls Tryz.prog 61 #[.pointer (some ⟨b, 0, none⟩), .int .i64 first, v] w fun e w' => e = .returned (.tuple #[.agg (putGo D first (putMark D first xs)).2.1.V, .int .i64 (putGo D first (putMark D first xs)).2.2]) ∧ DStep w w' b (putGo D first (putMark D first xs)).1 F := by
  have HW : ∀ w1, Only (fun _ => False) w w1 → Hid (DiskAt w1 b D F) := fun w1 ho => hid (h.only ho (fun _ _ e => e))
  have Hlt : Hid (∀ k, F k → k < w.heap.size) := hid (fun k hk => h.lt hk)
  have hn0 := h.n0
  have HLk := fun ob => hid (look_c (HW (w.alloc ob) ((Only.refl _ _).alloc ob)).out first (by omega))
  clear h
  have HV := hid hv
  obtain ⟨va, vc, rfl, hva⟩ := hv
  rw [length_nat64] at HV ⊢
  clear hva
  obtain ⟨last, hm⟩ : ∃ m, (lookR D first).1 = m := ⟨_, rfl⟩
  obtain ⟨top, htop⟩ : ∃ top, (lookR D first).2.1 = top := ⟨_, rfl⟩
  rw [htop] at ht
  simp only [hm, htop, he] at HLk
  have hmk : putMark D first xs = mkMark (nextSeq last.s top) xs := by unfold putMark; rw [hm, htop]
  rw [hmk]
  clear hmk hm htop he
  unfold topMax at ht
  have Hxs := hid hxs
  clear hxs
  have HS : ∀ w2 : World, Only (fun _ => False) (w.alloc (.cells MarkM.zero.V 75)) w2 → Hid (w2.heap[w.heap.size]? = some (.cells MarkM.zero.V 75 (0, 0))) := fun w2 ho => hid ((ho.block w.heap.size (by simp) (fun e => e)).trans (blk_new w _))
  have HVs : ∀ w1, Only (fun _ => False) w w1 → 0 < (nat64 xs).length → ∃ ad, va = some ad ∧ ∀ j u, (nat64 xs)[j]? = some u → w1.cell? (ad.add j) = some u := fun w1 ho hpos => by
    obtain ⟨a, c, e, hc⟩ := HV.out
    simp only [Value.slice.injEq] at e
    obtain ⟨rfl, -, -⟩ := e
    obtain ⟨g, o, rfl, hc2⟩ := hc (List.length_pos_iff.1 hpos)
    refine ⟨_, rfl, fun j u hu => ?_⟩
    rw [addr_add]
    have h1 := hc2 j u hu
    exact (World.cell?_of_block (ho.block g (World.block_lt_of_cell? _ _ h1) (fun e => e))).trans h1
  have HVs := hid HVs
  have hnt : ¬ ((18446744073709551613 : Int) < (top : Int)) := by omega
  clear ht
  by_cases h0 : 0 < last.s
  · by_cases hp : (top + 1) % 2 = last.s % 2
    · have hq : (((top : Int) + 1) % 2 == (last.s : Int) % 2) = true := by rw [beq_iff_eq]; omega
      have hsq : nextSeq last.s top = top + 2 := if_pos ⟨h0, hp⟩
      obtain ⟨m, hmm⟩ : ∃ m, mkMark (top + 2) xs = m := ⟨_, rfl⟩
      rw [hsq, hmm]
      have Hmm := hid hmm
      clear hp hsq hmm
      go_enter Tryz.func61, Tryz.ntmps61
      go_wp2_with (first | (go_at_call 43; refine (HLk _).out.mono ?_; rintro e w2 ⟨rfl, ho2⟩; have Hb2 := HS w2 ho2; have Ho2 : Hid (Only (fun _ => False) w w2) := hid (((Only.refl (fun _ => False) w).alloc _).trans ho2 (fun _ _ e => e)); clear ho2) | (refine wpList_store_all rfl 75 (.tmp 8) (.tmp 18) rfl w2.heap.size last.V rfl rfl MarkM.zero.V 75 (blk_new w2 _) rfl info_mark (V_one _) ?_; intro w3 hb3 ho3 hs3; have c0 : w3.cell? ⟨w2.heap.size, 0, none⟩ = some (.int .u64 last.s) := cell_blk hb3 0; have Hb3 := hid hb3; have Hb3' := hid ((ho3.block w.heap.size (blk_lt (blk_alloc Hb2.out)) (by show ¬ w.heap.size = w2.heap.size; have := blk_lt Hb2.out; omega)).trans (blk_alloc Hb2.out)); have Hlt3 := hid (And.intro (blk_lt Hb2.out) (blk_lt hb3)); have Ho3 := hid (Ho2.out.trans (((Only.refl (fun _ => False) w2).alloc _).trans ho3 (fun k hk e => by have e' : k = w2.heap.size := e; omega)) (fun _ _ e => e)); clear hb3 ho3 hs3) | (refine wpList_store_all rfl 75 (.tmp 11) (.tmp 37) rfl w3.heap.size #[.int .u64 (top + 1), .int .u64 0, .int .u64 0, .int .u64 0, .int .u64 0, .int .u64 0, .int .u64 0] rfl rfl MarkM.zero.V 75 (blk_new w3 _) rfl info_mark (by simp [Value.oneCell']) ?_; intro w4 hb4 ho4 hs4; have c4 : w4.cell? ⟨w3.heap.size, 0, none⟩ = some (.int .u64 (top + 1)) := cell_blk hb4 0; have z4 := frozen_blk hb4; have c3 : w4.cell? ⟨w2.heap.size, 0, none⟩ = some (.int .u64 last.s) := (World.cell?_of_block ((ho4.block w2.heap.size (blk_lt (blk_alloc Hb3.out)) (by show ¬ w2.heap.size = w3.heap.size; have := Hlt3.out; omega)).trans (by rw [blk_alloc Hb3.out, Hb3.out]))).trans c0; have Hb4 := hid hb4; have Hb4' := hid ((ho4.block w.heap.size (blk_lt (blk_alloc Hb3'.out)) (by show ¬ w.heap.size = w3.heap.size; have := blk_lt Hb3'.out; omega)).trans (blk_alloc Hb3'.out)); have Ho4 := hid (Ho3.out.trans (((Only.refl (fun _ => False) w3).alloc _).trans ho4 (fun k hk e => by have e' : k = w3.heap.size := e; omega)) (fun _ _ e => e)); have Hlt4 := hid (blk_lt hb4); clear hb4 ho4 hs4) | (refine wpList_cpy_in rfl (.tmp 55) (.tmp 56) 124 124 rfl 72 Tryz.underlying124 (by kernel_rfl) w3.heap.size 1 6 6 rfl #[.int .u64 (top + 1 + 1), .int .u64 0, .int .u64 0, .int .u64 0, .int .u64 0, .int .u64 0, .int .u64 0] 75 (set_first Hb4.out (.int .u64 (top + 1 + 1))) va xs.length vc rfl (nat64 xs) (by rw [length_nat64]; omega) (HVs.out _ (Ho4.out.setCell ⟨w3.heap.size, 0, none⟩ (.int .u64 (top + 1 + 1)) (fun h => absurd h (by show ¬ w3.heap.size < w.heap.size; have := Ho3.out.size; omega)))) (by rw [length_nat64]; show 1 + xs.length ≤ 7; omega) (fun u hu => by obtain ⟨x, _, rfl⟩ := List.mem_map.1 hu; rfl) ?_; intro w5 hb5 ho5 hs5; have Hb5 := hid hb5; have Hb5' := hid ((ho5.block w.heap.size (blk_lt (blk_set_other Hb4'.out (by have := blk_lt Hb3'.out; omega))) (by show ¬ w.heap.size = w3.heap.size; have := blk_lt Hb3'.out; omega)).trans (blk_set_other Hb4'.out (by have := blk_lt Hb3'.out; omega))); have Ho5 := hid ((Ho4.out.setCell ⟨w3.heap.size, 0, none⟩ (.int .u64 (top + 1 + 1)) (fun h => absurd h (by show ¬ w3.heap.size < w.heap.size; have := Ho3.out.size; omega))).trans ho5 (fun k hk e => by have e' : k = w3.heap.size := e; have := Ho3.out.size; omega)); clear hb5 ho5 hs5))
      have hbm := blkMark (n := top + 2) (by omega) hx6 Hb5.out
      have hok := mk_ok (top + 2) xs (by omega) Hxs.out
      rw [Hmm.out] at hbm hok
      have hms : m.s = top + 2 := by rw [← Hmm.out]; rfl
      obtain ⟨sl, hsl⟩ : ∃ sl : Int, (first : Int) + ((m.s % 2 : Nat) : Int) = sl := ⟨_, rfl⟩
      have HSl : ∀ w1, Hid (Calls Tryz.prog 73 #[.int .i64 first, .int .u64 m.s] w1 fun e w' => e = .returned (.int .i64 sl) ∧ w1 = w') := fun w1 => hid (by rw [← hsl]; exact slot_c w1 first m.s (by omega) (by omega))
      have HBy : ∀ w1, Hid (Calls Tryz.prog 84 #[.agg #[.int .u64 m.s, .int .u64 m.w0, .int .u64 m.w1, .int .u64 m.w2, .int .u64 m.w3, .int .u64 m.w4, .int .u64 m.w5]] w1 fun e w' => ∃ g, e = .returned (.slice (some ⟨g, 0, none⟩) 128 128) ∧ w1.heap.size ≤ g ∧ Row w' g 5 128 (bytesV (enc m)) ∧ Only (fun _ => False) w1 w') := fun w1 => hid (bytes_c w1 m hok)
      obtain ⟨⟨WD, WE⟩, hWD⟩ : ∃ W, D.write ((first : Int) + ((m.s % 2 : Nat) : Int)) (enc m) = W := ⟨_, rfl⟩
      obtain ⟨⟨FD, FE⟩, hFD⟩ : ∃ W, WD.flush = W := ⟨_, rfl⟩
      have Hpg : Hid (putGo D first m = if WE ≠ 0 then (WD, MarkM.zero, WE) else if FE ≠ 0 then (FD, MarkM.zero, FE) else (FD, m, 0)) := hid (by unfold putGo; rw [hWD]; simp only [hFD])
      have HWr : ∀ w1 g, Only (fun _ => False) w w1 → Row w1 g 5 128 (bytesV (enc m)) → w.heap.size ≤ g → Hid (Calls Tryz.prog 81 #[.pointer (some ⟨b, 0, none⟩), .int .i64 sl, .slice (some ⟨g, 0, none⟩) 128 128] w1 fun e w' => e = .returned (.int .i64 WE) ∧ DStep w1 w' b WD F) := fun w1 g ho hr hg => by
        have h1 := write_c (HW w1 ho).out sl (.slice (some ⟨g, 0, none⟩) 128 128) (enc m) (by have := hr.src; rw [length_enc] at this; exact this) (fun g' o' c' e hF => by simp only [Value.slice.injEq, Option.some.injEq, Addr.mk.injEq] at e; have := Hlt.out g' hF; omega) (by simp)
        rw [← hsl, hWD, hsl] at h1
        exact hid h1
      have HFl : ∀ w1 F1, DiskAt w1 b WD F1 → Hid (Calls Tryz.prog 60 #[.pointer (some ⟨b, 0, none⟩)] w1 fun e w' => e = .returned (.int .i64 FE) ∧ DiskAt w' b FD F1 ∧ Only F1 w1 w') := fun w1 F1 hd => hid (by have := flush_c hd; rw [hFD] at this; exact this)
      have HWr := hid HWr; have HFl := hid HFl; have HBl := hid (blk_lt hbm)
      have HG1 := hid (show w.heap.size ≤ w3.heap.size from Ho3.out.size)
      have d0 : w5.cell? ⟨w3.heap.size, 0, none⟩ = some (.int .u64 m.s) := cell_blk hbm 0
      have d1 : w5.cell? ⟨w3.heap.size, 1, none⟩ = some (.int .u64 m.w0) := cell_blk hbm 1
      have d2 : w5.cell? ⟨w3.heap.size, 2, none⟩ = some (.int .u64 m.w1) := cell_blk hbm 2
      have d3 : w5.cell? ⟨w3.heap.size, 3, none⟩ = some (.int .u64 m.w2) := cell_blk hbm 3
      have d4 : w5.cell? ⟨w3.heap.size, 4, none⟩ = some (.int .u64 m.w3) := cell_blk hbm 4
      have d5 : w5.cell? ⟨w3.heap.size, 5, none⟩ = some (.int .u64 m.w4) := cell_blk hbm 5
      have d6 : w5.cell? ⟨w3.heap.size, 6, none⟩ = some (.int .u64 m.w5) := cell_blk hbm 6
      have Hbm := hid hbm
      clear hbm hok hms hsl hWD hFD z4 c3 c4 c0 HW HLk HS HVs hq
      by_cases hwe : WE = 0
      · have hwe1 : (WE == 0) = true := by simpa using hwe
        by_cases hfe : FE = 0
        · have Hp := hid (Hpg.out.trans (by rw [if_neg (by simpa using hwe), if_neg (by simpa using hfe)]))
          have hfe1 : (FE == 0) = true := by simpa using hfe
          clear Hpg hwe hfe
          go_region_held3 (fun W' => W'.cell? ⟨w3.heap.size, 0, none⟩ = some (.int .u64 m.s) ∧ W'.cell? ⟨w3.heap.size, 1, none⟩ = some (.int .u64 m.w0) ∧ W'.cell? ⟨w3.heap.size, 2, none⟩ = some (.int .u64 m.w1) ∧ W'.cell? ⟨w3.heap.size, 3, none⟩ = some (.int .u64 m.w2) ∧ W'.cell? ⟨w3.heap.size, 4, none⟩ = some (.int .u64 m.w3) ∧ W'.cell? ⟨w3.heap.size, 5, none⟩ = some (.int .u64 m.w4) ∧ W'.cell? ⟨w3.heap.size, 6, none⟩ = some (.int .u64 m.w5)) ((first | go_keep | exact ⟨(fun {o u} (c : w5.cell? ⟨w3.heap.size, o, none⟩ = some u) => (World.cell?_of_block (Ho7.out.block w3.heap.size HBl.out (fun e => e))).trans c) d0, (fun {o u} (c : w5.cell? ⟨w3.heap.size, o, none⟩ = some u) => (World.cell?_of_block (Ho7.out.block w3.heap.size HBl.out (fun e => e))).trans c) d1, (fun {o u} (c : w5.cell? ⟨w3.heap.size, o, none⟩ = some u) => (World.cell?_of_block (Ho7.out.block w3.heap.size HBl.out (fun e => e))).trans c) d2, (fun {o u} (c : w5.cell? ⟨w3.heap.size, o, none⟩ = some u) => (World.cell?_of_block (Ho7.out.block w3.heap.size HBl.out (fun e => e))).trans c) d3, (fun {o u} (c : w5.cell? ⟨w3.heap.size, o, none⟩ = some u) => (World.cell?_of_block (Ho7.out.block w3.heap.size HBl.out (fun e => e))).trans c) d4, (fun {o u} (c : w5.cell? ⟨w3.heap.size, o, none⟩ = some u) => (World.cell?_of_block (Ho7.out.block w3.heap.size HBl.out (fun e => e))).trans c) d5, (fun {o u} (c : w5.cell? ⟨w3.heap.size, o, none⟩ = some u) => (World.cell?_of_block (Ho7.out.block w3.heap.size HBl.out (fun e => e))).trans c) d6⟩ | exact ⟨(fun {o u} (c : w5.cell? ⟨w3.heap.size, o, none⟩ = some u) => (cell_blk Hp8.out.b2 o).trans ((cell_blk Hbm.out o).symm.trans c)) d0, (fun {o u} (c : w5.cell? ⟨w3.heap.size, o, none⟩ = some u) => (cell_blk Hp8.out.b2 o).trans ((cell_blk Hbm.out o).symm.trans c)) d1, (fun {o u} (c : w5.cell? ⟨w3.heap.size, o, none⟩ = some u) => (cell_blk Hp8.out.b2 o).trans ((cell_blk Hbm.out o).symm.trans c)) d2, (fun {o u} (c : w5.cell? ⟨w3.heap.size, o, none⟩ = some u) => (cell_blk Hp8.out.b2 o).trans ((cell_blk Hbm.out o).symm.trans c)) d3, (fun {o u} (c : w5.cell? ⟨w3.heap.size, o, none⟩ = some u) => (cell_blk Hp8.out.b2 o).trans ((cell_blk Hbm.out o).symm.trans c)) d4, (fun {o u} (c : w5.cell? ⟨w3.heap.size, o, none⟩ = some u) => (cell_blk Hp8.out.b2 o).trans ((cell_blk Hbm.out o).symm.trans c)) d5, (fun {o u} (c : w5.cell? ⟨w3.heap.size, o, none⟩ = some u) => (cell_blk Hp8.out.b2 o).trans ((cell_blk Hbm.out o).symm.trans c)) d6⟩)) ((first | (go_at_call 73; refine (HSl _).out.mono ?_; rintro e w' ⟨rfl, rfl⟩) | (go_at_call 84; refine (HBy _).out.mono ?_; rintro e w7 ⟨g, rfl, hg, hrow, ho7⟩; have Hg := hid hg; have Hrow := hid hrow; have Ho7 : Hid (Only (fun _ => False) w5 w7) := hid ((Only.refl (fun _ => False) w5).drew.trans ho7 (fun _ _ e => e)); clear hg hrow ho7) | (go_at_call 81; refine (HWr.out _ _ (Ho5.out.trans Ho7.out (fun _ _ e => e)) Hrow.out (Nat.le_trans Ho5.out.size Hg.out)).out.mono ?_; rintro e w8 ⟨rfl, hst⟩; obtain ⟨F8, hp8⟩ := PutW.mk' hst (Ho5.out.trans Ho7.out (fun _ _ e => e)) Hlt.out (Nat.le_refl _) HG1.out (blk_only Hb5'.out Ho7.out (fun e => e)) (blk_only Hbm.out Ho7.out (fun e => e)); have Hp8 := hid hp8; clear hst hp8)))
          go_wp2_with (first | (go_at_call 60; refine (HFl.out _ _ Hp8.out.disk).out.mono ?_; rintro e w9 ⟨rfl, hd9, ho9⟩; have Hp9 := hid (Hp8.out.step hd9 ho9); clear hd9 ho9) | (refine wpList_load_row rfl 75 (.tmp 11) rfl w3.heap.size rfl 75 m.V (0, 0) _ Hp9.out.b2 Tryz.underlying75 rfl info_mark ?_) | (refine wpList_store_all rfl 75 (.tmp 6) (.tmp 76) rfl w.heap.size m.V rfl rfl MarkM.zero.V 75 Hp9.out.b1 rfl info_mark (V_one _) ?_; intro w10 hb10 ho10 hs10; have Hb10 := hid hb10; have Hds := hid (Hp9.out.done ho10); clear hb10 ho10 hs10))
          refine bodyPost_ret (results_cell1 (q := 7) rfl _ _ w.heap.size 75 m.V _ _ rfl Hb10.out Tryz.underlying75 rfl info_mark) rfl ⟨by rw [Hp.out]; rfl, by rw [Hp.out]; exact Hds.out⟩
        · have Hp := hid (Hpg.out.trans (by rw [if_neg (by simpa using hwe), if_pos hfe]))
          have hfe1 : (FE == 0) = false := by simpa using hfe
          clear Hpg hwe hfe
          go_region_held3 (fun W' => W'.cell? ⟨w3.heap.size, 0, none⟩ = some (.int .u64 m.s) ∧ W'.cell? ⟨w3.heap.size, 1, none⟩ = some (.int .u64 m.w0) ∧ W'.cell? ⟨w3.heap.size, 2, none⟩ = some (.int .u64 m.w1) ∧ W'.cell? ⟨w3.heap.size, 3, none⟩ = some (.int .u64 m.w2) ∧ W'.cell? ⟨w3.heap.size, 4, none⟩ = some (.int .u64 m.w3) ∧ W'.cell? ⟨w3.heap.size, 5, none⟩ = some (.int .u64 m.w4) ∧ W'.cell? ⟨w3.heap.size, 6, none⟩ = some (.int .u64 m.w5)) ((first | go_keep | exact ⟨(fun {o u} (c : w5.cell? ⟨w3.heap.size, o, none⟩ = some u) => (World.cell?_of_block (Ho7.out.block w3.heap.size HBl.out (fun e => e))).trans c) d0, (fun {o u} (c : w5.cell? ⟨w3.heap.size, o, none⟩ = some u) => (World.cell?_of_block (Ho7.out.block w3.heap.size HBl.out (fun e => e))).trans c) d1, (fun {o u} (c : w5.cell? ⟨w3.heap.size, o, none⟩ = some u) => (World.cell?_of_block (Ho7.out.block w3.heap.size HBl.out (fun e => e))).trans c) d2, (fun {o u} (c : w5.cell? ⟨w3.heap.size, o, none⟩ = some u) => (World.cell?_of_block (Ho7.out.block w3.heap.size HBl.out (fun e => e))).trans c) d3, (fun {o u} (c : w5.cell? ⟨w3.heap.size, o, none⟩ = some u) => (World.cell?_of_block (Ho7.out.block w3.heap.size HBl.out (fun e => e))).trans c) d4, (fun {o u} (c : w5.cell? ⟨w3.heap.size, o, none⟩ = some u) => (World.cell?_of_block (Ho7.out.block w3.heap.size HBl.out (fun e => e))).trans c) d5, (fun {o u} (c : w5.cell? ⟨w3.heap.size, o, none⟩ = some u) => (World.cell?_of_block (Ho7.out.block w3.heap.size HBl.out (fun e => e))).trans c) d6⟩ | exact ⟨(fun {o u} (c : w5.cell? ⟨w3.heap.size, o, none⟩ = some u) => (cell_blk Hp8.out.b2 o).trans ((cell_blk Hbm.out o).symm.trans c)) d0, (fun {o u} (c : w5.cell? ⟨w3.heap.size, o, none⟩ = some u) => (cell_blk Hp8.out.b2 o).trans ((cell_blk Hbm.out o).symm.trans c)) d1, (fun {o u} (c : w5.cell? ⟨w3.heap.size, o, none⟩ = some u) => (cell_blk Hp8.out.b2 o).trans ((cell_blk Hbm.out o).symm.trans c)) d2, (fun {o u} (c : w5.cell? ⟨w3.heap.size, o, none⟩ = some u) => (cell_blk Hp8.out.b2 o).trans ((cell_blk Hbm.out o).symm.trans c)) d3, (fun {o u} (c : w5.cell? ⟨w3.heap.size, o, none⟩ = some u) => (cell_blk Hp8.out.b2 o).trans ((cell_blk Hbm.out o).symm.trans c)) d4, (fun {o u} (c : w5.cell? ⟨w3.heap.size, o, none⟩ = some u) => (cell_blk Hp8.out.b2 o).trans ((cell_blk Hbm.out o).symm.trans c)) d5, (fun {o u} (c : w5.cell? ⟨w3.heap.size, o, none⟩ = some u) => (cell_blk Hp8.out.b2 o).trans ((cell_blk Hbm.out o).symm.trans c)) d6⟩)) ((first | (go_at_call 73; refine (HSl _).out.mono ?_; rintro e w' ⟨rfl, rfl⟩) | (go_at_call 84; refine (HBy _).out.mono ?_; rintro e w7 ⟨g, rfl, hg, hrow, ho7⟩; have Hg := hid hg; have Hrow := hid hrow; have Ho7 : Hid (Only (fun _ => False) w5 w7) := hid ((Only.refl (fun _ => False) w5).drew.trans ho7 (fun _ _ e => e)); clear hg hrow ho7) | (go_at_call 81; refine (HWr.out _ _ (Ho5.out.trans Ho7.out (fun _ _ e => e)) Hrow.out (Nat.le_trans Ho5.out.size Hg.out)).out.mono ?_; rintro e w8 ⟨rfl, hst⟩; obtain ⟨F8, hp8⟩ := PutW.mk' hst (Ho5.out.trans Ho7.out (fun _ _ e => e)) Hlt.out (Nat.le_refl _) HG1.out (blk_only Hb5'.out Ho7.out (fun e => e)) (blk_only Hbm.out Ho7.out (fun e => e)); have Hp8 := hid hp8; clear hst hp8)))
          go_wp2_with (first | (go_at_call 60; refine (HFl.out _ _ Hp8.out.disk).out.mono ?_; rintro e w9 ⟨rfl, hd9, ho9⟩; have Hp9 := hid (Hp8.out.step hd9 ho9); clear hd9 ho9) | (refine wpList_store_all rfl 75 (.tmp 6) (.tmp 74) rfl w.heap.size MarkM.zero.V rfl rfl MarkM.zero.V 75 Hp9.out.b1 rfl info_mark (V_one _) ?_; intro w10 hb10 ho10 hs10; have Hb10 := hid hb10; have Hds := hid (Hp9.out.done ho10); clear hb10 ho10 hs10))
          refine bodyPost_ret (results_cell1 (q := 7) rfl _ _ w.heap.size 75 MarkM.zero.V _ _ rfl Hb10.out Tryz.underlying75 rfl info_mark) rfl ⟨by rw [Hp.out]; rfl, by rw [Hp.out]; exact Hds.out⟩
      · have Hp := hid (Hpg.out.trans (if_pos hwe))
        have hwe1 : (WE == 0) = false := by simpa using hwe
        clear Hpg hwe
        go_region_held3 (fun W' => W'.cell? ⟨w3.heap.size, 0, none⟩ = some (.int .u64 m.s) ∧ W'.cell? ⟨w3.heap.size, 1, none⟩ = some (.int .u64 m.w0) ∧ W'.cell? ⟨w3.heap.size, 2, none⟩ = some (.int .u64 m.w1) ∧ W'.cell? ⟨w3.heap.size, 3, none⟩ = some (.int .u64 m.w2) ∧ W'.cell? ⟨w3.heap.size, 4, none⟩ = some (.int .u64 m.w3) ∧ W'.cell? ⟨w3.heap.size, 5, none⟩ = some (.int .u64 m.w4) ∧ W'.cell? ⟨w3.heap.size, 6, none⟩ = some (.int .u64 m.w5)) ((first | go_keep | exact ⟨(fun {o u} (c : w5.cell? ⟨w3.heap.size, o, none⟩ = some u) => (World.cell?_of_block (Ho7.out.block w3.heap.size HBl.out (fun e => e))).trans c) d0, (fun {o u} (c : w5.cell? ⟨w3.heap.size, o, none⟩ = some u) => (World.cell?_of_block (Ho7.out.block w3.heap.size HBl.out (fun e => e))).trans c) d1, (fun {o u} (c : w5.cell? ⟨w3.heap.size, o, none⟩ = some u) => (World.cell?_of_block (Ho7.out.block w3.heap.size HBl.out (fun e => e))).trans c) d2, (fun {o u} (c : w5.cell? ⟨w3.heap.size, o, none⟩ = some u) => (World.cell?_of_block (Ho7.out.block w3.heap.size HBl.out (fun e => e))).trans c) d3, (fun {o u} (c : w5.cell? ⟨w3.heap.size, o, none⟩ = some u) => (World.cell?_of_block (Ho7.out.block w3.heap.size HBl.out (fun e => e))).trans c) d4, (fun {o u} (c : w5.cell? ⟨w3.heap.size, o, none⟩ = some u) => (World.cell?_of_block (Ho7.out.block w3.heap.size HBl.out (fun e => e))).trans c) d5, (fun {o u} (c : w5.cell? ⟨w3.heap.size, o, none⟩ = some u) => (World.cell?_of_block (Ho7.out.block w3.heap.size HBl.out (fun e => e))).trans c) d6⟩ | exact ⟨(fun {o u} (c : w5.cell? ⟨w3.heap.size, o, none⟩ = some u) => (cell_blk Hp8.out.b2 o).trans ((cell_blk Hbm.out o).symm.trans c)) d0, (fun {o u} (c : w5.cell? ⟨w3.heap.size, o, none⟩ = some u) => (cell_blk Hp8.out.b2 o).trans ((cell_blk Hbm.out o).symm.trans c)) d1, (fun {o u} (c : w5.cell? ⟨w3.heap.size, o, none⟩ = some u) => (cell_blk Hp8.out.b2 o).trans ((cell_blk Hbm.out o).symm.trans c)) d2, (fun {o u} (c : w5.cell? ⟨w3.heap.size, o, none⟩ = some u) => (cell_blk Hp8.out.b2 o).trans ((cell_blk Hbm.out o).symm.trans c)) d3, (fun {o u} (c : w5.cell? ⟨w3.heap.size, o, none⟩ = some u) => (cell_blk Hp8.out.b2 o).trans ((cell_blk Hbm.out o).symm.trans c)) d4, (fun {o u} (c : w5.cell? ⟨w3.heap.size, o, none⟩ = some u) => (cell_blk Hp8.out.b2 o).trans ((cell_blk Hbm.out o).symm.trans c)) d5, (fun {o u} (c : w5.cell? ⟨w3.heap.size, o, none⟩ = some u) => (cell_blk Hp8.out.b2 o).trans ((cell_blk Hbm.out o).symm.trans c)) d6⟩)) ((first | (go_at_call 73; refine (HSl _).out.mono ?_; rintro e w' ⟨rfl, rfl⟩) | (go_at_call 84; refine (HBy _).out.mono ?_; rintro e w7 ⟨g, rfl, hg, hrow, ho7⟩; have Hg := hid hg; have Hrow := hid hrow; have Ho7 : Hid (Only (fun _ => False) w5 w7) := hid ((Only.refl (fun _ => False) w5).drew.trans ho7 (fun _ _ e => e)); clear hg hrow ho7) | (go_at_call 81; refine (HWr.out _ _ (Ho5.out.trans Ho7.out (fun _ _ e => e)) Hrow.out (Nat.le_trans Ho5.out.size Hg.out)).out.mono ?_; rintro e w8 ⟨rfl, hst⟩; obtain ⟨F8, hp8⟩ := PutW.mk' hst (Ho5.out.trans Ho7.out (fun _ _ e => e)) Hlt.out (Nat.le_refl _) HG1.out (blk_only Hb5'.out Ho7.out (fun e => e)) (blk_only Hbm.out Ho7.out (fun e => e)); have Hp8 := hid hp8; clear hst hp8)))
        go_wp2_with (first | (refine wpList_store_all rfl 75 (.tmp 6) (.tmp 68) rfl w.heap.size MarkM.zero.V rfl rfl MarkM.zero.V 75 Hp8.out.b1 rfl info_mark (V_one _) ?_; intro w10 hb10 ho10 hs10; have Hb10 := hid hb10; have Hds := hid (Hp8.out.done ho10); clear hb10 ho10 hs10))
        refine bodyPost_ret (results_cell1 (q := 7) rfl _ _ w.heap.size 75 MarkM.zero.V _ _ rfl Hb10.out Tryz.underlying75 rfl info_mark) rfl ⟨by rw [Hp.out]; rfl, by rw [Hp.out]; exact Hds.out⟩
    · have hq : (((top : Int) + 1) % 2 == (last.s : Int) % 2) = false := by rw [beq_eq_false_iff_ne]; omega
      have hsq : nextSeq last.s top = top + 1 := if_neg (fun h => hp h.2)
      obtain ⟨m, hmm⟩ : ∃ m, mkMark (top + 1) xs = m := ⟨_, rfl⟩
      rw [hsq, hmm]
      have Hmm := hid hmm
      clear hp hsq hmm
      go_enter Tryz.func61, Tryz.ntmps61
      go_wp2_with (first | (go_at_call 43; refine (HLk _).out.mono ?_; rintro e w2 ⟨rfl, ho2⟩; have Hb2 := HS w2 ho2; have Ho2 : Hid (Only (fun _ => False) w w2) := hid (((Only.refl (fun _ => False) w).alloc _).trans ho2 (fun _ _ e => e)); clear ho2) | (refine wpList_store_all rfl 75 (.tmp 8) (.tmp 18) rfl w2.heap.size last.V rfl rfl MarkM.zero.V 75 (blk_new w2 _) rfl info_mark (V_one _) ?_; intro w3 hb3 ho3 hs3; have c0 : w3.cell? ⟨w2.heap.size, 0, none⟩ = some (.int .u64 last.s) := cell_blk hb3 0; have Hb3 := hid hb3; have Hb3' := hid ((ho3.block w.heap.size (blk_lt (blk_alloc Hb2.out)) (by show ¬ w.heap.size = w2.heap.size; have := blk_lt Hb2.out; omega)).trans (blk_alloc Hb2.out)); have Hlt3 := hid (And.intro (blk_lt Hb2.out) (blk_lt hb3)); have Ho3 := hid (Ho2.out.trans (((Only.refl (fun _ => False) w2).alloc _).trans ho3 (fun k hk e => by have e' : k = w2.heap.size := e; omega)) (fun _ _ e => e)); clear hb3 ho3 hs3) | (refine wpList_store_all rfl 75 (.tmp 11) (.tmp 37) rfl w3.heap.size #[.int .u64 (top + 1), .int .u64 0, .int .u64 0, .int .u64 0, .int .u64 0, .int .u64 0, .int .u64 0] rfl rfl MarkM.zero.V 75 (blk_new w3 _) rfl info_mark (by simp [Value.oneCell']) ?_; intro w4 hb4 ho4 hs4; have c4 : w4.cell? ⟨w3.heap.size, 0, none⟩ = some (.int .u64 (top + 1)) := cell_blk hb4 0; have z4 := frozen_blk hb4; have c3 : w4.cell? ⟨w2.heap.size, 0, none⟩ = some (.int .u64 last.s) := (World.cell?_of_block ((ho4.block w2.heap.size (blk_lt (blk_alloc Hb3.out)) (by show ¬ w2.heap.size = w3.heap.size; have := Hlt3.out; omega)).trans (by rw [blk_alloc Hb3.out, Hb3.out]))).trans c0; have Hb4 := hid hb4; have Hb4' := hid ((ho4.block w.heap.size (blk_lt (blk_alloc Hb3'.out)) (by show ¬ w.heap.size = w3.heap.size; have := blk_lt Hb3'.out; omega)).trans (blk_alloc Hb3'.out)); have Ho4 := hid (Ho3.out.trans (((Only.refl (fun _ => False) w3).alloc _).trans ho4 (fun k hk e => by have e' : k = w3.heap.size := e; omega)) (fun _ _ e => e)); have Hlt4 := hid (blk_lt hb4); clear hb4 ho4 hs4) | (refine wpList_cpy_in rfl (.tmp 55) (.tmp 56) 124 124 rfl 72 Tryz.underlying124 (by kernel_rfl) w3.heap.size 1 6 6 rfl #[.int .u64 (top + 1), .int .u64 0, .int .u64 0, .int .u64 0, .int .u64 0, .int .u64 0, .int .u64 0] 75 Hb4.out va xs.length vc rfl (nat64 xs) (by rw [length_nat64]; omega) (HVs.out _ Ho4.out) (by rw [length_nat64]; show 1 + xs.length ≤ 7; omega) (fun u hu => by obtain ⟨x, _, rfl⟩ := List.mem_map.1 hu; rfl) ?_; intro w5 hb5 ho5 hs5; have Hb5 := hid hb5; have Hb5' := hid ((ho5.block w.heap.size (blk_lt Hb4'.out) (by show ¬ w.heap.size = w3.heap.size; have := blk_lt Hb3'.out; omega)).trans Hb4'.out); have Ho5 := hid (Ho4.out.trans ho5 (fun k hk e => by have e' : k = w3.heap.size := e; have := Ho3.out.size; omega)); clear hb5 ho5 hs5))
      have hbm := blkMark (n := top + 1) (by omega) hx6 Hb5.out
      have hok := mk_ok (top + 1) xs (by omega) Hxs.out
      rw [Hmm.out] at hbm hok
      have hms : m.s = top + 1 := by rw [← Hmm.out]; rfl
      obtain ⟨sl, hsl⟩ : ∃ sl : Int, (first : Int) + ((m.s % 2 : Nat) : Int) = sl := ⟨_, rfl⟩
      have HSl : ∀ w1, Hid (Calls Tryz.prog 73 #[.int .i64 first, .int .u64 m.s] w1 fun e w' => e = .returned (.int .i64 sl) ∧ w1 = w') := fun w1 => hid (by rw [← hsl]; exact slot_c w1 first m.s (by omega) (by omega))
      have HBy : ∀ w1, Hid (Calls Tryz.prog 84 #[.agg #[.int .u64 m.s, .int .u64 m.w0, .int .u64 m.w1, .int .u64 m.w2, .int .u64 m.w3, .int .u64 m.w4, .int .u64 m.w5]] w1 fun e w' => ∃ g, e = .returned (.slice (some ⟨g, 0, none⟩) 128 128) ∧ w1.heap.size ≤ g ∧ Row w' g 5 128 (bytesV (enc m)) ∧ Only (fun _ => False) w1 w') := fun w1 => hid (bytes_c w1 m hok)
      obtain ⟨⟨WD, WE⟩, hWD⟩ : ∃ W, D.write ((first : Int) + ((m.s % 2 : Nat) : Int)) (enc m) = W := ⟨_, rfl⟩
      obtain ⟨⟨FD, FE⟩, hFD⟩ : ∃ W, WD.flush = W := ⟨_, rfl⟩
      have Hpg : Hid (putGo D first m = if WE ≠ 0 then (WD, MarkM.zero, WE) else if FE ≠ 0 then (FD, MarkM.zero, FE) else (FD, m, 0)) := hid (by unfold putGo; rw [hWD]; simp only [hFD])
      have HWr : ∀ w1 g, Only (fun _ => False) w w1 → Row w1 g 5 128 (bytesV (enc m)) → w.heap.size ≤ g → Hid (Calls Tryz.prog 81 #[.pointer (some ⟨b, 0, none⟩), .int .i64 sl, .slice (some ⟨g, 0, none⟩) 128 128] w1 fun e w' => e = .returned (.int .i64 WE) ∧ DStep w1 w' b WD F) := fun w1 g ho hr hg => by
        have h1 := write_c (HW w1 ho).out sl (.slice (some ⟨g, 0, none⟩) 128 128) (enc m) (by have := hr.src; rw [length_enc] at this; exact this) (fun g' o' c' e hF => by simp only [Value.slice.injEq, Option.some.injEq, Addr.mk.injEq] at e; have := Hlt.out g' hF; omega) (by simp)
        rw [← hsl, hWD, hsl] at h1
        exact hid h1
      have HFl : ∀ w1 F1, DiskAt w1 b WD F1 → Hid (Calls Tryz.prog 60 #[.pointer (some ⟨b, 0, none⟩)] w1 fun e w' => e = .returned (.int .i64 FE) ∧ DiskAt w' b FD F1 ∧ Only F1 w1 w') := fun w1 F1 hd => hid (by have := flush_c hd; rw [hFD] at this; exact this)
      have HWr := hid HWr; have HFl := hid HFl; have HBl := hid (blk_lt hbm)
      have HG1 := hid (show w.heap.size ≤ w3.heap.size from Ho3.out.size)
      have d0 : w5.cell? ⟨w3.heap.size, 0, none⟩ = some (.int .u64 m.s) := cell_blk hbm 0
      have d1 : w5.cell? ⟨w3.heap.size, 1, none⟩ = some (.int .u64 m.w0) := cell_blk hbm 1
      have d2 : w5.cell? ⟨w3.heap.size, 2, none⟩ = some (.int .u64 m.w1) := cell_blk hbm 2
      have d3 : w5.cell? ⟨w3.heap.size, 3, none⟩ = some (.int .u64 m.w2) := cell_blk hbm 3
      have d4 : w5.cell? ⟨w3.heap.size, 4, none⟩ = some (.int .u64 m.w3) := cell_blk hbm 4
      have d5 : w5.cell? ⟨w3.heap.size, 5, none⟩ = some (.int .u64 m.w4) := cell_blk hbm 5
      have d6 : w5.cell? ⟨w3.heap.size, 6, none⟩ = some (.int .u64 m.w5) := cell_blk hbm 6
      have Hbm := hid hbm
      clear hbm hok hms hsl hWD hFD z4 c3 c4 c0 HW HLk HS HVs hq
      by_cases hwe : WE = 0
      · have hwe1 : (WE == 0) = true := by simpa using hwe
        by_cases hfe : FE = 0
        · have Hp := hid (Hpg.out.trans (by rw [if_neg (by simpa using hwe), if_neg (by simpa using hfe)]))
          have hfe1 : (FE == 0) = true := by simpa using hfe
          clear Hpg hwe hfe
          go_region_held3 (fun W' => W'.cell? ⟨w3.heap.size, 0, none⟩ = some (.int .u64 m.s) ∧ W'.cell? ⟨w3.heap.size, 1, none⟩ = some (.int .u64 m.w0) ∧ W'.cell? ⟨w3.heap.size, 2, none⟩ = some (.int .u64 m.w1) ∧ W'.cell? ⟨w3.heap.size, 3, none⟩ = some (.int .u64 m.w2) ∧ W'.cell? ⟨w3.heap.size, 4, none⟩ = some (.int .u64 m.w3) ∧ W'.cell? ⟨w3.heap.size, 5, none⟩ = some (.int .u64 m.w4) ∧ W'.cell? ⟨w3.heap.size, 6, none⟩ = some (.int .u64 m.w5)) ((first | go_keep | exact ⟨(fun {o u} (c : w5.cell? ⟨w3.heap.size, o, none⟩ = some u) => (World.cell?_of_block (Ho7.out.block w3.heap.size HBl.out (fun e => e))).trans c) d0, (fun {o u} (c : w5.cell? ⟨w3.heap.size, o, none⟩ = some u) => (World.cell?_of_block (Ho7.out.block w3.heap.size HBl.out (fun e => e))).trans c) d1, (fun {o u} (c : w5.cell? ⟨w3.heap.size, o, none⟩ = some u) => (World.cell?_of_block (Ho7.out.block w3.heap.size HBl.out (fun e => e))).trans c) d2, (fun {o u} (c : w5.cell? ⟨w3.heap.size, o, none⟩ = some u) => (World.cell?_of_block (Ho7.out.block w3.heap.size HBl.out (fun e => e))).trans c) d3, (fun {o u} (c : w5.cell? ⟨w3.heap.size, o, none⟩ = some u) => (World.cell?_of_block (Ho7.out.block w3.heap.size HBl.out (fun e => e))).trans c) d4, (fun {o u} (c : w5.cell? ⟨w3.heap.size, o, none⟩ = some u) => (World.cell?_of_block (Ho7.out.block w3.heap.size HBl.out (fun e => e))).trans c) d5, (fun {o u} (c : w5.cell? ⟨w3.heap.size, o, none⟩ = some u) => (World.cell?_of_block (Ho7.out.block w3.heap.size HBl.out (fun e => e))).trans c) d6⟩ | exact ⟨(fun {o u} (c : w5.cell? ⟨w3.heap.size, o, none⟩ = some u) => (cell_blk Hp8.out.b2 o).trans ((cell_blk Hbm.out o).symm.trans c)) d0, (fun {o u} (c : w5.cell? ⟨w3.heap.size, o, none⟩ = some u) => (cell_blk Hp8.out.b2 o).trans ((cell_blk Hbm.out o).symm.trans c)) d1, (fun {o u} (c : w5.cell? ⟨w3.heap.size, o, none⟩ = some u) => (cell_blk Hp8.out.b2 o).trans ((cell_blk Hbm.out o).symm.trans c)) d2, (fun {o u} (c : w5.cell? ⟨w3.heap.size, o, none⟩ = some u) => (cell_blk Hp8.out.b2 o).trans ((cell_blk Hbm.out o).symm.trans c)) d3, (fun {o u} (c : w5.cell? ⟨w3.heap.size, o, none⟩ = some u) => (cell_blk Hp8.out.b2 o).trans ((cell_blk Hbm.out o).symm.trans c)) d4, (fun {o u} (c : w5.cell? ⟨w3.heap.size, o, none⟩ = some u) => (cell_blk Hp8.out.b2 o).trans ((cell_blk Hbm.out o).symm.trans c)) d5, (fun {o u} (c : w5.cell? ⟨w3.heap.size, o, none⟩ = some u) => (cell_blk Hp8.out.b2 o).trans ((cell_blk Hbm.out o).symm.trans c)) d6⟩)) ((first | (go_at_call 73; refine (HSl _).out.mono ?_; rintro e w' ⟨rfl, rfl⟩) | (go_at_call 84; refine (HBy _).out.mono ?_; rintro e w7 ⟨g, rfl, hg, hrow, ho7⟩; have Hg := hid hg; have Hrow := hid hrow; have Ho7 : Hid (Only (fun _ => False) w5 w7) := hid ((Only.refl (fun _ => False) w5).drew.trans ho7 (fun _ _ e => e)); clear hg hrow ho7) | (go_at_call 81; refine (HWr.out _ _ (Ho5.out.trans Ho7.out (fun _ _ e => e)) Hrow.out (Nat.le_trans Ho5.out.size Hg.out)).out.mono ?_; rintro e w8 ⟨rfl, hst⟩; obtain ⟨F8, hp8⟩ := PutW.mk' hst (Ho5.out.trans Ho7.out (fun _ _ e => e)) Hlt.out (Nat.le_refl _) HG1.out (blk_only Hb5'.out Ho7.out (fun e => e)) (blk_only Hbm.out Ho7.out (fun e => e)); have Hp8 := hid hp8; clear hst hp8)))
          go_wp2_with (first | (go_at_call 60; refine (HFl.out _ _ Hp8.out.disk).out.mono ?_; rintro e w9 ⟨rfl, hd9, ho9⟩; have Hp9 := hid (Hp8.out.step hd9 ho9); clear hd9 ho9) | (refine wpList_load_row rfl 75 (.tmp 11) rfl w3.heap.size rfl 75 m.V (0, 0) _ Hp9.out.b2 Tryz.underlying75 rfl info_mark ?_) | (refine wpList_store_all rfl 75 (.tmp 6) (.tmp 76) rfl w.heap.size m.V rfl rfl MarkM.zero.V 75 Hp9.out.b1 rfl info_mark (V_one _) ?_; intro w10 hb10 ho10 hs10; have Hb10 := hid hb10; have Hds := hid (Hp9.out.done ho10); clear hb10 ho10 hs10))
          refine bodyPost_ret (results_cell1 (q := 7) rfl _ _ w.heap.size 75 m.V _ _ rfl Hb10.out Tryz.underlying75 rfl info_mark) rfl ⟨by rw [Hp.out]; rfl, by rw [Hp.out]; exact Hds.out⟩
        · have Hp := hid (Hpg.out.trans (by rw [if_neg (by simpa using hwe), if_pos hfe]))
          have hfe1 : (FE == 0) = false := by simpa using hfe
          clear Hpg hwe hfe
          go_region_held3 (fun W' => W'.cell? ⟨w3.heap.size, 0, none⟩ = some (.int .u64 m.s) ∧ W'.cell? ⟨w3.heap.size, 1, none⟩ = some (.int .u64 m.w0) ∧ W'.cell? ⟨w3.heap.size, 2, none⟩ = some (.int .u64 m.w1) ∧ W'.cell? ⟨w3.heap.size, 3, none⟩ = some (.int .u64 m.w2) ∧ W'.cell? ⟨w3.heap.size, 4, none⟩ = some (.int .u64 m.w3) ∧ W'.cell? ⟨w3.heap.size, 5, none⟩ = some (.int .u64 m.w4) ∧ W'.cell? ⟨w3.heap.size, 6, none⟩ = some (.int .u64 m.w5)) ((first | go_keep | exact ⟨(fun {o u} (c : w5.cell? ⟨w3.heap.size, o, none⟩ = some u) => (World.cell?_of_block (Ho7.out.block w3.heap.size HBl.out (fun e => e))).trans c) d0, (fun {o u} (c : w5.cell? ⟨w3.heap.size, o, none⟩ = some u) => (World.cell?_of_block (Ho7.out.block w3.heap.size HBl.out (fun e => e))).trans c) d1, (fun {o u} (c : w5.cell? ⟨w3.heap.size, o, none⟩ = some u) => (World.cell?_of_block (Ho7.out.block w3.heap.size HBl.out (fun e => e))).trans c) d2, (fun {o u} (c : w5.cell? ⟨w3.heap.size, o, none⟩ = some u) => (World.cell?_of_block (Ho7.out.block w3.heap.size HBl.out (fun e => e))).trans c) d3, (fun {o u} (c : w5.cell? ⟨w3.heap.size, o, none⟩ = some u) => (World.cell?_of_block (Ho7.out.block w3.heap.size HBl.out (fun e => e))).trans c) d4, (fun {o u} (c : w5.cell? ⟨w3.heap.size, o, none⟩ = some u) => (World.cell?_of_block (Ho7.out.block w3.heap.size HBl.out (fun e => e))).trans c) d5, (fun {o u} (c : w5.cell? ⟨w3.heap.size, o, none⟩ = some u) => (World.cell?_of_block (Ho7.out.block w3.heap.size HBl.out (fun e => e))).trans c) d6⟩ | exact ⟨(fun {o u} (c : w5.cell? ⟨w3.heap.size, o, none⟩ = some u) => (cell_blk Hp8.out.b2 o).trans ((cell_blk Hbm.out o).symm.trans c)) d0, (fun {o u} (c : w5.cell? ⟨w3.heap.size, o, none⟩ = some u) => (cell_blk Hp8.out.b2 o).trans ((cell_blk Hbm.out o).symm.trans c)) d1, (fun {o u} (c : w5.cell? ⟨w3.heap.size, o, none⟩ = some u) => (cell_blk Hp8.out.b2 o).trans ((cell_blk Hbm.out o).symm.trans c)) d2, (fun {o u} (c : w5.cell? ⟨w3.heap.size, o, none⟩ = some u) => (cell_blk Hp8.out.b2 o).trans ((cell_blk Hbm.out o).symm.trans c)) d3, (fun {o u} (c : w5.cell? ⟨w3.heap.size, o, none⟩ = some u) => (cell_blk Hp8.out.b2 o).trans ((cell_blk Hbm.out o).symm.trans c)) d4, (fun {o u} (c : w5.cell? ⟨w3.heap.size, o, none⟩ = some u) => (cell_blk Hp8.out.b2 o).trans ((cell_blk Hbm.out o).symm.trans c)) d5, (fun {o u} (c : w5.cell? ⟨w3.heap.size, o, none⟩ = some u) => (cell_blk Hp8.out.b2 o).trans ((cell_blk Hbm.out o).symm.trans c)) d6⟩)) ((first | (go_at_call 73; refine (HSl _).out.mono ?_; rintro e w' ⟨rfl, rfl⟩) | (go_at_call 84; refine (HBy _).out.mono ?_; rintro e w7 ⟨g, rfl, hg, hrow, ho7⟩; have Hg := hid hg; have Hrow := hid hrow; have Ho7 : Hid (Only (fun _ => False) w5 w7) := hid ((Only.refl (fun _ => False) w5).drew.trans ho7 (fun _ _ e => e)); clear hg hrow ho7) | (go_at_call 81; refine (HWr.out _ _ (Ho5.out.trans Ho7.out (fun _ _ e => e)) Hrow.out (Nat.le_trans Ho5.out.size Hg.out)).out.mono ?_; rintro e w8 ⟨rfl, hst⟩; obtain ⟨F8, hp8⟩ := PutW.mk' hst (Ho5.out.trans Ho7.out (fun _ _ e => e)) Hlt.out (Nat.le_refl _) HG1.out (blk_only Hb5'.out Ho7.out (fun e => e)) (blk_only Hbm.out Ho7.out (fun e => e)); have Hp8 := hid hp8; clear hst hp8)))
          go_wp2_with (first | (go_at_call 60; refine (HFl.out _ _ Hp8.out.disk).out.mono ?_; rintro e w9 ⟨rfl, hd9, ho9⟩; have Hp9 := hid (Hp8.out.step hd9 ho9); clear hd9 ho9) | (refine wpList_store_all rfl 75 (.tmp 6) (.tmp 74) rfl w.heap.size MarkM.zero.V rfl rfl MarkM.zero.V 75 Hp9.out.b1 rfl info_mark (V_one _) ?_; intro w10 hb10 ho10 hs10; have Hb10 := hid hb10; have Hds := hid (Hp9.out.done ho10); clear hb10 ho10 hs10))
          refine bodyPost_ret (results_cell1 (q := 7) rfl _ _ w.heap.size 75 MarkM.zero.V _ _ rfl Hb10.out Tryz.underlying75 rfl info_mark) rfl ⟨by rw [Hp.out]; rfl, by rw [Hp.out]; exact Hds.out⟩
      · have Hp := hid (Hpg.out.trans (if_pos hwe))
        have hwe1 : (WE == 0) = false := by simpa using hwe
        clear Hpg hwe
        go_region_held3 (fun W' => W'.cell? ⟨w3.heap.size, 0, none⟩ = some (.int .u64 m.s) ∧ W'.cell? ⟨w3.heap.size, 1, none⟩ = some (.int .u64 m.w0) ∧ W'.cell? ⟨w3.heap.size, 2, none⟩ = some (.int .u64 m.w1) ∧ W'.cell? ⟨w3.heap.size, 3, none⟩ = some (.int .u64 m.w2) ∧ W'.cell? ⟨w3.heap.size, 4, none⟩ = some (.int .u64 m.w3) ∧ W'.cell? ⟨w3.heap.size, 5, none⟩ = some (.int .u64 m.w4) ∧ W'.cell? ⟨w3.heap.size, 6, none⟩ = some (.int .u64 m.w5)) ((first | go_keep | exact ⟨(fun {o u} (c : w5.cell? ⟨w3.heap.size, o, none⟩ = some u) => (World.cell?_of_block (Ho7.out.block w3.heap.size HBl.out (fun e => e))).trans c) d0, (fun {o u} (c : w5.cell? ⟨w3.heap.size, o, none⟩ = some u) => (World.cell?_of_block (Ho7.out.block w3.heap.size HBl.out (fun e => e))).trans c) d1, (fun {o u} (c : w5.cell? ⟨w3.heap.size, o, none⟩ = some u) => (World.cell?_of_block (Ho7.out.block w3.heap.size HBl.out (fun e => e))).trans c) d2, (fun {o u} (c : w5.cell? ⟨w3.heap.size, o, none⟩ = some u) => (World.cell?_of_block (Ho7.out.block w3.heap.size HBl.out (fun e => e))).trans c) d3, (fun {o u} (c : w5.cell? ⟨w3.heap.size, o, none⟩ = some u) => (World.cell?_of_block (Ho7.out.block w3.heap.size HBl.out (fun e => e))).trans c) d4, (fun {o u} (c : w5.cell? ⟨w3.heap.size, o, none⟩ = some u) => (World.cell?_of_block (Ho7.out.block w3.heap.size HBl.out (fun e => e))).trans c) d5, (fun {o u} (c : w5.cell? ⟨w3.heap.size, o, none⟩ = some u) => (World.cell?_of_block (Ho7.out.block w3.heap.size HBl.out (fun e => e))).trans c) d6⟩ | exact ⟨(fun {o u} (c : w5.cell? ⟨w3.heap.size, o, none⟩ = some u) => (cell_blk Hp8.out.b2 o).trans ((cell_blk Hbm.out o).symm.trans c)) d0, (fun {o u} (c : w5.cell? ⟨w3.heap.size, o, none⟩ = some u) => (cell_blk Hp8.out.b2 o).trans ((cell_blk Hbm.out o).symm.trans c)) d1, (fun {o u} (c : w5.cell? ⟨w3.heap.size, o, none⟩ = some u) => (cell_blk Hp8.out.b2 o).trans ((cell_blk Hbm.out o).symm.trans c)) d2, (fun {o u} (c : w5.cell? ⟨w3.heap.size, o, none⟩ = some u) => (cell_blk Hp8.out.b2 o).trans ((cell_blk Hbm.out o).symm.trans c)) d3, (fun {o u} (c : w5.cell? ⟨w3.heap.size, o, none⟩ = some u) => (cell_blk Hp8.out.b2 o).trans ((cell_blk Hbm.out o).symm.trans c)) d4, (fun {o u} (c : w5.cell? ⟨w3.heap.size, o, none⟩ = some u) => (cell_blk Hp8.out.b2 o).trans ((cell_blk Hbm.out o).symm.trans c)) d5, (fun {o u} (c : w5.cell? ⟨w3.heap.size, o, none⟩ = some u) => (cell_blk Hp8.out.b2 o).trans ((cell_blk Hbm.out o).symm.trans c)) d6⟩)) ((first | (go_at_call 73; refine (HSl _).out.mono ?_; rintro e w' ⟨rfl, rfl⟩) | (go_at_call 84; refine (HBy _).out.mono ?_; rintro e w7 ⟨g, rfl, hg, hrow, ho7⟩; have Hg := hid hg; have Hrow := hid hrow; have Ho7 : Hid (Only (fun _ => False) w5 w7) := hid ((Only.refl (fun _ => False) w5).drew.trans ho7 (fun _ _ e => e)); clear hg hrow ho7) | (go_at_call 81; refine (HWr.out _ _ (Ho5.out.trans Ho7.out (fun _ _ e => e)) Hrow.out (Nat.le_trans Ho5.out.size Hg.out)).out.mono ?_; rintro e w8 ⟨rfl, hst⟩; obtain ⟨F8, hp8⟩ := PutW.mk' hst (Ho5.out.trans Ho7.out (fun _ _ e => e)) Hlt.out (Nat.le_refl _) HG1.out (blk_only Hb5'.out Ho7.out (fun e => e)) (blk_only Hbm.out Ho7.out (fun e => e)); have Hp8 := hid hp8; clear hst hp8)))
        go_wp2_with (first | (refine wpList_store_all rfl 75 (.tmp 6) (.tmp 68) rfl w.heap.size MarkM.zero.V rfl rfl MarkM.zero.V 75 Hp8.out.b1 rfl info_mark (V_one _) ?_; intro w10 hb10 ho10 hs10; have Hb10 := hid hb10; have Hds := hid (Hp8.out.done ho10); clear hb10 ho10 hs10))
        refine bodyPost_ret (results_cell1 (q := 7) rfl _ _ w.heap.size 75 MarkM.zero.V _ _ rfl Hb10.out Tryz.underlying75 rfl info_mark) rfl ⟨by rw [Hp.out]; rfl, by rw [Hp.out]; exact Hds.out⟩
  · have hsq : nextSeq last.s top = top + 1 := if_neg (fun h => h0 h.1)
    have hq : True := trivial
    obtain ⟨m, hmm⟩ : ∃ m, mkMark (top + 1) xs = m := ⟨_, rfl⟩
    rw [hsq, hmm]
    have Hmm := hid hmm
    clear hsq hmm
    go_enter Tryz.func61, Tryz.ntmps61
    go_wp2_with (first | (go_at_call 43; refine (HLk _).out.mono ?_; rintro e w2 ⟨rfl, ho2⟩; have Hb2 := HS w2 ho2; have Ho2 : Hid (Only (fun _ => False) w w2) := hid (((Only.refl (fun _ => False) w).alloc _).trans ho2 (fun _ _ e => e)); clear ho2) | (refine wpList_store_all rfl 75 (.tmp 8) (.tmp 18) rfl w2.heap.size last.V rfl rfl MarkM.zero.V 75 (blk_new w2 _) rfl info_mark (V_one _) ?_; intro w3 hb3 ho3 hs3; have c0 : w3.cell? ⟨w2.heap.size, 0, none⟩ = some (.int .u64 last.s) := cell_blk hb3 0; have Hb3 := hid hb3; have Hb3' := hid ((ho3.block w.heap.size (blk_lt (blk_alloc Hb2.out)) (by show ¬ w.heap.size = w2.heap.size; have := blk_lt Hb2.out; omega)).trans (blk_alloc Hb2.out)); have Hlt3 := hid (And.intro (blk_lt Hb2.out) (blk_lt hb3)); have Ho3 := hid (Ho2.out.trans (((Only.refl (fun _ => False) w2).alloc _).trans ho3 (fun k hk e => by have e' : k = w2.heap.size := e; omega)) (fun _ _ e => e)); clear hb3 ho3 hs3) | (refine wpList_store_all rfl 75 (.tmp 11) (.tmp 37) rfl w3.heap.size #[.int .u64 (top + 1), .int .u64 0, .int .u64 0, .int .u64 0, .int .u64 0, .int .u64 0, .int .u64 0] rfl rfl MarkM.zero.V 75 (blk_new w3 _) rfl info_mark (by simp [Value.oneCell']) ?_; intro w4 hb4 ho4 hs4; have c4 : w4.cell? ⟨w3.heap.size, 0, none⟩ = some (.int .u64 (top + 1)) := cell_blk hb4 0; have z4 := frozen_blk hb4; have c3 : w4.cell? ⟨w2.heap.size, 0, none⟩ = some (.int .u64 last.s) := (World.cell?_of_block ((ho4.block w2.heap.size (blk_lt (blk_alloc Hb3.out)) (by show ¬ w2.heap.size = w3.heap.size; have := Hlt3.out; omega)).trans (by rw [blk_alloc Hb3.out, Hb3.out]))).trans c0; have Hb4 := hid hb4; have Hb4' := hid ((ho4.block w.heap.size (blk_lt (blk_alloc Hb3'.out)) (by show ¬ w.heap.size = w3.heap.size; have := blk_lt Hb3'.out; omega)).trans (blk_alloc Hb3'.out)); have Ho4 := hid (Ho3.out.trans (((Only.refl (fun _ => False) w3).alloc _).trans ho4 (fun k hk e => by have e' : k = w3.heap.size := e; omega)) (fun _ _ e => e)); have Hlt4 := hid (blk_lt hb4); clear hb4 ho4 hs4) | (refine wpList_cpy_in rfl (.tmp 55) (.tmp 56) 124 124 rfl 72 Tryz.underlying124 (by kernel_rfl) w3.heap.size 1 6 6 rfl #[.int .u64 (top + 1), .int .u64 0, .int .u64 0, .int .u64 0, .int .u64 0, .int .u64 0, .int .u64 0] 75 Hb4.out va xs.length vc rfl (nat64 xs) (by rw [length_nat64]; omega) (HVs.out _ Ho4.out) (by rw [length_nat64]; show 1 + xs.length ≤ 7; omega) (fun u hu => by obtain ⟨x, _, rfl⟩ := List.mem_map.1 hu; rfl) ?_; intro w5 hb5 ho5 hs5; have Hb5 := hid hb5; have Hb5' := hid ((ho5.block w.heap.size (blk_lt Hb4'.out) (by show ¬ w.heap.size = w3.heap.size; have := blk_lt Hb3'.out; omega)).trans Hb4'.out); have Ho5 := hid (Ho4.out.trans ho5 (fun k hk e => by have e' : k = w3.heap.size := e; have := Ho3.out.size; omega)); clear hb5 ho5 hs5))
    have hbm := blkMark (n := top + 1) (by omega) hx6 Hb5.out
    have hok := mk_ok (top + 1) xs (by omega) Hxs.out
    rw [Hmm.out] at hbm hok
    have hms : m.s = top + 1 := by rw [← Hmm.out]; rfl
    obtain ⟨sl, hsl⟩ : ∃ sl : Int, (first : Int) + ((m.s % 2 : Nat) : Int) = sl := ⟨_, rfl⟩
    have HSl : ∀ w1, Hid (Calls Tryz.prog 73 #[.int .i64 first, .int .u64 m.s] w1 fun e w' => e = .returned (.int .i64 sl) ∧ w1 = w') := fun w1 => hid (by rw [← hsl]; exact slot_c w1 first m.s (by omega) (by omega))
    have HBy : ∀ w1, Hid (Calls Tryz.prog 84 #[.agg #[.int .u64 m.s, .int .u64 m.w0, .int .u64 m.w1, .int .u64 m.w2, .int .u64 m.w3, .int .u64 m.w4, .int .u64 m.w5]] w1 fun e w' => ∃ g, e = .returned (.slice (some ⟨g, 0, none⟩) 128 128) ∧ w1.heap.size ≤ g ∧ Row w' g 5 128 (bytesV (enc m)) ∧ Only (fun _ => False) w1 w') := fun w1 => hid (bytes_c w1 m hok)
    obtain ⟨⟨WD, WE⟩, hWD⟩ : ∃ W, D.write ((first : Int) + ((m.s % 2 : Nat) : Int)) (enc m) = W := ⟨_, rfl⟩
    obtain ⟨⟨FD, FE⟩, hFD⟩ : ∃ W, WD.flush = W := ⟨_, rfl⟩
    have Hpg : Hid (putGo D first m = if WE ≠ 0 then (WD, MarkM.zero, WE) else if FE ≠ 0 then (FD, MarkM.zero, FE) else (FD, m, 0)) := hid (by unfold putGo; rw [hWD]; simp only [hFD])
    have HWr : ∀ w1 g, Only (fun _ => False) w w1 → Row w1 g 5 128 (bytesV (enc m)) → w.heap.size ≤ g → Hid (Calls Tryz.prog 81 #[.pointer (some ⟨b, 0, none⟩), .int .i64 sl, .slice (some ⟨g, 0, none⟩) 128 128] w1 fun e w' => e = .returned (.int .i64 WE) ∧ DStep w1 w' b WD F) := fun w1 g ho hr hg => by
      have h1 := write_c (HW w1 ho).out sl (.slice (some ⟨g, 0, none⟩) 128 128) (enc m) (by have := hr.src; rw [length_enc] at this; exact this) (fun g' o' c' e hF => by simp only [Value.slice.injEq, Option.some.injEq, Addr.mk.injEq] at e; have := Hlt.out g' hF; omega) (by simp)
      rw [← hsl, hWD, hsl] at h1
      exact hid h1
    have HFl : ∀ w1 F1, DiskAt w1 b WD F1 → Hid (Calls Tryz.prog 60 #[.pointer (some ⟨b, 0, none⟩)] w1 fun e w' => e = .returned (.int .i64 FE) ∧ DiskAt w' b FD F1 ∧ Only F1 w1 w') := fun w1 F1 hd => hid (by have := flush_c hd; rw [hFD] at this; exact this)
    have HWr := hid HWr; have HFl := hid HFl; have HBl := hid (blk_lt hbm)
    have HG1 := hid (show w.heap.size ≤ w3.heap.size from Ho3.out.size)
    have d0 : w5.cell? ⟨w3.heap.size, 0, none⟩ = some (.int .u64 m.s) := cell_blk hbm 0
    have d1 : w5.cell? ⟨w3.heap.size, 1, none⟩ = some (.int .u64 m.w0) := cell_blk hbm 1
    have d2 : w5.cell? ⟨w3.heap.size, 2, none⟩ = some (.int .u64 m.w1) := cell_blk hbm 2
    have d3 : w5.cell? ⟨w3.heap.size, 3, none⟩ = some (.int .u64 m.w2) := cell_blk hbm 3
    have d4 : w5.cell? ⟨w3.heap.size, 4, none⟩ = some (.int .u64 m.w3) := cell_blk hbm 4
    have d5 : w5.cell? ⟨w3.heap.size, 5, none⟩ = some (.int .u64 m.w4) := cell_blk hbm 5
    have d6 : w5.cell? ⟨w3.heap.size, 6, none⟩ = some (.int .u64 m.w5) := cell_blk hbm 6
    have Hbm := hid hbm
    clear hbm hok hms hsl hWD hFD z4 c3 c4 c0 HW HLk HS HVs hq
    by_cases hwe : WE = 0
    · have hwe1 : (WE == 0) = true := by simpa using hwe
      by_cases hfe : FE = 0
      · have Hp := hid (Hpg.out.trans (by rw [if_neg (by simpa using hwe), if_neg (by simpa using hfe)]))
        have hfe1 : (FE == 0) = true := by simpa using hfe
        clear Hpg hwe hfe
        go_region_held3 (fun W' => W'.cell? ⟨w3.heap.size, 0, none⟩ = some (.int .u64 m.s) ∧ W'.cell? ⟨w3.heap.size, 1, none⟩ = some (.int .u64 m.w0) ∧ W'.cell? ⟨w3.heap.size, 2, none⟩ = some (.int .u64 m.w1) ∧ W'.cell? ⟨w3.heap.size, 3, none⟩ = some (.int .u64 m.w2) ∧ W'.cell? ⟨w3.heap.size, 4, none⟩ = some (.int .u64 m.w3) ∧ W'.cell? ⟨w3.heap.size, 5, none⟩ = some (.int .u64 m.w4) ∧ W'.cell? ⟨w3.heap.size, 6, none⟩ = some (.int .u64 m.w5)) ((first | go_keep | exact ⟨(fun {o u} (c : w5.cell? ⟨w3.heap.size, o, none⟩ = some u) => (World.cell?_of_block (Ho7.out.block w3.heap.size HBl.out (fun e => e))).trans c) d0, (fun {o u} (c : w5.cell? ⟨w3.heap.size, o, none⟩ = some u) => (World.cell?_of_block (Ho7.out.block w3.heap.size HBl.out (fun e => e))).trans c) d1, (fun {o u} (c : w5.cell? ⟨w3.heap.size, o, none⟩ = some u) => (World.cell?_of_block (Ho7.out.block w3.heap.size HBl.out (fun e => e))).trans c) d2, (fun {o u} (c : w5.cell? ⟨w3.heap.size, o, none⟩ = some u) => (World.cell?_of_block (Ho7.out.block w3.heap.size HBl.out (fun e => e))).trans c) d3, (fun {o u} (c : w5.cell? ⟨w3.heap.size, o, none⟩ = some u) => (World.cell?_of_block (Ho7.out.block w3.heap.size HBl.out (fun e => e))).trans c) d4, (fun {o u} (c : w5.cell? ⟨w3.heap.size, o, none⟩ = some u) => (World.cell?_of_block (Ho7.out.block w3.heap.size HBl.out (fun e => e))).trans c) d5, (fun {o u} (c : w5.cell? ⟨w3.heap.size, o, none⟩ = some u) => (World.cell?_of_block (Ho7.out.block w3.heap.size HBl.out (fun e => e))).trans c) d6⟩ | exact ⟨(fun {o u} (c : w5.cell? ⟨w3.heap.size, o, none⟩ = some u) => (cell_blk Hp8.out.b2 o).trans ((cell_blk Hbm.out o).symm.trans c)) d0, (fun {o u} (c : w5.cell? ⟨w3.heap.size, o, none⟩ = some u) => (cell_blk Hp8.out.b2 o).trans ((cell_blk Hbm.out o).symm.trans c)) d1, (fun {o u} (c : w5.cell? ⟨w3.heap.size, o, none⟩ = some u) => (cell_blk Hp8.out.b2 o).trans ((cell_blk Hbm.out o).symm.trans c)) d2, (fun {o u} (c : w5.cell? ⟨w3.heap.size, o, none⟩ = some u) => (cell_blk Hp8.out.b2 o).trans ((cell_blk Hbm.out o).symm.trans c)) d3, (fun {o u} (c : w5.cell? ⟨w3.heap.size, o, none⟩ = some u) => (cell_blk Hp8.out.b2 o).trans ((cell_blk Hbm.out o).symm.trans c)) d4, (fun {o u} (c : w5.cell? ⟨w3.heap.size, o, none⟩ = some u) => (cell_blk Hp8.out.b2 o).trans ((cell_blk Hbm.out o).symm.trans c)) d5, (fun {o u} (c : w5.cell? ⟨w3.heap.size, o, none⟩ = some u) => (cell_blk Hp8.out.b2 o).trans ((cell_blk Hbm.out o).symm.trans c)) d6⟩)) ((first | (go_at_call 73; refine (HSl _).out.mono ?_; rintro e w' ⟨rfl, rfl⟩) | (go_at_call 84; refine (HBy _).out.mono ?_; rintro e w7 ⟨g, rfl, hg, hrow, ho7⟩; have Hg := hid hg; have Hrow := hid hrow; have Ho7 : Hid (Only (fun _ => False) w5 w7) := hid ((Only.refl (fun _ => False) w5).drew.trans ho7 (fun _ _ e => e)); clear hg hrow ho7) | (go_at_call 81; refine (HWr.out _ _ (Ho5.out.trans Ho7.out (fun _ _ e => e)) Hrow.out (Nat.le_trans Ho5.out.size Hg.out)).out.mono ?_; rintro e w8 ⟨rfl, hst⟩; obtain ⟨F8, hp8⟩ := PutW.mk' hst (Ho5.out.trans Ho7.out (fun _ _ e => e)) Hlt.out (Nat.le_refl _) HG1.out (blk_only Hb5'.out Ho7.out (fun e => e)) (blk_only Hbm.out Ho7.out (fun e => e)); have Hp8 := hid hp8; clear hst hp8)))
        go_wp2_with (first | (go_at_call 60; refine (HFl.out _ _ Hp8.out.disk).out.mono ?_; rintro e w9 ⟨rfl, hd9, ho9⟩; have Hp9 := hid (Hp8.out.step hd9 ho9); clear hd9 ho9) | (refine wpList_load_row rfl 75 (.tmp 11) rfl w3.heap.size rfl 75 m.V (0, 0) _ Hp9.out.b2 Tryz.underlying75 rfl info_mark ?_) | (refine wpList_store_all rfl 75 (.tmp 6) (.tmp 76) rfl w.heap.size m.V rfl rfl MarkM.zero.V 75 Hp9.out.b1 rfl info_mark (V_one _) ?_; intro w10 hb10 ho10 hs10; have Hb10 := hid hb10; have Hds := hid (Hp9.out.done ho10); clear hb10 ho10 hs10))
        refine bodyPost_ret (results_cell1 (q := 7) rfl _ _ w.heap.size 75 m.V _ _ rfl Hb10.out Tryz.underlying75 rfl info_mark) rfl ⟨by rw [Hp.out]; rfl, by rw [Hp.out]; exact Hds.out⟩
      · have Hp := hid (Hpg.out.trans (by rw [if_neg (by simpa using hwe), if_pos hfe]))
        have hfe1 : (FE == 0) = false := by simpa using hfe
        clear Hpg hwe hfe
        go_region_held3 (fun W' => W'.cell? ⟨w3.heap.size, 0, none⟩ = some (.int .u64 m.s) ∧ W'.cell? ⟨w3.heap.size, 1, none⟩ = some (.int .u64 m.w0) ∧ W'.cell? ⟨w3.heap.size, 2, none⟩ = some (.int .u64 m.w1) ∧ W'.cell? ⟨w3.heap.size, 3, none⟩ = some (.int .u64 m.w2) ∧ W'.cell? ⟨w3.heap.size, 4, none⟩ = some (.int .u64 m.w3) ∧ W'.cell? ⟨w3.heap.size, 5, none⟩ = some (.int .u64 m.w4) ∧ W'.cell? ⟨w3.heap.size, 6, none⟩ = some (.int .u64 m.w5)) ((first | go_keep | exact ⟨(fun {o u} (c : w5.cell? ⟨w3.heap.size, o, none⟩ = some u) => (World.cell?_of_block (Ho7.out.block w3.heap.size HBl.out (fun e => e))).trans c) d0, (fun {o u} (c : w5.cell? ⟨w3.heap.size, o, none⟩ = some u) => (World.cell?_of_block (Ho7.out.block w3.heap.size HBl.out (fun e => e))).trans c) d1, (fun {o u} (c : w5.cell? ⟨w3.heap.size, o, none⟩ = some u) => (World.cell?_of_block (Ho7.out.block w3.heap.size HBl.out (fun e => e))).trans c) d2, (fun {o u} (c : w5.cell? ⟨w3.heap.size, o, none⟩ = some u) => (World.cell?_of_block (Ho7.out.block w3.heap.size HBl.out (fun e => e))).trans c) d3, (fun {o u} (c : w5.cell? ⟨w3.heap.size, o, none⟩ = some u) => (World.cell?_of_block (Ho7.out.block w3.heap.size HBl.out (fun e => e))).trans c) d4, (fun {o u} (c : w5.cell? ⟨w3.heap.size, o, none⟩ = some u) => (World.cell?_of_block (Ho7.out.block w3.heap.size HBl.out (fun e => e))).trans c) d5, (fun {o u} (c : w5.cell? ⟨w3.heap.size, o, none⟩ = some u) => (World.cell?_of_block (Ho7.out.block w3.heap.size HBl.out (fun e => e))).trans c) d6⟩ | exact ⟨(fun {o u} (c : w5.cell? ⟨w3.heap.size, o, none⟩ = some u) => (cell_blk Hp8.out.b2 o).trans ((cell_blk Hbm.out o).symm.trans c)) d0, (fun {o u} (c : w5.cell? ⟨w3.heap.size, o, none⟩ = some u) => (cell_blk Hp8.out.b2 o).trans ((cell_blk Hbm.out o).symm.trans c)) d1, (fun {o u} (c : w5.cell? ⟨w3.heap.size, o, none⟩ = some u) => (cell_blk Hp8.out.b2 o).trans ((cell_blk Hbm.out o).symm.trans c)) d2, (fun {o u} (c : w5.cell? ⟨w3.heap.size, o, none⟩ = some u) => (cell_blk Hp8.out.b2 o).trans ((cell_blk Hbm.out o).symm.trans c)) d3, (fun {o u} (c : w5.cell? ⟨w3.heap.size, o, none⟩ = some u) => (cell_blk Hp8.out.b2 o).trans ((cell_blk Hbm.out o).symm.trans c)) d4, (fun {o u} (c : w5.cell? ⟨w3.heap.size, o, none⟩ = some u) => (cell_blk Hp8.out.b2 o).trans ((cell_blk Hbm.out o).symm.trans c)) d5, (fun {o u} (c : w5.cell? ⟨w3.heap.size, o, none⟩ = some u) => (cell_blk Hp8.out.b2 o).trans ((cell_blk Hbm.out o).symm.trans c)) d6⟩)) ((first | (go_at_call 73; refine (HSl _).out.mono ?_; rintro e w' ⟨rfl, rfl⟩) | (go_at_call 84; refine (HBy _).out.mono ?_; rintro e w7 ⟨g, rfl, hg, hrow, ho7⟩; have Hg := hid hg; have Hrow := hid hrow; have Ho7 : Hid (Only (fun _ => False) w5 w7) := hid ((Only.refl (fun _ => False) w5).drew.trans ho7 (fun _ _ e => e)); clear hg hrow ho7) | (go_at_call 81; refine (HWr.out _ _ (Ho5.out.trans Ho7.out (fun _ _ e => e)) Hrow.out (Nat.le_trans Ho5.out.size Hg.out)).out.mono ?_; rintro e w8 ⟨rfl, hst⟩; obtain ⟨F8, hp8⟩ := PutW.mk' hst (Ho5.out.trans Ho7.out (fun _ _ e => e)) Hlt.out (Nat.le_refl _) HG1.out (blk_only Hb5'.out Ho7.out (fun e => e)) (blk_only Hbm.out Ho7.out (fun e => e)); have Hp8 := hid hp8; clear hst hp8)))
        go_wp2_with (first | (go_at_call 60; refine (HFl.out _ _ Hp8.out.disk).out.mono ?_; rintro e w9 ⟨rfl, hd9, ho9⟩; have Hp9 := hid (Hp8.out.step hd9 ho9); clear hd9 ho9) | (refine wpList_store_all rfl 75 (.tmp 6) (.tmp 74) rfl w.heap.size MarkM.zero.V rfl rfl MarkM.zero.V 75 Hp9.out.b1 rfl info_mark (V_one _) ?_; intro w10 hb10 ho10 hs10; have Hb10 := hid hb10; have Hds := hid (Hp9.out.done ho10); clear hb10 ho10 hs10))
        refine bodyPost_ret (results_cell1 (q := 7) rfl _ _ w.heap.size 75 MarkM.zero.V _ _ rfl Hb10.out Tryz.underlying75 rfl info_mark) rfl ⟨by rw [Hp.out]; rfl, by rw [Hp.out]; exact Hds.out⟩
    · have Hp := hid (Hpg.out.trans (if_pos hwe))
      have hwe1 : (WE == 0) = false := by simpa using hwe
      clear Hpg hwe
      go_region_held3 (fun W' => W'.cell? ⟨w3.heap.size, 0, none⟩ = some (.int .u64 m.s) ∧ W'.cell? ⟨w3.heap.size, 1, none⟩ = some (.int .u64 m.w0) ∧ W'.cell? ⟨w3.heap.size, 2, none⟩ = some (.int .u64 m.w1) ∧ W'.cell? ⟨w3.heap.size, 3, none⟩ = some (.int .u64 m.w2) ∧ W'.cell? ⟨w3.heap.size, 4, none⟩ = some (.int .u64 m.w3) ∧ W'.cell? ⟨w3.heap.size, 5, none⟩ = some (.int .u64 m.w4) ∧ W'.cell? ⟨w3.heap.size, 6, none⟩ = some (.int .u64 m.w5)) ((first | go_keep | exact ⟨(fun {o u} (c : w5.cell? ⟨w3.heap.size, o, none⟩ = some u) => (World.cell?_of_block (Ho7.out.block w3.heap.size HBl.out (fun e => e))).trans c) d0, (fun {o u} (c : w5.cell? ⟨w3.heap.size, o, none⟩ = some u) => (World.cell?_of_block (Ho7.out.block w3.heap.size HBl.out (fun e => e))).trans c) d1, (fun {o u} (c : w5.cell? ⟨w3.heap.size, o, none⟩ = some u) => (World.cell?_of_block (Ho7.out.block w3.heap.size HBl.out (fun e => e))).trans c) d2, (fun {o u} (c : w5.cell? ⟨w3.heap.size, o, none⟩ = some u) => (World.cell?_of_block (Ho7.out.block w3.heap.size HBl.out (fun e => e))).trans c) d3, (fun {o u} (c : w5.cell? ⟨w3.heap.size, o, none⟩ = some u) => (World.cell?_of_block (Ho7.out.block w3.heap.size HBl.out (fun e => e))).trans c) d4, (fun {o u} (c : w5.cell? ⟨w3.heap.size, o, none⟩ = some u) => (World.cell?_of_block (Ho7.out.block w3.heap.size HBl.out (fun e => e))).trans c) d5, (fun {o u} (c : w5.cell? ⟨w3.heap.size, o, none⟩ = some u) => (World.cell?_of_block (Ho7.out.block w3.heap.size HBl.out (fun e => e))).trans c) d6⟩ | exact ⟨(fun {o u} (c : w5.cell? ⟨w3.heap.size, o, none⟩ = some u) => (cell_blk Hp8.out.b2 o).trans ((cell_blk Hbm.out o).symm.trans c)) d0, (fun {o u} (c : w5.cell? ⟨w3.heap.size, o, none⟩ = some u) => (cell_blk Hp8.out.b2 o).trans ((cell_blk Hbm.out o).symm.trans c)) d1, (fun {o u} (c : w5.cell? ⟨w3.heap.size, o, none⟩ = some u) => (cell_blk Hp8.out.b2 o).trans ((cell_blk Hbm.out o).symm.trans c)) d2, (fun {o u} (c : w5.cell? ⟨w3.heap.size, o, none⟩ = some u) => (cell_blk Hp8.out.b2 o).trans ((cell_blk Hbm.out o).symm.trans c)) d3, (fun {o u} (c : w5.cell? ⟨w3.heap.size, o, none⟩ = some u) => (cell_blk Hp8.out.b2 o).trans ((cell_blk Hbm.out o).symm.trans c)) d4, (fun {o u} (c : w5.cell? ⟨w3.heap.size, o, none⟩ = some u) => (cell_blk Hp8.out.b2 o).trans ((cell_blk Hbm.out o).symm.trans c)) d5, (fun {o u} (c : w5.cell? ⟨w3.heap.size, o, none⟩ = some u) => (cell_blk Hp8.out.b2 o).trans ((cell_blk Hbm.out o).symm.trans c)) d6⟩)) ((first | (go_at_call 73; refine (HSl _).out.mono ?_; rintro e w' ⟨rfl, rfl⟩) | (go_at_call 84; refine (HBy _).out.mono ?_; rintro e w7 ⟨g, rfl, hg, hrow, ho7⟩; have Hg := hid hg; have Hrow := hid hrow; have Ho7 : Hid (Only (fun _ => False) w5 w7) := hid ((Only.refl (fun _ => False) w5).drew.trans ho7 (fun _ _ e => e)); clear hg hrow ho7) | (go_at_call 81; refine (HWr.out _ _ (Ho5.out.trans Ho7.out (fun _ _ e => e)) Hrow.out (Nat.le_trans Ho5.out.size Hg.out)).out.mono ?_; rintro e w8 ⟨rfl, hst⟩; obtain ⟨F8, hp8⟩ := PutW.mk' hst (Ho5.out.trans Ho7.out (fun _ _ e => e)) Hlt.out (Nat.le_refl _) HG1.out (blk_only Hb5'.out Ho7.out (fun e => e)) (blk_only Hbm.out Ho7.out (fun e => e)); have Hp8 := hid hp8; clear hst hp8)))
      go_wp2_with (first | (refine wpList_store_all rfl 75 (.tmp 6) (.tmp 68) rfl w.heap.size MarkM.zero.V rfl rfl MarkM.zero.V 75 Hp8.out.b1 rfl info_mark (V_one _) ?_; intro w10 hb10 ho10 hs10; have Hb10 := hid hb10; have Hds := hid (Hp8.out.done ho10); clear hb10 ho10 hs10))
      refine bodyPost_ret (results_cell1 (q := 7) rfl _ _ w.heap.size 75 MarkM.zero.V _ _ rfl Hb10.out Tryz.underlying75 rfl info_mark) rfl ⟨by rw [Hp.out]; rfl, by rw [Hp.out]; exact Hds.out⟩

/-- A mark is put, whatever comes of it. -/
theorem put_c (h : DiskAt w b D F) (first : Int) (hf : first ≤ 9223372036854775807) (v : Value) (xs : List Nat) (hv : SrcV w v (nat64 xs)) (hxl : xs.length ≤ 9223372036854775807) (hxs : ∀ x ∈ xs, x < 18446744073709551616) :
    Calls Tryz.prog 61 #[.pointer (some ⟨b, 0, none⟩), .int .i64 first, v] w fun e w' => e = .returned (.tuple #[.agg (putR D first xs).2.1.V, .int .i64 (putR D first xs).2.2]) ∧ DStep w w' b (putR D first xs).1 F := by
  by_cases hno : (lookR D first).2.2 ≠ 0 ∨ 6 < xs.length ∨ topMax < (lookR D first).2.1
  · refine (put_no h first hf v xs hv hxl hno).mono ?_
    rintro e w' ⟨rfl, ho, e1, e2⟩
    rw [e1, e2]
    exact ⟨rfl, (h.only ho (fun _ _ e => e)).step (ho.mono (fun _ _ e => e.elim))⟩
  · have h1 : (lookR D first).2.2 = 0 := by
      rcases Classical.em ((lookR D first).2.2 = 0) with e | e
      · exact e
      · exact absurd (.inl e) hno
    have hr : putR D first xs = putGo D first (putMark D first xs) := by
      unfold putR
      rw [if_neg (by simpa using h1), if_neg (fun e => hno (.inr (.inl e))), if_neg (fun e => hno (.inr (.inr e)))]
    have hge : ¬ (first < 0 ∨ (D.n : Int) - 1 ≤ first ∨ D.down = true) := by
      intro e
      unfold lookR at h1
      rw [if_pos e] at h1
      unfold lookErr at h1
      simp only at h1
      split at h1 <;> cases h1
    obtain ⟨f, rfl⟩ : ∃ f : Nat, first = f := ⟨first.toNat, by omega⟩
    rw [hr]
    exact put_go h f (by omega) v xs hv (by omega) hxs h1 (by omega)
end
end Go.Proofs.YtfmdngeooelcpaaGreat
namespace Go.Proofs.YtfmdngeooelcpaaGreat
open Go.RowKit

theorem byteAt_succ (n j : Nat) : byteAt n (j + 1) = byteAt (n / 256) j := by
  unfold byteAt
  rw [Nat.div_div_eq_div_mul, Nat.mul_add, Nat.pow_add, Nat.mul_comm]
theorem deN_map : ∀ k n, deN ((List.range k).map (byteAt n)) = n % 256 ^ k
  | 0, n => by simp [deN, Nat.mod_one]
  | k + 1, n => by
    rw [List.range_succ_eq_map, List.map_cons, List.map_map]
    have : byteAt n ∘ Nat.succ = byteAt (n / 256) := funext fun j => byteAt_succ n j
    rw [this, deN, deN_map k, Nat.pow_succ, Nat.mul_comm (256 ^ k), Nat.mod_mul]
    congr 1
    simp [byteAt]
theorem deN_le8 (n : Nat) (h : n < 18446744073709551616) : deN (le8 n) = n := by
  unfold le8
  rw [deN_map, show (256 : Nat) ^ 8 = 18446744073709551616 from by decide]
  exact Nat.mod_eq_of_lt h
theorem flat8_drop : ∀ (l : List Nat) (i n : Nat), l[i]? = some n → ((l.flatMap le8).drop (8 * i)).take 8 = le8 n
  | [], i, n, h => by simp at h
  | m :: l, 0, n, h => by
    simp only [List.getElem?_cons_zero, Option.some.injEq] at h
    subst h
    rw [List.flatMap_cons, Nat.mul_zero, List.drop_zero, List.take_append_of_le_length (by simp), List.take_of_length_le (by simp)]
  | m :: l, i + 1, n, h => by
    rw [List.flatMap_cons, Nat.mul_add, Nat.mul_one, Nat.add_comm (8 * i) 8, ← List.drop_drop, List.drop_left' (length_le8 m)]
    exact flat8_drop l i n (by simpa using h)
theorem enc_half (m : MarkM) : (enc m).take 56 = encH m := by
  unfold enc; rw [List.append_assoc, List.take_append_of_le_length (by simp), List.take_of_length_le (by simp)]
theorem enc_drop56 (m : MarkM) : (enc m).drop 56 = encH m ++ zeros 16 := by
  unfold enc; rw [List.append_assoc, List.drop_append_of_le_length (by simp), List.drop_of_length_le (by simp), List.nil_append]
theorem enc_half2 (m : MarkM) : ((enc m).drop 56).take 56 = encH m := by
  rw [enc_drop56, List.take_append_of_le_length (by simp), List.take_of_length_le (by simp)]
theorem enc_tail (m : MarkM) : (enc m).drop 112 = zeros 16 := by
  rw [show 112 = 56 + 56 from rfl, ← List.drop_drop, enc_drop56, List.drop_append_of_le_length (by simp), List.drop_of_length_le (by simp), List.nil_append]
theorem deAt_enc (m : MarkM) (hm : m.ok) (i n : Nat) (h : m.nums[i]? = some n) : deAt (enc m) i = n := by
  have hi : i < 7 := by
    rcases Nat.lt_or_ge i 7 with h' | h'
    · exact h'
    · rw [List.getElem?_eq_none (by simpa [MarkM.nums] using h')] at h; cases h
  unfold deAt
  have e : ((enc m).drop (8 * i)).take 8 = ((encH m).drop (8 * i)).take 8 := by
    rw [← enc_half, List.drop_take, List.take_take]
    congr 1; omega
  rw [e]
  unfold encH
  rw [flat8_drop _ _ _ h]
  exact deN_le8 n (hm n (List.mem_of_getElem? h))
theorem decM_enc (m : MarkM) (hm : m.ok) : decM (enc m) = m := by
  unfold decM
  rw [deAt_enc m hm 0 m.s rfl, deAt_enc m hm 1 m.w0 rfl, deAt_enc m hm 2 m.w1 rfl, deAt_enc m hm 3 m.w2 rfl, deAt_enc m hm 4 m.w3 rfl, deAt_enc m hm 5 m.w4 rfl, deAt_enc m hm 6 m.w5 rfl]
theorem readOk_enc (m : MarkM) : readOk (enc m) = true := by
  unfold readOk
  rw [enc_half, enc_half2, enc_tail]
  simp [zeros]
theorem readM_enc (m : MarkM) (hm : m.ok) : readM (enc m) = (m, decide (0 < m.s)) := by
  unfold readM
  rw [readOk_enc, decM_enc m hm]; rfl
theorem num0_enc (m : MarkM) (hm : m.ok) : deN ((enc m).take 8) = m.s := by
  have := deAt_enc m hm 0 m.s rfl
  simpa [deAt] using this
theorem num1_enc (m : MarkM) (hm : m.ok) : deN (((enc m).drop 56).take 8) = m.s := by
  rw [enc_drop56, List.take_append_of_le_length (by simp)]
  have := flat8_drop m.nums 0 m.s rfl
  rw [Nat.mul_zero, List.drop_zero] at this
  unfold encH
  rw [this]; exact deN_le8 _ (hm m.s (by simp [MarkM.nums]))
theorem zero_ok : MarkM.zero.ok := by intro n hn; simp [MarkM.zero, MarkM.nums] at hn; omega
theorem enc_zero : enc MarkM.zero = zeros 128 := by decide

/-- Two sectors on which marks stand: the even one on the first, the odd one on the second (or none yet). -/
structure Slots (C : Nat → List UInt8) (m0 m1 : MarkM) : Prop where
  c0 : C 0 = enc m0
  c1 : C 1 = enc m1
  ok0 : m0.ok
  ok1 : m1.ok
  p0 : m0.s % 2 = 0
  p1 : m1 = MarkM.zero ∨ m1.s % 2 = 1
  z0 : m0.s = 0 → m0 = MarkM.zero
theorem step_enc (k : Nat) (p : MarkM × Nat) (m : MarkM) (hm : m.ok) : lookStep k p (enc m) = (if 0 < m.s ∧ p.1.s < m.s ∧ m.s % 2 = k then m else p.1, max p.2 m.s) := by
  unfold lookStep
  simp only [readM_enc m hm, num0_enc m hm, num1_enc m hm, decide_eq_true_eq]
  congr 1
  omega
theorem Slots.look {C : Nat → List UInt8} {m0 m1 : MarkM} (h : Slots C m0 m1) : lookK C 2 = (if m0.s < m1.s then m1 else m0, max m0.s m1.s) := by
  have e1 : lookK C 1 = (m0, m0.s) := by
    show lookStep 0 (MarkM.zero, 0) (C 0) = _
    rw [h.c0, step_enc 0 _ m0 h.ok0]
    rcases Nat.eq_zero_or_pos m0.s with h0 | h0
    · rw [h.z0 h0]; rfl
    · rw [if_pos ⟨h0, h0, h.p0⟩]; simp
  show lookStep 1 (lookK C 1) (C 1) = _
  rw [e1, h.c1, step_enc 1 _ m1 h.ok1]
  rcases h.p1 with hz | hp
  · rw [hz]; simp [MarkM.zero]
  · by_cases hlt : m0.s < m1.s
    · rw [if_pos ⟨by omega, hlt, hp⟩, if_pos hlt]
    · rw [if_neg (fun e => hlt e.2.1), if_neg hlt]

/-- The last one of two. -/
def lastOf (m0 m1 : MarkM) : MarkM := if m0.s < m1.s then m1 else m0
theorem last_s (m0 m1 : MarkM) : (lastOf m0 m1).s = max m0.s m1.s := by unfold lastOf; split <;> omega
section
variable {D : DiskM} {first : Nat} {m0 m1 : MarkM}
theorem Slots.lookR (h : Slots (fun k => D.cur (first + k)) m0 m1) (hd : D.down = false) (hf : first + 1 < D.n) : lookR D first = (lastOf m0 m1, (lastOf m0 m1).s, 0) := by
  unfold Go.Proofs.YtfmdngeooelcpaaGreat.lookR
  rw [if_neg (by rw [hd]; intro e; rcases e with e | e | e; omega; omega; cases e)]
  simp only [Int.toNat_natCast]
  rw [h.look, last_s]; rfl
theorem Slots.getR (h : Slots (fun k => D.cur (first + k)) m0 m1) (hd : D.down = false) (hf : first + 1 < D.n) : getR D first = if (lastOf m0 m1).s = 0 then (MarkM.zero, 4) else (lastOf m0 m1, 0) := by
  unfold Go.Proofs.YtfmdngeooelcpaaGreat.getR
  rw [h.lookR hd hf]; rfl
theorem next_last (s : Nat) : nextSeq s s = s + 1 := by
  unfold nextSeq; rw [if_neg (by omega)]

/-- A write and a flush that both are done. -/
theorem putGo_done (m : MarkM) (hd : D.down = false) (hf : first + 1 < D.n) (hfu : D.fuse < 0 ∨ 2 ≤ D.fuse) :
    ∃ D', putGo D first m = (D', m, 0) ∧ D'.down = false ∧ D'.n = D.n ∧ D'.fuse = (if D.fuse < 0 then D.fuse else D.fuse - 2) ∧ (∀ k, D'.pend k = none) ∧ (∀ k, D'.sure k = if k = first + m.s % 2 then enc m else D.cur k) := by
  have hb : D.burns = true := by unfold DiskM.burns; simp; omega
  have hpl : ¬ (((first : Int) + ((m.s % 2 : Nat) : Int)) < 0 ∨ (D.n : Int) ≤ (first : Int) + ((m.s % 2 : Nat) : Int)) := by omega
  obtain ⟨W, hW⟩ : ∃ W : DiskM, W = { D.burn.put ((first : Int) + ((m.s % 2 : Nat) : Int)).toNat (enc m) with nw := wrap64 (D.nw + 1) } := ⟨_, rfl⟩
  have ew : D.write ((first : Int) + ((m.s % 2 : Nat) : Int)) (enc m) = (W, 0) := by
    unfold DiskM.write
    rw [hd, hb, if_neg (by simp), if_neg hpl, if_neg (by simp), if_neg (by simp), if_pos rfl, ← hW]
  have wd : W.down = false := by rw [hW]; show D.burn.down = false; unfold DiskM.burn; split; exact hd; rw [if_neg (by omega)]; exact hd
  have wfu : W.fuse = D.burn.fuse := by rw [hW]; rfl
  have wf : W.fuse = (if D.fuse < 0 then D.fuse else D.fuse - 1) := by
    rw [wfu]; unfold DiskM.burn
    split
    · rfl
    · rw [if_neg (by omega)]
  have wb : W.burns = true := by unfold DiskM.burns; rw [wf]; split <;> simp <;> omega
  have ef : W.flush = ({ W.burn.flushed with nf := wrap64 (W.nf + 1) }, 0) := by
    unfold DiskM.flush; rw [wd, wb]; rfl
  have wn : W.n = D.n := by rw [hW]; exact burn_n D
  have bd : W.burn.down = false := by unfold DiskM.burn; split; exact wd; rw [if_neg (by rw [wf] at *; split <;> omega)]; exact wd
  refine ⟨{ W.burn.flushed with nf := wrap64 (W.nf + 1) }, ?_, bd, (burn_n W).trans wn, ?_, fun k => rfl, fun k => ?_⟩
  · unfold putGo
    rw [ew]
    simp only [ef]
    rfl
  · show W.burn.fuse = _
    unfold DiskM.burn
    by_cases h0 : D.fuse < 0
    · rw [if_pos (by rw [wf, if_pos h0]; exact h0), wf]; simp [h0]
    · rw [if_neg (by rw [wf, if_neg h0]; omega), if_neg (by rw [wf, if_neg h0]; omega)]
      show W.fuse - 1 = _
      rw [wf, if_neg h0, if_neg h0]; omega
  · show W.burn.cur k = _
    have e1 : W.burn.cur k = W.cur k := by unfold DiskM.cur; rw [burn_pend, burn_sure]
    rw [e1, hW]
    unfold DiskM.cur
    show ((D.burn.put _ (enc m)).pend k).getD (D.burn.sure k) = _
    unfold DiskM.put
    simp only [burn_pend, burn_sure]
    have : ((first : Int) + ((m.s % 2 : Nat) : Int)).toNat = first + m.s % 2 := by omega
    rw [this]
    split <;> rfl

theorem mk_s (s : Nat) (xs : List Nat) : (mkMark s xs).s = s := rfl
/-- A mark that is put. -/
theorem Slots.put (h : Slots (fun k => D.cur (first + k)) m0 m1) (hd : D.down = false) (hf : first + 1 < D.n) (hfu : D.fuse < 0 ∨ 2 ≤ D.fuse) (xs : List Nat) (h6 : xs.length ≤ 6) (hx : ∀ x ∈ xs, x < 18446744073709551616) (hs : (lastOf m0 m1).s ≤ 1000000) :
    ∃ D' n0 n1, putR D first xs = (D', mkMark ((lastOf m0 m1).s + 1) xs, 0) ∧ Slots (fun k => D'.cur (first + k)) n0 n1 ∧ lastOf n0 n1 = mkMark ((lastOf m0 m1).s + 1) xs ∧ D'.down = false ∧ D'.n = D.n ∧ D'.fuse = (if D.fuse < 0 then D.fuse else D.fuse - 2) ∧ (∀ k, D'.pend k = none) ∧ (∀ k, D'.sure k = if k = first + ((lastOf m0 m1).s + 1) % 2 then enc (mkMark ((lastOf m0 m1).s + 1) xs) else D.cur k) := by
  have hl := h.lookR hd hf
  have hpm : putMark D first xs = mkMark ((lastOf m0 m1).s + 1) xs := by
    unfold putMark
    rw [hl]
    simp only
    rw [next_last]
  obtain ⟨D', e, g1, g2, g3, g4, g5⟩ := putGo_done (first := first) (mkMark ((lastOf m0 m1).s + 1) xs) hd hf hfu
  have hr : putR D first xs = (D', mkMark ((lastOf m0 m1).s + 1) xs, 0) := by
    unfold putR
    rw [hpm, hl]
    simp only
    rw [if_neg (by simp), if_neg (by omega), if_neg (by unfold topMax; omega), e]
  have hcur : ∀ k, D'.cur k = if k = first + ((lastOf m0 m1).s + 1) % 2 then enc (mkMark ((lastOf m0 m1).s + 1) xs) else D.cur k := fun k => by
    unfold DiskM.cur
    rw [g4 k]
    exact g5 k
  have hok := mk_ok ((lastOf m0 m1).s + 1) xs (by omega) hx
  have hlm := last_s m0 m1
  have k0 := h.c0
  have k1 := h.c1
  simp only [Nat.add_zero] at k0 k1
  by_cases hp : ((lastOf m0 m1).s + 1) % 2 = 0
  · refine ⟨D', mkMark ((lastOf m0 m1).s + 1) xs, m1, hr, ⟨?_, ?_, hok, h.ok1, hp, h.p1, fun e => by rw [mk_s] at e; omega⟩, ?_, g1, g2, g3, g4, g5⟩
    · show D'.cur (first + 0) = _
      rw [hcur, if_pos (by omega)]
    · show D'.cur (first + 1) = _
      rw [hcur, if_neg (by omega)]; exact k1
    · show (if (mkMark ((lastOf m0 m1).s + 1) xs).s < m1.s then _ else _) = _
      rw [if_neg (by rw [mk_s]; omega)]
  · refine ⟨D', m0, mkMark ((lastOf m0 m1).s + 1) xs, hr, ⟨?_, ?_, h.ok0, hok, h.p0, .inr (by rw [mk_s]; omega), h.z0⟩, ?_, g1, g2, g3, g4, g5⟩
    · show D'.cur (first + 0) = _
      rw [hcur, if_neg (by omega)]; exact k0
    · show D'.cur (first + 1) = _
      rw [hcur, if_pos (by omega)]
    · have hlt : m0.s < (mkMark ((lastOf m0 m1).s + 1) xs).s := by rw [mk_s]; omega
      show (if m0.s < (mkMark ((lastOf m0 m1).s + 1) xs).s then _ else _) = _
      rw [if_pos hlt]
end
end Go.Proofs.YtfmdngeooelcpaaGreat
namespace Go.Proofs.YtfmdngeooelcpaaGreat
open Go.RowKit

/-- A sector whose two numbers are one byte each, none above B. -/
structure SmallS (c : List UInt8) (B : Nat) : Prop where
  len : c.length = 128
  hi0 : ∀ i, 1 ≤ i → i < 8 → c[i]? = some 0
  hi1 : ∀ i, 1 ≤ i → i < 8 → c[56 + i]? = some 0
  lo0 : ∃ x, c[0]? = some x ∧ x.toNat ≤ B
  lo1 : ∃ x, c[56]? = some x ∧ x.toNat ≤ B
theorem SmallS.mono {c : List UInt8} {B B' : Nat} (h : SmallS c B) (hb : B ≤ B') : SmallS c B' :=
  ⟨h.len, h.hi0, h.hi1, let ⟨x, a, b⟩ := h.lo0; ⟨x, a, by omega⟩, let ⟨x, a, b⟩ := h.lo1; ⟨x, a, by omega⟩⟩
theorem deN_small {c : List UInt8} {x : UInt8} (j : Nat) (h0 : c[j]? = some x) (hz : ∀ i, 1 ≤ i → i < 8 → c[j + i]? = some 0) : deN ((c.drop j).take 8) = x.toNat := by
  have : (c.drop j).take 8 = [x, 0, 0, 0, 0, 0, 0, 0] := by
    apply List.ext_getElem?
    intro i
    rw [List.getElem?_take]
    by_cases hi : i < 8
    · rw [if_pos hi, List.getElem?_drop]
      rcases Nat.eq_zero_or_pos i with rfl | hp
      · simpa using h0
      · rw [hz i hp hi]
        have : i = 1 ∨ i = 2 ∨ i = 3 ∨ i = 4 ∨ i = 5 ∨ i = 6 ∨ i = 7 := by omega
        rcases this with rfl | rfl | rfl | rfl | rfl | rfl | rfl <;> rfl
    · rw [if_neg hi, List.getElem?_eq_none (by simp; omega)]
  rw [this]; simp [deN]
theorem SmallS.num0 {c : List UInt8} {B : Nat} (h : SmallS c B) : deN (c.take 8) ≤ B := by
  obtain ⟨x, hx, hb⟩ := h.lo0
  have := deN_small (c := c) 0 hx (fun i h1 h2 => by rw [Nat.zero_add]; exact h.hi0 i h1 h2)
  rw [List.drop_zero] at this
  omega
theorem SmallS.num1 {c : List UInt8} {B : Nat} (h : SmallS c B) : deN ((c.drop 56).take 8) ≤ B := by
  obtain ⟨x, hx, hb⟩ := h.lo1
  have := deN_small (c := c) 56 hx h.hi1
  omega

/-- The mark of sector k, or nought. -/
def vM (k : Nat) (c : List UInt8) : MarkM := if (readM c).2 = true ∧ (readM c).1.s % 2 = k then (readM c).1 else MarkM.zero
theorem readM_pos {c : List UInt8} (h : (readM c).2 = true) : 0 < (readM c).1.s ∧ (readM c).1.s = deN (c.take 8) := by
  unfold readM at *
  split at h
  · rename_i hr
    rw [if_pos hr]
    refine ⟨by simpa using h, ?_⟩
    show deAt c 0 = _
    simp [deAt]
  · simp at h
theorem vM_s (k : Nat) (c : List UInt8) : vM k c = MarkM.zero ∨ (0 < (vM k c).s ∧ (vM k c).s % 2 = k ∧ (vM k c).s = deN (c.take 8)) := by
  unfold vM
  by_cases h : (readM c).2 = true ∧ (readM c).1.s % 2 = k
  · rw [if_pos h]
    have := readM_pos h.1
    exact .inr ⟨this.1, h.2, this.2⟩
  · rw [if_neg h]; exact .inl rfl
theorem zero_s : MarkM.zero.s = 0 := rfl
theorem look_v (C : Nat → List UInt8) : (lookK C 2).1 = lastOf (vM 0 (C 0)) (vM 1 (C 1)) := by
  have e1 : (lookK C 1).1 = vM 0 (C 0) := by
    show (lookStep 0 (MarkM.zero, 0) (C 0)).1 = _
    unfold lookStep vM
    simp only
    by_cases h : (readM (C 0)).2 = true
    · have := readM_pos h
      by_cases hp : (readM (C 0)).1.s % 2 = 0
      · rw [if_pos ⟨h, this.1, hp⟩, if_pos ⟨h, hp⟩]
      · rw [if_neg (fun e => hp e.2.2), if_neg (fun e => hp e.2)]
    · rw [if_neg (fun e => h e.1), if_neg (fun e => h e.1)]
  show (lookStep 1 (lookK C 1) (C 1)).1 = _
  unfold lookStep
  simp only [e1]
  unfold lastOf
  by_cases h : (readM (C 1)).2 = true ∧ (readM (C 1)).1.s % 2 = 1
  · have ev : vM 1 (C 1) = (readM (C 1)).1 := by unfold vM; rw [if_pos h]
    rw [ev]
    by_cases hl : (vM 0 (C 0)).s < (readM (C 1)).1.s
    · rw [if_pos ⟨h.1, hl, h.2⟩, if_pos hl]
    · rw [if_neg (fun e => hl e.2.1), if_neg hl]
  · have ev : vM 1 (C 1) = MarkM.zero := by unfold vM; rw [if_neg h]
    rw [ev, if_neg (fun e => h ⟨e.1, e.2.2⟩), if_neg (by rw [zero_s]; omega)]
theorem look_top (C : Nat → List UInt8) (B : Nat) (h0 : SmallS (C 0) B) (h1 : SmallS (C 1) B) : (lookK C 2).2 ≤ B ∧ (vM 0 (C 0)).s ≤ (lookK C 2).2 ∧ (vM 1 (C 1)).s ≤ (lookK C 2).2 := by
  have e : (lookK C 2).2 = max (max (max (max 0 (deN ((C 0).take 8))) (deN (((C 0).drop 56).take 8))) (deN ((C 1).take 8))) (deN (((C 1).drop 56).take 8)) := rfl
  have a0 := h0.num0; have a1 := h0.num1; have a2 := h1.num0; have a3 := h1.num1
  rw [e]
  refine ⟨by omega, ?_, ?_⟩
  · rcases vM_s 0 (C 0) with h | h
    · rw [h, zero_s]; omega
    · omega
  · rcases vM_s 1 (C 1) with h | h
    · rw [h, zero_s]; omega
    · omega

theorem torn_get (l s : List UInt8) (a : Int) (h1 : l.length = 128) (_ : s.length = 128) (i : Nat) : (torn l s a)[i]? = if i < tornAt a then l[i]? else s[i]? := by
  have ht := tornAt_le a
  unfold torn
  rw [List.getElem?_append]
  have hl : (l.take (tornAt a)).length = tornAt a := by simp; omega
  rw [hl]
  by_cases hi : i < tornAt a
  · rw [if_pos hi, if_pos hi, List.getElem?_take, if_pos hi]
  · rw [if_neg hi, if_neg hi, List.getElem?_drop]
    congr 1; omega
theorem byte_small (n : Nat) (hn : n < 256) : (byteAt n 0).toNat = n ∧ ∀ j, 1 ≤ j → byteAt n j = 0 := by
  constructor
  · unfold byteAt; simp; omega
  · intro j hj
    unfold byteAt
    have : n / 2 ^ (8 * j) = 0 := Nat.div_eq_of_lt (Nat.lt_of_lt_of_le hn (by rw [show 256 = 2 ^ 8 from rfl]; exact Nat.pow_le_pow_right (by decide) (by omega)))
    rw [this]; rfl
theorem enc_small (m : MarkM) (hs : m.s < 256) : SmallS (enc m) m.s := by
  have g0 : ∀ j, j < 8 → (enc m)[j]? = some (byteAt m.s j) := fun j hj => by
    have := enc_get m 0 0 j m.s (by decide) rfl hj
    simpa using this
  have g1 : ∀ j, j < 8 → (enc m)[56 + j]? = some (byteAt m.s j) := fun j hj => by
    have := enc_get m 1 0 j m.s (by decide) rfl hj
    simpa using this
  obtain ⟨b0, bz⟩ := byte_small m.s hs
  exact ⟨length_enc m, fun i h1 h2 => by rw [g0 i h2, bz i h1], fun i h1 h2 => by rw [g1 i h2, bz i h1], ⟨_, g0 0 (by decide), by omega⟩, ⟨_, g1 0 (by decide), by omega⟩⟩
theorem torn_small (m : MarkM) (hs : m.s < 256) {c : List UInt8} {B : Nat} (h : SmallS c B) (hb : B < m.s) (a : Int) : SmallS (torn (enc m) c a) m.s := by
  have hm := enc_small m hs
  have hc := h.mono (Nat.le_of_lt hb)
  have hg := torn_get (enc m) c a hm.len hc.len
  refine ⟨length_torn _ _ _ hm.len hc.len, fun i h1 h2 => ?_, fun i h1 h2 => ?_, ?_, ?_⟩
  · rw [hg]; split; exact hm.hi0 i h1 h2; exact hc.hi0 i h1 h2
  · rw [hg]; split; exact hm.hi1 i h1 h2; exact hc.hi1 i h1 h2
  · rw [hg]; split; exact hm.lo0; exact hc.lo0
  · rw [hg]; split; exact hm.lo1; exact hc.lo1
theorem deAt_half (l : List UInt8) (i : Nat) (hi : i < 7) : deAt l i = deAt (l.take 56) i := by
  unfold deAt
  have e : (l.drop (8 * i)).take 8 = ((l.take 56).drop (8 * i)).take 8 := by
    rw [List.drop_take, List.take_take]
    congr 1; omega
  rw [e]
theorem decM_half {l l' : List UInt8} (h : l.take 56 = l'.take 56) : decM l = decM l' := by
  unfold decM
  rw [deAt_half l 0 (by omega), deAt_half l 1 (by omega), deAt_half l 2 (by omega), deAt_half l 3 (by omega), deAt_half l 4 (by omega), deAt_half l 5 (by omega), deAt_half l 6 (by omega), h,
    ← deAt_half l' 0 (by omega), ← deAt_half l' 1 (by omega), ← deAt_half l' 2 (by omega), ← deAt_half l' 3 (by omega), ← deAt_half l' 4 (by omega), ← deAt_half l' 5 (by omega), ← deAt_half l' 6 (by omega)]
/-- What a torn sector tells: what it told, the new mark, or nothing. -/
theorem torn_v (m : MarkM) (hm : m.ok) (hs : m.s < 256) {c : List UInt8} {B : Nat} (h : SmallS c B) (hb : B < m.s) (a : Int) :
    torn (enc m) c a = c ∨ vM (m.s % 2) (torn (enc m) c a) = m ∨ vM (m.s % 2) (torn (enc m) c a) = MarkM.zero := by
  have hg := torn_get (enc m) c a (length_enc m) h.len
  rcases Nat.eq_zero_or_pos (tornAt a) with h0 | h0
  · refine .inl (List.ext_getElem? fun i => ?_)
    rw [hg, h0, if_neg (by omega)]
  by_cases h56 : tornAt a ≤ 56
  · refine .inr (.inr ?_)
    have hr : readOk (torn (enc m) c a) = false := by
      cases hr : readOk (torn (enc m) c a) with
      | false => rfl
      | true =>
        exfalso
        unfold readOk at hr
        simp only [Bool.and_eq_true, beq_iff_eq] at hr
        have e := congrArg (fun l => l[0]?) hr.2.1
        simp only [List.getElem?_take, List.getElem?_drop] at e
        rw [if_pos (by omega), if_pos (by omega), hg, hg, if_pos h0, if_neg (by omega)] at e
        obtain ⟨x, hx, hxb⟩ := h.lo1
        have e0 := enc_get m 0 0 0 m.s (by decide) rfl (by decide)
        rw [show 0 * 56 + 8 * 0 + 0 = 0 from rfl] at e0
        rw [e0, show 56 + 0 = 56 from rfl, hx] at e
        have := (byte_small m.s hs).1
        rw [Option.some.inj e] at this
        omega
    unfold vM readM
    rw [hr, if_neg (by simp)]
  · refine .inr ?_
    cases hr : readOk (torn (enc m) c a) with
    | false => right; unfold vM readM; rw [hr, if_neg (by simp)]
    | true =>
      left
      have hd : decM (torn (enc m) c a) = m := by
        have e : (torn (enc m) c a).take 56 = (enc m).take 56 := by
          apply List.ext_getElem?
          intro i
          rw [List.getElem?_take, List.getElem?_take]
          by_cases hi : i < 56
          · rw [if_pos hi, if_pos hi, hg, if_pos (by omega)]
          · rw [if_neg hi, if_neg hi]
        rw [decM_half e, decM_enc m hm]
      unfold vM readM
      rw [hr, hd]
      simp only [if_true]
      rw [if_pos ⟨by simp; omega, trivial⟩]
theorem vM_enc (m : MarkM) (hm : m.ok) (h0 : 0 < m.s) : vM (m.s % 2) (enc m) = m := by
  unfold vM
  rw [readM_enc m hm]
  simp only
  rw [if_pos ⟨by simpa using h0, trivial⟩]

/-- Between the rounds: all is durable, L is the last mark, no number is above B. -/
structure TS (D : DiskM) (L : MarkM) (B : Nat) : Prop where
  up : D.down = false
  n : D.n = 2
  pd : ∀ k, D.pend k = none
  s : ∀ k, k < 2 → SmallS (D.sure k) B
  last : lastOf (vM 0 (D.sure 0)) (vM 1 (D.sure 1)) = L
theorem TS.cur {D : DiskM} {L : MarkM} {B : Nat} (h : TS D L B) (k : Nat) : D.cur k = D.sure k := by unfold DiskM.cur; rw [h.pd k]; rfl
theorem TS.look {D : DiskM} {L : MarkM} {B : Nat} (h : TS D L B) : ∃ top, lookR D 0 = (L, top, 0) ∧ top ≤ B ∧ L.s ≤ top ∧ (vM 0 (D.sure 0)).s ≤ top ∧ (vM 1 (D.sure 1)).s ≤ top := by
  have hc : (fun k => D.cur ((0 : Int).toNat + k)) = D.sure := funext fun k => by rw [h.cur]; simp
  have ht := look_top D.sure B (h.s 0 (by decide)) (h.s 1 (by decide))
  refine ⟨(lookK D.sure 2).2, ?_, ht.1, ?_, ht.2.1, ht.2.2⟩
  · unfold lookR
    rw [if_neg (by rw [h.up, h.n]; intro e; rcases e with e | e | e; omega; omega; cases e)]
    rw [hc, look_v, h.last]
  · rw [← h.last, last_s]; omega
theorem TS.get {D : DiskM} {L : MarkM} {B : Nat} (h : TS D L B) : getR D 0 = if L.s = 0 then (MarkM.zero, 4) else (L, 0) := by
  obtain ⟨top, e, -⟩ := h.look
  unfold getR
  rw [e]; rfl
theorem TS.zero {D : DiskM} {L : MarkM} {B : Nat} (h : TS D L B) (h0 : L.s = 0) : L = MarkM.zero := by
  have hl := h.last
  unfold lastOf at hl
  split at hl
  · rename_i hlt
    rw [hl] at hlt; omega
  · rcases vM_s 0 (D.sure 0) with e | e
    · rw [← hl, e]
    · rw [hl] at e; omega
/-- A sector that is written anew, wholly, in part or not at all. -/
theorem TS.next {D D' : DiskM} {L m : MarkM} {B : Nat} (h : TS D L B) (hm : m.ok) (hs : m.s < 256) (hB : B < 254) (top : Nat) (hlk : lookR D 0 = (L, top, 0)) (hms : m.s = nextSeq L.s top) (hd : D'.down = false) (hn : D'.n = 2) (hp : ∀ k, D'.pend k = none)
    (ho : ∀ k, k ≠ m.s % 2 → D'.sure k = D.sure k) (X : List UInt8) (hX : D'.sure (m.s % 2) = X) (hc : X = D.sure (m.s % 2) ∨ X = enc m ∨ ∃ a, X = torn (enc m) (D.sure (m.s % 2)) a) :
    ∃ L', TS D' L' (B + 2) ∧ (L' = L ∨ (L.s < L'.s ∧ L' = m)) ∧ (X = enc m → L' = m) := by
  obtain ⟨top', e, htB, hLt, hv0, hv1⟩ := h.look
  rw [hlk] at e
  obtain rfl : top = top' := by simpa using e
  have hseq : top < m.s ∧ m.s ≤ top + 2 ∧ (0 < L.s → m.s % 2 ≠ L.s % 2) := by
    rw [hms]; unfold nextSeq
    split
    · omega
    · omega
  have hmk : m.s % 2 < 2 := Nat.mod_lt _ (by decide)
  have hso := h.s (m.s % 2) hmk
  have key : ∀ (hb : SmallS X (B + 2)) (hv : vM (m.s % 2) X = vM (m.s % 2) (D.sure (m.s % 2)) ∨ vM (m.s % 2) X = m ∨ vM (m.s % 2) X = MarkM.zero), ∃ L', TS D' L' (B + 2) ∧ (L' = L ∨ (L.s < L'.s ∧ L' = m)) ∧ (vM (m.s % 2) X = m → L' = m) := by
    intro hb hv
    refine ⟨lastOf (vM 0 (D'.sure 0)) (vM 1 (D'.sure 1)), ⟨hd, hn, hp, fun k hk => ?_, rfl⟩, ?_⟩
    · by_cases hkm : k = m.s % 2
      · rw [hkm, hX]; exact hb
      · rw [ho k hkm]; exact (h.s k hk).mono (by omega)
    have hlast := h.last
    have hV0 := vM_s 0 (D.sure 0)
    have hV1 := vM_s 1 (D.sure 1)
    obtain ⟨V0, eV0⟩ : ∃ V, vM 0 (D.sure 0) = V := ⟨_, rfl⟩
    obtain ⟨V1, eV1⟩ : ∃ V, vM 1 (D.sure 1) = V := ⟨_, rfl⟩
    rw [eV0] at hlast hv0 hV0
    rw [eV1] at hlast hv1 hV1
    have hz := zero_s
    rcases Nat.mod_two_eq_zero_or_one m.s with hp2 | hp2
    · rw [hp2] at hX ho hv
      rw [ho 1 (by omega), hX, hp2, eV1]
      rw [eV0] at hv
      rcases hv with hv | hv | hv
      · rw [hv, hlast]
        refine ⟨.inl rfl, fun e => ?_⟩
        rw [e] at hv0; omega
      · rw [hv]
        have : lastOf m V1 = m := by unfold lastOf; rw [if_neg (by omega)]
        rw [this]
        exact ⟨.inr ⟨by omega, rfl⟩, fun _ => rfl⟩
      · rw [hv]
        have e1 : lastOf MarkM.zero V1 = V1 := by
          unfold lastOf
          split
          · rfl
          · rcases hV1 with e | e
            · exact e.symm
            · omega
        rw [e1]
        refine ⟨.inl ?_, fun e => by rw [← e] at hseq; omega⟩
        rw [← hlast]
        unfold lastOf
        split
        · rfl
        · rename_i hlt
          rcases hV0 with e | e
          · rcases hV1 with e' | e'
            · rw [e, e']
            · rw [e] at hlt; omega
          · exfalso
            have : L = V0 := by rw [← hlast]; unfold lastOf; rw [if_neg hlt]
            have h3 := hseq.2.2 (by rw [this]; omega)
            rw [this] at h3
            omega
    · rw [hp2] at hX ho hv
      rw [ho 0 (by omega), hX, hp2, eV0]
      rw [eV1] at hv
      rcases hv with hv | hv | hv
      · rw [hv, hlast]
        refine ⟨.inl rfl, fun e => ?_⟩
        rw [e] at hv1; omega
      · rw [hv]
        have : lastOf V0 m = m := by unfold lastOf; rw [if_pos (by omega)]
        rw [this]
        exact ⟨.inr ⟨by omega, rfl⟩, fun _ => rfl⟩
      · rw [hv]
        have e1 : lastOf V0 MarkM.zero = V0 := by
          unfold lastOf
          rw [if_neg (by omega)]
        rw [e1]
        refine ⟨.inl ?_, fun e => by rw [← e] at hseq; omega⟩
        rw [← hlast]
        unfold lastOf
        split
        · rename_i hlt
          exfalso
          have : L = V1 := by rw [← hlast]; unfold lastOf; rw [if_pos hlt]
          have := hseq.2.2 (by rw [this]; omega)
          rw [‹L = V1›] at this
          rcases hV1 with e' | e'
          · rw [e'] at hlt; omega
          · omega
        · rfl
  have hve : X = enc m → vM (m.s % 2) X = m := fun e => by rw [e]; exact vM_enc m hm (by omega)
  have hsm : SmallS X (B + 2) ∧ (vM (m.s % 2) X = vM (m.s % 2) (D.sure (m.s % 2)) ∨ vM (m.s % 2) X = m ∨ vM (m.s % 2) X = MarkM.zero) := by
    rcases hc with e | e | ⟨a, e⟩
    · rw [e]; exact ⟨hso.mono (by omega), .inl rfl⟩
    · refine ⟨by rw [e]; exact (enc_small m hs).mono (by omega), .inr (.inl (hve e))⟩
    · have hso' : SmallS (D.sure (m.s % 2)) (m.s - 1) := by
        have ht := look_top D.sure B (h.s 0 (by decide)) (h.s 1 (by decide))
        have htop : top = (lookK D.sure 2).2 := by
          have hcc : (fun k => D.cur ((0 : Int).toNat + k)) = D.sure := funext fun k => by rw [h.cur]; simp
          have := congrArg (fun p => p.2.1) hlk
          unfold lookR at this
          rw [if_neg (by rw [h.up, h.n]; intro e; rcases e with e | e | e; omega; omega; cases e), hcc] at this
          exact this.symm
        have e : (lookK D.sure 2).2 = max (max (max (max 0 (deN ((D.sure 0).take 8))) (deN (((D.sure 0).drop 56).take 8))) (deN ((D.sure 1).take 8))) (deN (((D.sure 1).drop 56).take 8)) := rfl
        have hh : ∀ k, k < 2 → deN ((D.sure k).take 8) ≤ top ∧ deN (((D.sure k).drop 56).take 8) ≤ top := fun k hk => by
          have : k = 0 ∨ k = 1 := by omega
          rcases this with rfl | rfl <;> (rw [htop, e]; omega)
        obtain ⟨x, hx, -⟩ := hso.lo0
        obtain ⟨y, hy, -⟩ := hso.lo1
        have d0 := deN_small (c := D.sure (m.s % 2)) 0 hx (fun i h1 h2 => by rw [Nat.zero_add]; exact hso.hi0 i h1 h2)
        have d1 := deN_small (c := D.sure (m.s % 2)) 56 hy hso.hi1
        rw [List.drop_zero] at d0
        have := hh _ hmk
        exact ⟨hso.len, hso.hi0, hso.hi1, ⟨x, hx, by omega⟩, ⟨y, hy, by omega⟩⟩
      rw [e]
      refine ⟨(torn_small m hs hso' (by omega) a).mono (by omega), ?_⟩
      rcases torn_v m hm hs hso' (by omega) a with e | e | e
      · left; rw [e]
      · right; left; exact e
      · right; right; exact e
  obtain ⟨L', h1, h2, h3⟩ := key hsm.1 hsm.2
  exact ⟨L', h1, h2, fun e => h3 (hve e)⟩

theorem ts_new : TS (DiskM.new 2) MarkM.zero 0 := by
  have hz : SmallS (zeros 128) 0 := by
    have := enc_small MarkM.zero (by decide)
    rw [enc_zero] at this
    exact this
  refine ⟨rfl, rfl, fun _ => rfl, fun _ _ => hz, ?_⟩
  have : ∀ k, vM k (zeros 128) = MarkM.zero := fun k => by
    unfold vM
    rw [← enc_zero, readM_enc MarkM.zero zero_ok]
    rw [if_neg (by simp [zero_s])]
  show lastOf (vM 0 (zeros 128)) (vM 1 (zeros 128)) = _
  rw [this, this]; rfl
/-- The two sectors of marks, by what stands on them: L the last mark, no number above B. -/
def fakeD (C : Nat → List UInt8) : DiskM := ⟨0, 0, 2, C, fun _ => none, false, -1⟩
def TSC (C : Nat → List UInt8) (L : MarkM) (B : Nat) : Prop := TS (fakeD C) L B
theorem TSC.new : TSC (fun _ => zeros 128) MarkM.zero 0 := ts_new
theorem TSC.more {C : Nat → List UInt8} {L : MarkM} {B B' : Nat} (h : TSC C L B) (hb : B ≤ B') : TSC C L B' := ⟨h.up, h.n, h.pd, fun k hk => (h.s k hk).mono hb, h.last⟩
theorem TSC.congr {C C' : Nat → List UInt8} {L : MarkM} {B : Nat} (h : TSC C L B) (hc : ∀ k, k < 2 → C' k = C k) : TSC C' L B := ⟨rfl, rfl, fun _ => rfl, fun k hk => by
  show SmallS (C' k) B
  rw [hc k hk]; exact h.s k hk, by
  show lastOf (vM 0 (C' 0)) (vM 1 (C' 1)) = L
  rw [hc 0 (by decide), hc 1 (by decide)]; exact h.last⟩
section
variable {D : DiskM} {L : MarkM} {B : Nat}
theorem TSC.look (h : TSC (fun k => D.cur k) L B) (hd : D.down = false) (hn : 1 < D.n) : ∃ top, lookR D 0 = (L, top, 0) ∧ lookR (fakeD fun k => D.cur k) 0 = (L, top, 0) ∧ top ≤ B ∧ L.s ≤ top := by
  obtain ⟨top, e, h1, h2, -, -⟩ := TS.look h
  refine ⟨top, ?_, e, h1, h2⟩
  rw [← e]
  unfold lookR
  rw [if_neg (by rw [hd]; intro e; rcases e with e | e | e; omega; omega; cases e), if_neg (by intro e; rcases e with e | e | e; omega; exact absurd e (by show ¬ ((2 : Nat) : Int) ≤ 0 + 1; decide); cases e)]
  rfl
theorem TSC.get (h : TSC (fun k => D.cur k) L B) (hd : D.down = false) (hn : 1 < D.n) : getR D 0 = if L.s = 0 then (MarkM.zero, 4) else (L, 0) := by
  obtain ⟨top, e, -⟩ := h.look hd hn
  unfold getR
  rw [e]; rfl
/-- The mark that is put next; and what the sectors tell behind it, by what stands on its sector. -/
theorem TSC.next (h : TSC (fun k => D.cur k) L B) (hd : D.down = false) (hn : 1 < D.n) (hB : B ≤ 200) (xs : List Nat) (h6 : xs.length ≤ 6) (hx : ∀ x ∈ xs, x < 18446744073709551616) :
    ∃ m, putR D 0 xs = putGo D 0 m ∧ m = mkMark m.s xs ∧ 0 < m.s ∧ ∀ C' : Nat → List UInt8, (∀ k, k < 2 → k ≠ m.s % 2 → C' k = D.cur k) → (C' (m.s % 2) = D.cur (m.s % 2) ∨ C' (m.s % 2) = enc m ∨ ∃ a, C' (m.s % 2) = torn (enc m) (D.cur (m.s % 2)) a) →
      ∃ L', TSC C' L' (B + 2) ∧ (L' = L ∨ L' = m) ∧ (C' (m.s % 2) = enc m → L' = m) := by
  obtain ⟨top, e, ef, htB, hLt⟩ := h.look hd hn
  obtain ⟨m, hm⟩ : ∃ m, mkMark (nextSeq L.s top) xs = m := ⟨_, rfl⟩
  have hms : m.s = nextSeq L.s top := by rw [← hm]; rfl
  have hseq : top < m.s ∧ m.s ≤ top + 2 := by
    rw [hms]; unfold nextSeq
    split <;> omega
  have hmo : m.ok := by rw [← hm]; exact mk_ok _ xs (by omega) hx
  have hpr : putR D 0 xs = putGo D 0 m := by
    unfold putR putMark
    rw [e]
    simp only
    rw [if_neg (by simp), if_neg (by omega), if_neg (by unfold topMax; omega), hm]
  refine ⟨m, hpr, by rw [← hm]; rfl, by omega, fun C' ho hc => ?_⟩
  obtain ⟨L', h1, h2, h3⟩ := TS.next (D' := fakeD fun k => if k < 2 then C' k else D.cur k) h hmo (by omega) (by omega) top ef hms rfl rfl (fun _ => rfl) (fun k hk => by
    show (if k < 2 then C' k else D.cur k) = D.cur k
    by_cases hk2 : k < 2
    · rw [if_pos hk2]; exact ho k hk2 hk
    · rw [if_neg hk2]) (C' (m.s % 2)) (by show (if m.s % 2 < 2 then C' (m.s % 2) else _) = _; rw [if_pos (by omega)]) hc
  refine ⟨L', TSC.congr (C := fun k => if k < 2 then C' k else D.cur k) h1 (fun k hk => by show C' k = (if k < 2 then C' k else D.cur k); rw [if_pos hk]), ?_, h3⟩
  rcases h2 with h2 | ⟨-, h2⟩
  · exact .inl h2
  · exact .inr h2
end
end Go.Proofs.YtfmdngeooelcpaaGreat
