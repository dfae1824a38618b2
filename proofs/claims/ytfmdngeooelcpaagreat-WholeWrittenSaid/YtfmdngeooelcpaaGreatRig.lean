/- The ring: how it lies in memory; sector, Tail, Size, Left. The ring: Open. The ring: Append. Parts (a slice of byte slices) as an argument. sum.CRC: of the bytes of all parts, one behind the other. Bytes as strings; rows whose bytes are turned. append and copy at bytes. The ring: Append, what is taken. The ring's plain law: the disk's sectors under a ring hold the text's last bytes. The ring: Read. A ring with its disk, over the text of all bytes that ever were: the calls' contracts in one word. -/
import Derived.Test.YtfmdngeooelcpaaGreatFuse
import Derived.Deep.QuietTactic
import Derived.BigQuiet
import Derived.Laws.BitsAllLaws
namespace Go.Proofs.YtfmdngeooelcpaaGreat
open Go.RowKit

/-- A ring over a disk's sectors: where it begins, how many sectors, the number of the next byte, the last sector's bytes up to it. -/
structure RingM where
  first : Nat
  count : Nat
  tail : Nat
  rest : List UInt8

def ringCells (R : RingM) (b : Nat) (rv : Value) : Array Value := #[.pointer (some ⟨b, 0, none⟩), .int .i64 R.first, .int .i64 R.count, .int .u64 R.tail, rv]

structure RingRep (w : World) (r b : Nat) (R : RingM) (rv : Value) (F : Nat → Prop) : Prop where
  blk : w.heap[r]? = some (.cells (ringCells R b rv) 117 (0, 0))
  rest : Src w rv R.rest
  inF : ∀ g o c, rv = .slice (some ⟨g, o, none⟩) R.rest.length c → F g
  own : F r
  lt : ∀ k, F k → k < w.heap.size
  c0 : 0 < R.count ∧ R.first + R.count ≤ 4096
  t0 : R.tail ≤ 18446744073709551615
  len : R.rest.length = R.tail % 128
def RingAt (w : World) (r b : Nat) (R : RingM) (F : Nat → Prop) : Prop := ∃ rv, RingRep w r b R rv F

theorem RingAt.only {w w' : World} {r b : Nat} {R : RingM} {F G : Nat → Prop} (h : RingAt w r b R F) (ho : Only G w w') (hd : ∀ k, F k → ¬ G k) : RingAt w' r b R F := by
  obtain ⟨rv, h⟩ := h
  exact ⟨rv, blk_only h.blk ho (hd _ h.own), h.rest.only ho (fun _ g o c e => hd _ (h.inF g o c e)), h.inF, h.own, fun k hk => Nat.lt_of_lt_of_le (h.lt k hk) ho.size, h.c0, h.t0, h.len⟩

theorem RingAt.lt {w : World} {r b : Nat} {R : RingM} {F : Nat → Prop} (h : RingAt w r b R F) : r < w.heap.size := by obtain ⟨rv, h⟩ := h; exact blk_lt h.blk

def RingM.sector (R : RingM) (at' : Nat) : Nat := R.first + at' / 128 % R.count
def RingM.size (R : RingM) : Nat := R.count * 128

theorem ret_i {k : IntKind} {a b : Int} (h : a = b) : Ending.returned (.int k a) = .returned (.int k b) := by rw [h]

section
variable {w : World} {r b : Nat} {R : RingM} {F : Nat → Prop}
theorem RingAt.cells (h : RingAt w r b R F) : ∃ rv a c, rv = .slice a R.rest.length c ∧ (∀ o, w.cell? ⟨r, o, none⟩ = (#[.pointer (some ⟨b, 0, none⟩), .int .i64 R.first, .int .i64 R.count, .int .u64 R.tail, rv] : Array Value)[o]?) ∧ ∀ o, w.frozen? ⟨r, o, none⟩ = false := by
  obtain ⟨rv, h⟩ := h
  obtain ⟨a, c, e⟩ := h.rest.len
  exact ⟨rv, a, c, e, cell_blk h.blk, frozen_blk h.blk⟩

theorem tail_c (h : RingAt w r b R F) : Calls Tryz.prog 57 #[.pointer (some ⟨r, 0, none⟩)] w fun e w' => e = .returned (.int .u64 R.tail) ∧ w = w' := by
  obtain ⟨rv, a, c, -, hc, hz⟩ := h.cells
  clear h
  go_enter Tryz.func57, Tryz.ntmps57
  go_wp2
  go_ret
  exact ⟨rfl, rfl⟩

theorem size_c (h : RingAt w r b R F) : Calls Tryz.prog 75 #[.pointer (some ⟨r, 0, none⟩)] w fun e w' => e = .returned (.int .i64 R.size) ∧ w = w' := by
  obtain ⟨rv, a, c, -, hc, hz⟩ := h.cells
  have hb : (R.count : Int) ≤ 4096 := by obtain ⟨rv, h⟩ := h; have := h.c0; omega
  clear h
  go_enter Tryz.func75, Tryz.ntmps75
  go_wp2
  go_ret
  exact ⟨by simp [RingM.size], rfl⟩

/-- In a drawn order: reads alone. -/
theorem ringsector_raw {first count : Nat} {x0 x3 x4 : Value} (hb0 : w.heap[r]? = some (.cells #[x0, .int .i64 first, .int .i64 count, x3, x4] 117 (0, 0))) (hb : 0 < count ∧ first + count ≤ 4096) (n : Nat) (hn : n ≤ 18446744073709551615) :
    Calls Tryz.prog 45 #[.pointer (some ⟨r, 0, none⟩), .int .u64 n] w fun e w' => e = .returned (.int .i64 (first + n / 128 % count : Nat)) ∧ w'.heap = w.heap ∧ Only (fun _ => False) w w' := by
  have hc := cell_blk hb0
  have hb1 : count ≤ 4096 := by omega
  have hb2 : 0 < count := by omega
  have hb3 : first ≤ 4096 := by omega
  clear hb0 hb
  go_enter Tryz.func45, Tryz.ntmps45
  go_wp2
  go_quiet (fail)
  go_wp2
  go_ret
  have h1 : (n : Int) / 128 % count < count := Int.emod_lt_of_pos _ (by omega)
  have h2 : 0 ≤ (n : Int) / 128 % count := Int.emod_nonneg _ (by omega)
  have e1 : wrap64 ((n : Int) / 128 % count) = (n : Int) / 128 % count := IntWalk.wrap64_in _ ⟨by omega, by omega⟩
  have e2 : wrap64 (first + (n : Int) / 128 % count) = first + (n : Int) / 128 % count := IntWalk.wrap64_in _ ⟨by omega, by omega⟩
  have e3 : ((first + n / 128 % count : Nat) : Int) = first + (n : Int) / 128 % count := by simp
  refine ⟨?_, rfl, only_drewN w _⟩
  rw [e3]
  show Ending.returned (.int .i64 (wrap64 (first + wrap64 ((n : Int) / 128 % count)))) = _
  rw [e1, e2]
theorem ringsector_c (h : RingAt w r b R F) (n : Nat) (hn : n ≤ 18446744073709551615) : Calls Tryz.prog 45 #[.pointer (some ⟨r, 0, none⟩), .int .u64 n] w fun e w' => e = .returned (.int .i64 (R.sector n)) ∧ w'.heap = w.heap ∧ Only (fun _ => False) w w' := by
  obtain ⟨rv, h⟩ := h
  exact ringsector_raw h.blk h.c0 n hn

def RingM.left (R : RingM) (head : Nat) : Nat :=
  let h := min head R.tail
  R.size - (R.tail - h / 128 * 128)

theorem left_c (h : RingAt w r b R F) (n : Nat) (hn : n ≤ 18446744073709551615) : Calls Tryz.prog 80 #[.pointer (some ⟨r, 0, none⟩), .int .u64 n] w fun e w' => e = .returned (.int .i64 (R.left n)) ∧ w = w' := by
  obtain ⟨rv, a, c, -, hc, hz⟩ := h.cells
  have hb : R.count ≤ 4096 ∧ 0 < R.count ∧ R.first ≤ 4096 ∧ R.tail ≤ 18446744073709551615 := by obtain ⟨rv, h⟩ := h; have := h.c0; have := h.t0; omega
  have HS := hid (size_c h)
  clear h
  obtain ⟨hb1, hb2, hb3, hb4⟩ := hb
  have hsz : (R.size : Int) ≤ 524288 := by unfold RingM.size; omega
  by_cases hnt : R.tail < n
  · have h0 : (R.tail : Int) < (n : Int) := by omega
    have hL : R.left n = R.size - (R.tail - R.tail / 128 * 128) := by unfold RingM.left; rw [Nat.min_eq_right (by omega)]
    have HL := hid hL
    clear hL
    go_enter Tryz.func80, Tryz.ntmps80
    go_wp2_with (go_at_call 75; refine HS.out.mono ?_; rintro e w' ⟨rfl, rfl⟩)
    · go_ret
      rw [HL.out]
      exact ⟨ret_i (by omega), rfl⟩
    · go_ret
      rw [HL.out]
      exact ⟨ret_i (by omega), rfl⟩
  · have h0 : (n : Int) ≤ (R.tail : Int) := by omega
    have hL : R.left n = R.size - (R.tail - n / 128 * 128) := by unfold RingM.left; rw [Nat.min_eq_left (by omega)]
    have HL := hid hL
    clear hL
    go_enter Tryz.func80, Tryz.ntmps80
    go_wp2_with (go_at_call 75; refine HS.out.mono ?_; rintro e w' ⟨rfl, rfl⟩)
    · go_ret
      rw [HL.out]
      exact ⟨ret_i (by omega), rfl⟩
    · go_ret
      rw [HL.out]
      exact ⟨ret_i (by omega), rfl⟩
end
end Go.Proofs.YtfmdngeooelcpaaGreat
namespace Go.Proofs.YtfmdngeooelcpaaGreat
open Go.RowKit

def RingM.opened (D : DiskM) (first count tail : Nat) : RingM := { first := first, count := count, tail := tail, rest := (D.cur (first + tail / 128 % count)).take (tail % 128) }

theorem addr0 (g i : Nat) : ((⟨g, 0, none⟩ : Addr).add i) = ⟨g, i, none⟩ := by rw [addr_add, Nat.zero_add]

section
variable {w : World} {r b : Nat} {D : DiskM} {R : RingM} {F : Nat → Prop}

set_option maxRecDepth 100000 in
set_option maxHeartbeats 800000 in
theorem open_ok (h : DiskAt w b D F) (first count tail : Nat) (hc : 0 < count) (hf : first + count ≤ D.n) (ht : tail ≤ 18446744073709551615) (hd : D.down = false) :
    Calls Tryz.prog 21 #[.pointer (some ⟨b, 0, none⟩), .int .i64 first, .int .i64 count, .int .u64 tail] w fun e w' => ∃ r F', e = .returned (.tuple #[.pointer (some ⟨r, 0, none⟩), .int .i64 0]) ∧ RingAt w' r b (RingM.opened D first count tail) F' ∧ Only (fun _ => False) w w' ∧ (∀ k, F' k → w.heap.size ≤ k) := by
  have HS := hid (sectors_c h)
  have HD := hid h
  have hn := h.n0.2
  have hi1 : ¬ (first : Int) < 0 := by omega
  have hi2 : ¬ (count : Int) < 1 := by omega
  have hi3 : ¬ (D.n : Int) < (count : Int) := by omega
  have hi4 : ¬ (D.n : Int) - (count : Int) < (first : Int) := by omega
  have hHd := hid hd
  clear h hd
  by_cases hp : tail % 128 = 0
  · have hp' : (tail : Int) % 128 = 0 := by omega
    have hpg : decide ((0 : Int) < (tail : Int) % 128) = false := by simp; omega
    have Hp := hid hp
    clear hp
    go_enter Tryz.func21, Tryz.ntmps21
    go_wp2_with (go_at_call 42; refine HS.out.mono ?_; rintro e w' ⟨rfl, rfl⟩)
    go_ret2
    refine ⟨w.heap.size, fun k => k = w.heap.size, rfl, ⟨.slice none 0 0, ⟨blk_new w _, ⟨none, 0, ?_, ?_⟩, ?_, rfl, fun k hk => by simp [hk], ⟨hc, (by show first + count ≤ 4096; omega)⟩, ht, ?_⟩⟩, (Only.refl _ _).alloc _, fun k hk => by omega⟩
    · simp [RingM.opened, Hp.out]
    · intro hne; exact absurd (by simp [RingM.opened, Hp.out]) hne
    · intro g o c e; cases e
    · simp [RingM.opened, Hp.out]
  · have hlt : first + tail / 128 % count < D.n := by have := Nat.mod_lt (tail / 128) hc; omega
    have hpg : decide ((0 : Int) < (tail : Int) % 128) = true := by simp; omega
    have hle : (tail : Int) % 128 ≤ 128 := by omega
    have hge : 0 ≤ (tail : Int) % 128 := by omega
    have Hp := hid hp
    clear hp
    go_enter Tryz.func21, Tryz.ntmps21
    go_wp2_with (go_at_call 42; refine HS.out.mono ?_; rintro e w' ⟨rfl, rfl⟩)
    refine (ringsector_raw (blk_new w _) ⟨hc, by omega⟩ tail ht).mono ?_
    rintro e w2 ⟨rfl, hh, ho2⟩
    have Hh := hid hh; have Ho2 := hid (((Only.refl (fun _ => False) w).alloc _).trans ho2 (fun _ _ e => e))
    have hb2 := blk_only (blk_new w _) ho2 (fun e => e)
    have Hb2 := hid hb2
    clear hh ho2 hb2
    go_wp2_with fail
    refine (read_ok (HD.out.only Ho2.out (fun _ _ e => e)) hHd.out ((first + tail / 128 % count : Nat) : Int) (by omega) (by omega)).mono ?_
    rintro e w3 ⟨g, c, rfl, hm, ho3⟩
    have Hb3 := hid (blk_only Hb2.out ho3 (fun e => e))
    have hc3 := cell_blk Hb3.out
    have hz3 := frozen_blk Hb3.out
    have Hm := hid hm; have Ho3 := hid ho3
    have hcc : (128 : Int) ≤ (c : Int) := by
      have h1 := hm.row.le
      rw [length_bytesV, HD.out.cur_len (by omega)] at h1; omega
    clear hm ho3
    unfold secV
    go_wp2_with fail
    go_ret2
    have hlo := Hm.out.lo
    have hsz2 : w.heap.size < w2.heap.size := by rw [Hh.out]; simp
    have hg : g ≠ w.heap.size := by omega
    have hlen : (RingM.opened D first count tail).rest.length = tail % 128 := by
      show ((D.cur (first + tail / 128 % count)).take (tail % 128)).length = _
      rw [List.length_take, HD.out.cur_len hlt]; omega
    have hrow : Row (w3.setCell ⟨w.heap.size, 4, none⟩ (.slice (some ⟨g, 0, none⟩) (tail % 128) (tail % 128))) g 5 c (bytesV (D.cur (first + tail / 128 % count))) := by
      have := Hm.out.row
      rw [Int.toNat_natCast] at this
      exact this.setCell_other _ _ hg
    refine ⟨w.heap.size, fun k => k = w.heap.size ∨ k = g, rfl, ⟨.slice (some ⟨g, 0, none⟩) (tail % 128) (tail % 128), ⟨blk_set Hb3.out 4 _, ⟨some ⟨g, 0, none⟩, tail % 128, by rw [hlen], fun _ => ⟨g, 0, rfl, ?_⟩⟩, ?_, .inl rfl, ?_, ⟨hc, (by show first + count ≤ 4096; omega)⟩, ht, hlen⟩⟩, ?_, ?_⟩
    · intro i u hu
      have hu' : (bytesV (D.cur (first + tail / 128 % count)))[i]? = some u := by
        simp only [RingM.opened] at hu
        rw [bytesV_get] at hu ⊢
        by_cases hi : i < tail % 128
        · rw [List.getElem?_take_of_lt hi] at hu; exact hu
        · rw [List.getElem?_eq_none (by simp; omega)] at hu; cases hu
      rw [Nat.zero_add, ← addr0 g i]
      exact hrow.news i u hu'
    · intro g' o c' e
      simp only [Value.slice.injEq, Option.some.injEq, Addr.mk.injEq] at e
      exact .inr e.1.1.symm
    · have h1 := Ho3.out.size
      have h2 := Hm.out.hi
      rintro k (hk | hk)
      · simp only [World.size_setCell]; omega
      · simp only [World.size_setCell]; omega
    · exact (Ho2.out.trans Ho3.out (fun _ _ e => e)).setCell _ _ (fun h => absurd h (Nat.lt_irrefl _))
    · rintro k (hk | hk)
      · omega
      · omega

end
end Go.Proofs.YtfmdngeooelcpaaGreat
namespace Go.Proofs.YtfmdngeooelcpaaGreat
open Go.RowKit

/-- A slice of byte slices that reads as these parts; none of it lies among N. -/
def PartsAt (w : World) (v : Value) (ps : List (List UInt8)) (N : Nat → Prop) : Prop :=
  ∃ a c, v = .slice a ps.length c ∧ ps.length ≤ 9223372036854775807 ∧ ∀ i l, ps[i]? = some l → ∃ g o pa pc, a = some ⟨g, o, none⟩ ∧ ¬ N g ∧ w.cell? ⟨g, o + i, none⟩ = some (.slice pa l.length pc) ∧ Src w (.slice pa l.length pc) l ∧
    (l ≠ [] → ∀ g' o', pa = some ⟨g', o', none⟩ → ¬ N g') ∧ l.length ≤ 1000000

theorem PartsAt.only {w w' : World} {v : Value} {ps : List (List UInt8)} {N G : Nat → Prop} (h : PartsAt w v ps N) (ho : Only G w w') (hG : ∀ k, k < w.heap.size → G k → N k) : PartsAt w' v ps N := by
  obtain ⟨a, c, rfl, hl, h⟩ := h
  refine ⟨a, c, rfl, hl, fun i l hi => ?_⟩
  obtain ⟨g, o, pa, pc, rfl, hg, hc, hs, hn, hb⟩ := h i l hi
  have hglt := World.block_lt_of_cell? _ _ hc
  refine ⟨g, o, pa, pc, rfl, hg, ?_, ?_, hn, hb⟩
  · rw [← hc]; exact World.cell?_of_block (ho.block g hglt (fun e => hg (hG g hglt e)))
  · obtain ⟨a', c', e, hs⟩ := hs
    simp only [Value.slice.injEq] at e
    obtain ⟨rfl, -, rfl⟩ := e
    refine ⟨pa, pc, rfl, fun hne => ?_⟩
    obtain ⟨g', o', rfl, hc'⟩ := hs hne
    refine ⟨g', o', rfl, fun j u hj => ?_⟩
    have h1 := hc' j u hj
    rw [← h1]
    have hlt := World.block_lt_of_cell? _ _ h1
    exact World.cell?_of_block (ho.block g' hlt (fun e => hn hne g' o' rfl (hG g' hlt e)))
theorem PartsAt.mono {w : World} {v : Value} {ps : List (List UInt8)} {N N' : Nat → Prop} (h : PartsAt w v ps N) (hN : ∀ k, k < w.heap.size → N' k → N k) : PartsAt w v ps N' := by
  obtain ⟨a, c, rfl, hl, h⟩ := h
  refine ⟨a, c, rfl, hl, fun i l hi => ?_⟩
  obtain ⟨g, o, pa, pc, rfl, hg, hc, hs, hn, hb⟩ := h i l hi
  refine ⟨g, o, pa, pc, rfl, fun e => hg (hN g (World.block_lt_of_cell? _ _ hc) e), hc, hs, fun hne g' o' e hN' => ?_, hb⟩
  subst e
  exact hn hne g' o' rfl (hN g' (hs.lt rfl hne) hN')

/-- The writes of an append, sector by sector: the disk then, and the first error. -/
def ringRun (R : RingM) : Nat → Nat → List UInt8 → DiskM → DiskM × Int
  | 0, _, _, D => (D, 0)
  | f + 1, at', all, D =>
    if all = [] then (D, 0)
    else if (D.write (R.sector at') (sectorL all)).2 ≠ 0 then D.write (R.sector at') (sectorL all)
    else if all.length < 128 then ((D.write (R.sector at') (sectorL all)).1, 0)
    else ringRun R f (at' + 128) (all.drop 128) (D.write (R.sector at') (sectorL all)).1

/-- What an append does to a disk and a ring. -/
def RingM.append (R : RingM) (head : Nat) (s : List UInt8) (D : DiskM) : RingM × DiskM × Int :=
  if R.left head < s.length then (R, D, 3)
  else if s = [] then (R, D, 0)
  else
    let all := R.rest ++ s
    let q := ringRun R all.length (R.tail - R.rest.length) all D
    if q.2 = 0 then ({ R with tail := R.tail + s.length, rest := all.drop (all.length / 128 * 128) }, q.1, 0) else (R, q.1, q.2)

theorem take_flat (ps : List (List UInt8)) (k : Nat) (h : k < ps.length) : (ps.take (k + 1)).flatten = (ps.take k).flatten ++ ps[k] := by
  rw [List.take_succ_eq_append_getElem h, List.flatten_append, List.flatten_cons, List.flatten_nil, List.append_nil]
theorem take_flat_le (ps : List (List UInt8)) (k : Nat) : (ps.take k).flatten.length ≤ ps.flatten.length := by
  conv => rhs; rw [← List.take_append_drop k ps, List.flatten_append]
  simp
theorem left_le (R : RingM) (h : Nat) : R.left h ≤ R.size := Nat.sub_le _ _

section
variable {w : World} {r b : Nat} {D : DiskM} {R : RingM} {F FD : Nat → Prop}

set_option maxRecDepth 100000 in
set_option maxHeartbeats 800000 in
theorem append_no (h : RingAt w r b R F) (v : Value) (ps : List (List UInt8)) (N : Nat → Prop) (hp : PartsAt w v ps N) (head : Nat) (hh : head ≤ 18446744073709551615) (hbad : R.left head < ps.flatten.length ∨ ps.flatten = []) :
    Calls Tryz.prog 59 #[.pointer (some ⟨r, 0, none⟩), .int .u64 head, v] w fun e w' => e = .returned (.int .i64 (R.append head ps.flatten D).2.2) ∧ (R.append head ps.flatten D).1 = R ∧ (R.append head ps.flatten D).2.1 = D ∧ w = w' := by
  have HS := hid (size_c h)
  have HL := hid (left_c h head hh)
  have hsz : R.size ≤ 524288 := by obtain ⟨rv, h⟩ := h; have := h.c0; unfold RingM.size; omega
  have hll := left_le R head
  have hlb : (R.left head : Int) ≤ 524288 := by omega
  have hsb : (R.size : Int) ≤ 524288 := by omega
  clear h
  have hres : ∀ c : Int, ((R.left head < ps.flatten.length → c = 3) ∧ (ps.flatten = [] → c = 0)) → Ending.returned (.int .i64 c) = .returned (.int .i64 (R.append head ps.flatten D).2.2) ∧ (R.append head ps.flatten D).1 = R ∧ (R.append head ps.flatten D).2.1 = D := by
    intro c ⟨h1, h2⟩
    by_cases hc : R.left head < ps.flatten.length
    · have : R.append head ps.flatten D = (R, D, 3) := by unfold RingM.append; rw [if_pos hc]
      rw [this, h1 hc]; exact ⟨rfl, rfl, rfl⟩
    · have he : ps.flatten = [] := by rcases hbad with h | h; exact absurd h hc; exact h
      have : R.append head ps.flatten D = (R, D, 0) := by unfold RingM.append; rw [if_neg hc, if_pos he]
      rw [this, h2 he]; exact ⟨rfl, rfl, rfl⟩
  have HRes := hid hres
  have HBad := hid hbad
  clear hres hbad
  obtain ⟨a, c, rfl, hpl, hpp⟩ := hp
  have HP := hid hpp
  clear hpp
  go_enter Tryz.func59, Tryz.ntmps59
  go_wp2_with fail
  try go_frame
  go_loop [19, 7] (fun i n => ∃ k : Nat, i = .int .i64 k ∧ k ≤ ps.length ∧ n = .int .i64 (ps.take k).flatten.length ∧ (ps.take k).flatten.length ≤ R.size) (fun i _ => ps.length - (intOf i).toNat)
  case atStart => exact ⟨0, rfl, Nat.zero_le _, by simp, by simp⟩
  case round =>
    obtain ⟨k, rfl, hk, rfl, hn⟩ := hrel
    have hni : (((ps.take k).flatten.length : Nat) : Int) ≤ 524288 := by omega
    by_cases hkl : k < ps.length
    · obtain ⟨g, o, pa, pc, rfl, -, hc, -, -, hlb2⟩ := HP.out k ps[k] (List.getElem?_eq_getElem hkl)
      have hlb3 : ((ps[k].length : Nat) : Int) ≤ 1000000 := by omega
      have hsum : (ps.take (k + 1)).flatten.length = (ps.take k).flatten.length + ps[k].length := by rw [take_flat ps k hkl, List.length_append]
      obtain ⟨L, hL⟩ : ∃ L, L = (ps.take k).flatten.length := ⟨_, rfl⟩
      obtain ⟨M, hM⟩ : ∃ M, M = ps[k].length := ⟨_, rfl⟩
      rw [← hL] at hn hni hsum ⊢
      rw [← hM] at hc hlb2 hlb3 hsum
      have HSum := hid hsum; have HLL := hid hL; have HMM := hid hM
      clear hsum hL hM
      go_wp2_with (go_at_call 75; refine HS.out.mono ?_; rintro e w' ⟨rfl, rfl⟩)
      · go_ret
        have hbig : (R.size : Int) < (L : Int) + (M : Int) := by assumption
        obtain ⟨e1, e2, e3⟩ := HRes.out 3 ⟨fun _ => rfl, fun he => by
          have h1 : (ps.take (k + 1)).flatten.length ≤ ps.flatten.length := take_flat_le ps (k + 1)
          rw [he] at h1
          have := HSum.out
          simp at h1 this
          omega⟩
        exact ⟨e1, e2, e3, rfl⟩
      · have hle : (L : Int) + (M : Int) ≤ (R.size : Int) := by assumption
        go_round
        case rel => exact ⟨k + 1, by go_num, by omega, by rw [HSum.out]; go_num, by rw [HSum.out]; omega⟩
        case measure => simp [intOf]; omega
    · have hkk : k = ps.length := by omega
      subst hkk
      rw [List.take_length] at hn hni ⊢
      by_cases hlf : R.left head < ps.flatten.length
      · have hlf' : (R.left head : Int) < (ps.flatten.length : Int) := by omega
        obtain ⟨e1, e2, e3⟩ := HRes.out 3 ⟨fun _ => rfl, fun he => by rw [he] at hlf; simp at hlf⟩
        have E1 := hid e1; have E2 := hid e2; have E3 := hid e3
        obtain ⟨L, hL⟩ : ∃ L, L = ps.flatten.length := ⟨_, rfl⟩
        rw [← hL] at hn hni hlf' ⊢
        clear hL e1 e2 e3 hlf HRes HBad HP
        go_wp2_with (go_at_call 80; refine HL.out.mono ?_; rintro e w' ⟨rfl, rfl⟩)
        go_ret
        exact ⟨E1.out, E2.out, E3.out, rfl⟩
      · have he : ps.flatten = [] := by rcases HBad.out with h | h; exact absurd h hlf; exact h
        obtain ⟨e1, e2, e3⟩ := HRes.out 0 ⟨fun h => absurd h hlf, fun _ => rfl⟩
        have E1 := hid e1; have E2 := hid e2; have E3 := hid e3
        have hlf' : ¬ (R.left head : Int) < 0 := by omega
        have hfl : ((ps.flatten.length : Nat) : Int) = 0 := by rw [he]; rfl
        rw [hfl]
        clear hfl he e1 e2 e3 hlf HRes HBad HP hn hni
        go_wp2_with (go_at_call 80; refine HL.out.mono ?_; rintro e w' ⟨rfl, rfl⟩)
        go_ret
        exact ⟨E1.out, E2.out, E3.out, rfl⟩
end
end Go.Proofs.YtfmdngeooelcpaaGreat
namespace Go.Proofs.YtfmdngeooelcpaaGreat
open Go.RowKit Go.ChangeShapes Go.WideShapes Go.ChangeAt

/-- A slice of byte slices that reads as these parts. -/
def PartsV (w : World) (v : Value) (ps : List (List UInt8)) : Prop :=
  ∃ a c, v = .slice a ps.length c ∧ ps.length ≤ 9223372036854775807 ∧ ∀ i l, ps[i]? = some l → l.length ≤ 9223372036854775807 ∧ ∃ g o pa pc, a = some ⟨g, o, none⟩ ∧ w.cell? ⟨g, o + i, none⟩ = some (.slice pa l.length pc) ∧ Src w (.slice pa l.length pc) l

theorem PartsV.only {w w' : World} {v : Value} {ps : List (List UInt8)} {G : Nat → Prop} (h : PartsV w v ps) (ho : Only G w w') (hG : ∀ k, k < w.heap.size → ¬ G k) : PartsV w' v ps := by
  obtain ⟨a, c, rfl, hl, h⟩ := h
  refine ⟨a, c, rfl, hl, fun i l hi => ?_⟩
  obtain ⟨hb, g, o, pa, pc, rfl, hc, hs⟩ := h i l hi
  have hlt := World.block_lt_of_cell? _ _ hc
  refine ⟨hb, g, o, pa, pc, rfl, (World.cell?_of_block (ho.block g hlt (hG g hlt))).trans hc, hs.only ho (fun hne g' o' c' e hg' => hG g' (hs.lt e hne) hg')⟩
theorem PartsV.parts {W w : World} {v : Value} {ps : List (List UInt8)} {N G : Nat → Prop} (h : PartsV W v ps) (hb : ∀ l ∈ ps, l.length ≤ 1000000) (ho : Only G W w) (hG : ∀ k, k < W.heap.size → ¬ G k) (hN : ∀ k, N k → W.heap.size ≤ k) : PartsAt w v ps N := by
  obtain ⟨a, c, rfl, hl, h⟩ := h
  refine ⟨a, c, rfl, hl, fun i l hi => ?_⟩
  obtain ⟨-, g, o, pa, pc, rfl, hc, hs⟩ := h i l hi
  have hlt : g < W.heap.size := World.block_lt_of_cell? _ _ hc
  refine ⟨g, o, pa, pc, rfl, fun e => by have := hN g e; omega, (World.cell?_of_block (ho.block g hlt (hG g hlt))).trans hc, hs.only ho (fun hne g' o' c' e hg' => hG g' (hs.lt e hne) hg'), fun hne g' o' e hg' => ?_, hb l (List.mem_of_getElem? hi)⟩
  have h1 := hN g' hg'
  have h2 := hs.lt (g := g') (of := o') (c := pc) (by rw [e]) hne
  omega

section
variable {H : Type} {enc : TypeId × Value → H} {W : World} {base : Nat} {spare : Nat → Bool} {held : Bool} {fuel : Nat} {x : DataW H × List MemPlace} {v : Value}
end
end Go.Proofs.YtfmdngeooelcpaaGreat
namespace Go.Proofs.YtfmdngeooelcpaaGreat
open Go.RowKit

def crcSh (c : Nat) : Nat := if c % 2 = 1 then (c / 2) ^^^ 3988292384 else c / 2
def crcShN : Nat → Nat → Nat
  | 0, c => c
  | n + 1, c => crcSh (crcShN n c)
def crcB (c : Nat) (x : UInt8) : Nat := crcShN 8 (c ^^^ x.toNat)
def crcL (c : Nat) (l : List UInt8) : Nat := l.foldl crcB c
def crc (l : List UInt8) : Nat := crcL 4294967295 l ^^^ 4294967295
theorem crcSh_lt {c : Nat} (h : c < 4294967296) : crcSh c < 4294967296 := by
  unfold crcSh
  split
  · exact Nat.xor_lt_two_pow (n := 32) (by omega) (by decide)
  · omega
theorem crcShN_lt {c : Nat} (h : c < 4294967296) : ∀ n, crcShN n c < 4294967296
  | 0 => h
  | n + 1 => crcSh_lt (crcShN_lt h n)
theorem xor8_lt {c : Nat} (h : c < 4294967296) (x : UInt8) : c ^^^ x.toNat < 4294967296 := Nat.xor_lt_two_pow (n := 32) h (by have := x.toNat_lt; omega)
theorem crcB_lt {c : Nat} (h : c < 4294967296) (x : UInt8) : crcB c x < 4294967296 := crcShN_lt (xor8_lt h x) 8
theorem crcL_lt : ∀ {c : Nat} (l : List UInt8), c < 4294967296 → crcL c l < 4294967296
  | _, [], h => h
  | _, x :: l, h => crcL_lt l (crcB_lt h x)
theorem crc_lt (l : List UInt8) : crc l < 4294967296 := Nat.xor_lt_two_pow (n := 32) (crcL_lt l (by decide)) (by decide)
theorem crcL_app (c : Nat) (a b : List UInt8) : crcL c (a ++ b) = crcL (crcL c a) b := List.foldl_append
theorem crcL_take {c : Nat} {l : List UInt8} {k : Nat} {x : UInt8} (h : l[k]? = some x) : crcL c (l.take (k + 1)) = crcB (crcL c (l.take k)) x := by
  rw [List.take_add_one, h, crcL_app]; rfl
theorem flat_take {ps : List (List UInt8)} {k : Nat} {l : List UInt8} (h : ps[k]? = some l) : (ps.take (k + 1)).flatten = (ps.take k).flatten ++ l := by
  rw [List.take_add_one, h, List.flatten_append]; simp

section
variable {w : World}
set_option maxRecDepth 100000 in
set_option maxHeartbeats 3200000 in
theorem crc_c (v : Value) (ps : List (List UInt8)) (h : PartsV w v ps) :
    Calls Tryz.prog 76 #[v] w fun e w' => e = .returned (.int .u32 (crc ps.flatten : Nat)) ∧ w = w' := by
  obtain ⟨a, c, rfl, hll, hl⟩ := h
  have HL := hid hl
  clear hl
  go_enter Tryz.func76, Tryz.ntmps76
  go_wp2_with fail
  go_loop [11, 5, 7, 8, 3] (fun i _ _ _ c => ∃ k : Nat, i = .int .i64 k ∧ k ≤ ps.length ∧ c = .int .u32 (crcL 4294967295 (ps.take k).flatten : Nat)) (fun i _ _ _ _ => ps.length - (intOf i).toNat)
  case atStart => exact ⟨0, rfl, Nat.zero_le _, rfl⟩
  case round =>
    obtain ⟨k, rfl, hk, rfl⟩ := hrel
    by_cases hkl : k < ps.length
    · have hki : (k : Int) < ps.length := by omega
      obtain ⟨l, hpl⟩ : ∃ l, ps[k]? = some l := ⟨_, List.getElem?_eq_getElem hkl⟩
      obtain ⟨hlb, g, o, pa, pc, rfl, hc, hsl⟩ := HL.out k l hpl
      obtain ⟨c0, hc0⟩ : ∃ c0, crcL 4294967295 (ps.take k).flatten = c0 := ⟨_, rfl⟩
      have hc0l : c0 < 4294967296 := by rw [← hc0]; exact crcL_lt _ (by decide)
      have Hstep : Hid (crcL 4294967295 (ps.take (k + 1)).flatten = crcL c0 l) := hid (by rw [flat_take hpl, crcL_app, hc0])
      rw [hc0]
      have Hsl := hid hsl
      clear hpl hc0 hsl
      go_wp2_with fail
      go_loop [17, 7, 8, 3] (fun i _ _ c => ∃ j : Nat, i = .int .i64 j ∧ j ≤ l.length ∧ c = .int .u32 (crcL c0 (l.take j) : Nat)) (fun i _ _ _ => l.length - (intOf i).toNat)
      case atStart => exact ⟨0, rfl, Nat.zero_le _, rfl⟩
      case round =>
        obtain ⟨j, rfl, hj, rfl⟩ := hrel
        by_cases hjl : j < l.length
        · have hji : (j : Int) < l.length := by omega
          obtain ⟨x, hx⟩ : ∃ x, l[j]? = some x := ⟨_, List.getElem?_eq_getElem hjl⟩
          obtain ⟨a', c', e, hq⟩ := Hsl.out
          simp only [Value.slice.injEq] at e
          obtain ⟨rfl, -, rfl⟩ := e
          obtain ⟨g', o', rfl, hcs⟩ := hq (by rintro rfl; simp at hjl)
          have hcx : w.cell? ⟨g', o' + j, none⟩ = some (.int .u8 (x.toNat : Nat)) := hcs j _ (by rw [bytesV_get, hx]; rfl)
          obtain ⟨c1, hc1⟩ : ∃ c1, crcL c0 (l.take j) = c1 := ⟨_, rfl⟩
          have hc1l : c1 < 4294967296 := by rw [← hc1]; exact crcL_lt _ hc0l
          have Hst2 : Hid (crcL c0 (l.take (j + 1)) = crcShN 8 (c1 ^^^ x.toNat)) := hid (by rw [crcL_take hx, hc1]; rfl)
          rw [hc1]
          have hxl : x.toNat < 256 := x.toNat_lt
          have hxI : (x.toNat : Int) < 256 := by omega
          have hxor : bits .xor .u32 (c1 : Nat) (x.toNat : Nat) = ((c1 ^^^ x.toNat : Nat) : Int) := u32_xor_nat _ _ hc1l (by omega)
          obtain ⟨d, hd⟩ : ∃ d, c1 ^^^ x.toNat = d := ⟨_, rfl⟩
          have hdl : d < 4294967296 := by rw [← hd]; exact xor8_lt hc1l x
          rw [hd] at hxor Hst2
          clear hx hc1 hq hcs hd
          go_wp2_with fail
          go_loop [25, 8, 3] (fun i _ c => ∃ m : Nat, i = .int .i64 m ∧ m ≤ 8 ∧ c = .int .u32 (crcShN m d : Nat)) (fun i _ _ => 8 - (intOf i).toNat)
          case atStart => exact ⟨0, rfl, by omega, rfl⟩
          case round =>
            obtain ⟨m, rfl, hm, rfl⟩ := hrel
            by_cases hm8 : m < 8
            · have hmi : (m : Int) < 8 := by omega
              have Hsn : Hid (crcShN (m + 1) d = crcSh (crcShN m d)) := hid rfl
              have hel := crcShN_lt hdl m
              obtain ⟨e0, he0⟩ : ∃ e0, crcShN m d = e0 := ⟨_, rfl⟩
              rw [he0] at Hsn hel ⊢
              have hand : bits .and .u32 (e0 : Nat) 1 = ((e0 % 2 : Nat) : Int) := (u32_and_nat e0 1 hel (by decide)).trans (by rw [Nat.and_one_is_mod])
              clear he0
              by_cases hodd : e0 % 2 = 1
              · have hb : (((e0 % 2 : Nat) : Int) == 1) = true := by simp [hodd]
                have hx3 : bits .xor .u32 ((e0 : Int) / 2) 3988292384 = (((e0 / 2) ^^^ 3988292384 : Nat) : Int) := u32_xor_nat (e0 / 2) 3988292384 (by omega) (by decide)
                have Hs2 : Hid (crcSh e0 = (e0 / 2) ^^^ 3988292384) := hid (by unfold crcSh; rw [if_pos hodd])
                clear hodd
                go_wp2_with fail
                go_round
                case rel => exact ⟨m + 1, by go_num, by omega, by rw [Hsn.out, Hs2.out]⟩
                case measure => simp [intOf]; omega
              · have hb : (((e0 % 2 : Nat) : Int) == 1) = false := by simp; omega
                have Hs2 : Hid (crcSh e0 = e0 / 2) := hid (by unfold crcSh; rw [if_neg hodd])
                clear hodd
                go_wp2_with fail
                go_round
                case rel => exact ⟨m + 1, by go_num, by omega, by rw [Hsn.out, Hs2.out]; go_num⟩
                case measure => simp [intOf]; omega
            · obtain rfl : m = 8 := by omega
              rw [← Hst2.out]
              go_wp2_with fail
              go_round
              case rel => exact ⟨j + 1, by go_num, by omega, rfl⟩
              case measure => simp [intOf]; omega
        · obtain rfl : j = l.length := by omega
          rw [List.take_length, ← Hstep.out]
          go_wp2_with fail
          go_round
          case rel => exact ⟨k + 1, by go_num, by omega, rfl⟩
          case measure => simp [intOf]; omega
    · obtain rfl : k = ps.length := by omega
      rw [List.take_length]
      have hcl := crcL_lt (c := 4294967295) ps.flatten (by decide)
      have Hfin : Hid (crc ps.flatten = crcL 4294967295 ps.flatten ^^^ 4294967295) := hid rfl
      obtain ⟨c1, hc1⟩ : ∃ c1, crcL 4294967295 ps.flatten = c1 := ⟨_, rfl⟩
      rw [hc1] at hcl Hfin ⊢
      clear hc1
      have hmx : bits .xor .u32 IntKind.u32.max (c1 : Nat) = ((c1 ^^^ 4294967295 : Nat) : Int) := (u32_xor_nat 4294967295 c1 (by decide) hcl).trans (by rw [Nat.xor_comm])
      go_wp2_with fail
      go_ret
      exact ⟨by rw [Hfin.out]; rfl, rfl⟩
end
end Go.Proofs.YtfmdngeooelcpaaGreat
namespace Go.Proofs.YtfmdngeooelcpaaGreat
open Go.RowKit

/-- A row of bytes that is turned, byte by byte: whatever they are. -/
def IncInv (w1 wr : World) (g c n : Nat) : Prop := ∃ ns : List Int, Row wr g 5 c (ns.map (Value.int .u8)) ∧ ns.length = n ∧ Only (fun j => j = g) w1 wr
theorem IncInv.cell {w1 wr : World} {g c n : Nat} (h : IncInv w1 wr g c n) (k : Nat) (hk : k < n) : ∃ x : Int, wr.cell? ⟨g, k, none⟩ = some (.int .u8 x) ∧ wr.frozen? ⟨g, k, none⟩ = false ∧ ∀ y, IncInv w1 (wr.setCell ⟨g, k, none⟩ (.int .u8 y)) g c n := by
  obtain ⟨ns, hr, hl, ho⟩ := h
  refine ⟨ns[k]'(by omega), ?_, hr.frozen k, fun y => ⟨ns.set k y, ?_, by simpa using hl, ho.trans (only_set _ _ _) (fun _ _ e => e)⟩⟩
  · rw [hr.cell k (by simp; omega)]; simp [show k < ns.length by omega]
  · have := hr.set k (.int .u8 y) (by simp; omega)
    rw [List.map_set]; exact this
end Go.Proofs.YtfmdngeooelcpaaGreat
namespace Go.Proofs.YtfmdngeooelcpaaGreat
open Go.RowKit

theorem Src.adds {w : World} {a : Option Addr} {n c : Nat} {l : List UInt8} (h : Src w (.slice a n c) l) (h0 : 0 < l.length) : ∃ ad, a = some ad ∧ ∀ j u, (bytesV l)[j]? = some u → w.cell? (ad.add j) = some u := by
  obtain ⟨a', c', e, h⟩ := h
  simp only [Value.slice.injEq] at e
  obtain ⟨rfl, -, -⟩ := e
  obtain ⟨g, o, rfl, hc⟩ := h (List.length_pos_iff.1 h0)
  refine ⟨_, rfl, fun j u hj => ?_⟩
  rw [addr_add]; exact hc j u hj

section
variable {ops : Array Oper} {a : Act} {w : World} {o : Oper} {rest : List Oper} {Q : Exit → Act → World → Prop}
theorem wp_addb {K : Act → World → Prop} (s x : Operand) (ho : o.op = .call { callee := .builtin .append, args := #[s, x], argTypes := #[31, 31] })
    (g cap : Nat) (l : List UInt8) (hs : a.eval s = .slice (some ⟨g, 0, none⟩) l.length cap) (hrow : Row w g 5 cap (bytesV l))
    (ao : Option Addr) (m : List UInt8) (c : Nat) (hx : a.eval x = .slice ao m.length c) (hsrc : Src w (.slice ao m.length c) m) (hb : l.length + m.length ≤ 2000000)
    (h : ∀ g' cap' w', l.length + m.length ≤ cap' → Row w' g' 5 cap' (bytesV (l ++ m)) → (g' = g ∨ g' = w.heap.size) → Only (fun k => k = g) w w' → K (a.put o.dst (.slice (some ⟨g', 0, none⟩) (l.length + m.length) cap')) w') :
    o.wp Tryz.prog a w K Q := by
  obtain ⟨i0, hi, hz0, hz1, hz2⟩ := info_parts info8
  have hle := hrow.le
  rw [length_bytesV] at hle
  refine wp_appS s x _ ho 5 i0 (.int .u8 0) 1 1 Tryz.underlying31 hi hz0 hz1 hz2 rfl g l.length cap (bytesV l) hs hle (by rw [Nat.mul_one]; exact hrow) (by simp) ao m.length c hx (bytesV m) (by simp) hsrc.adds (oneCell_bytesV m) (by omega) (by omega) ?_
  intro g' cap' w' h1 h2 h3 h4
  rw [Nat.mul_one, ← bytesV_append] at h2
  exact h g' cap' w' h1 h2 h3 h4

theorem wpList_addb (hgd : o.guard = none) (s x : Operand) (ho : o.op = .call { callee := .builtin .append, args := #[s, x], argTypes := #[31, 31] })
    (g cap : Nat) (l : List UInt8) (hs : a.eval s = .slice (some ⟨g, 0, none⟩) l.length cap) (hrow : Row w g 5 cap (bytesV l))
    (ao : Option Addr) (m : List UInt8) (c : Nat) (hx : a.eval x = .slice ao m.length c) (hsrc : Src w (.slice ao m.length c) m) (hb : l.length + m.length ≤ 2000000)
    (h : ∀ g' cap' w', l.length + m.length ≤ cap' → Row w' g' 5 cap' (bytesV (l ++ m)) → (g' = g ∨ g' = w.heap.size) → Only (fun k => k = g) w w' → wpList Tryz.prog ops Q rest (a.put o.dst (.slice (some ⟨g', 0, none⟩) (l.length + m.length) cap')) w') :
    wpList Tryz.prog ops Q (o :: rest) a w :=
  wpList_plain hgd fun _ hK => wp_addb s x ho g cap l hs hrow ao m c hx hsrc hb (fun x0 x1 x2 x3 x4 x5 x6 => hK _ _ (h x0 x1 x2 x3 x4 x5 x6))

/-- A slice of bytes that grows from nil: nil, or a row of the program's own. -/
def BOut (w : World) (ao : Option Addr) (cap : Nat) (l : List UInt8) (lo : Nat) : Prop :=
  (ao = none ∧ cap = 0 ∧ l = []) ∨ ∃ g, ao = some ⟨g, 0, none⟩ ∧ lo ≤ g ∧ Row w g 5 cap (bytesV l)

theorem wp_addo {K : Act → World → Prop} (s x : Operand) (ho : o.op = .call { callee := .builtin .append, args := #[s, x], argTypes := #[31, 31] })
    (bo : Option Addr) (cap lo : Nat) (l : List UInt8) (hs : a.eval s = .slice bo l.length cap) (hrow : BOut w bo cap l lo) (hlo : lo ≤ w.heap.size)
    (ao : Option Addr) (m : List UInt8) (c : Nat) (hx : a.eval x = .slice ao m.length c) (hsrc : Src w (.slice ao m.length c) m) (hb : l.length + m.length ≤ 2000000)
    (h : ∀ bo' cap' w', BOut w' bo' cap' (l ++ m) lo → Only (fun k => lo ≤ k) w w' → K (a.put o.dst (.slice bo' (l.length + m.length) cap')) w') :
    o.wp Tryz.prog a w K Q := by
  rcases hrow with ⟨rfl, rfl, rfl⟩ | ⟨g, rfl, hg, hrow⟩
  · obtain ⟨i0, hi, hz0, hz1, hz2⟩ := info_parts info8
    rcases Nat.eq_zero_or_pos m.length with h0 | h0
    · obtain rfl : m = [] := List.eq_nil_of_length_eq_zero h0
      refine wp_app_none s x _ ho 5 i0 Tryz.underlying31 hi none 0 0 hs (Nat.le_refl _) ao c hx ?_
      exact h none 0 w (.inl ⟨rfl, rfl, rfl⟩) (Only.refl _ _)
    · obtain ⟨ad, rfl, hc⟩ := hsrc.adds h0
      refine wp_app_nil s x _ ho 5 i0 (.int .u8 0) 1 1 Tryz.underlying31 hi hz0 hz1 hz2 rfl hs ad m.length c hx (bytesV m) (by simp) hc h0 (by simp at hb; omega) (by simp at hb; omega) ?_
      intro cap' w' h1 h2 h3
      have := h (some ⟨w.heap.size, 0, none⟩) cap' w' (.inr ⟨_, rfl, hlo, by rw [Nat.mul_one] at h2; exact h2⟩) (h3.mono (fun _ _ e => e.elim))
      simpa using this
  · refine wp_addb s x ho g cap l hs hrow ao m c hx hsrc hb ?_
    intro g' cap' w' h1 h2 h3 h4
    exact h _ cap' w' (.inr ⟨g', rfl, by omega, h2⟩) (h4.mono (fun k _ e => e ▸ hg))
theorem wpList_addo (hgd : o.guard = none) (s x : Operand) (ho : o.op = .call { callee := .builtin .append, args := #[s, x], argTypes := #[31, 31] })
    (bo : Option Addr) (cap lo : Nat) (l : List UInt8) (hs : a.eval s = .slice bo l.length cap) (hrow : BOut w bo cap l lo) (hlo : lo ≤ w.heap.size)
    (ao : Option Addr) (m : List UInt8) (c : Nat) (hx : a.eval x = .slice ao m.length c) (hsrc : Src w (.slice ao m.length c) m) (hb : l.length + m.length ≤ 2000000)
    (h : ∀ bo' cap' w', BOut w' bo' cap' (l ++ m) lo → Only (fun k => lo ≤ k) w w' → wpList Tryz.prog ops Q rest (a.put o.dst (.slice bo' (l.length + m.length) cap')) w') :
    wpList Tryz.prog ops Q (o :: rest) a w :=
  wpList_plain hgd fun _ hK => wp_addo s x ho bo cap lo l hs hrow hlo ao m c hx hsrc hb (fun x0 x1 x2 x3 x4 => hK _ _ (h x0 x1 x2 x3 x4))
theorem wpList_addon (hgd : o.guard = none) (s x : Operand) (ho : o.op = .call { callee := .builtin .append, args := #[s, x], argTypes := #[31, 31] })
    (bo : Option Addr) (cap lo : Nat) (l : List UInt8) (hs : a.eval s = .slice bo l.length cap) (hrow : BOut w bo cap l lo) (hlo : lo ≤ w.heap.size)
    (ao : Option Addr) (m : List UInt8) (n c : Nat) (hn : m.length = n) (hx : a.eval x = .slice ao n c) (hsrc : Src w (.slice ao n c) m) (hb : l.length + n ≤ 2000000)
    (h : ∀ bo' cap' w', BOut w' bo' cap' (l ++ m) lo → Only (fun k => lo ≤ k) w w' → wpList Tryz.prog ops Q rest (a.put o.dst (.slice bo' (l.length + n) cap')) w') :
    wpList Tryz.prog ops Q (o :: rest) a w := by
  subst hn
  exact wpList_addo hgd s x ho bo cap lo l hs hrow hlo ao m c hx hsrc hb h
theorem Row.piece {g c : Nat} {l : List UInt8} (h : Row w g 5 c (bytesV l)) (o n c' : Nat) (m : List UInt8) (hn : m.length = n) (hm : m = (l.drop o).take n) : Src w (.slice (some ⟨g, o, none⟩) n c') m := by
  subst hn
  refine ⟨_, _, rfl, fun _ => ⟨g, o, rfl, fun i u hu => ?_⟩⟩
  have hu2 : (bytesV l)[o + i]? = some u := by
    rw [bytesV_get] at hu ⊢
    rw [hm] at hu
    by_cases hi : i < m.length
    · rw [List.getElem?_take_of_lt hi, List.getElem?_drop] at hu; exact hu
    · rw [List.getElem?_eq_none (by rw [List.length_take]; omega)] at hu; cases hu
  have := h.news _ _ hu2
  rw [addr_add, Nat.zero_add] at this
  exact this
theorem BOut.src {ao : Option Addr} {cap : Nat} {l : List UInt8} {lo : Nat} (h : BOut w ao cap l lo) : Src w (.slice ao l.length cap) l := by
  rcases h with ⟨rfl, rfl, rfl⟩ | ⟨g, rfl, -, hrow⟩
  · exact ⟨_, _, rfl, fun e => absurd rfl e⟩
  · exact hrow.src
theorem BOut.only {ao : Option Addr} {cap : Nat} {l : List UInt8} {lo : Nat} {w' : World} {F : Nat → Prop} (h : BOut w ao cap l lo) (ho : Only F w w') (hF : ∀ k, k < w.heap.size → lo ≤ k → ¬ F k) : BOut w' ao cap l lo := by
  rcases h with h | ⟨g, rfl, hg, hrow⟩
  · exact .inl h
  · exact .inr ⟨g, rfl, hg, hrow.only ho (hF g hrow.lt hg)⟩
end
end Go.Proofs.YtfmdngeooelcpaaGreat
namespace Go.Proofs.YtfmdngeooelcpaaGreat
open Go.RowKit

def RAppPost (w : World) (r b : Nat) (q : RingM × DiskM × Int) (F FD : Nat → Prop) (e : Ending) (w' : World) : Prop :=
  e = .returned (.int .i64 q.2.2) ∧ ∃ F' FD', RingAt w' r b q.1 F' ∧ DiskAt w' b q.2.1 FD' ∧ (∀ k, F' k → ¬ FD' k) ∧ Only (fun k => F k ∨ FD k) w w' ∧ (∀ k, F' k → F k ∨ w.heap.size ≤ k) ∧ ∀ k, FD' k → FD k ∨ w.heap.size ≤ k

theorem run_nil (R : RingM) (f a : Nat) (D : DiskM) : ringRun R f a [] D = (D, 0) := by cases f <;> simp [ringRun]
theorem run_bad (R : RingM) (f a : Nat) (al : List UInt8) (D : DiskM) (hf : 0 < f) (h : al ≠ []) (hb : (D.write (R.sector a) (sectorL al)).2 ≠ 0) : ringRun R f a al D = D.write (R.sector a) (sectorL al) := by
  obtain ⟨f, rfl⟩ := Nat.exists_eq_succ_of_ne_zero (Nat.ne_of_gt hf)
  simp only [ringRun, if_neg h, if_pos hb]
theorem run_last (R : RingM) (f a : Nat) (al : List UInt8) (D : DiskM) (hf : 0 < f) (h : al ≠ []) (hb : (D.write (R.sector a) (sectorL al)).2 = 0) (hl : al.length < 128) : ringRun R f a al D = ((D.write (R.sector a) (sectorL al)).1, 0) := by
  obtain ⟨f, rfl⟩ := Nat.exists_eq_succ_of_ne_zero (Nat.ne_of_gt hf)
  simp only [ringRun, if_neg h, hb, ne_eq, not_true_eq_false, if_false, if_pos hl]
theorem run_next (R : RingM) (f a : Nat) (al : List UInt8) (D : DiskM) (hf : 0 < f) (h : al ≠ []) (hb : (D.write (R.sector a) (sectorL al)).2 = 0) (hl : ¬ al.length < 128) : ringRun R f a al D = ringRun R (f - 1) (a + 128) (al.drop 128) (D.write (R.sector a) (sectorL al)).1 := by
  obtain ⟨f, rfl⟩ := Nat.exists_eq_succ_of_ne_zero (Nat.ne_of_gt hf)
  simp only [ringRun, if_neg h, hb, ne_eq, not_true_eq_false, if_false, if_neg hl, Nat.succ_eq_add_one, Nat.add_sub_cancel]

/-- Behind some sectors of an append: what is left of the bytes, where it goes, the disk then. -/
structure AppInv (w wr : World) (b : Nat) (R : RingM) (D : DiskM) (FD : Nat → Prop) (all0 : List UInt8) (at0 j : Nat) (al : List UInt8) (at' : Nat) (D1 : DiskM) (F1 : Nat → Prop) : Prop where
  eq : al = all0.drop (j * 128)
  le : j * 128 ≤ all0.length
  pos : at' = at0 + j * 128
  run : ringRun R all0.length at0 all0 D = ringRun R (all0.length - j) at' al D1
  disk : DiskAt wr b D1 F1
  only : Only FD w wr
  inF : ∀ k, F1 k → FD k ∨ w.heap.size ≤ k

theorem Row.src' {w : World} {g c : Nat} {l : List UInt8} {xs : List Value} (h : Row w g 5 c xs) (e : xs = bytesV l) : Src w (.slice (some ⟨g, 0, none⟩) l.length c) l := by subst e; exact h.src
def lenOfV : Value → Nat | .slice _ n _ => n | _ => 0
theorem appStep {w wr w4 w5 : World} {FD F1 F5 : Nat → Prop} (h1 : Only FD w wr) (h2 : ∀ k, F1 k → FD k ∨ w.heap.size ≤ k) (h3 : Only (fun _ => False) wr w4) (h5 : Only F1 w4 w5) (h6 : ∀ k, F5 k → F1 k ∨ w4.heap.size ≤ k) : Only FD w w5 ∧ ∀ k, F5 k → FD k ∨ w.heap.size ≤ k := by
  have s1 := h1.size
  have s2 := h3.size
  refine ⟨(h1.trans h3 (fun _ _ e => e.elim)).trans h5 (fun k hk e => ?_), fun k hk => ?_⟩
  · rcases h2 k e with h | h
    · exact h
    · omega
  · rcases h6 k hk with h | h
    · exact h2 k h
    · right; omega

theorem appFin {w W w6 : World} {r b L g6 cap6 : Nat} {R : RingM} {D2 : DiskM} {F FD F2 : Nat → Prop} {q : RingM × DiskM × Int} {al : List UInt8} (HH : RingAt w r b R F) (hdis : ∀ k, F k → ¬ FD k) (HoW : Only FD w W) (HDW : DiskAt W b D2 F2) (HFW : ∀ k, F2 k → FD k ∨ w.heap.size ≤ k)
    (hq : q = ({ R with tail := R.tail + L, rest := al }, D2, 0)) (hlen : al.length = (R.tail + L) % 128) (ht : R.tail + L ≤ 18446744073709551615)
    (ho6 : Only (fun _ => False) (W.setCell ⟨r, 3, none⟩ (.int .u64 (R.tail + L))) w6) (hrow6 : Row w6 g6 5 cap6 (bytesV al)) (hg6 : W.heap.size ≤ g6) :
    RAppPost w r b q F FD (.returned (.int .i64 0)) (w6.setCell ⟨r, 4, none⟩ (.slice (some ⟨g6, 0, none⟩) al.length cap6)) := by
  obtain ⟨rv, hR⟩ := HH
  have hFr := hR.own
  have hrW : r < W.heap.size := Nat.lt_of_lt_of_le (hR.lt r hFr) HoW.size
  have hblk : W.heap[r]? = some (.cells (ringCells R b rv) 117 (0, 0)) := blk_only hR.blk HoW (hdis r hFr)
  have hblk3 := blk_set hblk 3 (.int .u64 (R.tail + L))
  have hblk6 := blk_set (blk_only hblk3 ho6 (fun e => e)) 4 (.slice (some ⟨g6, 0, none⟩) al.length cap6)
  have hs6 := ho6.size
  rw [World.size_setCell] at hs6
  have hsW := HoW.size
  have hgr : g6 ≠ r := by omega
  have hgl := hrow6.lt
  have hd : ∀ k, F2 k → k ≠ r := fun k hk e => by
    rcases HFW k hk with h | h
    · exact hdis r hFr (e ▸ h)
    · have := hR.lt r hFr; omega
  subst hq
  refine ⟨rfl, fun k => F k ∨ k = g6, F2, ⟨.slice (some ⟨g6, 0, none⟩) al.length cap6, hblk6, (hrow6.setCell_other _ _ hgr).src, ?_, .inl hFr, ?_, hR.c0, ht, hlen⟩, ?_, ?_, ?_, ?_, HFW⟩
  · intro g o c e
    simp only [Value.slice.injEq, Option.some.injEq, Addr.mk.injEq] at e
    exact .inr e.1.1.symm
  · rw [World.size_setCell]
    rintro k (hk | rfl)
    · have := hR.lt k hk; omega
    · exact hgl
  · refine ((HDW.only (only_set r 3 _) (fun k hk => hd k hk)).only ho6 (fun _ _ e => e)).only (only_set r 4 _) (fun k hk => hd k hk)
  · rintro k (hk | rfl) h2
    · rcases HFW k h2 with h | h
      · exact hdis k hk h
      · have := hR.lt k hk; omega
    · have := HDW.lt h2; omega
  · refine ((((HoW.mono (G := fun k => F k ∨ FD k) (fun _ _ e => .inr e)).trans (only_set r 3 _) (fun k _ e => .inl (e ▸ hFr))).trans ho6 (fun _ _ e => e.elim)).trans (only_set r 4 _) (fun k _ e => .inl (e ▸ hFr)))
  · rintro k (hk | rfl)
    · exact .inl hk
    · right; omega

/-- An append that goes through, from its writes. -/
theorem append_eq {R : RingM} {head : Nat} {s : List UInt8} {D : DiskM} (h1 : s ≠ []) (h2 : s.length ≤ R.left head) {all : List UInt8} {at0 : Nat} (ha : all = R.rest ++ s) (hat : at0 = R.tail - R.rest.length) {q : DiskM × Int} (hq : ringRun R all.length at0 all D = q) :
    R.append head s D = if q.2 = 0 then ({ R with tail := R.tail + s.length, rest := all.drop (all.length / 128 * 128) }, q.1, 0) else (R, q.1, q.2) := by
  subst ha hat hq
  unfold RingM.append
  rw [if_neg (by omega), if_neg h1]

section
variable {w : World} {r b : Nat} {D : DiskM} {R : RingM} {F FD : Nat → Prop}

set_option maxRecDepth 100000 in
set_option maxHeartbeats 1600000 in
theorem append_go (h : RingAt w r b R F) (hD : DiskAt w b D FD) (hdis : ∀ k, F k → ¬ FD k) (hRD : R.first + R.count ≤ D.n) (v : Value) (ps : List (List UInt8)) (hp : PartsAt w v ps (fun k => F k ∨ FD k)) (head : Nat) (hh : head ≤ 18446744073709551615) (hne : ps.flatten ≠ []) (hfit : ps.flatten.length ≤ R.left head) (htl : R.tail + ps.flatten.length ≤ 18446744073709551615) :
    Calls Tryz.prog 59 #[.pointer (some ⟨r, 0, none⟩), .int .u64 head, v] w (RAppPost w r b (R.append head ps.flatten D) F FD) := by
  have HS := hid (size_c h)
  have HL := hid (left_c h head hh)
  have hsz : R.size ≤ 524288 := by obtain ⟨rv, h⟩ := h; have := h.c0; unfold RingM.size; omega
  have hll := left_le R head
  have hlb : (R.left head : Int) ≤ 524288 := by omega
  have hsb : (R.size : Int) ≤ 524288 := by omega
  have hpos : 0 < ps.flatten.length := List.length_pos_iff.2 hne
  have HH := hid h; have HD := hid hD; have HDis := hid hdis; have HRD := hid hRD; have HPA := hid hp; have HTl := hid htl
  clear h hD hdis hRD htl
  obtain ⟨a, c, rfl, hpl, hpp⟩ := hp
  have HP := hid hpp
  clear hpp hne
  go_enter Tryz.func59, Tryz.ntmps59
  go_wp2_with fail
  try go_frame
  go_loop [19, 7] (fun i n => ∃ k : Nat, i = .int .i64 k ∧ k ≤ ps.length ∧ n = .int .i64 (ps.take k).flatten.length ∧ (ps.take k).flatten.length ≤ R.size) (fun i _ => ps.length - (intOf i).toNat)
  case atStart => exact ⟨0, rfl, Nat.zero_le _, by simp, by simp⟩
  case round =>
    obtain ⟨k, rfl, hk, rfl, hn⟩ := hrel
    have hni : (((ps.take k).flatten.length : Nat) : Int) ≤ 524288 := by omega
    by_cases hkl : k < ps.length
    · obtain ⟨g, o, pa, pc, rfl, -, hc, -, -, hlb2⟩ := HP.out k ps[k] (List.getElem?_eq_getElem hkl)
      have hlb3 : ((ps[k].length : Nat) : Int) ≤ 1000000 := by omega
      have hsum : (ps.take (k + 1)).flatten.length = (ps.take k).flatten.length + ps[k].length := by rw [take_flat ps k hkl, List.length_append]
      have hle0 : (ps.take (k + 1)).flatten.length ≤ ps.flatten.length := take_flat_le ps (k + 1)
      obtain ⟨L, hL⟩ : ∃ L, L = (ps.take k).flatten.length := ⟨_, rfl⟩
      obtain ⟨M, hM⟩ : ∃ M, M = ps[k].length := ⟨_, rfl⟩
      rw [← hL] at hn hni hsum ⊢
      rw [← hM] at hc hlb2 hlb3 hsum
      have hle : (L : Int) + (M : Int) ≤ (R.size : Int) := by omega
      have HSum := hid hsum; have HLL := hid hL; have HMM := hid hM
      clear hsum hL hM hle0
      go_wp2_with (go_at_call 75; refine HS.out.mono ?_; rintro e w' ⟨rfl, rfl⟩)
      go_round
      case rel => exact ⟨k + 1, by go_num, by omega, by rw [HSum.out]; go_num, by rw [HSum.out]; omega⟩
      case measure => simp [intOf]; omega
    · have hkk : k = ps.length := by omega
      subst hkk
      rw [List.take_length] at hn hni ⊢
      have hlf' : (ps.flatten.length : Int) ≤ (R.left head : Int) := by omega
      have hl0 : ((ps.flatten.length : Int) == 0) = false := by rw [beq_eq_false_iff_ne]; omega
      obtain ⟨L, hL⟩ : ∃ L, L = ps.flatten.length := ⟨_, rfl⟩
      rw [← hL] at hn hni hlf' hl0 hpos hfit ⊢
      have HLL := hid hL
      clear hL
      obtain ⟨rv, ra, rc, rfl, hrc, hrz⟩ := HH.out.cells
      have hc0 := hrc 0; have hc3 := hrc 3; have hc4 := hrc 4
      have hrlt : r < w.heap.size := HH.out.lt
      have hcA : ∀ ob, (w.alloc ob).cell? ⟨r, 4, none⟩ = some (.slice ra R.rest.length rc) := fun ob => (World.cell?_alloc_lt _ _ _ hrlt).trans hc4
      clear hrc
      have hrs0 : Src (w.alloc (.cells #[] 5)) (.slice ra R.rest.length rc) R.rest := by
        obtain ⟨rv', hR⟩ := HH.out
        have e1 : rv' = .slice ra R.rest.length rc := by
          have e := hR.blk
          have h4 : w.cell? ⟨r, 4, none⟩ = some rv' := by rw [cell_blk e]; rfl
          rw [hc4] at h4; exact (Option.some.inj h4).symm
        subst e1
        exact hR.rest.only ((Only.refl (fun _ => False) w).alloc _) (fun _ _ _ _ _ e => e)
      have HRS := hid hrs0
      have hrl : R.rest.length < 128 := by obtain ⟨rv', hR⟩ := HH.out; have := hR.len; omega
      have hrt : (R.rest.length : Int) ≤ (R.tail : Int) := by obtain ⟨rv', hR⟩ := HH.out; have := hR.len; omega
      have htb : (R.tail : Int) ≤ 18446744073709551615 := by obtain ⟨rv', hR⟩ := HH.out; have := hR.t0; omega
      clear hrs0
      go_wp2_with (first | (go_at_call 80; refine HL.out.mono ?_; rintro e w' ⟨rfl, rfl⟩) | (refine wpList_addb rfl (.tmp 41) (.tmp 45) rfl w.heap.size 0 [] rfl (Row.new' _ _ _ _ rfl) ra R.rest rc rfl HRS.out (by simp; omega) ?_; intro g1 cap1 w1 hcap1 hrow1 hg1 ho1; have hd3 : w1.cell? ⟨r, 3, none⟩ = some (.int .u64 R.tail) := (World.cell?_of_block (ho1.block r (by simp; omega) (by show ¬ r = _; omega))).trans ((World.cell?_alloc_lt _ _ _ hrlt).trans hc3); have Hrow1 := hid hrow1; have Hg1 := hid hg1; have Ho1 := hid (((Only.refl (fun _ => False) w).alloc _).trans ho1 (fun k hk e => by omega)); clear hrow1 hg1 ho1 hcap1 hcA hc4 hc3 hc0))
      try go_frame
      go_loopw [57, 10, 13] (fun i v _ wr => ∃ (k g cap : Nat) (lk : List UInt8), i = .int .i64 k ∧ k ≤ ps.length ∧ lk = R.rest ++ (ps.take k).flatten ∧ v = .slice (some ⟨g, 0, none⟩) lk.length cap ∧ Row wr g 5 cap (bytesV lk) ∧ w.heap.size ≤ g ∧ Only (fun _ => False) w wr) (fun i _ _ _ => ps.length - (intOf i).toNat)
      case atStart => exact ⟨0, g1, cap1, R.rest, rfl, Nat.zero_le _, by simp, rfl, Hrow1.out, by rcases Hg1.out with h | h <;> (first | omega | (simp at h; omega)), Ho1.out⟩
      case round =>
        obtain ⟨k, g, cap, lk, rfl, hk, hlk, rfl, hrow, hg, ho⟩ := hrel
        have hlen : lk.length ≤ 524416 := by
          have h1 := take_flat_le ps k
          have h2 := HLL.out
          rw [hlk, List.length_append]; omega
        have Hlk := hid hlk; have Hrow := hid hrow; have Ho := hid ho
        clear hlk hrow ho
        by_cases hkl : k < ps.length
        · obtain ⟨gp, op, pa, pc, rfl, -, hcp, hsp, hnp, hlbp⟩ := HP.out k ps[k] (List.getElem?_eq_getElem hkl)
          have hgl := World.block_lt_of_cell? _ _ hcp
          have hcw : wr.cell? ⟨gp, op + k, none⟩ = some (.slice pa ps[k].length pc) := (World.cell?_of_block (Ho.out.block gp hgl (fun e => e))).trans hcp
          have HSP := hid (hsp.only Ho.out (fun _ _ _ _ _ e => e))
          have hsum : R.rest ++ (ps.take (k + 1)).flatten = lk ++ ps[k] := by rw [take_flat ps k hkl, Hlk.out, List.append_assoc]
          have hpl2 : ps[k].length ≤ 524288 := by
            have h1 := take_flat_le ps (k + 1)
            rw [take_flat ps k hkl, List.length_append] at h1
            have h2 := HLL.out
            omega
          obtain ⟨M, hM⟩ : ∃ M, M = ps[k] := ⟨_, rfl⟩
          rw [← hM] at hcw hpl2 hsum HSP
          have HSum := hid hsum
          clear hsum hM hlbp hcp hsp hnp hgl
          go_wp2_with (first | (refine wpList_addb rfl (.tmp 61) (.tmp 62) rfl g cap lk rfl Hrow.out pa M pc rfl HSP.out (by omega) ?_; intro g2 cap2 w2 hcap2 hrow2 hg2 ho2; have Hrow2 := hid hrow2; have Hg2 := hid hg2; have Ho2 := hid (Ho.out.trans ho2 (fun j hj e => by omega)); clear hrow2 hg2 ho2 hcap2))
          go_roundw
          case rel => exact ⟨k + 1, g2, cap2, lk ++ M, by go_num, by omega, HSum.out.symm, by rw [List.length_append], Hrow2.out, by have h1 := Ho.out.size; rcases Hg2.out with h | h <;> omega, Ho2.out⟩
          case measure => simp [intOf]; omega
        · obtain rfl : k = ps.length := by omega
          have hlk := Hlk.out
          rw [List.take_length] at hlk
          have hlkl : lk.length = R.rest.length + L := by rw [hlk, List.length_append, HLL.out]
          obtain ⟨at0, hat0⟩ : ∃ at0 : Nat, at0 = R.tail - R.rest.length := ⟨_, rfl⟩
          have hate : (R.tail : Int) - (R.rest.length : Int) = (at0 : Int) := by omega
          rw [hate]
          have hsum : at0 + lk.length ≤ 18446744073709551615 := by have := HTl.out; rw [← HLL.out] at this; omega
          have hgD : Hid (¬ FD g) := hid (fun e => by have := HD.out.lt e; omega)
          have HR3 := hid (HH.out.only Ho.out (fun _ _ e => e))
          have HI : Hid (AppInv w wr b R D FD lk at0 0 lk at0 D FD) := hid ⟨by simp, by omega, by omega, rfl, HD.out.only Ho.out (fun _ _ e => e), Ho.out.mono (fun _ _ e => e.elim), fun _ hk => .inl hk⟩
          have HNe : Hid (ps.flatten ≠ []) := hid (fun e => by have := HLL.out; rw [e] at this; simp at this; omega)
          have HFit : Hid (ps.flatten.length ≤ R.left head) := hid (by rw [← HLL.out]; exact hfit)
          have HRL : Hid (R.rest.length = R.tail % 128) := hid (by obtain ⟨rv', hR⟩ := HH.out; exact hR.len)
          have Hlkeq := hid hlk; have Hlkl := hid hlkl; have Hat0 := hid hat0
          have htl9 : (R.tail : Int) + (L : Int) ≤ 18446744073709551615 := by have := HTl.out; rw [← HLL.out] at this; omega
          clear hlk hlkl hat0 hate Hlk
          have hcap0 : lk.length ≤ cap := by have := Hrow.out.le; rw [length_bytesV] at this; exact this
          obtain ⟨w2, hw2⟩ : ∃ w2, w2 = wr := ⟨_, rfl⟩
          rw [← hw2] at HR3 Hrow Ho
          have Hw2 := hid hw2
          clear hw2
          go_wp2_with fail
          try go_frame
          go_loopw [10, 11, 14, 15, 16] (fun v at' _ _ _ wr => ∃ (j al : _) (a1 : Nat) (D1 : DiskM) (F1 : Nat → Prop) (o c1 : Nat), AppInv w wr b R D FD lk at0 j al a1 D1 F1 ∧ at' = .int .u64 a1 ∧ v = .slice (some ⟨g, o, none⟩) al.length c1 ∧ al.length ≤ c1 ∧ Src wr (.slice (some ⟨g, o, none⟩) al.length c1) al ∧ ¬ F1 g) (fun v _ _ _ _ _ => lenOfV v)
          case atStart => exact ⟨0, lk, at0, D, FD, 0, cap, HI.out, rfl, rfl, hcap0, by rw [← Hw2.out]; exact Hrow.out.src, hgD.out⟩
          case round =>
            obtain ⟨j, al, a1, D1, F1, o, c1, hinv, rfl, rfl, hlc, hsrc, hgF⟩ := hrel
            have HInv := hid hinv; have HSrc := hid hsrc; have HgF := hid hgF
            have halen : al.length = lk.length - j * 128 := by rw [hinv.eq, List.length_drop]
            have hjle := hinv.le
            have ha1 : a1 = at0 + j * 128 := hinv.pos
            have hrlt2 : r < wr.heap.size := Nat.lt_of_lt_of_le HH.out.lt hinv.only.size
            clear hinv hsrc hgF
            by_cases hal : al = []
            · have HDf := hid HInv.out.disk
              have Hof := hid HInv.out.only
              have HFf := hid HInv.out.inF
              have Hfin : Hid (R.append head ps.flatten D = ({ R with tail := R.tail + L, rest := al }, D1, 0)) := hid (by
                have h1 := HInv.out.run
                rw [hal, run_nil] at h1
                rw [append_eq HNe.out HFit.out Hlkeq.out Hat0.out h1, if_pos rfl, ← HLL.out]
                have h2 : lk.drop (lk.length / 128 * 128) = [] := by
                  have h3 : al.length = 0 := by rw [hal]; rfl
                  rw [List.drop_eq_nil_iff]; omega
                rw [h2, hal])
              have hlen9 : al.length = (R.tail + L) % 128 := by
                have h3 : al.length = 0 := by rw [hal]; rfl
                have h4 := HRL.out; have h5 := Hlkl.out
                omega
              have Hal := hid hal
              have hal0 : (al.length : Int) ≤ 0 := by rw [hal]; decide
              have Hlen9 := hid hlen9
              obtain ⟨rv9, hR9⟩ := HH.out.only Hof.out HDis.out
              have HBlk := hid hR9.blk
              have hrcell : wr.cell? ⟨r, 3, none⟩ = some (.int .u64 R.tail) := cell_blk HBlk.out 3
              have hrfr : wr.frozen? ⟨r, 3, none⟩ = false := frozen_blk HBlk.out 3
              have HRow0 : Hid (Row ((wr.setCell ⟨r, 3, none⟩ (.int .u64 (R.tail + L))).alloc (.cells #[] 5)) wr.heap.size 5 0 (bytesV [])) := hid (by have := Row.new' (wr.setCell ⟨r, 3, none⟩ (.int .u64 (R.tail + L))) [] 5 0 rfl; rw [World.size_setCell] at this; exact this)
              have HSf : Hid (Src ((wr.setCell ⟨r, 3, none⟩ (.int .u64 (R.tail + L))).alloc (.cells #[] 5)) (.slice (some ⟨g, o, none⟩) al.length c1) al) := hid ⟨_, _, rfl, fun e => absurd Hal.out e⟩
              clear halen hjle ha1 hlen9 hal hR9
              go_wp2_with (first | (refine wpList_addb rfl (.tmp 103) (.tmp 104) rfl wr.heap.size 0 [] rfl HRow0.out (some ⟨g, o, none⟩) al c1 rfl HSf.out (by simp; omega) ?_; intro g6 cap6 w6 hcap6 hrow6 hg6 ho6; have Hrow6 := hid hrow6; have Hg6 := hid hg6; have Ho6 := hid (((Only.refl (fun _ => False) (wr.setCell ⟨r, 3, none⟩ (.int .u64 (R.tail + L)))).alloc _).trans ho6 (fun k hk e => by rw [World.size_setCell] at hk; omega)); have hblk6 := blk_only (blk_set HBlk.out 3 (.int .u64 (R.tail + L))) Ho6.out (fun e => e); have hf4 := frozen_blk hblk6 4; have hf5 : w6.cell? ⟨r, 4, none⟩ = some rv9 := cell_blk hblk6 4; clear hrow6 hg6 ho6 hcap6 hblk6))
              go_ret
              exact appFin HH.out HDis.out Hof.out HDf.out HFf.out Hfin.out Hlen9.out (by omega) Ho6.out Hrow6.out (by rcases Hg6.out with h | h <;> (first | omega | (simp at h; omega)))
            · have halp : 0 < al.length := List.length_pos_iff.2 hal
              have Hal := hid hal; have Halen := hid halen; have Hjle := hid hjle; have Ha1 := hid ha1
              have ha1b : a1 ≤ 18446744073709551615 := by omega
              have hall : al.length ≤ 524416 := by omega
              clear hal halen hjle ha1
              have hmk := make128
              obtain ⟨m, hm⟩ : ∃ m, m = min al.length 128 := ⟨_, rfl⟩
              have hml : (bytesV (al.take 128)).length = m := by rw [length_bytesV, List.length_take, hm]; omega
              have Hml := hid hml; have Hm := hid hm
              have hm128 : (m : Int) ≤ 128 := by omega
              have hml2 : (m : Int) ≤ (al.length : Int) := by omega
              clear hml hm
              obtain ⟨q, hq⟩ : ∃ q, D1.write (R.sector a1) (sectorL al) = q := ⟨_, rfl⟩
              have Hq := hid hq
              clear hq
              go_wp2_with (first | (refine wpList_cpy rfl (.tmp 69) (.tmp 70) 31 31 rfl 5 Tryz.underlying31 (by kernel_rfl) wr.heap.size 0 128 128 rfl 128 (bytesV (zeros 128)) (Row.new' _ _ _ _ (by simp)) (some ⟨g, o, none⟩) al.length c1 rfl (bytesV (al.take 128)) (by simp; omega) ?c1 (by simp; omega) (oneCell_bytesV _) ?_; rotate_right 1; intro w3 hrow3 ho3 hs3; rw [Hml.out]; have Hrow3 := hid hrow3; have Ho3 := hid (((Only.refl (fun _ => False) wr).alloc _).trans ho3 (fun k hk e => by omega)); clear hrow3 ho3 hs3))
              · have HD3 := hid (HInv.out.disk.only Ho3.out (fun _ _ e => e))
                have hr3 := HH.out.only (HInv.out.only.trans Ho3.out (fun _ _ e => e.elim)) HDis.out
                have HR3d := hid (hr3.only (Only.refl (fun _ => False) w3).drew (fun _ _ e => e))
                obtain ⟨rv3, ra3, rc3, -, hcc3, -⟩ := hr3.cells
                have hd0 := hcc3 0
                have hrw3 : r < w3.heap.size := hr3.lt
                have hrF : Hid (¬ F1 r) := hid (fun e => by
                  have hF : F r := by obtain ⟨rv, h⟩ := HH.out; exact h.own
                  rcases HInv.out.inF r e with h | h
                  · exact HDis.out r hF h
                  · have := HH.out.lt; omega)
                have HSec : Hid (Src w3.drew (.slice (some ⟨wr.heap.size, 0, none⟩) 128 128) (sectorL al)) := hid (by
                  have hl : lay (bytesV (zeros 128)) 0 (bytesV (al.take 128)) = bytesV (sectorL al) := by
                    rw [lay_zeros]
                    have : 128 - (al.take 128).length = 128 - al.length := by simp; omega
                    rw [this]; rfl
                  have := Hrow3.out.drew.src' (l := sectorL al) hl
                  rw [length_sectorL] at this; exact this)
                have hgn : Hid (¬ F1 wr.heap.size) := hid (fun e => Nat.lt_irrefl _ (HInv.out.disk.lt e))
                have HWw : ∀ w4, Only (fun _ => False) w3.drew w4 → Hid (Calls Tryz.prog 81 #[.pointer (some ⟨b, 0, none⟩), .int .i64 (R.sector a1), .slice (some ⟨wr.heap.size, 0, none⟩) 128 128] w4 fun e w' => e = .returned (.int .i64 q.2) ∧ DStep w4 w' b q.1 F1) := fun w4 ho4 => by
                  have := write_c ((HD3.out.only (Only.refl (fun _ => False) w3).drew (fun _ _ e => e)).only ho4 (fun _ _ e => e)) (R.sector a1 : Nat) (.slice (some ⟨wr.heap.size, 0, none⟩) 128 128) (sectorL al) (HSec.out.only ho4 (fun _ _ _ _ _ e => e)) (fun g' o' c' e => by simp only [Value.slice.injEq, Option.some.injEq, Addr.mk.injEq] at e; rw [← e.1.1]; exact hgn.out) (by simp)
                  rw [Hq.out] at this; exact this
                clear hcc3 hr3
                by_cases hc : q.2 = 0
                · have hc0 : (q.2 == 0) = true := by simp [hc]
                  go_region_held3 (fun W' => W'.cell? ⟨r, 0, none⟩ = some (.pointer (some ⟨b, 0, none⟩)))
                    (first | exact (World.cell?_of_block (Ho4.out.block r hrw3 (fun e => e))).trans hd0 | exact (World.cell?_of_block (Ho5.out.block r (Nat.lt_of_lt_of_le hrw3 Ho4.out.size) hrF.out)).trans ((World.cell?_of_block (Ho4.out.block r hrw3 (fun e => e))).trans hd0) | go_keep)
                    (first
                      | (go_at_call 45; refine (ringsector_c HR3d.out a1 ha1b).mono ?_; rintro e w4 ⟨rfl, -, ho4⟩; have HWr := HWw w4 ho4; have Ho4 := hid ho4; clear ho4)
                      | (go_at_call 81; refine HWr.out.mono ?_; rintro e w5 ⟨rfl, F5, hD5, ho5, hF5⟩; have HD5 := hid hD5; have Ho5 := hid ho5; have HF5 := hid hF5; clear hD5 ho5 hF5; rw [hc]))
                  all_goals
                    have hstep := appStep HInv.out.only HInv.out.inF (Ho3.out.drew.trans Ho4.out (fun _ _ e => e)) Ho5.out HF5.out
                    have Hof := hid hstep.1
                    have HFf := hid hstep.2
                    have HDf := HD5
                    have HSrc5 : Hid (Src w5 (.slice (some ⟨g, o, none⟩) al.length c1) al) := hid ((HSrc.out.only (Ho3.out.drew.trans Ho4.out (fun _ _ e => e)) (fun _ _ _ _ _ e => e)).only Ho5.out (fun _ g' o' c' e => by simp only [Value.slice.injEq, Option.some.injEq, Addr.mk.injEq] at e; rw [← e.1.1]; exact HgF.out))
                    have hgr9 : Hid (¬ g = r) := hid (fun e => by have := HH.out.lt; omega)
                    have hjlt : Hid (0 < lk.length - j) := hid (by have h1 := Halen.out; omega)
                    have hrlt5 : r < w5.heap.size := Nat.lt_of_lt_of_le hrw3 (Nat.le_trans Ho4.out.size Ho5.out.size)
                    clear hstep
                    by_cases hm1 : al.length < 128
                    · have hmlt : (m : Int) < 128 := by have := Hm.out; omega
                      have Hfin : Hid (R.append head ps.flatten D = ({ R with tail := R.tail + L, rest := al }, q.1, 0)) := hid (by
                        have h1 := HInv.out.run
                        rw [run_last _ _ _ _ _ hjlt.out Hal.out (by rw [Hq.out]; exact hc) hm1, Hq.out] at h1
                        rw [append_eq HNe.out HFit.out Hlkeq.out Hat0.out h1, if_pos rfl, ← HLL.out]
                        have h2 : lk.drop (lk.length / 128 * 128) = al := by
                          rw [HInv.out.eq]
                          have h3 := Halen.out
                          have h4 := Hjle.out
                          congr 1; omega
                        rw [h2])
                      have hlen9 : al.length = (R.tail + L) % 128 := by
                        have h3 := Halen.out; have h4 := HRL.out; have h5 := Hlkl.out; have h6 := Hjle.out
                        omega
                      have Hlen9 := hid hlen9
                      obtain ⟨rv9, hR9⟩ := HH.out.only Hof.out HDis.out
                      have HBlk := hid hR9.blk
                      have hrcell : w5.cell? ⟨r, 3, none⟩ = some (.int .u64 R.tail) := cell_blk HBlk.out 3
                      have hrfr : w5.frozen? ⟨r, 3, none⟩ = false := frozen_blk HBlk.out 3
                      have HRow0 : Hid (Row ((w5.setCell ⟨r, 3, none⟩ (.int .u64 (R.tail + L))).alloc (.cells #[] 5)) w5.heap.size 5 0 (bytesV [])) := hid (by have := Row.new' (w5.setCell ⟨r, 3, none⟩ (.int .u64 (R.tail + L))) [] 5 0 rfl; rw [World.size_setCell] at this; exact this)
                      have HSf : Hid (Src ((w5.setCell ⟨r, 3, none⟩ (.int .u64 (R.tail + L))).alloc (.cells #[] 5)) (.slice (some ⟨g, o, none⟩) al.length c1) al) := hid (HSrc5.out.only (((only_set r 3 _).alloc _).mono (G := fun k => k = r) (fun _ _ e => e)) (fun _ g' o' c' e => by simp only [Value.slice.injEq, Option.some.injEq, Addr.mk.injEq] at e; rw [← e.1.1]; exact hgr9.out))
                      clear hlen9 hR9
                      go_wp2_with (first | (refine wpList_addb rfl (.tmp 103) (.tmp 104) rfl w5.heap.size 0 [] rfl HRow0.out (some ⟨g, o, none⟩) al c1 rfl HSf.out (by simp; omega) ?_; intro g6 cap6 w6 hcap6 hrow6 hg6 ho6; have Hrow6 := hid hrow6; have Hg6 := hid hg6; have Ho6 := hid (((Only.refl (fun _ => False) (w5.setCell ⟨r, 3, none⟩ (.int .u64 (R.tail + L)))).alloc _).trans ho6 (fun k hk e => by rw [World.size_setCell] at hk; omega)); have hblk6 := blk_only (blk_set HBlk.out 3 (.int .u64 (R.tail + L))) Ho6.out (fun e => e); have hf4 := frozen_blk hblk6 4; have hf5 : w6.cell? ⟨r, 4, none⟩ = some rv9 := cell_blk hblk6 4; clear hrow6 hg6 ho6 hcap6 hblk6))
                      go_ret
                      exact appFin HH.out HDis.out Hof.out HDf.out HFf.out Hfin.out Hlen9.out (by omega) Ho6.out Hrow6.out (by rcases Hg6.out with h | h <;> (first | omega | (simp at h; omega)))
                    · have hmeq : m = 128 := by have := Hm.out; omega
                      subst hmeq
                      have hge : (128 : Int) ≤ (al.length : Int) := by omega
                      have hlc' : (al.length : Int) ≤ (c1 : Int) := by omega
                      have hat9 : (a1 : Int) + 128 ≤ 18446744073709551615 := by have h3 := Halen.out; have h6 := Hjle.out; have h7 := Ha1.out; omega
                      go_wp2_with fail
                      go_roundw
                      case rel =>
                        have hg5 : ¬ F5 g := fun e => by
                          rcases HF5.out g e with h | h
                          · exact HgF.out h
                          · have h1 := HSrc.out.lt rfl Hal.out
                            have h2 := Ho3.out.size; have h3 := Ho4.out.size
                            have h4 : w3.drew.heap.size = w3.heap.size := rfl
                            omega
                        refine ⟨j + 1, al.drop 128, a1 + 128, q.1, F5, if c1 = 128 then o else o + 128, c1 - 128, ⟨?_, ?_, ?_, ?_, HD5.out, Hof.out, HFf.out⟩, by go_num, ?_, ?_, ?_, hg5⟩
                        · rw [HInv.out.eq, List.drop_drop]; congr 1; omega
                        · have := Halen.out; omega
                        · have := Ha1.out; omega
                        · rw [HInv.out.run, run_next _ _ _ _ _ hjlt.out Hal.out (by rw [Hq.out]; exact hc) hm1, Hq.out, Nat.sub_sub]
                        · rw [List.length_drop]; split <;> rfl
                        · rw [List.length_drop]; omega
                        · refine ⟨_, _, rfl, fun hne => ?_⟩
                          have hlen : 128 < al.length := by
                            rcases Nat.lt_or_ge 128 al.length with h | h
                            · exact h
                            · exact absurd (List.drop_eq_nil_iff.2 h) hne
                          obtain ⟨ad, e, hcell⟩ := HSrc5.out.adds (by omega)
                          cases e
                          rw [if_neg (by omega)]
                          refine ⟨g, o + 128, rfl, fun i u hu => ?_⟩
                          have h1 := hcell (128 + i) u (by rw [bytesV_get] at hu ⊢; rw [List.getElem?_drop] at hu; exact hu)
                          rw [addr_add] at h1
                          rw [Nat.add_assoc]; exact h1
                      case measure => simp [lenOfV]; omega
                · have hc0 : (q.2 == 0) = false := by simp [hc]
                  go_region_held3 (fun W' => W'.cell? ⟨r, 0, none⟩ = some (.pointer (some ⟨b, 0, none⟩)))
                    (first | exact (World.cell?_of_block (Ho4.out.block r hrw3 (fun e => e))).trans hd0 | exact (World.cell?_of_block (Ho5.out.block r (Nat.lt_of_lt_of_le hrw3 Ho4.out.size) hrF.out)).trans ((World.cell?_of_block (Ho4.out.block r hrw3 (fun e => e))).trans hd0) | go_keep)
                    (first
                      | (go_at_call 45; refine (ringsector_c HR3d.out a1 ha1b).mono ?_; rintro e w4 ⟨rfl, -, ho4⟩; have HWr := HWw w4 ho4; have Ho4 := hid ho4; clear ho4)
                      | (go_at_call 81; refine HWr.out.mono ?_; rintro e w5 ⟨rfl, F5, hD5, ho5, hF5⟩; have HD5 := hid hD5; have Ho5 := hid ho5; have HF5 := hid hF5; clear hD5 ho5 hF5))
                  all_goals
                    have hstep := appStep HInv.out.only HInv.out.inF (Ho3.out.drew.trans Ho4.out (fun _ _ e => e)) Ho5.out HF5.out
                    have Hof := hid hstep.1
                    have HFf := hid hstep.2
                    clear hstep
                    go_wp2_with fail
                    go_ret
                    have h1 := HInv.out.run
                    rw [run_bad _ _ _ _ _ (by have := Halen.out; omega) Hal.out (by rw [Hq.out]; exact hc), Hq.out] at h1
                    have h2 := append_eq HNe.out HFit.out Hlkeq.out Hat0.out h1
                    rw [if_neg hc] at h2
                    rw [h2]
                    refine ⟨rfl, F, F5, HH.out.only Hof.out HDis.out, HD5.out, fun k hk h5 => ?_, Hof.out.mono (fun _ _ e => .inr e), fun _ hk => .inl hk, HFf.out⟩
                    rcases HFf.out k h5 with h | h
                    · exact HDis.out k hk h
                    · obtain ⟨rv', hR⟩ := HH.out
                      have := hR.lt k hk; omega
              · intro hpos
                obtain ⟨ad, e, hcell⟩ := HSrc.out.adds halp
                refine ⟨ad, e, fun j u hj => ?_⟩
                have hj' : (bytesV al)[j]? = some u := by
                  rw [bytesV_get] at hj ⊢
                  by_cases hjm : j < 128
                  · rw [List.getElem?_take_of_lt hjm] at hj; exact hj
                  · rw [List.getElem?_eq_none (by simp; omega)] at hj; cases hj
                have h1 := hcell j u hj'
                rw [World.cell?_alloc_lt]
                · exact h1
                · exact World.block_lt_of_cell? _ _ h1
end
end Go.Proofs.YtfmdngeooelcpaaGreat
namespace Go.Proofs.YtfmdngeooelcpaaGreat
open Go.RowKit

def Holds (D : DiskM) (R : RingM) (text : List UInt8) (lo hi : Nat) : Prop := ∀ i, lo ≤ i → i < hi → ∀ k, k < 128 → i * 128 + k < text.length → (D.cur (R.first + i % R.count))[k]? = text[i * 128 + k]?

def ups (n : Nat) : Nat := (n + 127) / 128

/-- A ring over a disk with power: the text of all bytes that ever were. -/
structure RS (D : DiskM) (R : RingM) (text : List UInt8) : Prop where
  up : D.down = false
  fuse : D.fuse < 0
  fits : R.first + R.count ≤ D.n
  c0 : 0 < R.count
  tail : R.tail = text.length
  rest : R.rest = text.drop (text.length / 128 * 128)
  holds : Holds D R text (ups text.length - R.count) (ups text.length)

theorem write_up (D : DiskM) (h1 : D.down = false) (h2 : D.fuse < 0) (s : Nat) (l : List UInt8) (hs : s < D.n) (hl : l.length = 128) : ∃ D', D.write s l = (D', 0) ∧ D'.down = false ∧ D'.fuse < 0 ∧ D'.n = D.n ∧ ∀ k, D'.cur k = if k = s then l else D.cur k := by
  have hb : D.burns = true := by unfold DiskM.burns; simp; omega
  have hbu : D.burn = D := by unfold DiskM.burn; rw [if_pos h2]
  have e2 : D.write s l = ({ D.burn.put s l with nw := wrap64 (D.nw + 1) }, 0) := by simp [DiskM.write, h1, hl, hb]; omega
  refine ⟨_, e2, ?_, ?_, ?_, ?_⟩
  · rw [hbu]; exact h1
  · rw [hbu]; exact h2
  · rw [hbu]; rfl
  · intro k
    rw [hbu]
    simp only [DiskM.cur, DiskM.put]
    split <;> rfl

theorem run_holds (R : RingM) (text : List UInt8) (hc : 0 < R.count) : ∀ (f i : Nat) (D : DiskM), (text.drop (i * 128)).length ≤ f → i ≤ ups text.length → D.down = false → D.fuse < 0 → R.first + R.count ≤ D.n → Holds D R text (ups text.length - R.count) i →
    ∃ D', ringRun R f (i * 128) (text.drop (i * 128)) D = (D', 0) ∧ D'.down = false ∧ D'.fuse < 0 ∧ D'.n = D.n ∧ Holds D' R text (ups text.length - R.count) (ups text.length) := by
  intro f
  induction f with
  | zero =>
    intro i D hf hi h1 h2 h3 hh
    have hlen : text.length ≤ i * 128 := by rw [List.length_drop] at hf; omega
    have hi' : i = ups text.length := by unfold ups at *; omega
    subst hi'
    exact ⟨D, rfl, h1, h2, rfl, hh⟩
  | succ f ih =>
    intro i D hf hi h1 h2 h3 hh
    rw [List.length_drop] at hf
    by_cases he : text.drop (i * 128) = []
    · rw [he, run_nil]
      have hlen : text.length ≤ i * 128 := List.drop_eq_nil_iff.1 he
      have hi' : i = ups text.length := by unfold ups at *; omega
      subst hi'
      exact ⟨D, rfl, h1, h2, rfl, hh⟩
    · have hlen : i * 128 < text.length := by
        rcases Nat.lt_or_ge (i * 128) text.length with h | h
        · exact h
        · exact absurd (List.drop_eq_nil_iff.2 h) he
      have hiH : i < ups text.length := by unfold ups; omega
      have hmod := Nat.mod_lt i hc
      have hsec : R.sector (i * 128) = R.first + i % R.count := by unfold RingM.sector; rw [Nat.mul_div_cancel _ (by decide)]
      obtain ⟨D', hw, g1, g2, g3, g4⟩ := write_up D h1 h2 (R.sector (i * 128)) (sectorL (text.drop (i * 128))) (by rw [hsec]; omega) (length_sectorL _)
      have hH : Holds D' R text (ups text.length - R.count) (i + 1) := by
        intro j hlo hj k hk hjk
        rw [g4]
        by_cases hji : j = i
        · subst hji
          rw [hsec, if_pos rfl]
          have hk2 : k < (text.drop (j * 128)).length := by rw [List.length_drop]; omega
          unfold sectorL
          rw [List.getElem?_append_left (by rw [List.length_take]; omega), List.getElem?_take_of_lt hk, List.getElem?_drop]
        · have hne : ¬ R.first + j % R.count = R.sector (i * 128) := by
            rw [hsec]
            intro e
            have e' : i % R.count = j % R.count := by omega
            have h0 := Nat.sub_mod_eq_zero_of_mod_eq e'
            rw [Nat.mod_eq_of_lt (by omega)] at h0
            omega
          rw [if_neg hne]
          exact hh j hlo (by omega) k hk hjk
      by_cases hl : (text.drop (i * 128)).length < 128
      · rw [run_last _ _ _ _ _ (Nat.succ_pos f) he (by rw [hw]) hl, hw]
        have hi' : i + 1 = ups text.length := by rw [List.length_drop] at hl; unfold ups; omega
        rw [hi'] at hH
        exact ⟨D', rfl, g1, g2, g3, hH⟩
      · rw [run_next _ _ _ _ _ (Nat.succ_pos f) he (by rw [hw]) hl, hw, List.drop_drop]
        have e1 : i * 128 + 128 = (i + 1) * 128 := by omega
        rw [e1, Nat.succ_sub_one]
        obtain ⟨D2, r1, r2, r3, r4, r5⟩ := ih (i + 1) D' (by rw [List.length_drop]; omega) (by omega) g1 g2 (by omega) hH
        exact ⟨D2, r1, r2, r3, by omega, r5⟩

theorem RS.append {D : DiskM} {R : RingM} {text : List UInt8} (h : RS D R text) (head : Nat) (s : List UInt8) (hl : s.length ≤ R.left head) :
    ∃ R' D', R.append head s D = (R', D', 0) ∧ RS D' R' (text ++ s) ∧ R'.first = R.first ∧ R'.count = R.count ∧ D'.n = D.n := by
  by_cases he : s = []
  · subst he
    refine ⟨R, D, ?_, by rw [List.append_nil]; exact h, rfl, rfl, rfl⟩
    unfold RingM.append
    rw [if_neg (by omega), if_pos rfl]
  · have hr := h.rest
    have hrl : R.rest.length = text.length % 128 := by rw [hr, List.length_drop]; omega
    have hat : R.tail - R.rest.length = text.length / 128 * 128 := by rw [h.tail, hrl]; omega
    have hall : R.rest ++ s = (text ++ s).drop (text.length / 128 * 128) := by
      rw [List.drop_append_of_le_length (by omega), hr]
    have hholds : Holds D R (text ++ s) (ups (text ++ s).length - R.count) (text.length / 128) := by
      intro i hlo hi k hk hik
      have h1 : i * 128 + k < text.length := by omega
      rw [List.getElem?_append_left h1]
      refine h.holds i ?_ ?_ k hk h1
      · rw [List.length_append] at hlo; unfold ups at *; omega
      · unfold ups; omega
    obtain ⟨D', r1, r2, r3, r4, r5⟩ := run_holds R (text ++ s) h.c0 ((text ++ s).drop (text.length / 128 * 128)).length (text.length / 128) D (Nat.le_refl _) (by rw [List.length_append]; unfold ups; omega) h.up h.fuse h.fits hholds
    refine ⟨{ R with tail := R.tail + s.length, rest := ((text ++ s).drop (text.length / 128 * 128)).drop (((text ++ s).drop (text.length / 128 * 128)).length / 128 * 128) }, D', ?_, ⟨r2, r3, by rw [r4]; exact h.fits, h.c0, ?_, ?_, r5⟩, rfl, rfl, r4⟩
    · rw [append_eq he hl hall.symm hat.symm r1, if_pos rfl]
    · rw [List.length_append, ← h.tail]
    · show ((text ++ s).drop (text.length / 128 * 128)).drop _ = _
      rw [List.drop_drop]
      congr 1
      rw [List.length_drop, List.length_append]; omega

/-- Reading some bytes of one sector. -/
theorem RS.piece {D : DiskM} {R : RingM} {text : List UInt8} (h : RS D R text) (at' n : Nat) (han : at' + n ≤ text.length) (hlo : ups text.length * 128 - at' ≤ R.count * 128) (hcl : (D.cur (R.sector at')).length = 128) :
    ((D.cur (R.sector at')).drop (at' % 128)).take n = (text.drop at').take (min n (128 - at' % 128)) := by
  apply List.ext_getElem?
  intro i
  by_cases hi : i < n
  · by_cases hi2 : i < 128 - at' % 128
    · rw [List.getElem?_take_of_lt hi, List.getElem?_take_of_lt (by omega), List.getElem?_drop, List.getElem?_drop]
      have e : at' + i = at' / 128 * 128 + (at' % 128 + i) := by omega
      have h1 := h.holds (at' / 128) (by unfold ups at *; omega) (by unfold ups; omega) (at' % 128 + i) (by omega) (by omega)
      rw [e, ← h1]
      rfl
    · rw [List.getElem?_eq_none (by rw [List.length_take, List.length_drop]; omega), List.getElem?_eq_none (by rw [List.length_take]; omega)]
  · rw [List.getElem?_eq_none (by rw [List.length_take]; omega), List.getElem?_eq_none (by rw [List.length_take]; omega)]

theorem RS.opened {D : DiskM} {R : RingM} {text : List UInt8} (h : RS D R text) : RS D (RingM.opened D R.first R.count text.length) text := by
  refine ⟨h.up, h.fuse, h.fits, h.c0, rfl, ?_, h.holds⟩
  show (D.cur (R.first + text.length / 128 % R.count)).take (text.length % 128) = _
  apply List.ext_getElem?
  intro i
  by_cases hi : i < text.length % 128
  · rw [List.getElem?_take_of_lt hi, List.getElem?_drop]
    exact h.holds (text.length / 128) (by have := h.c0; unfold ups; omega) (by unfold ups; omega) i (by omega) (by omega)
  · rw [List.getElem?_eq_none (by rw [List.length_take]; omega), List.getElem?_eq_none (by rw [List.length_drop]; omega)]

theorem RS.cur {D D' : DiskM} {R : RingM} {text : List UInt8} (h : RS D R text) (h1 : D'.down = false) (h2 : D'.fuse < 0) (h3 : D'.n = D.n) (h4 : ∀ k, D'.cur k = D.cur k) : RS D' R text := by
  refine ⟨h1, h2, by rw [h3]; exact h.fits, h.c0, h.tail, h.rest, fun i hlo hi k hk hik => ?_⟩
  rw [h4]; exact h.holds i hlo hi k hk hik
end Go.Proofs.YtfmdngeooelcpaaGreat
namespace Go.Proofs.YtfmdngeooelcpaaGreat
open Go.RowKit

section
variable {w : World} {r b : Nat} {D : DiskM} {R : RingM} {F FD : Nat → Prop} {text : List UInt8}

set_option maxRecDepth 100000 in
set_option maxHeartbeats 1600000 in
theorem rread_ok (h : RingAt w r b R F) (hD : DiskAt w b D FD) (hS : RS D R text) (at0 n0 : Nat) (hat : at0 + n0 ≤ text.length) (htl : R.tail ≤ 4611686018427387904) (hok : ups text.length * 128 - at0 ≤ R.size) :
    Calls Tryz.prog 47 #[.pointer (some ⟨r, 0, none⟩), .int .u64 at0, .int .i64 n0] w fun e w' => ∃ bo cap, e = .returned (.tuple #[.slice bo n0 cap, .int .i64 0]) ∧ BOut w' bo cap ((text.drop at0).take n0) w.heap.size ∧ Only (fun _ => False) w w' := by
  obtain ⟨rv, a, c, -, hc, hz⟩ := h.cells
  have hc0 := hc 0
  have hc3 := hc 3
  have HS := hid (size_c h)
  have htail := hS.tail
  have hsz : (R.size : Int) ≤ 524288 := by obtain ⟨rv', hR⟩ := h; have := hR.c0; unfold RingM.size; omega
  have hrlt : r < w.heap.size := h.lt
  have HH := hid h; have HD := hid hD; have HRS := hid hS; have HAt := hid hat; have HOk := hid hok
  clear h hc hz hD hS
  have h1 : ¬ (n0 : Int) < 0 := by omega
  have h2 : ¬ (R.tail : Int) < (at0 : Int) := by omega
  have h3 : ¬ (R.tail : Int) - (at0 : Int) < (n0 : Int) := by omega
  have htl' : (R.tail : Int) ≤ 4611686018427387904 := by omega
  have h4 : ¬ (R.size : Int) < ((R.tail : Int) + 128 - 1) / 128 * 128 - (at0 : Int) := by unfold ups at hok; omega
  have h5 : ((R.tail : Int) + 128 - 1) / 128 * 128 ≤ 4611686018427388031 := by omega
  have h6 : (at0 : Int) ≤ ((R.tail : Int) + 128 - 1) / 128 * 128 := by omega
  have hn0 : n0 ≤ 524288 := by unfold ups at hok; omega
  have hatb : (at0 : Int) + (n0 : Int) ≤ 4611686018427387904 := by omega
  clear hok hat htail
  go_enter Tryz.func47, Tryz.ntmps47
  go_wp2_with (go_at_call 75; refine HS.out.mono ?_; rintro e w' ⟨rfl, rfl⟩)
  try go_frame
  go_loopw [1, 2, 9, 10, 11] (fun at' n v _ _ wr => ∃ (a1 k rem : Nat) (l : List UInt8) (bo : Option Addr) (cap : Nat), at' = .int .u64 a1 ∧ n = .int .i64 rem ∧ a1 = at0 + k ∧ k + rem = n0 ∧ l = (text.drop at0).take k ∧ v = .slice bo l.length cap ∧ BOut wr bo cap l w.heap.size ∧ Only (fun _ => False) w wr) (fun _ n _ _ _ _ => (intOf n).toNat)
  case atStart => exact ⟨at0, 0, n0, [], none, 0, rfl, rfl, rfl, by omega, rfl, rfl, .inl ⟨rfl, rfl, rfl⟩, Only.refl _ _⟩
  case round =>
    obtain ⟨a1, k, rem, l, bo, cap, rfl, rfl, ha1, hkr, hl, rfl, hout, ho⟩ := hrel
    have HOut := hid hout; have Ho := hid ho; have Hl := hid hl
    have hll : l.length = k := by rw [hl, List.length_take, List.length_drop]; have := HAt.out; omega
    have Hll := hid hll
    have Ha1 := hid ha1; have Hkr := hid hkr
    have ha1b : a1 ≤ 4611686018427387904 := by omega
    have ha1r : (a1 : Int) + (rem : Int) ≤ 4611686018427387904 := by omega
    have hremb : rem ≤ 524288 := by omega
    clear hout ho hl hll ha1 hkr
    by_cases hr0 : rem = 0
    · have hr0' : (rem : Int) ≤ 0 := by omega
      go_wp2_with fail
      go_ret2
      have hk : k = n0 := by have := Hkr.out; omega
      have hll := Hll.out
      have hl := Hl.out
      rw [hk] at hll hl
      refine ⟨bo, cap, by rw [hll]; rfl, ?_, Ho.out⟩
      rw [← hl]; exact HOut.out
    · have hrp : (0 : Int) < (rem : Int) := by omega
      have hrw : r < wr.heap.size := Nat.lt_of_lt_of_le hrlt Ho.out.size
      have hd0 : wr.cell? ⟨r, 0, none⟩ = some (.pointer (some ⟨b, 0, none⟩)) := (World.cell?_of_block (Ho.out.block r hrlt (fun e => e))).trans hc0
      have HRd := hid (HH.out.only Ho.out.drew (fun _ _ e => e))
      have HDd := hid (HD.out.only Ho.out.drew (fun _ _ e => e))
      have hsec : R.sector a1 < D.n := by
        have h1 := HRS.out.fits; have h2 := HRS.out.c0
        have := Nat.mod_lt (a1 / 128) h2
        unfold RingM.sector; omega
      have HSec := hid hsec
      clear hsec
      go_wp2_with fail
      go_region_held3 (fun W' => W'.cell? ⟨r, 0, none⟩ = some (.pointer (some ⟨b, 0, none⟩)))
        (first | exact (World.cell?_of_block (Ho4.out.block r hrw (fun e => e))).trans hd0 | exact (World.cell?_of_block (Ho5.out.block r (Nat.lt_of_lt_of_le hrw Ho4.out.size) (fun e => e))).trans ((World.cell?_of_block (Ho4.out.block r hrw (fun e => e))).trans hd0) | go_keep)
        (first
          | (go_at_call 45; refine (ringsector_c HRd.out a1 (by omega)).mono ?_; rintro e w4 ⟨rfl, -, ho4⟩; have HRe := hid (read_ok (HDd.out.only ho4 (fun _ _ e => e)) HRS.out.up (R.sector a1 : Nat) (by omega) (by have := HSec.out; omega)); have Ho4 := hid ho4; clear ho4)
          | (go_at_call 44; refine HRe.out.mono ?_; rintro e w5 ⟨g, c5, rfl, hm, ho5⟩; unfold secV; have Hm := hid hm; have Ho5 := hid ho5; clear hm ho5))
      all_goals
        have hcl : (D.cur (R.sector a1)).length = 128 := HD.out.cur_len HSec.out
        have hrow := Hm.out.row
        rw [Int.toNat_natCast] at hrow
        have hc5 : 128 ≤ c5 := by have := hrow.le; rw [length_bytesV, hcl] at this; exact this
        have hc5' : (128 : Int) ≤ (c5 : Int) := by omega
        have hp1 : (a1 : Int) % 128 ≤ 128 := by omega
        have hp2 : 0 ≤ (a1 : Int) % 128 := by omega
        have HRow := hid hrow; have Hcl := hid hcl
        have HoAll := hid ((Ho.out.drew.trans Ho4.out (fun _ _ e => e)).trans Ho5.out (fun _ _ e => e))
        have HOut5 : Hid (BOut w5 bo cap l w.heap.size) := hid ((((HOut.out.only (Only.refl (fun _ => False) wr).drew (fun _ _ _ e => e))).only Ho4.out (fun _ _ _ e => e)).only Ho5.out (fun _ _ _ e => e))
        have hlo5 : w.heap.size ≤ w5.heap.size := HoAll.out.size
        clear hrow hcl hc5
        by_cases hmin : rem ≤ 128 - a1 % 128
        · have hmin1 : (rem : Int) ≤ 128 - (a1 : Int) % 128 := by omega
          have hxm : ((D.cur (R.sector a1)).drop (a1 % 128)).take (rem) = (text.drop a1).take (rem) := by
            have hpc := HRS.out.piece a1 (rem) (by have h1 := HAt.out; have h2 := Ha1.out; have h3 := Hkr.out; omega) (by have h1 := HOk.out; have h2 := Ha1.out; unfold RingM.size at h1; omega) Hcl.out
            rw [hpc]; congr 1; omega
          have hxl : ((text.drop a1).take (rem)).length = rem := by rw [List.length_take, List.length_drop]; have h1 := HAt.out; have h2 := Ha1.out; have h3 := Hkr.out; omega
          have HSrc : ∀ c', Src w5 (.slice (some ⟨g, a1 % 128, none⟩) (rem) c') ((text.drop a1).take (rem)) := fun c' => HRow.out.piece _ _ _ _ hxl hxm.symm
          have HSr := hid HSrc; have Hxl := hid hxl
          clear HSrc hxl hxm
          go_wp2_with (refine wpList_addon rfl (.tmp 74) (.tmp 75) rfl bo cap w.heap.size l rfl HOut5.out hlo5 _ ((text.drop a1).take (rem)) (rem) _ Hxl.out rfl (HSr.out _) (by have := Hll.out; have := Hkr.out; omega) ?_; intro bo6 cap6 w6 hout6 ho6; have HOut6 := hid hout6; have Ho6 := hid (HoAll.out.trans ho6 (fun k hk e => by have : w.heap.size ≤ k := e; omega)); clear hout6 ho6)
          go_roundw
          case rel =>
            refine ⟨a1 + (rem), k + (rem), rem - (rem), l ++ (text.drop a1).take (rem), bo6, cap6, by go_num, by go_num, by have := Ha1.out; omega, by have := Hkr.out; omega, ?_, by rw [List.length_append, Hxl.out], HOut6.out, Ho6.out⟩
            rw [Hl.out, Ha1.out, ← List.drop_drop, List.take_add]
          case measure => simp [intOf]; omega
        · have hmin1 : 128 - (a1 : Int) % 128 < (rem : Int) := by omega
          have hxm : ((D.cur (R.sector a1)).drop (a1 % 128)).take (128 - a1 % 128) = (text.drop a1).take (128 - a1 % 128) := by
            have hpc := HRS.out.piece a1 (128 - a1 % 128) (by have h1 := HAt.out; have h2 := Ha1.out; have h3 := Hkr.out; omega) (by have h1 := HOk.out; have h2 := Ha1.out; unfold RingM.size at h1; omega) Hcl.out
            rw [hpc]; congr 1; omega
          have hxl : ((text.drop a1).take (128 - a1 % 128)).length = 128 - a1 % 128 := by rw [List.length_take, List.length_drop]; have h1 := HAt.out; have h2 := Ha1.out; have h3 := Hkr.out; omega
          have HSrc : ∀ c', Src w5 (.slice (some ⟨g, a1 % 128, none⟩) (128 - a1 % 128) c') ((text.drop a1).take (128 - a1 % 128)) := fun c' => HRow.out.piece _ _ _ _ hxl hxm.symm
          have HSr := hid HSrc; have Hxl := hid hxl
          clear HSrc hxl hxm
          go_wp2_with (refine wpList_addon rfl (.tmp 74) (.tmp 75) rfl bo cap w.heap.size l rfl HOut5.out hlo5 _ ((text.drop a1).take (128 - a1 % 128)) (128 - a1 % 128) _ Hxl.out rfl (HSr.out _) (by have := Hll.out; have := Hkr.out; omega) ?_; intro bo6 cap6 w6 hout6 ho6; have HOut6 := hid hout6; have Ho6 := hid (HoAll.out.trans ho6 (fun k hk e => by have : w.heap.size ≤ k := e; omega)); clear hout6 ho6)
          go_roundw
          case rel =>
            refine ⟨a1 + (128 - a1 % 128), k + (128 - a1 % 128), rem - (128 - a1 % 128), l ++ (text.drop a1).take (128 - a1 % 128), bo6, cap6, by go_num, by go_num, by have := Ha1.out; omega, by have := Hkr.out; omega, ?_, by rw [List.length_append, Hxl.out], HOut6.out, Ho6.out⟩
            rw [Hl.out, Ha1.out, ← List.drop_drop, List.take_add]
          case measure => simp [intOf]; omega
end
end Go.Proofs.YtfmdngeooelcpaaGreat
namespace Go.Proofs.YtfmdngeooelcpaaGreat
open Go.RowKit

/-- Ring r over disk b: from sector 'first' on 'count' of the disk's n sectors; G: the blocks of both. -/
def Rig (w : World) (r b first count n : Nat) (text : List UInt8) (G : Nat → Prop) : Prop :=
  ∃ D R F FD, RingAt w r b R F ∧ DiskAt w b D FD ∧ (∀ k, F k → ¬ FD k) ∧ RS D R text ∧ R.first = first ∧ R.count = count ∧ D.n = n ∧ ∀ k, G k ↔ F k ∨ FD k

section
variable {w w' : World} {r b first count n : Nat} {text : List UInt8} {G H : Nat → Prop}

theorem Rig.only (h : Rig w r b first count n text G) (ho : Only H w w') (hd : ∀ k, G k → ¬ H k) : Rig w' r b first count n text G := by
  obtain ⟨D, R, F, FD, h1, h2, h3, h4, h5, h6, h7, h8⟩ := h
  exact ⟨D, R, F, FD, h1.only ho (fun k hk => hd k ((h8 k).2 (.inl hk))), h2.only ho (fun k hk => hd k ((h8 k).2 (.inr hk))), h3, h4, h5, h6, h7, h8⟩
theorem Rig.lt (h : Rig w r b first count n text G) {k : Nat} (hk : G k) : k < w.heap.size := by
  obtain ⟨D, R, F, FD, h1, h2, h3, h4, h5, h6, h7, h8⟩ := h
  rcases (h8 k).1 hk with e | e
  · obtain ⟨rv, hR⟩ := h1; exact hR.lt k e
  · exact h2.lt e

end
end Go.Proofs.YtfmdngeooelcpaaGreat
