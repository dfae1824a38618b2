/- What the log's law's operations read as. wal, plainly: an operation of a script on the log and on the document's. foliotlaw08: text, fits, like. foliotlaw08: play. foliotlaw08: a log and the document's between two operations of a script. -/
import Derived.Test.YthodcbhejjbhaaaOpen
import Derived.Test.YthodcbhejjbhaaaDiskO
import Derived.Test.YthodcbhejjbhaaaRwD
import Derived.Test.YthodcbhejjbhaaaPg
import Derived.Test.YthodcbhejjbhaaaRuns
namespace Go.Proofs.Ythodcbhejjbhaaa
open Go.RowKit Go.ChangeShapes Go.WideShapes Go.ChangeAt

structure LOp where
  kind : Int
  often : Int
  dv : Value
  data : List UInt8
def LOp.cells (o : LOp) : List Value := [.int .i64 o.kind, .int .i64 o.often, o.dv]
structure LOpAt (w : World) (o : LOp) : Prop where
  data : Src w o.dv o.data
  dlen : o.data.length ≤ 9223372036854775807

/-- A slice value that reads as these operations. -/
def LOpsAt (w : World) (v : Value) (l : List LOp) : Prop :=
  ∃ a c, v = .slice a l.length c ∧ l.length ≤ 9223372036854775807 ∧ ∀ i o, l[i]? = some o → LOpAt w o ∧ ∃ g of, a = some ⟨g, of, none⟩ ∧ g < w.heap.size ∧ ∀ j u, o.cells[j]? = some u → w.cell? ⟨g, of + i * 3 + j, none⟩ = some u

section
variable {H : Type} {enc : TypeId × Value → H} {W : World} {base : Nat} {spare : Nat → Bool} {held : Bool} {fuel : Nat} {x : DataW H × List MemPlace} {v : Value} {cs : List Value}

theorem cellsW47 : Try.prog.cellsOf 47 = 3 := by kernel_rfl
theorem cellsW3 : Try.prog.cellsOf 3 = 1 := by kernel_rfl
theorem cellsW33 : Try.prog.cellsOf 33 = 1 := by kernel_rfl

theorem list3L {α : Type} {l : List α} (h : l.length = 3) : ∃ a b c, l = [a, b, c] := by
  match l, h with
  | [a, b, c], _ => exact ⟨a, b, c, rfl⟩

theorem read_lop (h : DataW.trod enc Try.prog W base spare held fuel 47 cs = some x) : ∃ o : LOp, cs = o.cells ∧ LOpAt W o := by
  obtain ⟨xs, n, rfl, _, hlen, hxl, hf⟩ := DataW.trod_struct Try.underlying47 h
  rw [cellsW47] at hlen
  obtain ⟨a, b, c, rfl⟩ := list3L hlen
  obtain ⟨x0, x1, x2, rfl⟩ := list3L (by simpa using hxl)
  have f0 := hf 0
  have f1 := hf 1
  have f2 := hf 2
  simp [cellsW3, cellsW33] at f0 f1 f2
  obtain ⟨n0, e0, -, -⟩ := DataW.trod_int Try.underlying3 f0
  obtain ⟨n1, e1, -, -⟩ := DataW.trod_int Try.underlying3 f1
  obtain ⟨l2, s2, b2⟩ := read_bytesA f2
  simp only [List.cons.injEq, and_true] at e0 e1
  subst e0 e1
  exact ⟨⟨n0, n1, c, l2⟩, rfl, s2, b2⟩

theorem read_lops (h : DataW.trod enc Try.prog W base spare held fuel 40 [v] = some x) : ∃ l : List LOp, LOpsAt W v l := by
  rcases Go.Deep.open_slice Try.underlying40 h with ⟨hcs, _⟩ | ⟨a, len, cap, m, n, D, Pl, hcs, _, hlc, hm, hmm, _, hel⟩
  · simp at hcs; subst hcs
    exact ⟨[], none, 0, rfl, by simp, by simp⟩
  · simp at hcs; subst hcs
    have hlm : len ≤ m := by rw [hmm]; split <;> omega
    have hex : ∀ i, ∃ o : LOp, i < len → LOpAt W o ∧ ∀ j u, o.cells[j]? = some u → W.cell? ((a.add (i * 3)).add j) = some u := by
      intro i
      by_cases hi : i < len
      · obtain ⟨cs', hcs', htr⟩ := hel i (by omega)
        obtain ⟨o, rfl, hat⟩ := read_lop htr
        obtain ⟨_, hl7, hc⟩ := World.cells?_some hcs'
        rw [cellsW47] at hc
        refine ⟨o, fun _ => ⟨hat, fun j u hj => ?_⟩⟩
        have hj7 : j < 3 := by
          rcases Nat.lt_or_ge j 3 with h | h
          · exact h
          · rw [List.getElem?_eq_none (by simpa [LOp.cells] using h)] at hj; cases hj
        rw [hc j hj7]; exact hj
      · exact ⟨⟨0, 0, .slice none 0 0, []⟩, fun h => absurd h hi⟩
    obtain ⟨f, hf⟩ := Classical.axiomOfChoice hex
    refine ⟨(List.range len).map f, some a, cap, by simp, by simp; unfold maxLen at hm; omega, fun i o hi => ?_⟩
    have hil : i < len := by
      rcases Nat.lt_or_ge i len with h | h
      · exact h
      · rw [List.getElem?_eq_none (by simpa using h)] at hi; cases hi
    simp only [List.getElem?_map, List.getElem?_range hil, Option.map_some, Option.some.injEq] at hi
    subst hi
    obtain ⟨hat, hc⟩ := hf i hil
    obtain ⟨-, hc0⟩ := hf 0 (by omega)
    have hs : a.spot = none := by have := World.cell?_spot (hc0 0 _ rfl); simpa [Addr.add] using this
    obtain ⟨g, o, s⟩ := a
    simp only at hs
    subst hs
    refine ⟨hat, g, o, rfl, by have := World.block_lt_of_cell? _ _ (hc0 0 _ rfl); simpa [Addr.add] using this, fun j u hj => ?_⟩
    have := hc j u hj
    rw [addr_add, addr_add] at this
    exact this
end
end Go.Proofs.Ythodcbhejjbhaaa
namespace Go.Proofs.Ythodcbhejjbhaaa
open Go.RowKit

/-- The log and the document's tell the same. -/
structure Sam (M : WM) (L : RLog) (sg : Nat) (fs : List (Nat × List UInt8)) : Prop where
  size : L.size = sg * 2048
  first : L.first = M.head
  tail : L.tail = M.tail
  frames : L.frames = fs
  wait : L.waiting = M.wait
def WM.play (M : WM) (k : Int) (s : List UInt8) : WM :=
  if k = 0 then (M.submit s).1 else if k = 1 then M.commit.1 else if k = 2 then { M with wait := [] } else if k = 3 then (M.checkpoint s).1 else M
def RLog.play (L : RLog) (k : Int) (s : List UInt8) : RLog :=
  if k = 0 then (L.submit s).1 else if k = 1 then L.commit else if k = 2 then { L with waiting := [] } else if k = 3 then (L.check s).1 else L
/-- Do they answer the same? -/
def answ (M : WM) (L : RLog) (k : Int) (s : List UInt8) : Bool :=
  if k = 0 then (M.submit s).2 == (L.submit s).2 else if k = 1 then (((M.commit.2.1 : Nat) : Int) == ((L.fit : Nat) : Int) && (M.commit.2.2 == if L.fit = L.waiting.length then 0 else 3)) else if k = 3 then (M.checkpoint s).2 == (L.check s).2 else true
theorem LP.play {M : WM} {L : RLog} {sg N : Nat} {T0 : List UInt8} {fs : List (Nat × List UInt8)} (h : LP M sg N T0 fs) (hs : Sam M L sg fs) (hN : N ≤ 90) (k : Int) {s : List UInt8} (hsl : s.length ≤ 100000) : answ M L k s = true ∧ ∃ T0' fs', LP (M.play k s) sg (N + 1) T0' fs' ∧ Sam (M.play k s) (L.play k s) sg fs' := by
  obtain ⟨size, first, tail, frames, waiting⟩ := L
  obtain ⟨z1, z2, z3, z4, z5⟩ := hs
  dsimp only at z1 z2 z3 z4 z5
  subst z1 z2 z3 z4 z5
  unfold answ WM.play RLog.play
  by_cases k0 : k = 0
  · simp only [if_pos k0]
    obtain ⟨p1, p2, p3, p4, p5, p6, p7⟩ := h.submit s
    have e : RLog.submit ⟨sg * 2048, M.head, M.tail, frames, M.wait⟩ s = (⟨sg * 2048, M.head, M.tail, frames, (M.submit s).1.wait⟩, (M.submit s).2) := by
      rw [p6, p7]
      unfold RLog.submit
      dsimp only
      split
      · rfl
      · split
        · rfl
        · rfl
    rw [e]
    exact ⟨by simp, T0, frames, p1.more (Nat.le_succ N), rfl, p4.symm, p5.symm, rfl, rfl⟩
  simp only [if_neg k0]
  by_cases k1 : k = 1
  · simp only [if_pos k1]
    obtain ⟨n, M', hn, hnl, e, hp, hw⟩ := h.commit hN
    have hf : RLog.fit ⟨sg * 2048, M.head, M.tail, frames, M.wait⟩ = n := hn.symm
    have h1 := hp.tl
    have h2 := h.tl
    rw [layT_app, ← List.append_assoc, List.length_append] at h1
    rw [← h2] at h1
    have h3 : T0.length + (layT T0.length frames).length = M.tail := by rw [h2, List.length_append]
    rw [h3] at h1
    unfold RLog.commit
    rw [hf, e]
    exact ⟨by simp, T0, _, hp, rfl, by rw [hp.hd]; exact h.hd, h1.symm, rfl, hw.symm⟩
  simp only [if_neg k1]
  by_cases k2 : k = 2
  · subst k2
    exact ⟨by simp, T0, frames, h.drop.more (Nat.le_succ N), rfl, rfl, rfl, rfl, rfl⟩
  simp only [if_neg k2]
  by_cases k3 : k = 3
  · simp only [if_pos k3]
    have hc := h.checkpoint hN hsl
    have hcs : (layT M.tail (cutL s)).length = costN M.tail s.length := cut_cost (s.length + 1) M.tail s (Nat.lt_succ_self _)
    unfold RLog.check rleft
    dsimp only
    rw [hcs]
    by_cases hw : M.wait ≠ []
    · rw [if_pos hw] at hc ⊢
      rw [hc]
      exact ⟨by simp, T0, frames, h.more (Nat.le_succ N), rfl, rfl, rfl, rfl, rfl⟩
    · rw [if_neg hw] at hc ⊢
      by_cases hl : sg * 2048 - (M.tail - M.head / 128 * 128) < costN M.tail s.length
      · rw [if_pos hl] at hc ⊢
        rw [hc]
        exact ⟨by simp, T0, frames, h.more (Nat.le_succ N), rfl, rfl, rfl, rfl, rfl⟩
      · rw [if_neg hl] at hc ⊢
        obtain ⟨M', e, hp, h1, h2, h3⟩ := hc
        rw [e]
        exact ⟨by simp, _, _, hp, rfl, h2.symm, h3.symm, rfl, by rw [h1]; exact Classical.not_not.1 hw⟩
  · simp only [if_neg k3]
    exact ⟨trivial, T0, frames, h.more (Nat.le_succ N), rfl, rfl, rfl, rfl, rfl⟩
end Go.Proofs.Ythodcbhejjbhaaa
namespace Go.Proofs.Ythodcbhejjbhaaa
open Go.RowKit

def rept (n : Nat) (s : List UInt8) : List UInt8 := (List.replicate n s).flatten
theorem rept_succ (n : Nat) (s : List UInt8) : rept (n + 1) s = rept n s ++ s := by
  unfold rept
  rw [List.replicate_succ', List.flatten_append]; simp
theorem rept_len (n : Nat) (s : List UInt8) : (rept n s).length = n * s.length := by
  unfold rept
  rw [List.length_flatten, List.map_replicate, List.sum_replicate_nat]
def oftN (o : Int) : Nat := (max 0 (min o 60)).toNat
/-- An operation's bytes. -/
def LOp.txt (o : LOp) : List UInt8 := rept (oftN o.often) o.data
theorem str_app (a b : List UInt8) : strOf a ++ strOf b = strOf (a ++ b) := by
  apply ByteArray.ext
  simp [strOf]
section
variable {w : World}
set_option maxRecDepth 100000 in
set_option maxHeartbeats 1600000 in
theorem text_c (k o : Int) (s : List UInt8) {pa : Option Addr} {pc : Nat} (hs : Src w (.slice pa s.length pc) s) (hsl : s.length ≤ 1000) : Calls Try.prog 38 #[.agg #[.int .i64 k, .int .i64 o, .slice pa s.length pc]] w fun e w' => e = .returned (.string (strOf (rept (oftN o) s))) ∧ Only (fun _ => False) w w' := by
  have key : ∀ n : Nat, n ≤ 60 → ((o ≤ 0 ∧ n = 0) ∨ (0 < o ∧ o ≤ 60 ∧ o = (n : Int)) ∨ (60 < o ∧ n = 60)) → Calls Try.prog 38 #[.agg #[.int .i64 k, .int .i64 o, .slice pa s.length pc]] w fun e w' => e = .returned (.string (strOf (rept n s))) ∧ Only (fun _ => False) w w' := by
    intro n hn hc
    obtain ⟨W1, hW1⟩ : ∃ x, w.alloc (.cells #[.int .i64 k, .int .i64 o, .slice pa s.length pc] 47) = x := ⟨_, rfl⟩
    have hb : W1.heap[w.heap.size]? = some (.cells #[.int .i64 k, .int .i64 o, .slice pa s.length pc] 47 (0, 0)) := by rw [← hW1]; exact blk_new _ _
    have hO : Only (fun _ => False) w W1 := by rw [← hW1]; exact only_new _ _
    have hcv : (convert 33 9 (.slice pa s.length pc)).run Try.prog W1 = .ok (.string (strOf s)) W1 := conv_str (hs.same hO)
    have c0 : W1.cell? ⟨w.heap.size, 0, none⟩ = some (.int .i64 k) := cell_blk hb 0
    have c1 : W1.cell? ⟨w.heap.size, 1, none⟩ = some (.int .i64 o) := cell_blk hb 1
    have c2 : W1.cell? ⟨w.heap.size, 2, none⟩ = some (.slice pa s.length pc) := cell_blk hb 2
    have HO := hid hO
    have HW1 := hid hW1
    clear hb hO hW1
    have hz : (strOf (rept 0 s)) = (⟨#[]⟩ : ByteArray) := rfl
    rcases hc with ⟨h1, rfl⟩ | ⟨h1, h2, rfl⟩ | ⟨h1, rfl⟩
    · have h60 : o < 60 := by omega
      go_enter Try.func38, Try.ntmps38
      go_upto_region 2 with fail
      rw [HW1.out]
      go_wp2_with fail
      try go_frame
      go_loopw [3, 8] (fun sv i wx => ∃ j : Nat, sv = .string (strOf (rept j s)) ∧ i = .int .i64 j ∧ j ≤ 0 ∧ wx = W1) (fun _ i _ => 0 - (intOf i).toNat)
      case atStart => exact ⟨0, by rw [hz], rfl, Nat.zero_le _, rfl⟩
      case round =>
        rename World => wx
        obtain ⟨j, rfl, rfl, hj, rfl⟩ := hrel
        by_cases hlt : j < 0
        · exact absurd hlt (Nat.not_lt_zero j)
        · obtain rfl : j = 0 := by omega
          go_wp2_with fail
          go_ret
          exact ⟨rfl, HO.out⟩
    · go_enter Try.func38, Try.ntmps38
      go_upto_region 2 with fail
      rw [HW1.out]
      go_wp2_with fail
      try go_frame
      go_loopw [3, 8] (fun sv i wx => ∃ j : Nat, sv = .string (strOf (rept j s)) ∧ i = .int .i64 j ∧ j ≤ n ∧ wx = W1) (fun _ i _ => n - (intOf i).toNat)
      case atStart => exact ⟨0, by rw [hz], rfl, Nat.zero_le _, rfl⟩
      case round =>
        rename World => wx
        obtain ⟨j, rfl, rfl, hj, rfl⟩ := hrel
        by_cases hlt : j < n
        · have hlti : (j : Int) < (n : Int) := by omega
          have hadd := str_app (rept j s) s
          have hsz : ¬ 9223372036854775807 < (strOf (rept j s)).size + (strOf s).size := by
            show ¬ 9223372036854775807 < (rept j s).length + s.length
            rw [rept_len]
            have := Nat.mul_le_mul (Nat.le_trans hj hn) hsl
            omega
          go_wp2_with fail
          go_roundw
          case rel => exact ⟨j + 1, by rw [rept_succ], by go_num, by omega, trivial⟩
          case measure => simp [intOf]; omega
        · obtain rfl : j = n := by omega
          go_wp2_with fail
          go_ret
          exact ⟨rfl, HO.out⟩
    · go_enter Try.func38, Try.ntmps38
      go_upto_region 2 with fail
      rw [HW1.out]
      go_wp2_with fail
      try go_frame
      go_loopw [3, 8] (fun sv i wx => ∃ j : Nat, sv = .string (strOf (rept j s)) ∧ i = .int .i64 j ∧ j ≤ 60 ∧ wx = W1) (fun _ i _ => 60 - (intOf i).toNat)
      case atStart => exact ⟨0, by rw [hz], rfl, Nat.zero_le _, rfl⟩
      case round =>
        rename World => wx
        obtain ⟨j, rfl, rfl, hj, rfl⟩ := hrel
        by_cases hlt : j < 60
        · have hlti : (j : Int) < (60 : Int) := by omega
          have hadd := str_app (rept j s) s
          have hsz : ¬ 9223372036854775807 < (strOf (rept j s)).size + (strOf s).size := by
            show ¬ 9223372036854775807 < (rept j s).length + s.length
            rw [rept_len]
            have := Nat.mul_le_mul (Nat.le_trans hj hn) hsl
            omega
          go_wp2_with fail
          go_roundw
          case rel => exact ⟨j + 1, by rw [rept_succ], by go_num, by omega, trivial⟩
          case measure => simp [intOf]; omega
        · obtain rfl : j = 60 := by omega
          go_wp2_with fail
          go_ret
          exact ⟨rfl, HO.out⟩
  exact key (oftN o) (by unfold oftN; omega) (by unfold oftN; omega)
theorem info_op8 : (Try.prog.info? 47).map (·.size) = some 3 := by kernel_rfl
set_option maxRecDepth 100000 in
set_option maxHeartbeats 1600000 in
theorem fits8_c {v : Value} {ops : List LOp} (h : LOpsAt w v ops) : Calls Try.prog 15 #[v] w fun e w' => (∃ B, e = .returned (.bool B) ∧ (B = true → ops.length ≤ 40 ∧ ∀ o ∈ ops, o.data.length ≤ 100)) ∧ Only (fun _ => False) w w' := by
  obtain ⟨a, c, rfl, hll, hl⟩ := h
  have HL := hid hl
  clear hl
  go_enter Try.func15, Try.ntmps15
  by_cases h40 : (40 : Int) < ops.length
  · go_wp2_with fail
    go_ret
    exact ⟨⟨false, rfl, fun e => by cases e⟩, Only.refl _ _⟩
  go_wp2_with fail
  try go_frame
  go_loopw [10, 4] (fun i _ wx => ∃ j : Nat, i = .int .i64 j ∧ j ≤ ops.length ∧ (∀ k o, k < j → ops[k]? = some o → o.data.length ≤ 100) ∧ Only (fun _ => False) w wx) (fun i _ _ => ops.length - (intOf i).toNat)
  case atStart => exact ⟨0, rfl, Nat.zero_le _, fun k o hk => absurd hk (Nat.not_lt_zero k), Only.refl _ _⟩
  case round =>
    rename World => wx
    obtain ⟨j, rfl, hj, hall, ho⟩ := hrel
    have HO := hid ho; have HA := hid hall
    clear ho hall
    by_cases hlt : j < ops.length
    · obtain ⟨o, hoj⟩ : ∃ o, ops[j]? = some o := ⟨_, List.getElem?_eq_getElem hlt⟩
      obtain ⟨hat, g, of, rfl, hgl, hcl⟩ := HL.out j o hoj
      obtain ⟨da, dc, hdv, -⟩ := hat.data
      have hlti : (j : Int) < (ops.length : Int) := by omega
      have HR : Hid (wx.rangeAt g (of + j * 3) o.cells) := hid fun k u hk => (World.cell?_of_block (HO.out.block g hgl (fun e => e))).trans (hcl k u hk)
      have HI3 : Hid ((Try.prog.info? 47).map (·.size) = some o.cells.length) := hid info_op8
      have hx12 : (execOp (fun _ => undef) default).run Try.prog wx = (execOp (fun _ => undef) default).run Try.prog wx := rfl
      clear hx12
      have HOJ := hid hoj
      have hce : o.cells.toArray = #[.int .i64 o.kind, .int .i64 o.often, .slice da o.data.length dc] := by unfold LOp.cells; rw [hdv]
      have HCE := hid hce
      obtain ⟨kd, hkd⟩ : ∃ x, o.kind = x := ⟨_, rfl⟩
      obtain ⟨of', hof⟩ : ∃ x, o.often = x := ⟨_, rfl⟩
      rw [hkd, hof] at hce HCE
      clear hoj hat hcl hdv hkd hof
      have hb : (wx.alloc (.cells #[.int .i64 kd, .int .i64 of', .slice da o.data.length dc] 47)).heap[wx.heap.size]? = some (.cells #[.int .i64 kd, .int .i64 of', .slice da o.data.length dc] 47 (0, 0)) := blk_new _ _
      have HO2 : Hid (Only (fun _ => False) w (wx.alloc (.cells #[.int .i64 kd, .int .i64 of', .slice da o.data.length dc] 47))) := hid (HO.out.trans (only_new _ _) (fun _ _ e => e))
      have cd : (wx.alloc (.cells #[.int .i64 kd, .int .i64 of', .slice da o.data.length dc] 47)).cell? ⟨wx.heap.size, 2, none⟩ = some (.slice da o.data.length dc) := cell_blk hb 2
      clear hb hce
      by_cases h100 : (100 : Int) < o.data.length
      · go_wp2_with ((guard_target =~ wpList _ _ _ (⟨some 13, _, _, _, _, _⟩ :: _) _ _); refine wpList_load_mid rfl 47 (.tmp 12) rfl g (of + j * 3) rfl o.cells _ HR.out Try.underlying47 rfl HI3.out ?_; rw [HCE.out])
        go_ret
        exact ⟨⟨false, rfl, fun e => by cases e⟩, HO2.out⟩
      · go_wp2_with ((guard_target =~ wpList _ _ _ (⟨some 13, _, _, _, _, _⟩ :: _) _ _); refine wpList_load_mid rfl 47 (.tmp 12) rfl g (of + j * 3) rfl o.cells _ HR.out Try.underlying47 rfl HI3.out ?_; rw [HCE.out])
        go_roundw
        case rel =>
          first
          | exact ⟨j + 1, by go_num, by omega, fun k o' hk hk2 => (by rcases Nat.lt_or_ge k j with e | e; exact HA.out k o' e hk2; (obtain rfl : k = j := by omega); rw [HOJ.out] at hk2; obtain rfl := Option.some.inj hk2; omega), HO2.out⟩
        case measure => simp [intOf]; omega
    · obtain rfl : j = ops.length := by omega
      have HALL : Hid (∀ o ∈ ops, o.data.length ≤ 100) := hid fun o ho => by
        obtain ⟨k, hk, e⟩ := List.getElem_of_mem ho
        exact HA.out k o hk (by rw [List.getElem?_eq_getElem hk, e])
      go_wp2_with fail
      go_ret
      exact ⟨⟨true, rfl, fun _ => ⟨by omega, HALL.out⟩⟩, HO.out⟩
theorem fcs_get {gs : List (Nat × List UInt8)} {j k : Nat} {s : List UInt8} (h : gs[j]? = some (k, s)) : (fcs gs)[j * 2]? = some (.int .i64 (k : Nat)) ∧ (fcs gs)[j * 2 + 1]? = some (.string (strOf s)) := by
  induction gs generalizing j with
  | nil => simp at h
  | cons x gs ih =>
    cases j with
    | zero =>
      simp only [List.getElem?_cons_zero, Option.some.injEq] at h
      subst h
      exact ⟨rfl, rfl⟩
    | succ j =>
      obtain ⟨h1, h2⟩ := ih (by simpa using h)
      have e : fcs (x :: gs) = .int .i64 (x.1 : Nat) :: .string (strOf x.2) :: fcs gs := rfl
      rw [e, show (j + 1) * 2 = j * 2 + 1 + 1 from by omega, List.getElem?_cons_succ, List.getElem?_cons_succ, List.getElem?_cons_succ, List.getElem?_cons_succ]
      exact ⟨h1, h2⟩
theorem info_wfr : (Try.prog.info? 38).map (·.size) = some 2 := by kernel_rfl
theorem info_rfr : (Try.prog.info? 57).map (·.size) = some 2 := by kernel_rfl
set_option maxRecDepth 100000 in
set_option maxHeartbeats 3200000 in
theorem like_c {lo : Nat} {v v2 : Value} {fs gs : List (Nat × List UInt8)} {G : Nat → Prop} (h1 : FOut w lo fs v) (h2 : SlV w v2 gs.length 2 (fcs gs) G) (hfl : fs.length ≤ 1000000) : Calls Try.prog 17 #[v, v2] w fun e w' => (∃ B, e = .returned (.bool B) ∧ (fs = gs → B = true)) ∧ Only (fun _ => False) w w' := by
  have HF := hid h1
  obtain ⟨ao, cap, xs, rfl, -, -, -⟩ := h1
  obtain ⟨ax, c, rfl, hnc, hsr, -⟩ := h2
  have HS := hid hsr
  clear hsr
  go_enter Try.func17, Try.ntmps17
  by_cases hl : fs.length = gs.length
  rotate_left
  · have hnb : ((fs.length : Int) != (gs.length : Int)) = true := by rw [bne_iff_ne]; omega
    have HN : Hid (fs ≠ gs) := hid fun e => hl (by rw [e])
    clear hl
    go_wp2_with fail
    go_ret
    exact ⟨⟨false, rfl, fun e => absurd e HN.out⟩, Only.refl _ _⟩
  have hnb : ((fs.length : Int) != (gs.length : Int)) = false := by rw [hl]; simp
  have HL := hid hl
  clear hl
  go_wp2_with fail
  try go_frame
  go_loopw [13, 5] (fun i _ wx => ∃ j : Nat, i = .int .i64 j ∧ j ≤ fs.length ∧ Only (fun _ => False) w wx) (fun i _ _ => fs.length - (intOf i).toNat)
  case atStart => exact ⟨0, rfl, Nat.zero_le _, Only.refl _ _⟩
  case round =>
    rename World => wx
    obtain ⟨j, rfl, hj, ho⟩ := hrel
    have HO := hid ho
    clear ho
    by_cases hlt : j < fs.length
    rotate_left
    · obtain rfl : j = fs.length := by omega
      go_wp2_with fail
      go_ret
      exact ⟨⟨true, rfl, fun _ => rfl⟩, HO.out⟩
    have hlti : (j : Int) < (fs.length : Int) := by omega
    have hlg : j < gs.length := by have := HL.out; omega
    obtain ⟨⟨k1, s1⟩, hf⟩ : ∃ x, fs[j]? = some x := ⟨_, List.getElem?_eq_getElem hlt⟩
    obtain ⟨⟨k2, s2⟩, hg⟩ : ∃ x, gs[j]? = some x := ⟨_, List.getElem?_eq_getElem hlg⟩
    have HNE : Hid (k1 ≠ k2 ∨ s1 ≠ s2 → fs ≠ gs) := hid fun hne e => by
      rw [e, hg] at hf
      obtain ⟨rfl, rfl⟩ := Prod.mk.inj (Option.some.inj hf)
      exact hne.elim (fun h => h rfl) (fun h => h rfl)
    obtain ⟨q, cap', he, -, hat⟩ := HF.out.at (by omega)
    simp only [Value.slice.injEq, true_and] at he
    obtain ⟨rfl, rfl⟩ := he
    obtain ⟨pa, pc, z0, z1, hb⟩ := hat j k1 s1 hf
    obtain ⟨g, o, rfl, hgl, hcl⟩ := HS.out.spots (by omega) (by decide)
    have hfc : (fcs gs)[j * 2]? = some (.int .i64 (k2 : Nat)) ∧ (fcs gs)[j * 2 + 1]? = some (.string (strOf s2)) := fcs_get hg
    have HK : Hid (∀ W, Only (fun _ => False) wx W → W.cell? ⟨q, 0 + j * 2, none⟩ = some (.int .i64 (k1 : Nat))) := hid fun W hW => by
      rw [Nat.zero_add]
      exact (World.cell?_of_block ((HO.out.trans hW (fun _ _ e => e)).block q (World.block_lt_of_cell? _ _ z0) (fun e => e))).trans z0
    have HD : Hid (∀ W, Only (fun _ => False) wx W → W.cell? ⟨q, 0 + j * 2 + 1, none⟩ = some (.slice pa s1.length pc)) := hid fun W hW => by
      rw [Nat.zero_add]
      exact (World.cell?_of_block ((HO.out.trans hW (fun _ _ e => e)).block q (World.block_lt_of_cell? _ _ z0) (fun e => e))).trans z1
    have HK2 : Hid (∀ W, Only (fun _ => False) wx W → W.cell? ⟨g, o + j * 2, none⟩ = some (.int .i64 (k2 : Nat))) := hid fun W hW => (World.cell?_of_block ((HO.out.trans hW (fun _ _ e => e)).block g hgl (fun e => e))).trans (hcl _ _ hfc.1)
    have HD2 : Hid (∀ W, Only (fun _ => False) wx W → W.cell? ⟨g, o + j * 2 + 1, none⟩ = some (.string (strOf s2))) := hid fun W hW => (World.cell?_of_block ((HO.out.trans hW (fun _ _ e => e)).block g hgl (fun e => e))).trans (hcl _ _ hfc.2)
    have HSR : Hid (∀ W, Only (fun _ => False) wx W → Src W (.slice pa s1.length pc) s1) := hid fun W hW => hb.src.same (HO.out.trans hW (fun _ _ e => e))
    clear hf hg hat z0 z1 hb hcl hfc
    by_cases hk : k1 = k2
    rotate_left
    · have HB : Hid (((k1 : Int) != (k2 : Int)) = true) := hid (by rw [bne_iff_ne]; omega)
      have HN := hid (HNE.out (.inl hk))
      clear hk
      go_upto_region 6 with fail
      refine region_pg 23 [] (by kernel_rfl) (by kernel_rfl) (by kernel_rfl) [(16, fun _ v => v = .slice (some ⟨q, 0, none⟩) fs.length cap), (17, fun _ v => v = .int .i64 (j : Nat)), (18, fun _ v => v = .pointer (some ⟨q, 0 + j * 2, none⟩)), (19, fun _ v => v = .pointer (some ⟨q, 0 + j * 2, none⟩)), (20, fun _ v => v = .int .i64 (k1 : Nat)), (21, fun _ v => v = .slice (some ⟨g, o, none⟩) gs.length c), (22, fun _ v => v = .int .i64 (j : Nat)), (23, fun _ v => v = .pointer (some ⟨g, o + j * 2, none⟩)), (24, fun _ v => v = .pointer (some ⟨g, o + j * 2, none⟩)), (25, fun _ v => v = .int .i64 (k2 : Nat)), (26, fun _ v => v = .bool true), (27, fun _ v => v = .bool true), (28, fun _ v => v = undef), (29, fun _ v => v = undef), (30, fun _ v => v = undef), (31, fun _ v => v = undef), (32, fun _ v => v = undef), (33, fun _ v => v = undef), (34, fun _ v => v = undef), (35, fun _ v => v = undef), (36, fun _ v => v = undef), (37, fun _ v => v = undef), (38, fun _ v => v = undef)] (fun _ W => Only (fun _ => False) wx W) (by show [16, 17, 18, 19, 20, 21, 22, 23, 24, 25, 26, 27, 28, 29, 30, 31, 32, 33, 34, 35, 36, 37, 38].Nodup; decide) (by show ∀ d ∈ [16, 17, 18, 19, 20, 21, 22, 23, 24, 25, 26, 27, 28, 29, 30, 31, 32, 33, 34, 35, 36, 37, 38], d < 42; decide) ((Only.refl _ _).drew) (.inl rfl) ?_ ?_ ?_
      · exact trivial
      · have hstab : PtStabs (Only (fun _ => False)) [(16, fun _ v => v = .slice (some ⟨q, 0, none⟩) fs.length cap), (17, fun _ v => v = .int .i64 (j : Nat)), (18, fun _ v => v = .pointer (some ⟨q, 0 + j * 2, none⟩)), (19, fun _ v => v = .pointer (some ⟨q, 0 + j * 2, none⟩)), (20, fun _ v => v = .int .i64 (k1 : Nat)), (21, fun _ v => v = .slice (some ⟨g, o, none⟩) gs.length c), (22, fun _ v => v = .int .i64 (j : Nat)), (23, fun _ v => v = .pointer (some ⟨g, o + j * 2, none⟩)), (24, fun _ v => v = .pointer (some ⟨g, o + j * 2, none⟩)), (25, fun _ v => v = .int .i64 (k2 : Nat)), (26, fun _ v => v = .bool true), (27, fun _ v => v = .bool true), (28, fun _ v => v = undef), (29, fun _ v => v = undef), (30, fun _ v => v = undef), (31, fun _ v => v = undef), (32, fun _ v => v = undef), (33, fun _ v => v = undef), (34, fun _ v => v = undef), (35, fun _ v => v = undef), (36, fun _ v => v = undef), (37, fun _ v => v = undef), (38, fun _ v => v = undef)] := ⟨fun _ _ _ _ h => h, fun _ _ _ _ h => h, fun _ _ _ _ h => h, fun _ _ _ _ h => h, fun _ _ _ _ h => h, fun _ _ _ _ h => h, fun _ _ _ _ h => h, fun _ _ _ _ h => h, fun _ _ _ _ h => h, fun _ _ _ _ h => h, fun _ _ _ _ h => h, fun _ _ _ _ h => h, fun _ _ _ _ h => h, fun _ _ _ _ h => h, fun _ _ _ _ h => h, fun _ _ _ _ h => h, fun _ _ _ _ h => h, fun _ _ _ _ h => h, fun _ _ _ _ h => h, fun _ _ _ _ h => h, fun _ _ _ _ h => h, fun _ _ _ _ h => h, fun _ _ _ _ h => h, trivial⟩
        refine PgAllS.cons rfl rfl (.inl ⟨rfl, rfl⟩) ?_ (PgAllS.cons rfl rfl (.inl ⟨rfl, rfl⟩) ?_ (PgAllS.cons rfl rfl (.inl ⟨rfl, rfl⟩) ?_ (PgAllS.cons rfl rfl (.inl ⟨rfl, rfl⟩) ?_ (PgAllS.cons rfl rfl (.inl ⟨rfl, rfl⟩) ?_ (PgAllS.cons rfl rfl (.inl ⟨rfl, rfl⟩) ?_ (PgAllS.cons rfl rfl (.inl ⟨rfl, rfl⟩) ?_ (PgAllS.cons rfl rfl (.inl ⟨rfl, rfl⟩) ?_ (PgAllS.cons rfl rfl (.inl ⟨rfl, rfl⟩) ?_ (PgAllS.cons rfl rfl (.inl ⟨rfl, rfl⟩) ?_ (PgAllS.cons rfl rfl (.inl ⟨rfl, rfl⟩) ?_ (PgAllS.cons rfl rfl (.inl ⟨rfl, rfl⟩) ?_ (PgAllS.skip rfl rfl (.inr ⟨_, _, _, _, _, rfl, rfl, rfl, rfl, by kernel_rfl⟩) (fun _ => rfl) (fun _ _ h => h) (PgAllS.skip rfl rfl (.inr ⟨_, _, _, _, _, rfl, rfl, rfl, rfl, by kernel_rfl⟩) (fun _ => rfl) (fun _ _ h => h) (PgAllS.skip rfl rfl (.inr ⟨_, _, _, _, _, rfl, rfl, rfl, rfl, by kernel_rfl⟩) (fun _ => rfl) (fun _ _ h => h) (PgAllS.skip rfl rfl (.inr ⟨_, _, _, _, _, rfl, rfl, rfl, rfl, by kernel_rfl⟩) (fun _ => rfl) (fun _ _ h => h) (PgAllS.skip rfl rfl (.inr ⟨_, _, _, _, _, rfl, rfl, rfl, rfl, by kernel_rfl⟩) (fun _ => rfl) (fun _ _ h => h) (PgAllS.skip rfl rfl (.inr ⟨_, _, _, _, _, rfl, rfl, rfl, rfl, by kernel_rfl⟩) (fun _ => rfl) (fun _ _ h => h) (PgAllS.skip rfl rfl (.inr ⟨_, _, _, _, _, rfl, rfl, rfl, rfl, by kernel_rfl⟩) (fun _ => rfl) (fun _ _ h => h) (PgAllS.skip rfl rfl (.inr ⟨_, _, _, _, _, rfl, rfl, rfl, rfl, by kernel_rfl⟩) (fun _ => rfl) (fun _ _ h => h) (PgAllS.skip rfl rfl (.inr ⟨_, _, _, _, _, rfl, rfl, rfl, rfl, by kernel_rfl⟩) (fun _ => rfl) (fun _ _ h => h) (PgAllS.skip rfl rfl (.inr ⟨_, _, _, _, _, rfl, rfl, rfl, rfl, by kernel_rfl⟩) (fun _ => rfl) (fun _ _ h => h) (PgAllS.skip rfl rfl (.inr ⟨_, _, _, _, _, rfl, rfl, rfl, rfl, by kernel_rfl⟩) (fun _ => rfl) (fun _ _ h => h) (PgAllS.nil rfl)))))))))))))))))))))))
        · intro L a W K hI hn hd hK
          have e0 : a.eval (.tmp 0) = .slice (some ⟨q, 0, none⟩) fs.length cap := hI.ev 0 (by show ¬ (0 ∈ [16, 17, 18, 19, 20, 21, 22, 23, 24, 25, 26, 27, 28, 29, 30, 31, 32, 33, 34, 35, 36, 37, 38]); decide) rfl
          exact pt_move _ (by first | exact .inl rfl | exact .inr rfl) _ e0 (hK _ _ hI.j PtKeep.refl rfl)
        · intro L a W K hI hn hd hK
          have e5 : a.eval (.tmp 5) = .int .i64 (j : Nat) := hI.ev 5 (by show ¬ (5 ∈ [16, 17, 18, 19, 20, 21, 22, 23, 24, 25, 26, 27, 28, 29, 30, 31, 32, 33, 34, 35, 36, 37, 38]); decide) rfl
          exact pt_move _ (by first | exact .inl rfl | exact .inr rfl) _ e5 (hK _ _ hI.j PtKeep.refl rfl)
        · intro L a W K hI hn hd hK
          have e16 : a.eval (.tmp 16) = .slice (some ⟨q, 0, none⟩) fs.length cap := hI.fact 0 16 _ rfl (dep_of hd 0 (by kernel_rfl))
          have e17 : a.eval (.tmp 17) = .int .i64 (j : Nat) := hI.fact 1 17 _ rfl (dep_of hd 1 (by kernel_rfl))
          exact pt_val (v := .pointer (some ⟨q, 0 + j * 2, none⟩)) (ex_idx rfl e16 e17 Try.underlying28 info_wfr hlt) (hK _ _ hI.j PtKeep.refl rfl)
        · intro L a W K hI hn hd hK
          have e18 : a.eval (.tmp 18) = .pointer (some ⟨q, 0 + j * 2, none⟩) := hI.fact 2 18 _ rfl (dep_of hd 2 (by kernel_rfl))
          exact pt_val (v := .pointer (some ⟨q, 0 + j * 2, none⟩)) (by unfold execOp; simp only [e18]; kernel_rfl) (hK _ _ hI.j PtKeep.refl rfl)
        · intro L a W K hI hn hd hK
          have e19 : a.eval (.tmp 19) = .pointer (some ⟨q, 0 + j * 2, none⟩) := hI.fact 3 19 _ rfl (dep_of hd 3 (by kernel_rfl))
          exact pt_load _ (.tmp 19) rfl ⟨q, 0 + j * 2, none⟩ (.int .i64 (k1 : Nat)) _ e19 (HK.out _ hI.j) Try.underlying3 rfl (hK _ _ hI.j PtKeep.refl rfl)
        · intro L a W K hI hn hd hK
          have e1 : a.eval (.tmp 1) = .slice (some ⟨g, o, none⟩) gs.length c := hI.ev 1 (by show ¬ (1 ∈ [16, 17, 18, 19, 20, 21, 22, 23, 24, 25, 26, 27, 28, 29, 30, 31, 32, 33, 34, 35, 36, 37, 38]); decide) rfl
          exact pt_move _ (by first | exact .inl rfl | exact .inr rfl) _ e1 (hK _ _ hI.j PtKeep.refl rfl)
        · intro L a W K hI hn hd hK
          have e5 : a.eval (.tmp 5) = .int .i64 (j : Nat) := hI.ev 5 (by show ¬ (5 ∈ [16, 17, 18, 19, 20, 21, 22, 23, 24, 25, 26, 27, 28, 29, 30, 31, 32, 33, 34, 35, 36, 37, 38]); decide) rfl
          exact pt_move _ (by first | exact .inl rfl | exact .inr rfl) _ e5 (hK _ _ hI.j PtKeep.refl rfl)
        · intro L a W K hI hn hd hK
          have e21 : a.eval (.tmp 21) = .slice (some ⟨g, o, none⟩) gs.length c := hI.fact 5 21 _ rfl (dep_of hd 5 (by kernel_rfl))
          have e22 : a.eval (.tmp 22) = .int .i64 (j : Nat) := hI.fact 6 22 _ rfl (dep_of hd 6 (by kernel_rfl))
          exact pt_val (v := .pointer (some ⟨g, o + j * 2, none⟩)) (ex_idx rfl e21 e22 Try.underlying42 info_rfr hlg) (hK _ _ hI.j PtKeep.refl rfl)
        · intro L a W K hI hn hd hK
          have e23 : a.eval (.tmp 23) = .pointer (some ⟨g, o + j * 2, none⟩) := hI.fact 7 23 _ rfl (dep_of hd 7 (by kernel_rfl))
          exact pt_val (v := .pointer (some ⟨g, o + j * 2, none⟩)) (by unfold execOp; simp only [e23]; kernel_rfl) (hK _ _ hI.j PtKeep.refl rfl)
        · intro L a W K hI hn hd hK
          have e24 : a.eval (.tmp 24) = .pointer (some ⟨g, o + j * 2, none⟩) := hI.fact 8 24 _ rfl (dep_of hd 8 (by kernel_rfl))
          exact pt_load _ (.tmp 24) rfl ⟨g, o + j * 2, none⟩ (.int .i64 (k2 : Nat)) _ e24 (HK2.out _ hI.j) Try.underlying3 rfl (hK _ _ hI.j PtKeep.refl rfl)
        · intro L a W K hI hn hd hK
          have e20 : a.eval (.tmp 20) = .int .i64 (k1 : Nat) := hI.fact 4 20 _ rfl (dep_of hd 4 (by kernel_rfl))
          have e25 : a.eval (.tmp 25) = .int .i64 (k2 : Nat) := hI.fact 9 25 _ rfl (dep_of hd 9 (by kernel_rfl))
          exact pt_val (v := .bool true) (Eq.trans (b := .ok (.value (.bool ((k1 : Int) != (k2 : Int)))) W) (by unfold execOp; simp only [e20, e25]; kernel_rfl) (by rw [HB.out])) (hK _ _ hI.j PtKeep.refl rfl)
        · intro L a W K hI hn hd hK
          have e26 : a.eval (.tmp 26) = .bool true := hI.fact 10 26 _ rfl (dep_of hd 10 (by kernel_rfl))
          exact pt_move _ (by first | exact .inl rfl | exact .inr rfl) _ e26 (hK _ _ hI.j PtKeep.refl rfl)
      · intro L a w9 hal hj hfs
        dsimp only [PtAll] at hfs
        obtain ⟨f16, f17, f18, f19, f20, f21, f22, f23, f24, f25, f26, f27, f28, f29, f30, f31, f32, f33, f34, f35, f36, f37, f38, -⟩ := hfs
        have hA := hal.turned
        simp only [List.map_cons, List.map_nil, Act.turned, f16, f17, f18, f19, f20, f21, f22, f23, f24, f25, f26, f27, f28, f29, f30, f31, f32, f33, f34, f35, f36, f37, f38] at hA
        simp only [Act.put, List.setIfInBounds_toArray, List.set_cons_zero, List.set_cons_succ] at hA
        clear hal f16 f17 f18 f19 f20 f21 f22 f23 f24 f25 f26 f27 f28 f29 f30 f31 f32 f33 f34 f35 f36 f37 f38
        subst hA
        change wpList _ _ _ [_, _] _ _
        have HJ := hid (HO.out.trans hj (fun _ _ e => e))
        go_wp2_with fail
        go_ret
        exact ⟨⟨false, rfl, fun e => absurd e HN.out⟩, HJ.out⟩
    have HB : Hid (((k1 : Int) != (k2 : Int)) = false) := hid (by rw [hk]; simp)
    by_cases hs : s1 = s2
    rotate_left
    · have hcmp : ((strOf s1).toList == (strOf s2).toList) = false := by rw [strOf_list, strOf_list]; simpa using hs
      have HN := hid (HNE.out (.inr hs))
      clear hk hs
      go_upto_region 6 with fail
      refine region_pg 23 [] (by kernel_rfl) (by kernel_rfl) (by kernel_rfl) [(16, fun _ v => v = .slice (some ⟨q, 0, none⟩) fs.length cap), (17, fun _ v => v = .int .i64 (j : Nat)), (18, fun _ v => v = .pointer (some ⟨q, 0 + j * 2, none⟩)), (19, fun _ v => v = .pointer (some ⟨q, 0 + j * 2, none⟩)), (20, fun _ v => v = .int .i64 (k1 : Nat)), (21, fun _ v => v = .slice (some ⟨g, o, none⟩) gs.length c), (22, fun _ v => v = .int .i64 (j : Nat)), (23, fun _ v => v = .pointer (some ⟨g, o + j * 2, none⟩)), (24, fun _ v => v = .pointer (some ⟨g, o + j * 2, none⟩)), (25, fun _ v => v = .int .i64 (k2 : Nat)), (26, fun _ v => v = .bool false), (27, fun _ v => v = .bool false), (28, fun _ v => v = .slice (some ⟨q, 0, none⟩) fs.length cap), (29, fun _ v => v = .int .i64 (j : Nat)), (30, fun _ v => v = .pointer (some ⟨q, 0 + j * 2, none⟩)), (31, fun _ v => v = .pointer (some ⟨q, 0 + j * 2 + 1, none⟩)), (32, fun _ v => v = .slice pa s1.length pc), (33, fun _ v => v = .string (strOf s1)), (34, fun _ v => v = .slice (some ⟨g, o, none⟩) gs.length c), (35, fun _ v => v = .int .i64 (j : Nat)), (36, fun _ v => v = .pointer (some ⟨g, o + j * 2, none⟩)), (37, fun _ v => v = .pointer (some ⟨g, o + j * 2 + 1, none⟩)), (38, fun _ v => v = .string (strOf s2))] (fun _ W => Only (fun _ => False) wx W) (by show [16, 17, 18, 19, 20, 21, 22, 23, 24, 25, 26, 27, 28, 29, 30, 31, 32, 33, 34, 35, 36, 37, 38].Nodup; decide) (by show ∀ d ∈ [16, 17, 18, 19, 20, 21, 22, 23, 24, 25, 26, 27, 28, 29, 30, 31, 32, 33, 34, 35, 36, 37, 38], d < 42; decide) ((Only.refl _ _).drew) (.inl rfl) ?_ ?_ ?_
      · exact trivial
      · have hstab : PtStabs (Only (fun _ => False)) [(16, fun _ v => v = .slice (some ⟨q, 0, none⟩) fs.length cap), (17, fun _ v => v = .int .i64 (j : Nat)), (18, fun _ v => v = .pointer (some ⟨q, 0 + j * 2, none⟩)), (19, fun _ v => v = .pointer (some ⟨q, 0 + j * 2, none⟩)), (20, fun _ v => v = .int .i64 (k1 : Nat)), (21, fun _ v => v = .slice (some ⟨g, o, none⟩) gs.length c), (22, fun _ v => v = .int .i64 (j : Nat)), (23, fun _ v => v = .pointer (some ⟨g, o + j * 2, none⟩)), (24, fun _ v => v = .pointer (some ⟨g, o + j * 2, none⟩)), (25, fun _ v => v = .int .i64 (k2 : Nat)), (26, fun _ v => v = .bool false), (27, fun _ v => v = .bool false), (28, fun _ v => v = .slice (some ⟨q, 0, none⟩) fs.length cap), (29, fun _ v => v = .int .i64 (j : Nat)), (30, fun _ v => v = .pointer (some ⟨q, 0 + j * 2, none⟩)), (31, fun _ v => v = .pointer (some ⟨q, 0 + j * 2 + 1, none⟩)), (32, fun _ v => v = .slice pa s1.length pc), (33, fun _ v => v = .string (strOf s1)), (34, fun _ v => v = .slice (some ⟨g, o, none⟩) gs.length c), (35, fun _ v => v = .int .i64 (j : Nat)), (36, fun _ v => v = .pointer (some ⟨g, o + j * 2, none⟩)), (37, fun _ v => v = .pointer (some ⟨g, o + j * 2 + 1, none⟩)), (38, fun _ v => v = .string (strOf s2))] := ⟨fun _ _ _ _ h => h, fun _ _ _ _ h => h, fun _ _ _ _ h => h, fun _ _ _ _ h => h, fun _ _ _ _ h => h, fun _ _ _ _ h => h, fun _ _ _ _ h => h, fun _ _ _ _ h => h, fun _ _ _ _ h => h, fun _ _ _ _ h => h, fun _ _ _ _ h => h, fun _ _ _ _ h => h, fun _ _ _ _ h => h, fun _ _ _ _ h => h, fun _ _ _ _ h => h, fun _ _ _ _ h => h, fun _ _ _ _ h => h, fun _ _ _ _ h => h, fun _ _ _ _ h => h, fun _ _ _ _ h => h, fun _ _ _ _ h => h, fun _ _ _ _ h => h, fun _ _ _ _ h => h, trivial⟩
        refine PgAllS.cons rfl rfl (.inl ⟨rfl, rfl⟩) ?_ (PgAllS.cons rfl rfl (.inl ⟨rfl, rfl⟩) ?_ (PgAllS.cons rfl rfl (.inl ⟨rfl, rfl⟩) ?_ (PgAllS.cons rfl rfl (.inl ⟨rfl, rfl⟩) ?_ (PgAllS.cons rfl rfl (.inl ⟨rfl, rfl⟩) ?_ (PgAllS.cons rfl rfl (.inl ⟨rfl, rfl⟩) ?_ (PgAllS.cons rfl rfl (.inl ⟨rfl, rfl⟩) ?_ (PgAllS.cons rfl rfl (.inl ⟨rfl, rfl⟩) ?_ (PgAllS.cons rfl rfl (.inl ⟨rfl, rfl⟩) ?_ (PgAllS.cons rfl rfl (.inl ⟨rfl, rfl⟩) ?_ (PgAllS.cons rfl rfl (.inl ⟨rfl, rfl⟩) ?_ (PgAllS.cons rfl rfl (.inl ⟨rfl, rfl⟩) ?_ (PgAllS.cons rfl rfl (.inr ⟨_, _, _, _, _, rfl, rfl, rfl, rfl, by kernel_rfl⟩) ?_ (PgAllS.cons rfl rfl (.inr ⟨_, _, _, _, _, rfl, rfl, rfl, rfl, by kernel_rfl⟩) ?_ (PgAllS.cons rfl rfl (.inr ⟨_, _, _, _, _, rfl, rfl, rfl, rfl, by kernel_rfl⟩) ?_ (PgAllS.cons rfl rfl (.inr ⟨_, _, _, _, _, rfl, rfl, rfl, rfl, by kernel_rfl⟩) ?_ (PgAllS.cons rfl rfl (.inr ⟨_, _, _, _, _, rfl, rfl, rfl, rfl, by kernel_rfl⟩) ?_ (PgAllS.cons rfl rfl (.inr ⟨_, _, _, _, _, rfl, rfl, rfl, rfl, by kernel_rfl⟩) ?_ (PgAllS.cons rfl rfl (.inr ⟨_, _, _, _, _, rfl, rfl, rfl, rfl, by kernel_rfl⟩) ?_ (PgAllS.cons rfl rfl (.inr ⟨_, _, _, _, _, rfl, rfl, rfl, rfl, by kernel_rfl⟩) ?_ (PgAllS.cons rfl rfl (.inr ⟨_, _, _, _, _, rfl, rfl, rfl, rfl, by kernel_rfl⟩) ?_ (PgAllS.cons rfl rfl (.inr ⟨_, _, _, _, _, rfl, rfl, rfl, rfl, by kernel_rfl⟩) ?_ (PgAllS.cons rfl rfl (.inr ⟨_, _, _, _, _, rfl, rfl, rfl, rfl, by kernel_rfl⟩) ?_ (PgAllS.nil rfl)))))))))))))))))))))))
        · intro L a W K hI hn hd hK
          have e0 : a.eval (.tmp 0) = .slice (some ⟨q, 0, none⟩) fs.length cap := hI.ev 0 (by show ¬ (0 ∈ [16, 17, 18, 19, 20, 21, 22, 23, 24, 25, 26, 27, 28, 29, 30, 31, 32, 33, 34, 35, 36, 37, 38]); decide) rfl
          exact pt_move _ (by first | exact .inl rfl | exact .inr rfl) _ e0 (hK _ _ hI.j PtKeep.refl rfl)
        · intro L a W K hI hn hd hK
          have e5 : a.eval (.tmp 5) = .int .i64 (j : Nat) := hI.ev 5 (by show ¬ (5 ∈ [16, 17, 18, 19, 20, 21, 22, 23, 24, 25, 26, 27, 28, 29, 30, 31, 32, 33, 34, 35, 36, 37, 38]); decide) rfl
          exact pt_move _ (by first | exact .inl rfl | exact .inr rfl) _ e5 (hK _ _ hI.j PtKeep.refl rfl)
        · intro L a W K hI hn hd hK
          have e16 : a.eval (.tmp 16) = .slice (some ⟨q, 0, none⟩) fs.length cap := hI.fact 0 16 _ rfl (dep_of hd 0 (by kernel_rfl))
          have e17 : a.eval (.tmp 17) = .int .i64 (j : Nat) := hI.fact 1 17 _ rfl (dep_of hd 1 (by kernel_rfl))
          exact pt_val (v := .pointer (some ⟨q, 0 + j * 2, none⟩)) (ex_idx rfl e16 e17 Try.underlying28 info_wfr hlt) (hK _ _ hI.j PtKeep.refl rfl)
        · intro L a W K hI hn hd hK
          have e18 : a.eval (.tmp 18) = .pointer (some ⟨q, 0 + j * 2, none⟩) := hI.fact 2 18 _ rfl (dep_of hd 2 (by kernel_rfl))
          exact pt_val (v := .pointer (some ⟨q, 0 + j * 2, none⟩)) (by unfold execOp; simp only [e18]; kernel_rfl) (hK _ _ hI.j PtKeep.refl rfl)
        · intro L a W K hI hn hd hK
          have e19 : a.eval (.tmp 19) = .pointer (some ⟨q, 0 + j * 2, none⟩) := hI.fact 3 19 _ rfl (dep_of hd 3 (by kernel_rfl))
          exact pt_load _ (.tmp 19) rfl ⟨q, 0 + j * 2, none⟩ (.int .i64 (k1 : Nat)) _ e19 (HK.out _ hI.j) Try.underlying3 rfl (hK _ _ hI.j PtKeep.refl rfl)
        · intro L a W K hI hn hd hK
          have e1 : a.eval (.tmp 1) = .slice (some ⟨g, o, none⟩) gs.length c := hI.ev 1 (by show ¬ (1 ∈ [16, 17, 18, 19, 20, 21, 22, 23, 24, 25, 26, 27, 28, 29, 30, 31, 32, 33, 34, 35, 36, 37, 38]); decide) rfl
          exact pt_move _ (by first | exact .inl rfl | exact .inr rfl) _ e1 (hK _ _ hI.j PtKeep.refl rfl)
        · intro L a W K hI hn hd hK
          have e5 : a.eval (.tmp 5) = .int .i64 (j : Nat) := hI.ev 5 (by show ¬ (5 ∈ [16, 17, 18, 19, 20, 21, 22, 23, 24, 25, 26, 27, 28, 29, 30, 31, 32, 33, 34, 35, 36, 37, 38]); decide) rfl
          exact pt_move _ (by first | exact .inl rfl | exact .inr rfl) _ e5 (hK _ _ hI.j PtKeep.refl rfl)
        · intro L a W K hI hn hd hK
          have e21 : a.eval (.tmp 21) = .slice (some ⟨g, o, none⟩) gs.length c := hI.fact 5 21 _ rfl (dep_of hd 5 (by kernel_rfl))
          have e22 : a.eval (.tmp 22) = .int .i64 (j : Nat) := hI.fact 6 22 _ rfl (dep_of hd 6 (by kernel_rfl))
          exact pt_val (v := .pointer (some ⟨g, o + j * 2, none⟩)) (ex_idx rfl e21 e22 Try.underlying42 info_rfr hlg) (hK _ _ hI.j PtKeep.refl rfl)
        · intro L a W K hI hn hd hK
          have e23 : a.eval (.tmp 23) = .pointer (some ⟨g, o + j * 2, none⟩) := hI.fact 7 23 _ rfl (dep_of hd 7 (by kernel_rfl))
          exact pt_val (v := .pointer (some ⟨g, o + j * 2, none⟩)) (by unfold execOp; simp only [e23]; kernel_rfl) (hK _ _ hI.j PtKeep.refl rfl)
        · intro L a W K hI hn hd hK
          have e24 : a.eval (.tmp 24) = .pointer (some ⟨g, o + j * 2, none⟩) := hI.fact 8 24 _ rfl (dep_of hd 8 (by kernel_rfl))
          exact pt_load _ (.tmp 24) rfl ⟨g, o + j * 2, none⟩ (.int .i64 (k2 : Nat)) _ e24 (HK2.out _ hI.j) Try.underlying3 rfl (hK _ _ hI.j PtKeep.refl rfl)
        · intro L a W K hI hn hd hK
          have e20 : a.eval (.tmp 20) = .int .i64 (k1 : Nat) := hI.fact 4 20 _ rfl (dep_of hd 4 (by kernel_rfl))
          have e25 : a.eval (.tmp 25) = .int .i64 (k2 : Nat) := hI.fact 9 25 _ rfl (dep_of hd 9 (by kernel_rfl))
          exact pt_val (v := .bool false) (Eq.trans (b := .ok (.value (.bool ((k1 : Int) != (k2 : Int)))) W) (by unfold execOp; simp only [e20, e25]; kernel_rfl) (by rw [HB.out])) (hK _ _ hI.j PtKeep.refl rfl)
        · intro L a W K hI hn hd hK
          have e26 : a.eval (.tmp 26) = .bool false := hI.fact 10 26 _ rfl (dep_of hd 10 (by kernel_rfl))
          exact pt_move _ (by first | exact .inl rfl | exact .inr rfl) _ e26 (hK _ _ hI.j PtKeep.refl rfl)
        · intro L a W K hI hn hd hK
          have e0 : a.eval (.tmp 0) = .slice (some ⟨q, 0, none⟩) fs.length cap := hI.ev 0 (by show ¬ (0 ∈ [16, 17, 18, 19, 20, 21, 22, 23, 24, 25, 26, 27, 28, 29, 30, 31, 32, 33, 34, 35, 36, 37, 38]); decide) rfl
          exact pt_move _ (by first | exact .inl rfl | exact .inr rfl) _ e0 (hK _ _ hI.j PtKeep.refl rfl)
        · intro L a W K hI hn hd hK
          have e5 : a.eval (.tmp 5) = .int .i64 (j : Nat) := hI.ev 5 (by show ¬ (5 ∈ [16, 17, 18, 19, 20, 21, 22, 23, 24, 25, 26, 27, 28, 29, 30, 31, 32, 33, 34, 35, 36, 37, 38]); decide) rfl
          exact pt_move _ (by first | exact .inl rfl | exact .inr rfl) _ e5 (hK _ _ hI.j PtKeep.refl rfl)
        · intro L a W K hI hn hd hK
          have e28 : a.eval (.tmp 28) = .slice (some ⟨q, 0, none⟩) fs.length cap := hI.fact 12 28 _ rfl (dep_of hd 12 (by kernel_rfl))
          have e29 : a.eval (.tmp 29) = .int .i64 (j : Nat) := hI.fact 13 29 _ rfl (dep_of hd 13 (by kernel_rfl))
          exact pt_val (v := .pointer (some ⟨q, 0 + j * 2, none⟩)) (ex_idx rfl e28 e29 Try.underlying28 info_wfr hlt) (hK _ _ hI.j PtKeep.refl rfl)
        · intro L a W K hI hn hd hK
          have e30 : a.eval (.tmp 30) = .pointer (some ⟨q, 0 + j * 2, none⟩) := hI.fact 14 30 _ rfl (dep_of hd 14 (by kernel_rfl))
          exact pt_val (v := .pointer (some ⟨q, 0 + j * 2 + 1, none⟩)) (by unfold execOp; simp only [e30]; kernel_rfl) (hK _ _ hI.j PtKeep.refl rfl)
        · intro L a W K hI hn hd hK
          have e31 : a.eval (.tmp 31) = .pointer (some ⟨q, 0 + j * 2 + 1, none⟩) := hI.fact 15 31 _ rfl (dep_of hd 15 (by kernel_rfl))
          exact pt_load _ (.tmp 31) rfl ⟨q, 0 + j * 2 + 1, none⟩ (.slice pa s1.length pc) _ e31 (HD.out _ hI.j) Try.underlying33 rfl (hK _ _ hI.j PtKeep.refl rfl)
        · intro L a W K hI hn hd hK
          have e32 : a.eval (.tmp 32) = .slice pa s1.length pc := hI.fact 16 32 _ rfl (dep_of hd 16 (by kernel_rfl))
          exact pt_val (v := .string (strOf s1)) (ex_conv rfl e32 (HSR.out _ hI.j)) (hK _ _ hI.j PtKeep.refl rfl)
        · intro L a W K hI hn hd hK
          have e1 : a.eval (.tmp 1) = .slice (some ⟨g, o, none⟩) gs.length c := hI.ev 1 (by show ¬ (1 ∈ [16, 17, 18, 19, 20, 21, 22, 23, 24, 25, 26, 27, 28, 29, 30, 31, 32, 33, 34, 35, 36, 37, 38]); decide) rfl
          exact pt_move _ (by first | exact .inl rfl | exact .inr rfl) _ e1 (hK _ _ hI.j PtKeep.refl rfl)
        · intro L a W K hI hn hd hK
          have e5 : a.eval (.tmp 5) = .int .i64 (j : Nat) := hI.ev 5 (by show ¬ (5 ∈ [16, 17, 18, 19, 20, 21, 22, 23, 24, 25, 26, 27, 28, 29, 30, 31, 32, 33, 34, 35, 36, 37, 38]); decide) rfl
          exact pt_move _ (by first | exact .inl rfl | exact .inr rfl) _ e5 (hK _ _ hI.j PtKeep.refl rfl)
        · intro L a W K hI hn hd hK
          have e34 : a.eval (.tmp 34) = .slice (some ⟨g, o, none⟩) gs.length c := hI.fact 18 34 _ rfl (dep_of hd 18 (by kernel_rfl))
          have e35 : a.eval (.tmp 35) = .int .i64 (j : Nat) := hI.fact 19 35 _ rfl (dep_of hd 19 (by kernel_rfl))
          exact pt_val (v := .pointer (some ⟨g, o + j * 2, none⟩)) (ex_idx rfl e34 e35 Try.underlying42 info_rfr hlg) (hK _ _ hI.j PtKeep.refl rfl)
        · intro L a W K hI hn hd hK
          have e36 : a.eval (.tmp 36) = .pointer (some ⟨g, o + j * 2, none⟩) := hI.fact 20 36 _ rfl (dep_of hd 20 (by kernel_rfl))
          exact pt_val (v := .pointer (some ⟨g, o + j * 2 + 1, none⟩)) (by unfold execOp; simp only [e36]; kernel_rfl) (hK _ _ hI.j PtKeep.refl rfl)
        · intro L a W K hI hn hd hK
          have e37 : a.eval (.tmp 37) = .pointer (some ⟨g, o + j * 2 + 1, none⟩) := hI.fact 21 37 _ rfl (dep_of hd 21 (by kernel_rfl))
          exact pt_load _ (.tmp 37) rfl ⟨g, o + j * 2 + 1, none⟩ (.string (strOf s2)) _ e37 (HD2.out _ hI.j) Try.underlying9 rfl (hK _ _ hI.j PtKeep.refl rfl)
      · intro L a w9 hal hj hfs
        dsimp only [PtAll] at hfs
        obtain ⟨f16, f17, f18, f19, f20, f21, f22, f23, f24, f25, f26, f27, f28, f29, f30, f31, f32, f33, f34, f35, f36, f37, f38, -⟩ := hfs
        have hA := hal.turned
        simp only [List.map_cons, List.map_nil, Act.turned, f16, f17, f18, f19, f20, f21, f22, f23, f24, f25, f26, f27, f28, f29, f30, f31, f32, f33, f34, f35, f36, f37, f38] at hA
        simp only [Act.put, List.setIfInBounds_toArray, List.set_cons_zero, List.set_cons_succ] at hA
        clear hal f16 f17 f18 f19 f20 f21 f22 f23 f24 f25 f26 f27 f28 f29 f30 f31 f32 f33 f34 f35 f36 f37 f38
        subst hA
        change wpList _ _ _ [_, _] _ _
        have HJ := hid (HO.out.trans hj (fun _ _ e => e))
        go_wp2_with fail
        go_ret
        exact ⟨⟨false, rfl, fun e => absurd e HN.out⟩, HJ.out⟩
    · have hcmp : ((strOf s1).toList == (strOf s2).toList) = true := by rw [hs]; simp
      clear hk hs
      go_upto_region 6 with fail
      refine region_pg 23 [] (by kernel_rfl) (by kernel_rfl) (by kernel_rfl) [(16, fun _ v => v = .slice (some ⟨q, 0, none⟩) fs.length cap), (17, fun _ v => v = .int .i64 (j : Nat)), (18, fun _ v => v = .pointer (some ⟨q, 0 + j * 2, none⟩)), (19, fun _ v => v = .pointer (some ⟨q, 0 + j * 2, none⟩)), (20, fun _ v => v = .int .i64 (k1 : Nat)), (21, fun _ v => v = .slice (some ⟨g, o, none⟩) gs.length c), (22, fun _ v => v = .int .i64 (j : Nat)), (23, fun _ v => v = .pointer (some ⟨g, o + j * 2, none⟩)), (24, fun _ v => v = .pointer (some ⟨g, o + j * 2, none⟩)), (25, fun _ v => v = .int .i64 (k2 : Nat)), (26, fun _ v => v = .bool false), (27, fun _ v => v = .bool false), (28, fun _ v => v = .slice (some ⟨q, 0, none⟩) fs.length cap), (29, fun _ v => v = .int .i64 (j : Nat)), (30, fun _ v => v = .pointer (some ⟨q, 0 + j * 2, none⟩)), (31, fun _ v => v = .pointer (some ⟨q, 0 + j * 2 + 1, none⟩)), (32, fun _ v => v = .slice pa s1.length pc), (33, fun _ v => v = .string (strOf s1)), (34, fun _ v => v = .slice (some ⟨g, o, none⟩) gs.length c), (35, fun _ v => v = .int .i64 (j : Nat)), (36, fun _ v => v = .pointer (some ⟨g, o + j * 2, none⟩)), (37, fun _ v => v = .pointer (some ⟨g, o + j * 2 + 1, none⟩)), (38, fun _ v => v = .string (strOf s2))] (fun _ W => Only (fun _ => False) wx W) (by show [16, 17, 18, 19, 20, 21, 22, 23, 24, 25, 26, 27, 28, 29, 30, 31, 32, 33, 34, 35, 36, 37, 38].Nodup; decide) (by show ∀ d ∈ [16, 17, 18, 19, 20, 21, 22, 23, 24, 25, 26, 27, 28, 29, 30, 31, 32, 33, 34, 35, 36, 37, 38], d < 42; decide) ((Only.refl _ _).drew) (.inl rfl) ?_ ?_ ?_
      · exact trivial
      · have hstab : PtStabs (Only (fun _ => False)) [(16, fun _ v => v = .slice (some ⟨q, 0, none⟩) fs.length cap), (17, fun _ v => v = .int .i64 (j : Nat)), (18, fun _ v => v = .pointer (some ⟨q, 0 + j * 2, none⟩)), (19, fun _ v => v = .pointer (some ⟨q, 0 + j * 2, none⟩)), (20, fun _ v => v = .int .i64 (k1 : Nat)), (21, fun _ v => v = .slice (some ⟨g, o, none⟩) gs.length c), (22, fun _ v => v = .int .i64 (j : Nat)), (23, fun _ v => v = .pointer (some ⟨g, o + j * 2, none⟩)), (24, fun _ v => v = .pointer (some ⟨g, o + j * 2, none⟩)), (25, fun _ v => v = .int .i64 (k2 : Nat)), (26, fun _ v => v = .bool false), (27, fun _ v => v = .bool false), (28, fun _ v => v = .slice (some ⟨q, 0, none⟩) fs.length cap), (29, fun _ v => v = .int .i64 (j : Nat)), (30, fun _ v => v = .pointer (some ⟨q, 0 + j * 2, none⟩)), (31, fun _ v => v = .pointer (some ⟨q, 0 + j * 2 + 1, none⟩)), (32, fun _ v => v = .slice pa s1.length pc), (33, fun _ v => v = .string (strOf s1)), (34, fun _ v => v = .slice (some ⟨g, o, none⟩) gs.length c), (35, fun _ v => v = .int .i64 (j : Nat)), (36, fun _ v => v = .pointer (some ⟨g, o + j * 2, none⟩)), (37, fun _ v => v = .pointer (some ⟨g, o + j * 2 + 1, none⟩)), (38, fun _ v => v = .string (strOf s2))] := ⟨fun _ _ _ _ h => h, fun _ _ _ _ h => h, fun _ _ _ _ h => h, fun _ _ _ _ h => h, fun _ _ _ _ h => h, fun _ _ _ _ h => h, fun _ _ _ _ h => h, fun _ _ _ _ h => h, fun _ _ _ _ h => h, fun _ _ _ _ h => h, fun _ _ _ _ h => h, fun _ _ _ _ h => h, fun _ _ _ _ h => h, fun _ _ _ _ h => h, fun _ _ _ _ h => h, fun _ _ _ _ h => h, fun _ _ _ _ h => h, fun _ _ _ _ h => h, fun _ _ _ _ h => h, fun _ _ _ _ h => h, fun _ _ _ _ h => h, fun _ _ _ _ h => h, fun _ _ _ _ h => h, trivial⟩
        refine PgAllS.cons rfl rfl (.inl ⟨rfl, rfl⟩) ?_ (PgAllS.cons rfl rfl (.inl ⟨rfl, rfl⟩) ?_ (PgAllS.cons rfl rfl (.inl ⟨rfl, rfl⟩) ?_ (PgAllS.cons rfl rfl (.inl ⟨rfl, rfl⟩) ?_ (PgAllS.cons rfl rfl (.inl ⟨rfl, rfl⟩) ?_ (PgAllS.cons rfl rfl (.inl ⟨rfl, rfl⟩) ?_ (PgAllS.cons rfl rfl (.inl ⟨rfl, rfl⟩) ?_ (PgAllS.cons rfl rfl (.inl ⟨rfl, rfl⟩) ?_ (PgAllS.cons rfl rfl (.inl ⟨rfl, rfl⟩) ?_ (PgAllS.cons rfl rfl (.inl ⟨rfl, rfl⟩) ?_ (PgAllS.cons rfl rfl (.inl ⟨rfl, rfl⟩) ?_ (PgAllS.cons rfl rfl (.inl ⟨rfl, rfl⟩) ?_ (PgAllS.cons rfl rfl (.inr ⟨_, _, _, _, _, rfl, rfl, rfl, rfl, by kernel_rfl⟩) ?_ (PgAllS.cons rfl rfl (.inr ⟨_, _, _, _, _, rfl, rfl, rfl, rfl, by kernel_rfl⟩) ?_ (PgAllS.cons rfl rfl (.inr ⟨_, _, _, _, _, rfl, rfl, rfl, rfl, by kernel_rfl⟩) ?_ (PgAllS.cons rfl rfl (.inr ⟨_, _, _, _, _, rfl, rfl, rfl, rfl, by kernel_rfl⟩) ?_ (PgAllS.cons rfl rfl (.inr ⟨_, _, _, _, _, rfl, rfl, rfl, rfl, by kernel_rfl⟩) ?_ (PgAllS.cons rfl rfl (.inr ⟨_, _, _, _, _, rfl, rfl, rfl, rfl, by kernel_rfl⟩) ?_ (PgAllS.cons rfl rfl (.inr ⟨_, _, _, _, _, rfl, rfl, rfl, rfl, by kernel_rfl⟩) ?_ (PgAllS.cons rfl rfl (.inr ⟨_, _, _, _, _, rfl, rfl, rfl, rfl, by kernel_rfl⟩) ?_ (PgAllS.cons rfl rfl (.inr ⟨_, _, _, _, _, rfl, rfl, rfl, rfl, by kernel_rfl⟩) ?_ (PgAllS.cons rfl rfl (.inr ⟨_, _, _, _, _, rfl, rfl, rfl, rfl, by kernel_rfl⟩) ?_ (PgAllS.cons rfl rfl (.inr ⟨_, _, _, _, _, rfl, rfl, rfl, rfl, by kernel_rfl⟩) ?_ (PgAllS.nil rfl)))))))))))))))))))))))
        · intro L a W K hI hn hd hK
          have e0 : a.eval (.tmp 0) = .slice (some ⟨q, 0, none⟩) fs.length cap := hI.ev 0 (by show ¬ (0 ∈ [16, 17, 18, 19, 20, 21, 22, 23, 24, 25, 26, 27, 28, 29, 30, 31, 32, 33, 34, 35, 36, 37, 38]); decide) rfl
          exact pt_move _ (by first | exact .inl rfl | exact .inr rfl) _ e0 (hK _ _ hI.j PtKeep.refl rfl)
        · intro L a W K hI hn hd hK
          have e5 : a.eval (.tmp 5) = .int .i64 (j : Nat) := hI.ev 5 (by show ¬ (5 ∈ [16, 17, 18, 19, 20, 21, 22, 23, 24, 25, 26, 27, 28, 29, 30, 31, 32, 33, 34, 35, 36, 37, 38]); decide) rfl
          exact pt_move _ (by first | exact .inl rfl | exact .inr rfl) _ e5 (hK _ _ hI.j PtKeep.refl rfl)
        · intro L a W K hI hn hd hK
          have e16 : a.eval (.tmp 16) = .slice (some ⟨q, 0, none⟩) fs.length cap := hI.fact 0 16 _ rfl (dep_of hd 0 (by kernel_rfl))
          have e17 : a.eval (.tmp 17) = .int .i64 (j : Nat) := hI.fact 1 17 _ rfl (dep_of hd 1 (by kernel_rfl))
          exact pt_val (v := .pointer (some ⟨q, 0 + j * 2, none⟩)) (ex_idx rfl e16 e17 Try.underlying28 info_wfr hlt) (hK _ _ hI.j PtKeep.refl rfl)
        · intro L a W K hI hn hd hK
          have e18 : a.eval (.tmp 18) = .pointer (some ⟨q, 0 + j * 2, none⟩) := hI.fact 2 18 _ rfl (dep_of hd 2 (by kernel_rfl))
          exact pt_val (v := .pointer (some ⟨q, 0 + j * 2, none⟩)) (by unfold execOp; simp only [e18]; kernel_rfl) (hK _ _ hI.j PtKeep.refl rfl)
        · intro L a W K hI hn hd hK
          have e19 : a.eval (.tmp 19) = .pointer (some ⟨q, 0 + j * 2, none⟩) := hI.fact 3 19 _ rfl (dep_of hd 3 (by kernel_rfl))
          exact pt_load _ (.tmp 19) rfl ⟨q, 0 + j * 2, none⟩ (.int .i64 (k1 : Nat)) _ e19 (HK.out _ hI.j) Try.underlying3 rfl (hK _ _ hI.j PtKeep.refl rfl)
        · intro L a W K hI hn hd hK
          have e1 : a.eval (.tmp 1) = .slice (some ⟨g, o, none⟩) gs.length c := hI.ev 1 (by show ¬ (1 ∈ [16, 17, 18, 19, 20, 21, 22, 23, 24, 25, 26, 27, 28, 29, 30, 31, 32, 33, 34, 35, 36, 37, 38]); decide) rfl
          exact pt_move _ (by first | exact .inl rfl | exact .inr rfl) _ e1 (hK _ _ hI.j PtKeep.refl rfl)
        · intro L a W K hI hn hd hK
          have e5 : a.eval (.tmp 5) = .int .i64 (j : Nat) := hI.ev 5 (by show ¬ (5 ∈ [16, 17, 18, 19, 20, 21, 22, 23, 24, 25, 26, 27, 28, 29, 30, 31, 32, 33, 34, 35, 36, 37, 38]); decide) rfl
          exact pt_move _ (by first | exact .inl rfl | exact .inr rfl) _ e5 (hK _ _ hI.j PtKeep.refl rfl)
        · intro L a W K hI hn hd hK
          have e21 : a.eval (.tmp 21) = .slice (some ⟨g, o, none⟩) gs.length c := hI.fact 5 21 _ rfl (dep_of hd 5 (by kernel_rfl))
          have e22 : a.eval (.tmp 22) = .int .i64 (j : Nat) := hI.fact 6 22 _ rfl (dep_of hd 6 (by kernel_rfl))
          exact pt_val (v := .pointer (some ⟨g, o + j * 2, none⟩)) (ex_idx rfl e21 e22 Try.underlying42 info_rfr hlg) (hK _ _ hI.j PtKeep.refl rfl)
        · intro L a W K hI hn hd hK
          have e23 : a.eval (.tmp 23) = .pointer (some ⟨g, o + j * 2, none⟩) := hI.fact 7 23 _ rfl (dep_of hd 7 (by kernel_rfl))
          exact pt_val (v := .pointer (some ⟨g, o + j * 2, none⟩)) (by unfold execOp; simp only [e23]; kernel_rfl) (hK _ _ hI.j PtKeep.refl rfl)
        · intro L a W K hI hn hd hK
          have e24 : a.eval (.tmp 24) = .pointer (some ⟨g, o + j * 2, none⟩) := hI.fact 8 24 _ rfl (dep_of hd 8 (by kernel_rfl))
          exact pt_load _ (.tmp 24) rfl ⟨g, o + j * 2, none⟩ (.int .i64 (k2 : Nat)) _ e24 (HK2.out _ hI.j) Try.underlying3 rfl (hK _ _ hI.j PtKeep.refl rfl)
        · intro L a W K hI hn hd hK
          have e20 : a.eval (.tmp 20) = .int .i64 (k1 : Nat) := hI.fact 4 20 _ rfl (dep_of hd 4 (by kernel_rfl))
          have e25 : a.eval (.tmp 25) = .int .i64 (k2 : Nat) := hI.fact 9 25 _ rfl (dep_of hd 9 (by kernel_rfl))
          exact pt_val (v := .bool false) (Eq.trans (b := .ok (.value (.bool ((k1 : Int) != (k2 : Int)))) W) (by unfold execOp; simp only [e20, e25]; kernel_rfl) (by rw [HB.out])) (hK _ _ hI.j PtKeep.refl rfl)
        · intro L a W K hI hn hd hK
          have e26 : a.eval (.tmp 26) = .bool false := hI.fact 10 26 _ rfl (dep_of hd 10 (by kernel_rfl))
          exact pt_move _ (by first | exact .inl rfl | exact .inr rfl) _ e26 (hK _ _ hI.j PtKeep.refl rfl)
        · intro L a W K hI hn hd hK
          have e0 : a.eval (.tmp 0) = .slice (some ⟨q, 0, none⟩) fs.length cap := hI.ev 0 (by show ¬ (0 ∈ [16, 17, 18, 19, 20, 21, 22, 23, 24, 25, 26, 27, 28, 29, 30, 31, 32, 33, 34, 35, 36, 37, 38]); decide) rfl
          exact pt_move _ (by first | exact .inl rfl | exact .inr rfl) _ e0 (hK _ _ hI.j PtKeep.refl rfl)
        · intro L a W K hI hn hd hK
          have e5 : a.eval (.tmp 5) = .int .i64 (j : Nat) := hI.ev 5 (by show ¬ (5 ∈ [16, 17, 18, 19, 20, 21, 22, 23, 24, 25, 26, 27, 28, 29, 30, 31, 32, 33, 34, 35, 36, 37, 38]); decide) rfl
          exact pt_move _ (by first | exact .inl rfl | exact .inr rfl) _ e5 (hK _ _ hI.j PtKeep.refl rfl)
        · intro L a W K hI hn hd hK
          have e28 : a.eval (.tmp 28) = .slice (some ⟨q, 0, none⟩) fs.length cap := hI.fact 12 28 _ rfl (dep_of hd 12 (by kernel_rfl))
          have e29 : a.eval (.tmp 29) = .int .i64 (j : Nat) := hI.fact 13 29 _ rfl (dep_of hd 13 (by kernel_rfl))
          exact pt_val (v := .pointer (some ⟨q, 0 + j * 2, none⟩)) (ex_idx rfl e28 e29 Try.underlying28 info_wfr hlt) (hK _ _ hI.j PtKeep.refl rfl)
        · intro L a W K hI hn hd hK
          have e30 : a.eval (.tmp 30) = .pointer (some ⟨q, 0 + j * 2, none⟩) := hI.fact 14 30 _ rfl (dep_of hd 14 (by kernel_rfl))
          exact pt_val (v := .pointer (some ⟨q, 0 + j * 2 + 1, none⟩)) (by unfold execOp; simp only [e30]; kernel_rfl) (hK _ _ hI.j PtKeep.refl rfl)
        · intro L a W K hI hn hd hK
          have e31 : a.eval (.tmp 31) = .pointer (some ⟨q, 0 + j * 2 + 1, none⟩) := hI.fact 15 31 _ rfl (dep_of hd 15 (by kernel_rfl))
          exact pt_load _ (.tmp 31) rfl ⟨q, 0 + j * 2 + 1, none⟩ (.slice pa s1.length pc) _ e31 (HD.out _ hI.j) Try.underlying33 rfl (hK _ _ hI.j PtKeep.refl rfl)
        · intro L a W K hI hn hd hK
          have e32 : a.eval (.tmp 32) = .slice pa s1.length pc := hI.fact 16 32 _ rfl (dep_of hd 16 (by kernel_rfl))
          exact pt_val (v := .string (strOf s1)) (ex_conv rfl e32 (HSR.out _ hI.j)) (hK _ _ hI.j PtKeep.refl rfl)
        · intro L a W K hI hn hd hK
          have e1 : a.eval (.tmp 1) = .slice (some ⟨g, o, none⟩) gs.length c := hI.ev 1 (by show ¬ (1 ∈ [16, 17, 18, 19, 20, 21, 22, 23, 24, 25, 26, 27, 28, 29, 30, 31, 32, 33, 34, 35, 36, 37, 38]); decide) rfl
          exact pt_move _ (by first | exact .inl rfl | exact .inr rfl) _ e1 (hK _ _ hI.j PtKeep.refl rfl)
        · intro L a W K hI hn hd hK
          have e5 : a.eval (.tmp 5) = .int .i64 (j : Nat) := hI.ev 5 (by show ¬ (5 ∈ [16, 17, 18, 19, 20, 21, 22, 23, 24, 25, 26, 27, 28, 29, 30, 31, 32, 33, 34, 35, 36, 37, 38]); decide) rfl
          exact pt_move _ (by first | exact .inl rfl | exact .inr rfl) _ e5 (hK _ _ hI.j PtKeep.refl rfl)
        · intro L a W K hI hn hd hK
          have e34 : a.eval (.tmp 34) = .slice (some ⟨g, o, none⟩) gs.length c := hI.fact 18 34 _ rfl (dep_of hd 18 (by kernel_rfl))
          have e35 : a.eval (.tmp 35) = .int .i64 (j : Nat) := hI.fact 19 35 _ rfl (dep_of hd 19 (by kernel_rfl))
          exact pt_val (v := .pointer (some ⟨g, o + j * 2, none⟩)) (ex_idx rfl e34 e35 Try.underlying42 info_rfr hlg) (hK _ _ hI.j PtKeep.refl rfl)
        · intro L a W K hI hn hd hK
          have e36 : a.eval (.tmp 36) = .pointer (some ⟨g, o + j * 2, none⟩) := hI.fact 20 36 _ rfl (dep_of hd 20 (by kernel_rfl))
          exact pt_val (v := .pointer (some ⟨g, o + j * 2 + 1, none⟩)) (by unfold execOp; simp only [e36]; kernel_rfl) (hK _ _ hI.j PtKeep.refl rfl)
        · intro L a W K hI hn hd hK
          have e37 : a.eval (.tmp 37) = .pointer (some ⟨g, o + j * 2 + 1, none⟩) := hI.fact 21 37 _ rfl (dep_of hd 21 (by kernel_rfl))
          exact pt_load _ (.tmp 37) rfl ⟨g, o + j * 2 + 1, none⟩ (.string (strOf s2)) _ e37 (HD2.out _ hI.j) Try.underlying9 rfl (hK _ _ hI.j PtKeep.refl rfl)
      · intro L a w9 hal hj hfs
        dsimp only [PtAll] at hfs
        obtain ⟨f16, f17, f18, f19, f20, f21, f22, f23, f24, f25, f26, f27, f28, f29, f30, f31, f32, f33, f34, f35, f36, f37, f38, -⟩ := hfs
        have hA := hal.turned
        simp only [List.map_cons, List.map_nil, Act.turned, f16, f17, f18, f19, f20, f21, f22, f23, f24, f25, f26, f27, f28, f29, f30, f31, f32, f33, f34, f35, f36, f37, f38] at hA
        simp only [Act.put, List.setIfInBounds_toArray, List.set_cons_zero, List.set_cons_succ] at hA
        clear hal f16 f17 f18 f19 f20 f21 f22 f23 f24 f25 f26 f27 f28 f29 f30 f31 f32 f33 f34 f35 f36 f37 f38
        subst hA
        change wpList _ _ _ [_, _] _ _
        have HJ := hid (HO.out.trans hj (fun _ _ e => e))
        go_wp2_with fail
        go_roundw
        case rel => exact ⟨j + 1, by go_num, by omega, HJ.out⟩
        case measure => simp [intOf]; omega
end
end Go.Proofs.Ythodcbhejjbhaaa
namespace Go.Proofs.Ythodcbhejjbhaaa
open Go.RowKit
set_option linter.unusedVariables false

/-- What an operation on the log and on the document's leaves. -/
def PPost (w : World) (l b r : Nat) (M : WM) (Lr : RLog) (F G : Nat → Prop) (k : Int) (t : List UInt8) (e : Ending) (w' : World) : Prop :=
  ∃ fv wv F' G', e = .returned (.tuple #[.agg (rcells (Lr.play k t) fv wv), .bool (answ M Lr k t)]) ∧ LogAt w' l b r (M.play k t) F' ∧ RLAt w' (Lr.play k t) fv wv G' ∧ (∀ k, G' k → ¬ F' k) ∧ (∀ k, F' k → F k ∨ w.heap.size ≤ k) ∧ (∀ k, G' k → G k ∨ w.heap.size ≤ k) ∧ Only F w w'
theorem RLAt.one {w : World} {Lr : RLog} {fv wv : Value} {G : Nat → Prop} (h : RLAt w Lr fv wv G) : (rcells Lr fv wv).all (·.oneCell') = true := by
  obtain ⟨⟨fa, fc, rfl, -⟩, ⟨qa, qc, rfl, -⟩, -⟩ := h
  simp [rcells, Value.oneCell']
theorem cut_n : ∀ (n : Nat) (b : List UInt8), b.length ≤ n → (cutL b).length ≤ b.length + 1
  | 0, b, hb => by rw [cutL_small (by omega)]; simp
  | n + 1, b, hb => by
    by_cases h9 : b.length ≤ 2039
    · rw [cutL_small h9]; simp
    · rw [cutL_big h9]
      have := cut_n n (b.drop 2039) (by rw [List.length_drop]; omega)
      rw [List.length_drop] at this
      rw [List.length_cons]; omega
theorem cut_room (a : Nat) (b : List UInt8) : (layT a (cutL b)).length ≤ 4096 * (b.length + 1) := by
  have h1 := layT_len (cutL b) a (cut_ok b _ (Nat.le_refl _))
  have h2 := cut_n _ b (Nat.le_refl _)
  have := Nat.mul_le_mul_left 4096 h2
  omega
section
variable {w : World} {l b r : Nat} {M : WM} {F G : Nat → Prop} {Lr : RLog} {fv wv : Value}
set_option maxRecDepth 100000 in
set_option maxHeartbeats 6400000 in
theorem play0_c (h : LogAt w l b r M F) (hr : RLAt w Lr fv wv G) (hsep : ∀ k, G k → ¬ F k) (k o : Int) (s : List UInt8) {da : Option Addr} {dc : Nat} (hd : Src w (.slice da s.length dc) s) (hsl : s.length ≤ 100) (hds : ∀ g o, da = some ⟨g, o, none⟩ → s ≠ [] → ¬ F g) (hfit : M.R.first + M.R.count ≤ M.D.n) (htl : M.R.tail ≤ 4000000000000000000) (hT : Lr.tail ≤ 4000000000000000000) (hk : k = 0) :
    Calls Try.prog 16 #[.pointer (some ⟨l, 0, none⟩), .agg (rcells Lr fv wv), .agg #[.int .i64 k, .int .i64 o, .slice da s.length dc]] w (PPost w l b r M Lr F G k (rept (oftN o) s)) := by
  have HL := hid h; have HR := hid hr; have HS := hid hd; have HSEP := hid hsep; have HDS := hid hds
  obtain ⟨⟨fa, fc, rfl, -⟩, ⟨qa, qc, rfl, -⟩, -⟩ := hr
  obtain ⟨t, ht⟩ : ∃ x, rept (oftN o) s = x := ⟨_, rfl⟩
  have htl6 : t.length ≤ 6000 := by
    rw [← ht, rept_len]
    have h1 : oftN o ≤ 60 := by unfold oftN; omega
    have := Nat.mul_le_mul h1 hsl
    omega
  have HTX : Hid (∀ W, Only F w W → Calls Try.prog 38 #[.agg #[.int .i64 k, .int .i64 o, .slice da s.length dc]] W fun e w' => e = .returned (.string (strOf t)) ∧ Only (fun _ => False) W w') := hid fun W hW => by
    rw [← ht]
    refine text_c k o s (hd.only hW ?_) (by omega)
    intro hne g of c e hf
    simp only [Value.slice.injEq] at e
    exact hds g of e.1 hne hf
  have HSR : Hid (Src w (.slice da s.length dc) s) := hid hd
  rw [ht]
  clear ht h hsep hd hds
  obtain ⟨W0, hW0⟩ : ∃ x, ((w.alloc (.cells #[.int .i64 (Lr.size : Nat), .int .i64 (Lr.first : Nat), .int .i64 (Lr.tail : Nat), .slice fa Lr.frames.length fc, .slice qa Lr.waiting.length qc] 45)).alloc (.cells #[.int .i64 k, .int .i64 o, .slice da s.length dc] 47)).alloc (.cells #[.int .i64 0, .int .i64 0, .int .i64 0, .slice none 0 0, .slice none 0 0] 45) = x := ⟨_, rfl⟩
  have hO0 : Only (fun _ => False) w W0 := by rw [← hW0]; exact ((only_new _ _).trans (only_new _ _) (fun _ _ e => e)).trans (only_new _ _) (fun _ _ e => e)
  have HFL : Hid (∀ k, F k → k < w.heap.size) := hid fun k hk => HL.out.lt hk
  have HB4 : Hid (∀ W, Only F W0 W → W.heap[w.heap.size]? = some (.cells #[.int .i64 (Lr.size : Nat), .int .i64 (Lr.first : Nat), .int .i64 (Lr.tail : Nat), .slice fa Lr.frames.length fc, .slice qa Lr.waiting.length qc] 45 (0, 0))) := hid fun W hW => blk_only (by rw [← hW0]; exact blk_alloc (blk_alloc (blk_new _ _))) hW (fun e => by have := HFL.out _ e; omega)
  have HB5 : Hid (∀ W, Only F W0 W → W.heap[(w.heap.size + 1)]? = some (.cells #[.int .i64 k, .int .i64 o, .slice da s.length dc] 47 (0, 0))) := hid fun W hW => blk_only (by rw [← hW0]; exact blk_alloc (blk2w _ _ _)) hW (fun e => by have := HFL.out _ e; omega)
  have HB6 : Hid (∀ W, Only F W0 W → W.heap[(w.heap.size + 1 + 1)]? = some (.cells #[.int .i64 0, .int .i64 0, .int .i64 0, .slice none 0 0, .slice none 0 0] 45 (0, 0))) := hid fun W hW => blk_only (by rw [← hW0]; have := blk2w (w.alloc (.cells #[.int .i64 (Lr.size : Nat), .int .i64 (Lr.first : Nat), .int .i64 (Lr.tail : Nat), .slice fa Lr.frames.length fc, .slice qa Lr.waiting.length qc] 45)) (.cells #[.int .i64 k, .int .i64 o, .slice da s.length dc] 47) (.cells #[.int .i64 0, .int .i64 0, .int .i64 0, .slice none 0 0, .slice none 0 0] 45); rw [World.size_alloc] at this; exact this) hW (fun e => by have := HFL.out _ e; omega)
  have hz0 : (w.heap.size + 1 + 1) < W0.heap.size := by rw [← hW0]; simp
  have HO0 := hid hO0; have HW0 := hid hW0
  clear hO0 hW0
  unfold rcells
  have c50 : W0.cell? ⟨(w.heap.size + 1), 0, none⟩ = some (.int .i64 k) := cell_blk (HB5.out W0 (Only.refl _ _)) 0
  have hans : answ M Lr k t = ((M.submit t).2 == (Lr.submit t).2) := by unfold answ; subst hk; rfl
  have hmp : M.play k t = (M.submit t).1 := by unfold WM.play; subst hk; rfl
  have hlp : Lr.play k t = (Lr.submit t).1 := by unfold RLog.play; subst hk; rfl
  have HAN := hid hans; have HMP := hid hmp; have HLP := hid hlp
  clear hans hmp hlp
  subst hk
  have HSB : Hid (∀ W pa pc, Only (fun _ => False) w W → Src W (.slice pa t.length pc) t → (t ≠ [] → ∀ g o, pa = some ⟨g, o, none⟩ → ¬ F g) → t.length ≤ pc → Calls Try.prog 13 #[.pointer (some ⟨l, 0, none⟩), .slice pa t.length pc] W fun e w' => e = .returned (.int .i64 (M.submit t).2) ∧ LStep W w' l b r (M.submit t).1 F) := hid fun W pa pc hW hs _ _ => submit_c (HL.out.same hW) _ t hs (by omega)
  have HRF : Hid (∀ W, Only F w W → Calls Try.prog 39 #[.agg #[.int .i64 (Lr.size : Nat), .int .i64 (Lr.first : Nat), .int .i64 (Lr.tail : Nat), .slice fa Lr.frames.length fc, .slice qa Lr.waiting.length qc], .string (strOf t)] W fun e w' => ∃ fv' wv' G', e = .returned (.tuple #[.agg (rcells (Lr.submit t).1 fv' wv'), .int .i64 (Lr.submit t).2]) ∧ RLAt w' (Lr.submit t).1 fv' wv' G' ∧ (∀ k, G' k → G k ∨ W.heap.size ≤ k) ∧ Only (fun _ => False) W w') := hid fun W hW => rsubmit_c (HR.out.only hW HSEP.out) t (by omega)
  obtain ⟨M2, hM2⟩ : ∃ x, (M.submit t).1 = x := ⟨_, rfl⟩
  obtain ⟨mc, hmc⟩ : ∃ x, (M.submit t).2 = x := ⟨_, rfl⟩
  obtain ⟨L2, hL2⟩ : ∃ x, (Lr.submit t).1 = x := ⟨_, rfl⟩
  obtain ⟨lc, hlc⟩ : ∃ x, (Lr.submit t).2 = x := ⟨_, rfl⟩
  rw [hM2] at HMP HSB
  rw [hmc] at HAN HSB
  rw [hL2] at HLP HRF
  rw [hlc] at HAN HRF
  clear hM2 hmc hL2 hlc
  go_enter Try.func16, Try.ntmps16
  go_upto_region 1 with fail
  rw [HW0.out]
  go_upto_region 3 with fail
  go_wp2_with ((guard_target =~ wpList _ _ _ (⟨some 21, _, _, _, _, _⟩ :: _) _ _); refine wpList_load_row (o := ⟨some 21, _, _, _, _, _⟩) rfl 47 (.tmp 5) rfl (w.heap.size + 1) rfl 47 #[.int .i64 0, .int .i64 o, .slice da s.length dc] (0, 0) _ (HB5.out W0 (Only.refl _ _)) Try.underlying47 rfl info_op8 ?_)
  refine (HTX.out W0 (HO0.out.mono (fun _ _ e => e.elim))).mono ?_
  rintro x w1 ⟨rfl, ho1⟩
  have hcv := conv_bytes w1 t
  have hso := conv_bytes_src w1 t
  have hoo := bytesWorld_only w1 5 (strOf t)
  have hcp := grownCap_ge w1 t.length 0 5
  obtain ⟨W2, hW2⟩ : ∃ x, Go.Lib.bytesWorld w1 5 (strOf t) = x := ⟨_, rfl⟩
  obtain ⟨cp, hcpe⟩ : ∃ x, grownCap w1 t.length 0 5 = x := ⟨_, rfl⟩
  rw [hW2, hcpe] at hcv
  rw [hW2, hcpe] at hso
  rw [hW2] at hoo
  rw [hcpe] at hcp
  have HO02 : Hid (Only (fun _ => False) W0 W2) := hid (ho1.trans hoo (fun _ _ e => e))
  have hsz1 := ho1.size
  have HSB2 := hid (HSB.out W2 _ _ (HO0.out.trans HO02.out (fun _ _ e => e)) hso (fun _ g o e hf => by
    simp only [Option.some.injEq, Addr.mk.injEq, and_true] at e
    have := HFL.out g hf
    omega) hcp)
  clear hso hoo hcp hW2 hcpe ho1 hsz1
  go_wp2_with fail
  refine HSB2.out.mono ?_
  rintro x w3 ⟨rfl, F3, hl3, ho3, hn3⟩
  have HO3 : Hid (Only F W0 w3) := hid ((HO02.out.mono (fun _ _ e => e.elim)).trans ho3 (fun _ _ e => e))
  have HL3 := hid hl3; have HN3 := hid hn3; have HS3 := hid ho3.size
  have HOW3 : Hid (Only F w w3) := hid ((HO0.out.mono (fun _ _ e => e.elim)).trans HO3.out (fun _ _ e => e))
  clear hl3 hn3 ho3 hcv c50
  go_upto_region 5 with fail
  have HTX3 : Hid (∀ W, Only (fun _ => False) w3 W → Calls Try.prog 38 #[.agg #[.int .i64 0, .int .i64 o, .slice da s.length dc]] W fun e w' => e = .returned (.string (strOf t)) ∧ Only (fun _ => False) W w') := hid fun W hW => HTX.out W (HOW3.out.trans (hW.mono (fun _ _ e => e.elim)) (fun _ _ e => e))
  have HRF3 : Hid (∀ W, Only (fun _ => False) w3 W → Calls Try.prog 39 #[.agg #[.int .i64 (Lr.size : Nat), .int .i64 (Lr.first : Nat), .int .i64 (Lr.tail : Nat), .slice fa Lr.frames.length fc, .slice qa Lr.waiting.length qc], .string (strOf t)] W fun e w' => ∃ fv' wv' G', e = .returned (.tuple #[.agg (rcells L2 fv' wv'), .int .i64 lc]) ∧ RLAt w' L2 fv' wv' G' ∧ (∀ k, G' k → G k ∨ W.heap.size ≤ k) ∧ Only (fun _ => False) W w') := hid fun W hW => HRF.out W (HOW3.out.trans (hW.mono (fun _ _ e => e.elim)) (fun _ _ e => e))
  refine wp_region_noPanic ?_
  refine region_pt 7 [6] (by kernel_rfl) (by kernel_rfl) (by kernel_rfl) [(26, fun _ v => v = .agg #[.int .i64 (Lr.size : Nat), .int .i64 (Lr.first : Nat), .int .i64 (Lr.tail : Nat), .slice fa Lr.frames.length fc, .slice qa Lr.waiting.length qc]), (27, fun _ v => v = .agg #[.int .i64 0, .int .i64 o, .slice da s.length dc]), (28, fun _ v => v = .string (strOf t)), (29, fun W v => ∃ fv' wv' G', v = .tuple #[.agg (rcells L2 fv' wv'), .int .i64 lc] ∧ RLAt W L2 fv' wv' G' ∧ ∀ k, G' k → G k ∨ w3.heap.size ≤ k), (25, fun W v => ∃ fv' wv' G', v = .tuple #[.agg (rcells L2 fv' wv'), .int .i64 lc] ∧ RLAt W L2 fv' wv' G' ∧ ∀ k, G' k → G k ∨ w3.heap.size ≤ k), (30, fun W v => ∃ fv' wv' G', v = .agg (rcells L2 fv' wv') ∧ RLAt W L2 fv' wv' G' ∧ ∀ k, G' k → G k ∨ w3.heap.size ≤ k), (31, fun _ v => v = .int .i64 lc)] (fun _ W => Only (fun _ => False) w3 W) (by show [26, 27, 28, 29, 25, 30, 31].Nodup; decide) (by show ∀ d ∈ [26, 27, 28, 29, 25, 30, 31], d < 82; decide) ((Only.refl _ _).drew) (.inr (fun _ _ _ _ _ h => h)) ?_ ?_ ?_
  · refine ⟨?_, trivial⟩
    · refine ⟨_, _, _, _, rfl, rfl, rfl, fun _ _ h => h, fun L a W hI hd => ?_⟩
      have f25 := hI.fact 4 25 _ rfl (dep_of hd 4 (by kernel_rfl))
      obtain ⟨fv', wv', G', e9, hr', hg'⟩ := f25
      exact ⟨.int .i64 lc, fun W => by unfold execOp; simp only [e9]; kernel_rfl, fun W => rfl⟩
  · have hstab : PtStabs (Only (fun _ => False)) [(26, fun _ v => v = .agg #[.int .i64 (Lr.size : Nat), .int .i64 (Lr.first : Nat), .int .i64 (Lr.tail : Nat), .slice fa Lr.frames.length fc, .slice qa Lr.waiting.length qc]), (27, fun _ v => v = .agg #[.int .i64 0, .int .i64 o, .slice da s.length dc]), (28, fun _ v => v = .string (strOf t)), (29, fun W v => ∃ fv' wv' G', v = .tuple #[.agg (rcells L2 fv' wv'), .int .i64 lc] ∧ RLAt W L2 fv' wv' G' ∧ ∀ k, G' k → G k ∨ w3.heap.size ≤ k), (25, fun W v => ∃ fv' wv' G', v = .tuple #[.agg (rcells L2 fv' wv'), .int .i64 lc] ∧ RLAt W L2 fv' wv' G' ∧ ∀ k, G' k → G k ∨ w3.heap.size ≤ k), (30, fun W v => ∃ fv' wv' G', v = .agg (rcells L2 fv' wv') ∧ RLAt W L2 fv' wv' G' ∧ ∀ k, G' k → G k ∨ w3.heap.size ≤ k), (31, fun _ v => v = .int .i64 lc)] := ⟨fun _ _ _ _ h => h, fun _ _ _ _ h => h, fun _ _ _ _ h => h, fun W W' v hr ⟨fv', wv', G', h1, h2, h3⟩ => ⟨fv', wv', G', h1, h2.same hr, h3⟩, fun W W' v hr ⟨fv', wv', G', h1, h2, h3⟩ => ⟨fv', wv', G', h1, h2.same hr, h3⟩, fun W W' v hr ⟨fv', wv', G', h1, h2, h3⟩ => ⟨fv', wv', G', h1, h2.same hr, h3⟩, fun _ _ _ _ h => h, trivial⟩
    refine PtAllS.cons rfl ⟨rfl, rfl⟩ ?_ (PtAllS.cons rfl ⟨rfl, rfl⟩ ?_ (PtAllS.cons rfl ⟨rfl, rfl⟩ ?_ (PtAllS.cons rfl ⟨rfl, rfl⟩ ?_ (PtAllS.cons rfl ⟨rfl, rfl⟩ ?_ (PtAllS.cons rfl ⟨rfl, rfl⟩ ?_ (PtAllS.cons rfl ⟨rfl, rfl⟩ ?_ (PtAllS.nil rfl)))))))
    · intro L a W K hI hn hd hK
      have e4 : a.eval (.tmp 4) = .pointer (some ⟨w.heap.size, 0, none⟩) := hI.ev 4 (by show ¬ (4 ∈ [26, 27, 28, 29, 25, 30, 31]); decide) rfl
      exact wp_load_row _ (.tmp 4) rfl (w.heap.size) e4 45 (#[.int .i64 (Lr.size : Nat), .int .i64 (Lr.first : Nat), .int .i64 (Lr.tail : Nat), .slice fa Lr.frames.length fc, .slice qa Lr.waiting.length qc]) (0, 0) _ (HB4.out _ ((HO3.out.trans (hI.j.mono (fun _ _ e => e.elim)) (fun _ _ e => e)))) Try.underlying45 rfl (info_rl) (hK _ _ hI.j PtKeep.refl rfl)
    · intro L a W K hI hn hd hK
      have e5 : a.eval (.tmp 5) = .pointer (some ⟨(w.heap.size + 1), 0, none⟩) := hI.ev 5 (by show ¬ (5 ∈ [26, 27, 28, 29, 25, 30, 31]); decide) rfl
      exact wp_load_row _ (.tmp 5) rfl ((w.heap.size + 1)) e5 47 (#[.int .i64 0, .int .i64 o, .slice da s.length dc]) (0, 0) _ (HB5.out _ ((HO3.out.trans (hI.j.mono (fun _ _ e => e.elim)) (fun _ _ e => e)))) Try.underlying47 rfl (info_op8) (hK _ _ hI.j PtKeep.refl rfl)
    · intro L a W K hI hn hd hK
      have e27 : a.eval (.tmp 27) = .agg #[.int .i64 0, .int .i64 o, .slice da s.length dc] := hI.fact 1 27 _ rfl (dep_of hd 1 (by kernel_rfl))
      refine wp_callc (f := 38) (args := #[a.eval (.tmp 27)]) (by kernel_rfl) ?_
      rw [e27]
      refine (HTX3.out _ hI.j).mono ?_
      rintro x W' ⟨rfl, ho⟩
      exact ⟨_, rfl, hK _ _ (hI.j.trans ho (fun _ _ e => e.elim)) (hstab.keep ho) rfl⟩
    · intro L a W K hI hn hd hK
      have e26 : a.eval (.tmp 26) = .agg #[.int .i64 (Lr.size : Nat), .int .i64 (Lr.first : Nat), .int .i64 (Lr.tail : Nat), .slice fa Lr.frames.length fc, .slice qa Lr.waiting.length qc] := hI.fact 0 26 _ rfl (dep_of hd 0 (by kernel_rfl))
      have e28 : a.eval (.tmp 28) = .string (strOf t) := hI.fact 2 28 _ rfl (dep_of hd 2 (by kernel_rfl))
      refine wp_callc (f := 39) (args := #[a.eval (.tmp 26), a.eval (.tmp 28)]) (by kernel_rfl) ?_
      rw [e26, e28]
      refine (HRF3.out W hI.j).mono ?_
      rintro x W' ⟨fv', wv', G', rfl, hr', hg', ho⟩
      exact ⟨_, rfl, hK _ _ (hI.j.trans ho (fun _ _ e => e.elim)) (hstab.keep ho) ⟨fv', wv', G', rfl, hr', fun k hk => (hg' k hk).imp id (fun h => by have := hI.j.size; omega)⟩⟩
    · intro L a W K hI hn hd hK
      have f29 := hI.fact 3 29 _ rfl (dep_of hd 3 (by kernel_rfl))
      obtain ⟨fv', wv', G', e9, hr', hg'⟩ := f29
      exact pt_move _ (by first | exact .inl rfl | exact .inr rfl) _ e9 (hK _ _ hI.j PtKeep.refl ⟨fv', wv', G', rfl, hr', hg'⟩)
    · intro L a W K hI hn hd hK
      have f25 := hI.fact 4 25 _ rfl (dep_of hd 4 (by kernel_rfl))
      obtain ⟨fv', wv', G', e9, hr', hg'⟩ := f25
      exact pt_val (v := .agg (rcells L2 fv' wv')) (by unfold execOp; simp only [e9]; kernel_rfl) (hK _ _ hI.j PtKeep.refl ⟨fv', wv', G', rfl, hr', hg'⟩)
    · intro L a W K hI hn hd hK
      have f25 := hI.fact 4 25 _ rfl (dep_of hd 4 (by kernel_rfl))
      obtain ⟨fv', wv', G', e9, hr', hg'⟩ := f25
      exact pt_val (v := .int .i64 lc) (by unfold execOp; simp only [e9]; kernel_rfl) (hK _ _ hI.j PtKeep.refl rfl)
  · intro L a w4 hal hj hfs
    dsimp only [PtAll] at hfs
    obtain ⟨f26, f27, f28, f29, f25, f30, f31, -⟩ := hfs
    obtain ⟨fx29, wx29, Gx29, f29, -, -⟩ := f29
    obtain ⟨fx25, wx25, Gx25, f25, -, -⟩ := f25
    obtain ⟨fv5, wv5, G5, f30, hr5, hg5⟩ := f30
    have hA := hal.turned
    simp only [List.map_cons, List.map_nil, Act.turned, f26, f27, f28, f29, f25, f30, f31] at hA
    simp only [Act.put, List.setIfInBounds_toArray, List.set_cons_zero, List.set_cons_succ] at hA
    clear hal f26 f27 f28 f29 f25 f30 f31
    subst hA
    change wpList _ _ _ [_, _] _ _
    have HJ := hid (HO3.out.trans (hj.mono (fun _ _ e => e.elim)) (fun _ _ e => e))
    have HJ3 := hid hj
    have HR5 := hid hr5; have HG5 := hid hg5
    have hone := hr5.one
    obtain ⟨cl5, hcl5⟩ : ∃ x, rcells L2 fv5 wv5 = x := ⟨_, rfl⟩
    have hcs : cl5.size = 5 := by rw [← hcl5]; rfl
    rw [hcl5] at hone ⊢
    have HC5 := hid hcl5; have HONE := hid hone; have HCS := hid hcs
    have HCI : Hid ((Try.prog.info? 45).map (·.size) = some cl5.size) := hid (by rw [hcs]; exact info_rl)
    clear hj hr5 hg5 hone hcs hcl5
    go_wp2_with ((guard_target =~ wpList _ _ _ (⟨none, .store 45 (.tmp 4) _, _, _, _, _⟩ :: _) _ _); refine wpList_store_all rfl 45 (.tmp 4) (.tmp 30) rfl w.heap.size cl5 rfl rfl #[.int .i64 (Lr.size : Nat), .int .i64 (Lr.first : Nat), .int .i64 (Lr.tail : Nat), .slice fa Lr.frames.length fc, .slice qa Lr.waiting.length qc] 45 (HB4.out _ HJ.out) (by rw [HCS.out]; rfl) HCI.out HONE.out ?_; intro w5 hb5s ho5s hs5s; have HB5s := hid hb5s; have HO5s := hid ho5s; clear hb5s ho5s hs5s)
    refine NoPanic.normal ?_
    go_wp2_with (first | ((guard_target =~ wpList _ _ _ (⟨some 32, _, _, _, _, _⟩ :: _) _ _); refine wpList_load_row (o := ⟨some 32, _, _, _, _, _⟩) rfl 45 (.tmp 4) rfl w.heap.size rfl 45 cl5 (0, 0) _ HB5s.out Try.underlying45 rfl HCI.out ?_) | ((guard_target =~ wpList _ _ _ (⟨none, .store 45 (.tmp 6) _, _, _, _, _⟩ :: _) _ _); refine wpList_store_all rfl 45 (.tmp 6) (.tmp 32) rfl (w.heap.size + 1 + 1) cl5 rfl rfl #[.int .i64 0, .int .i64 0, .int .i64 0, .slice none 0 0, .slice none 0 0] 45 (blk_only (HB6.out _ HJ.out) HO5s.out (by show ¬ w.heap.size + 1 + 1 = w.heap.size; omega)) (by rw [HCS.out]; rfl) HCI.out HONE.out ?_; intro w6 hb6s ho6s hs6s; have HB6s := hid hb6s; have HO6s := hid ho6s; clear hb6s ho6s hs6s))
    have hO56 : Only (fun k => k = w.heap.size ∨ k = (w.heap.size + 1 + 1)) w4 w6 := (HO5s.out.mono (fun k _ e => .inl e)).trans (HO6s.out.mono (fun k _ e => .inr e)) (fun k _ e => e)
    have hz4 := HJ.out.size
    have hz3 := HS3.out
    have hz2 := HO02.out.size
    have hw : ∀ k, k < w.heap.size → ¬ (k = w.heap.size ∨ k = (w.heap.size + 1 + 1)) := fun k hk e => by omega
    have hF3 : ∀ k, F3 k → k < w.heap.size ∨ W0.heap.size ≤ k := fun k hk => (HN3.out k hk).elim (fun e => .inl (HFL.out k e)) (fun e => .inr (by omega))
    have hG5 : ∀ k, G5 k → k < w.heap.size ∨ W0.heap.size ≤ k := fun k hk => (HG5.out k hk).elim (fun e => .inl (HR.out.lt k e)) (fun e => .inr (by omega))
    exact bodyPost_ret (results_cell1 rfl _ _ (w.heap.size + 1 + 1) 45 cl5 (0, 0) _ rfl HB6s.out Try.underlying45 rfl HCI.out) rfl ⟨fv5, wv5, F3, G5, by rw [HLP.out, HAN.out, HC5.out]; rfl, by
      rw [HMP.out]
      exact (HL3.out.same HJ3.out).only hO56 (fun k hk e => by have := hF3 k hk; omega), by
      rw [HLP.out]
      exact HR5.out.only hO56 (fun k hk e => by have := hG5 k hk; omega), fun k hk hf => (HG5.out k hk).elim (fun e => (HN3.out k hf).elim (HSEP.out k e) (fun e' => by have := HR.out.lt k e; have := HO0.out.size; omega)) (fun e => by have := HL3.out.lt hf; omega), fun k hk => (HN3.out k hk).imp id (fun e => by have := HO0.out.size; omega), fun k hk => (HG5.out k hk).imp id (fun e => by have := HO0.out.size; omega), ((HO0.out.mono (fun _ _ e => e.elim)).trans HJ.out (fun _ _ e => e)).trans hO56 (fun k hk e => absurd e (hw k hk))⟩
set_option maxRecDepth 100000 in
set_option maxHeartbeats 6400000 in
theorem play1_c (h : LogAt w l b r M F) (hr : RLAt w Lr fv wv G) (hsep : ∀ k, G k → ¬ F k) (k o : Int) (s : List UInt8) {da : Option Addr} {dc : Nat} (hd : Src w (.slice da s.length dc) s) (hsl : s.length ≤ 100) (hds : ∀ g o, da = some ⟨g, o, none⟩ → s ≠ [] → ¬ F g) (hfit : M.R.first + M.R.count ≤ M.D.n) (htl : M.R.tail ≤ 4000000000000000000) (hT : Lr.tail ≤ 4000000000000000000) (hk : k = 1) :
    Calls Try.prog 16 #[.pointer (some ⟨l, 0, none⟩), .agg (rcells Lr fv wv), .agg #[.int .i64 k, .int .i64 o, .slice da s.length dc]] w (PPost w l b r M Lr F G k (rept (oftN o) s)) := by
  have HL := hid h; have HR := hid hr; have HS := hid hd; have HSEP := hid hsep; have HDS := hid hds
  obtain ⟨⟨fa, fc, rfl, -⟩, ⟨qa, qc, rfl, -⟩, -⟩ := hr
  obtain ⟨t, ht⟩ : ∃ x, rept (oftN o) s = x := ⟨_, rfl⟩
  have htl6 : t.length ≤ 6000 := by
    rw [← ht, rept_len]
    have h1 : oftN o ≤ 60 := by unfold oftN; omega
    have := Nat.mul_le_mul h1 hsl
    omega
  have HTX : Hid (∀ W, Only F w W → Calls Try.prog 38 #[.agg #[.int .i64 k, .int .i64 o, .slice da s.length dc]] W fun e w' => e = .returned (.string (strOf t)) ∧ Only (fun _ => False) W w') := hid fun W hW => by
    rw [← ht]
    refine text_c k o s (hd.only hW ?_) (by omega)
    intro hne g of c e hf
    simp only [Value.slice.injEq] at e
    exact hds g of e.1 hne hf
  have HSR : Hid (Src w (.slice da s.length dc) s) := hid hd
  rw [ht]
  clear ht h hsep hd hds
  obtain ⟨W0, hW0⟩ : ∃ x, ((w.alloc (.cells #[.int .i64 (Lr.size : Nat), .int .i64 (Lr.first : Nat), .int .i64 (Lr.tail : Nat), .slice fa Lr.frames.length fc, .slice qa Lr.waiting.length qc] 45)).alloc (.cells #[.int .i64 k, .int .i64 o, .slice da s.length dc] 47)).alloc (.cells #[.int .i64 0, .int .i64 0, .int .i64 0, .slice none 0 0, .slice none 0 0] 45) = x := ⟨_, rfl⟩
  have hO0 : Only (fun _ => False) w W0 := by rw [← hW0]; exact ((only_new _ _).trans (only_new _ _) (fun _ _ e => e)).trans (only_new _ _) (fun _ _ e => e)
  have HFL : Hid (∀ k, F k → k < w.heap.size) := hid fun k hk => HL.out.lt hk
  have HB4 : Hid (∀ W, Only F W0 W → W.heap[w.heap.size]? = some (.cells #[.int .i64 (Lr.size : Nat), .int .i64 (Lr.first : Nat), .int .i64 (Lr.tail : Nat), .slice fa Lr.frames.length fc, .slice qa Lr.waiting.length qc] 45 (0, 0))) := hid fun W hW => blk_only (by rw [← hW0]; exact blk_alloc (blk_alloc (blk_new _ _))) hW (fun e => by have := HFL.out _ e; omega)
  have HB5 : Hid (∀ W, Only F W0 W → W.heap[(w.heap.size + 1)]? = some (.cells #[.int .i64 k, .int .i64 o, .slice da s.length dc] 47 (0, 0))) := hid fun W hW => blk_only (by rw [← hW0]; exact blk_alloc (blk2w _ _ _)) hW (fun e => by have := HFL.out _ e; omega)
  have HB6 : Hid (∀ W, Only F W0 W → W.heap[(w.heap.size + 1 + 1)]? = some (.cells #[.int .i64 0, .int .i64 0, .int .i64 0, .slice none 0 0, .slice none 0 0] 45 (0, 0))) := hid fun W hW => blk_only (by rw [← hW0]; have := blk2w (w.alloc (.cells #[.int .i64 (Lr.size : Nat), .int .i64 (Lr.first : Nat), .int .i64 (Lr.tail : Nat), .slice fa Lr.frames.length fc, .slice qa Lr.waiting.length qc] 45)) (.cells #[.int .i64 k, .int .i64 o, .slice da s.length dc] 47) (.cells #[.int .i64 0, .int .i64 0, .int .i64 0, .slice none 0 0, .slice none 0 0] 45); rw [World.size_alloc] at this; exact this) hW (fun e => by have := HFL.out _ e; omega)
  have hz0 : (w.heap.size + 1 + 1) < W0.heap.size := by rw [← hW0]; simp
  have HO0 := hid hO0; have HW0 := hid hW0
  clear hO0 hW0
  unfold rcells
  have c50 : W0.cell? ⟨(w.heap.size + 1), 0, none⟩ = some (.int .i64 k) := cell_blk (HB5.out W0 (Only.refl _ _)) 0
  have hans : answ M Lr k t = (((M.commit.2.1 : Nat) : Int) == ((Lr.fit : Nat) : Int) && (M.commit.2.2 == if Lr.fit = Lr.waiting.length then 0 else 3)) := by unfold answ; subst hk; rfl
  have hmp : M.play k t = M.commit.1 := by unfold WM.play; subst hk; rfl
  have hlp : Lr.play k t = Lr.commit := by unfold RLog.play; subst hk; rfl
  have HAN := hid hans; have HMP := hid hmp; have HLP := hid hlp
  clear hans hmp hlp
  subst hk
  have HSB : Hid (Calls Try.prog 14 #[.pointer (some ⟨l, 0, none⟩)] W0 fun e w' => e = .returned (.tuple #[.int .i64 (M.commit.2.1 : Nat), .int .i64 M.commit.2.2]) ∧ LStep W0 w' l b r M.commit.1 F) := hid (commit_c (HL.out.same HO0.out) hfit (by omega))
  have HRF : Hid (∀ W, Only F w W → Calls Try.prog 40 #[.agg #[.int .i64 (Lr.size : Nat), .int .i64 (Lr.first : Nat), .int .i64 (Lr.tail : Nat), .slice fa Lr.frames.length fc, .slice qa Lr.waiting.length qc]] W fun e w' => ∃ fv' wv' G', e = .returned (.tuple #[.agg (rcells Lr.commit fv' wv'), .int .i64 (Lr.fit : Nat), .int .i64 (if Lr.fit = Lr.waiting.length then 0 else 3)]) ∧ RLAt w' Lr.commit fv' wv' G' ∧ (∀ k, G' k → G k ∨ W.heap.size ≤ k) ∧ Only (fun _ => False) W w') := hid fun W hW => rcommit_c (HR.out.only hW HSEP.out) hT
  obtain ⟨M2, hM2⟩ : ∃ x, M.commit.1 = x := ⟨_, rfl⟩
  obtain ⟨n1, hn1⟩ : ∃ x, M.commit.2.1 = x := ⟨_, rfl⟩
  obtain ⟨mc, hmc⟩ : ∃ x, M.commit.2.2 = x := ⟨_, rfl⟩
  obtain ⟨L2, hL2⟩ : ∃ x, Lr.commit = x := ⟨_, rfl⟩
  obtain ⟨lc, hlc⟩ : ∃ x : Int, (if Lr.fit = Lr.waiting.length then 0 else 3) = x := ⟨_, rfl⟩
  rw [hlc] at HAN HRF
  obtain ⟨n2, hn2⟩ : ∃ x, Lr.fit = x := ⟨_, rfl⟩
  rw [hM2] at HMP HSB
  rw [hmc] at HAN HSB
  rw [hn1] at HAN HSB
  rw [hL2] at HLP HRF
  rw [hn2] at HAN HRF
  clear hM2 hmc hL2 hlc hn1 hn2
  go_enter Try.func16, Try.ntmps16
  go_upto_region 1 with fail
  rw [HW0.out]
  go_wp2_with fail
  refine HSB.out.mono ?_
  rintro x w3 ⟨rfl, F3, hl3, ho3, hn3⟩
  have HO3 : Hid (Only F W0 w3) := hid ho3
  have HL3 := hid hl3; have HN3 := hid hn3; have HS3 := hid ho3.size
  have HOW3 : Hid (Only F w w3) := hid ((HO0.out.mono (fun _ _ e => e.elim)).trans HO3.out (fun _ _ e => e))
  clear hl3 hn3 ho3 c50 HSB
  go_upto_region 10 with fail
  go_wp2_with ((guard_target =~ wpList _ _ _ (⟨some 44, _, _, _, _, _⟩ :: _) _ _); refine wpList_load_row (o := ⟨some 44, _, _, _, _, _⟩) rfl 45 (.tmp 4) rfl w.heap.size rfl 45 #[.int .i64 (Lr.size : Nat), .int .i64 (Lr.first : Nat), .int .i64 (Lr.tail : Nat), .slice fa Lr.frames.length fc, .slice qa Lr.waiting.length qc] (0, 0) _ (HB4.out w3 HO3.out) Try.underlying45 rfl info_rl ?_)
  refine (HRF.out w3 HOW3.out).mono ?_
  rintro x w4 ⟨fv5, wv5, G5, rfl, hr5, hg5, hj⟩
  have HJ := hid (HO3.out.trans (hj.mono (fun _ _ e => e.elim)) (fun _ _ e => e))
  have HJ3 := hid hj
  have HR5 := hid hr5; have HG5 := hid hg5
  have hone := hr5.one
  obtain ⟨cl5, hcl5⟩ : ∃ x, rcells L2 fv5 wv5 = x := ⟨_, rfl⟩
  have hcs : cl5.size = 5 := by rw [← hcl5]; rfl
  rw [hcl5] at hone ⊢
  have HC5 := hid hcl5; have HONE := hid hone; have HCS := hid hcs
  have HCI : Hid ((Try.prog.info? 45).map (·.size) = some cl5.size) := hid (by rw [hcs]; exact info_rl)
  clear hj hr5 hg5 hone hcs hcl5 HRF
  obtain ⟨z, hz⟩ : ∃ z, ((n1 : Int) == (n2 : Int)) = z := ⟨_, rfl⟩
  have HZ := hid hz
  cases z with
  | true =>
    go_wp2_with (first | ((guard_target =~ wpList _ _ _ (⟨none, .store 45 (.tmp 4) _, _, _, _, _⟩ :: _) _ _); refine wpList_store_all rfl 45 (.tmp 4) (.tmp 46) rfl w.heap.size cl5 rfl rfl #[.int .i64 (Lr.size : Nat), .int .i64 (Lr.first : Nat), .int .i64 (Lr.tail : Nat), .slice fa Lr.frames.length fc, .slice qa Lr.waiting.length qc] 45 (HB4.out _ HJ.out) (by rw [HCS.out]; rfl) HCI.out HONE.out ?_; intro w5 hb5s ho5s hs5s; have HB5s := hid hb5s; have HO5s := hid ho5s; clear hb5s ho5s hs5s) | ((guard_target =~ wpList _ _ _ (⟨some 49, _, _, _, _, _⟩ :: _) _ _); refine wpList_load_row (o := ⟨some 49, _, _, _, _, _⟩) rfl 45 (.tmp 4) rfl w.heap.size rfl 45 cl5 (0, 0) _ HB5s.out Try.underlying45 rfl HCI.out ?_) | ((guard_target =~ wpList _ _ _ (⟨none, .store 45 (.tmp 6) _, _, _, _, _⟩ :: _) _ _); refine wpList_store_all rfl 45 (.tmp 6) (.tmp 49) rfl (w.heap.size + 1 + 1) cl5 rfl rfl #[.int .i64 0, .int .i64 0, .int .i64 0, .slice none 0 0, .slice none 0 0] 45 (blk_only (HB6.out _ HJ.out) HO5s.out (by show ¬ w.heap.size + 1 + 1 = w.heap.size; omega)) (by rw [HCS.out]; rfl) HCI.out HONE.out ?_; intro w6 hb6s ho6s hs6s; have HB6s := hid hb6s; have HO6s := hid ho6s; clear hb6s ho6s hs6s))
    have hO56 : Only (fun k => k = w.heap.size ∨ k = (w.heap.size + 1 + 1)) w4 w6 := (HO5s.out.mono (fun k _ e => .inl e)).trans (HO6s.out.mono (fun k _ e => .inr e)) (fun k _ e => e)
    have hz4 := HJ.out.size
    have hz3 := HS3.out
    have hw : ∀ k, k < w.heap.size → ¬ (k = w.heap.size ∨ k = (w.heap.size + 1 + 1)) := fun k hk e => by omega
    have hF3 : ∀ k, F3 k → k < w.heap.size ∨ W0.heap.size ≤ k := fun k hk => (HN3.out k hk).elim (fun e => .inl (HFL.out k e)) (fun e => .inr (by omega))
    have hG5 : ∀ k, G5 k → k < w.heap.size ∨ W0.heap.size ≤ k := fun k hk => (HG5.out k hk).elim (fun e => .inl (HR.out.lt k e)) (fun e => .inr (by omega))
    exact bodyPost_ret (results_cell1 rfl _ _ (w.heap.size + 1 + 1) 45 cl5 (0, 0) _ rfl HB6s.out Try.underlying45 rfl HCI.out) rfl ⟨fv5, wv5, F3, G5, by rw [HLP.out, HAN.out, HC5.out, HZ.out]; rfl, by
        rw [HMP.out]
        exact (HL3.out.same HJ3.out).only hO56 (fun k hk e => by have := hF3 k hk; omega), by
        rw [HLP.out]
        exact HR5.out.only hO56 (fun k hk e => by have := hG5 k hk; omega), fun k hk hf => (HG5.out k hk).elim (fun e => (HN3.out k hf).elim (HSEP.out k e) (fun e' => by have := HR.out.lt k e; have := HO0.out.size; omega)) (fun e => by have := HL3.out.lt hf; omega), fun k hk => (HN3.out k hk).imp id (fun e => by have := HO0.out.size; omega), fun k hk => (HG5.out k hk).imp id (fun e => by have := HO0.out.size; omega), ((HO0.out.mono (fun _ _ e => e.elim)).trans HJ.out (fun _ _ e => e)).trans hO56 (fun k hk e => absurd e (hw k hk))⟩
  | false =>
    go_wp2_with (first | ((guard_target =~ wpList _ _ _ (⟨none, .store 45 (.tmp 4) _, _, _, _, _⟩ :: _) _ _); refine wpList_store_all rfl 45 (.tmp 4) (.tmp 46) rfl w.heap.size cl5 rfl rfl #[.int .i64 (Lr.size : Nat), .int .i64 (Lr.first : Nat), .int .i64 (Lr.tail : Nat), .slice fa Lr.frames.length fc, .slice qa Lr.waiting.length qc] 45 (HB4.out _ HJ.out) (by rw [HCS.out]; rfl) HCI.out HONE.out ?_; intro w5 hb5s ho5s hs5s; have HB5s := hid hb5s; have HO5s := hid ho5s; clear hb5s ho5s hs5s) | ((guard_target =~ wpList _ _ _ (⟨some 49, _, _, _, _, _⟩ :: _) _ _); refine wpList_load_row (o := ⟨some 49, _, _, _, _, _⟩) rfl 45 (.tmp 4) rfl w.heap.size rfl 45 cl5 (0, 0) _ HB5s.out Try.underlying45 rfl HCI.out ?_) | ((guard_target =~ wpList _ _ _ (⟨none, .store 45 (.tmp 6) _, _, _, _, _⟩ :: _) _ _); refine wpList_store_all rfl 45 (.tmp 6) (.tmp 49) rfl (w.heap.size + 1 + 1) cl5 rfl rfl #[.int .i64 0, .int .i64 0, .int .i64 0, .slice none 0 0, .slice none 0 0] 45 (blk_only (HB6.out _ HJ.out) HO5s.out (by show ¬ w.heap.size + 1 + 1 = w.heap.size; omega)) (by rw [HCS.out]; rfl) HCI.out HONE.out ?_; intro w6 hb6s ho6s hs6s; have HB6s := hid hb6s; have HO6s := hid ho6s; clear hb6s ho6s hs6s))
    have hO56 : Only (fun k => k = w.heap.size ∨ k = (w.heap.size + 1 + 1)) w4 w6 := (HO5s.out.mono (fun k _ e => .inl e)).trans (HO6s.out.mono (fun k _ e => .inr e)) (fun k _ e => e)
    have hz4 := HJ.out.size
    have hz3 := HS3.out
    have hw : ∀ k, k < w.heap.size → ¬ (k = w.heap.size ∨ k = (w.heap.size + 1 + 1)) := fun k hk e => by omega
    have hF3 : ∀ k, F3 k → k < w.heap.size ∨ W0.heap.size ≤ k := fun k hk => (HN3.out k hk).elim (fun e => .inl (HFL.out k e)) (fun e => .inr (by omega))
    have hG5 : ∀ k, G5 k → k < w.heap.size ∨ W0.heap.size ≤ k := fun k hk => (HG5.out k hk).elim (fun e => .inl (HR.out.lt k e)) (fun e => .inr (by omega))
    exact bodyPost_ret (results_cell1 rfl _ _ (w.heap.size + 1 + 1) 45 cl5 (0, 0) _ rfl HB6s.out Try.underlying45 rfl HCI.out) rfl ⟨fv5, wv5, F3, G5, by rw [HLP.out, HAN.out, HC5.out, HZ.out]; rfl, by
        rw [HMP.out]
        exact (HL3.out.same HJ3.out).only hO56 (fun k hk e => by have := hF3 k hk; omega), by
        rw [HLP.out]
        exact HR5.out.only hO56 (fun k hk e => by have := hG5 k hk; omega), fun k hk hf => (HG5.out k hk).elim (fun e => (HN3.out k hf).elim (HSEP.out k e) (fun e' => by have := HR.out.lt k e; have := HO0.out.size; omega)) (fun e => by have := HL3.out.lt hf; omega), fun k hk => (HN3.out k hk).imp id (fun e => by have := HO0.out.size; omega), fun k hk => (HG5.out k hk).imp id (fun e => by have := HO0.out.size; omega), ((HO0.out.mono (fun _ _ e => e.elim)).trans HJ.out (fun _ _ e => e)).trans hO56 (fun k hk e => absurd e (hw k hk))⟩
set_option maxRecDepth 100000 in
set_option maxHeartbeats 6400000 in
theorem play2_c (h : LogAt w l b r M F) (hr : RLAt w Lr fv wv G) (hsep : ∀ k, G k → ¬ F k) (k o : Int) (s : List UInt8) {da : Option Addr} {dc : Nat} (hd : Src w (.slice da s.length dc) s) (hsl : s.length ≤ 100) (hds : ∀ g o, da = some ⟨g, o, none⟩ → s ≠ [] → ¬ F g) (hfit : M.R.first + M.R.count ≤ M.D.n) (htl : M.R.tail ≤ 4000000000000000000) (hT : Lr.tail ≤ 4000000000000000000) (hk : k = 2) :
    Calls Try.prog 16 #[.pointer (some ⟨l, 0, none⟩), .agg (rcells Lr fv wv), .agg #[.int .i64 k, .int .i64 o, .slice da s.length dc]] w (PPost w l b r M Lr F G k (rept (oftN o) s)) := by
  have HL := hid h; have HR := hid hr; have HS := hid hd; have HSEP := hid hsep; have HDS := hid hds
  obtain ⟨⟨fa, fc, rfl, -⟩, ⟨qa, qc, rfl, -⟩, -⟩ := hr
  obtain ⟨t, ht⟩ : ∃ x, rept (oftN o) s = x := ⟨_, rfl⟩
  have htl6 : t.length ≤ 6000 := by
    rw [← ht, rept_len]
    have h1 : oftN o ≤ 60 := by unfold oftN; omega
    have := Nat.mul_le_mul h1 hsl
    omega
  have HTX : Hid (∀ W, Only F w W → Calls Try.prog 38 #[.agg #[.int .i64 k, .int .i64 o, .slice da s.length dc]] W fun e w' => e = .returned (.string (strOf t)) ∧ Only (fun _ => False) W w') := hid fun W hW => by
    rw [← ht]
    refine text_c k o s (hd.only hW ?_) (by omega)
    intro hne g of c e hf
    simp only [Value.slice.injEq] at e
    exact hds g of e.1 hne hf
  have HSR : Hid (Src w (.slice da s.length dc) s) := hid hd
  rw [ht]
  clear ht h hsep hd hds
  obtain ⟨W0, hW0⟩ : ∃ x, ((w.alloc (.cells #[.int .i64 (Lr.size : Nat), .int .i64 (Lr.first : Nat), .int .i64 (Lr.tail : Nat), .slice fa Lr.frames.length fc, .slice qa Lr.waiting.length qc] 45)).alloc (.cells #[.int .i64 k, .int .i64 o, .slice da s.length dc] 47)).alloc (.cells #[.int .i64 0, .int .i64 0, .int .i64 0, .slice none 0 0, .slice none 0 0] 45) = x := ⟨_, rfl⟩
  have hO0 : Only (fun _ => False) w W0 := by rw [← hW0]; exact ((only_new _ _).trans (only_new _ _) (fun _ _ e => e)).trans (only_new _ _) (fun _ _ e => e)
  have HFL : Hid (∀ k, F k → k < w.heap.size) := hid fun k hk => HL.out.lt hk
  have HB4 : Hid (∀ W, Only F W0 W → W.heap[w.heap.size]? = some (.cells #[.int .i64 (Lr.size : Nat), .int .i64 (Lr.first : Nat), .int .i64 (Lr.tail : Nat), .slice fa Lr.frames.length fc, .slice qa Lr.waiting.length qc] 45 (0, 0))) := hid fun W hW => blk_only (by rw [← hW0]; exact blk_alloc (blk_alloc (blk_new _ _))) hW (fun e => by have := HFL.out _ e; omega)
  have HB5 : Hid (∀ W, Only F W0 W → W.heap[(w.heap.size + 1)]? = some (.cells #[.int .i64 k, .int .i64 o, .slice da s.length dc] 47 (0, 0))) := hid fun W hW => blk_only (by rw [← hW0]; exact blk_alloc (blk2w _ _ _)) hW (fun e => by have := HFL.out _ e; omega)
  have HB6 : Hid (∀ W, Only F W0 W → W.heap[(w.heap.size + 1 + 1)]? = some (.cells #[.int .i64 0, .int .i64 0, .int .i64 0, .slice none 0 0, .slice none 0 0] 45 (0, 0))) := hid fun W hW => blk_only (by rw [← hW0]; have := blk2w (w.alloc (.cells #[.int .i64 (Lr.size : Nat), .int .i64 (Lr.first : Nat), .int .i64 (Lr.tail : Nat), .slice fa Lr.frames.length fc, .slice qa Lr.waiting.length qc] 45)) (.cells #[.int .i64 k, .int .i64 o, .slice da s.length dc] 47) (.cells #[.int .i64 0, .int .i64 0, .int .i64 0, .slice none 0 0, .slice none 0 0] 45); rw [World.size_alloc] at this; exact this) hW (fun e => by have := HFL.out _ e; omega)
  have hz0 : (w.heap.size + 1 + 1) < W0.heap.size := by rw [← hW0]; simp
  have HO0 := hid hO0; have HW0 := hid hW0
  clear hO0 hW0
  unfold rcells
  have c50 : W0.cell? ⟨(w.heap.size + 1), 0, none⟩ = some (.int .i64 k) := cell_blk (HB5.out W0 (Only.refl _ _)) 0
  have hans : answ M Lr k t = true := by unfold answ; subst hk; rfl
  have hmp : M.play k t = { M with wait := [] } := by unfold WM.play; subst hk; rfl
  have hlp : Lr.play k t = { Lr with waiting := [] } := by unfold RLog.play; subst hk; rfl
  have HAN := hid hans; have HMP := hid hmp; have HLP := hid hlp
  clear hans hmp hlp
  subst hk
  have HSB := hid (drop_c (HL.out.same HO0.out))
  go_enter Try.func16, Try.ntmps16
  go_upto_region 1 with fail
  rw [HW0.out]
  go_wp2_with fail
  refine HSB.out.mono ?_
  rintro x w3 ⟨rfl, hl3, ho3⟩
  have HO3 : Hid (Only F W0 w3) := hid ho3
  have HL3 := hid hl3; have HS3 := hid ho3.size
  have HN3 : Hid (∀ k, F k → F k ∨ W0.heap.size ≤ k) := hid fun k hk => .inl hk
  clear hl3 ho3 c50 HSB
  have hb4 := HB4.out w3 HO3.out
  have c44 : w3.cell? ⟨w.heap.size, 4, none⟩ = some (.slice qa Lr.waiting.length qc) := cell_blk hb4 4
  have z44 := frozen_blk hb4
  have hb4' : (w3.setCell ⟨w.heap.size, 4, none⟩ (.slice none 0 0)).heap[w.heap.size]? = some (.cells #[.int .i64 (Lr.size : Nat), .int .i64 (Lr.first : Nat), .int .i64 (Lr.tail : Nat), .slice fa Lr.frames.length fc, .slice none 0 0] 45 (0, 0)) := by
    have := blk_set hb4 4 (.slice none 0 0)
    simpa using this
  have HB4' := hid hb4'
  have HO4' : Hid (Only (fun k => k = w.heap.size) w3 (w3.setCell ⟨w.heap.size, 4, none⟩ (.slice none 0 0))) := hid (only_set _ 4 _)
  clear hb4 hb4'
  go_upto_region 20 with fail
  obtain ⟨w4, hw4⟩ : ∃ x, w3.setCell ⟨w.heap.size, 4, none⟩ (.slice none 0 0) = x := ⟨_, rfl⟩
  rw [hw4] at HB4' HO4' ⊢
  clear hw4 c44 z44
  have HJ := hid HO3.out
  have HJ3 := hid (Only.refl (fun _ => False) w3)
  have HGL : Hid (∀ k, G k → G k ∨ w3.heap.size ≤ k) := hid fun k hk => .inl hk
  go_wp2_with (first | ((guard_target =~ wpList _ _ _ (⟨some 81, _, _, _, _, _⟩ :: _) _ _); refine wpList_load_row (o := ⟨some 81, _, _, _, _, _⟩) rfl 45 (.tmp 4) rfl w.heap.size rfl 45 #[.int .i64 (Lr.size : Nat), .int .i64 (Lr.first : Nat), .int .i64 (Lr.tail : Nat), .slice fa Lr.frames.length fc, .slice none 0 0] (0, 0) _ HB4'.out Try.underlying45 rfl info_rl ?_) | ((guard_target =~ wpList _ _ _ (⟨none, .store 45 (.tmp 6) _, _, _, _, _⟩ :: _) _ _); refine wpList_store_all rfl 45 (.tmp 6) (.tmp 81) rfl (w.heap.size + 1 + 1) #[.int .i64 (Lr.size : Nat), .int .i64 (Lr.first : Nat), .int .i64 (Lr.tail : Nat), .slice fa Lr.frames.length fc, .slice none 0 0] rfl rfl #[.int .i64 0, .int .i64 0, .int .i64 0, .slice none 0 0, .slice none 0 0] 45 (blk_only (HB6.out _ HJ.out) HO4'.out (by show ¬ w.heap.size + 1 + 1 = w.heap.size; omega)) rfl info_rl (by simp [Value.oneCell']) ?_; intro w6 hb6s ho6s hs6s; have HB6s := hid hb6s; have HO6s := hid ho6s; clear hb6s ho6s hs6s))
  have hO56 : Only (fun k => k = w.heap.size ∨ k = (w.heap.size + 1 + 1)) w3 w6 := (HO4'.out.mono (fun k _ e => .inl e)).trans (HO6s.out.mono (fun k _ e => .inr e)) (fun k _ e => e)
  have HRD : Hid (RLAt w3 { Lr with waiting := [] } (.slice fa Lr.frames.length fc) (.slice none 0 0) G) := hid (by
    have h := HR.out.only ((HO0.out.mono (fun _ _ e => e.elim)).trans HO3.out (fun _ _ e => e)) HSEP.out
    exact ⟨h.f, SlV.nil _ _ _, h.sz, h.ft, h.rm, h.nf, Nat.zero_le _, (fun _ hs => nomatch hs), h.lt⟩)
  have hz4 := HJ.out.size
  have hz3 := HS3.out
  have hw : ∀ k, k < w.heap.size → ¬ (k = w.heap.size ∨ k = (w.heap.size + 1 + 1)) := fun k hk e => by omega
  have hF3 : ∀ k, F k → k < w.heap.size ∨ W0.heap.size ≤ k := fun k hk => (HN3.out k hk).elim (fun e => .inl (HFL.out k e)) (fun e => .inr (by omega))
  have hG5 : ∀ k, G k → k < w.heap.size ∨ W0.heap.size ≤ k := fun k hk => (HGL.out k hk).elim (fun e => .inl (HR.out.lt k e)) (fun e => .inr (by omega))
  exact bodyPost_ret (results_cell1 rfl _ _ (w.heap.size + 1 + 1) 45 #[.int .i64 (Lr.size : Nat), .int .i64 (Lr.first : Nat), .int .i64 (Lr.tail : Nat), .slice fa Lr.frames.length fc, .slice none 0 0] (0, 0) _ rfl HB6s.out Try.underlying45 rfl info_rl) rfl ⟨.slice fa Lr.frames.length fc, .slice none 0 0, F, G, by rw [HLP.out, HAN.out]; rfl, by
      rw [HMP.out]
      exact (HL3.out.same HJ3.out).only hO56 (fun k hk e => by have := hF3 k hk; omega), by
      rw [HLP.out]
      exact HRD.out.only hO56 (fun k hk e => by have := hG5 k hk; omega), fun k hk hf => (HGL.out k hk).elim (fun e => (HN3.out k hf).elim (HSEP.out k e) (fun e' => by have := HR.out.lt k e; have := HO0.out.size; omega)) (fun e => by have := HL3.out.lt hf; omega), fun k hk => (HN3.out k hk).imp id (fun e => by have := HO0.out.size; omega), fun k hk => (HGL.out k hk).imp id (fun e => by have := HO0.out.size; omega), ((HO0.out.mono (fun _ _ e => e.elim)).trans HJ.out (fun _ _ e => e)).trans hO56 (fun k hk e => absurd e (hw k hk))⟩
set_option maxRecDepth 100000 in
set_option maxHeartbeats 6400000 in
theorem play3_c (h : LogAt w l b r M F) (hr : RLAt w Lr fv wv G) (hsep : ∀ k, G k → ¬ F k) (k o : Int) (s : List UInt8) {da : Option Addr} {dc : Nat} (hd : Src w (.slice da s.length dc) s) (hsl : s.length ≤ 100) (hds : ∀ g o, da = some ⟨g, o, none⟩ → s ≠ [] → ¬ F g) (hfit : M.R.first + M.R.count ≤ M.D.n) (htl : M.R.tail ≤ 4000000000000000000) (hT : Lr.tail ≤ 4000000000000000000) (hk : k = 3) :
    Calls Try.prog 16 #[.pointer (some ⟨l, 0, none⟩), .agg (rcells Lr fv wv), .agg #[.int .i64 k, .int .i64 o, .slice da s.length dc]] w (PPost w l b r M Lr F G k (rept (oftN o) s)) := by
  have HL := hid h; have HR := hid hr; have HS := hid hd; have HSEP := hid hsep; have HDS := hid hds
  obtain ⟨⟨fa, fc, rfl, -⟩, ⟨qa, qc, rfl, -⟩, -⟩ := hr
  obtain ⟨t, ht⟩ : ∃ x, rept (oftN o) s = x := ⟨_, rfl⟩
  have htl6 : t.length ≤ 6000 := by
    rw [← ht, rept_len]
    have h1 : oftN o ≤ 60 := by unfold oftN; omega
    have := Nat.mul_le_mul h1 hsl
    omega
  have HTX : Hid (∀ W, Only F w W → Calls Try.prog 38 #[.agg #[.int .i64 k, .int .i64 o, .slice da s.length dc]] W fun e w' => e = .returned (.string (strOf t)) ∧ Only (fun _ => False) W w') := hid fun W hW => by
    rw [← ht]
    refine text_c k o s (hd.only hW ?_) (by omega)
    intro hne g of c e hf
    simp only [Value.slice.injEq] at e
    exact hds g of e.1 hne hf
  have HSR : Hid (Src w (.slice da s.length dc) s) := hid hd
  rw [ht]
  clear ht h hsep hd hds
  obtain ⟨W0, hW0⟩ : ∃ x, ((w.alloc (.cells #[.int .i64 (Lr.size : Nat), .int .i64 (Lr.first : Nat), .int .i64 (Lr.tail : Nat), .slice fa Lr.frames.length fc, .slice qa Lr.waiting.length qc] 45)).alloc (.cells #[.int .i64 k, .int .i64 o, .slice da s.length dc] 47)).alloc (.cells #[.int .i64 0, .int .i64 0, .int .i64 0, .slice none 0 0, .slice none 0 0] 45) = x := ⟨_, rfl⟩
  have hO0 : Only (fun _ => False) w W0 := by rw [← hW0]; exact ((only_new _ _).trans (only_new _ _) (fun _ _ e => e)).trans (only_new _ _) (fun _ _ e => e)
  have HFL : Hid (∀ k, F k → k < w.heap.size) := hid fun k hk => HL.out.lt hk
  have HB4 : Hid (∀ W, Only F W0 W → W.heap[w.heap.size]? = some (.cells #[.int .i64 (Lr.size : Nat), .int .i64 (Lr.first : Nat), .int .i64 (Lr.tail : Nat), .slice fa Lr.frames.length fc, .slice qa Lr.waiting.length qc] 45 (0, 0))) := hid fun W hW => blk_only (by rw [← hW0]; exact blk_alloc (blk_alloc (blk_new _ _))) hW (fun e => by have := HFL.out _ e; omega)
  have HB5 : Hid (∀ W, Only F W0 W → W.heap[(w.heap.size + 1)]? = some (.cells #[.int .i64 k, .int .i64 o, .slice da s.length dc] 47 (0, 0))) := hid fun W hW => blk_only (by rw [← hW0]; exact blk_alloc (blk2w _ _ _)) hW (fun e => by have := HFL.out _ e; omega)
  have HB6 : Hid (∀ W, Only F W0 W → W.heap[(w.heap.size + 1 + 1)]? = some (.cells #[.int .i64 0, .int .i64 0, .int .i64 0, .slice none 0 0, .slice none 0 0] 45 (0, 0))) := hid fun W hW => blk_only (by rw [← hW0]; have := blk2w (w.alloc (.cells #[.int .i64 (Lr.size : Nat), .int .i64 (Lr.first : Nat), .int .i64 (Lr.tail : Nat), .slice fa Lr.frames.length fc, .slice qa Lr.waiting.length qc] 45)) (.cells #[.int .i64 k, .int .i64 o, .slice da s.length dc] 47) (.cells #[.int .i64 0, .int .i64 0, .int .i64 0, .slice none 0 0, .slice none 0 0] 45); rw [World.size_alloc] at this; exact this) hW (fun e => by have := HFL.out _ e; omega)
  have hz0 : (w.heap.size + 1 + 1) < W0.heap.size := by rw [← hW0]; simp
  have HO0 := hid hO0; have HW0 := hid hW0
  clear hO0 hW0
  unfold rcells
  have c50 : W0.cell? ⟨(w.heap.size + 1), 0, none⟩ = some (.int .i64 k) := cell_blk (HB5.out W0 (Only.refl _ _)) 0
  have hans : answ M Lr k t = ((M.checkpoint t).2 == (Lr.check t).2) := by unfold answ; subst hk; rfl
  have hmp : M.play k t = (M.checkpoint t).1 := by unfold WM.play; subst hk; rfl
  have hlp : Lr.play k t = (Lr.check t).1 := by unfold RLog.play; subst hk; rfl
  have HAN := hid hans; have HMP := hid hmp; have HLP := hid hlp
  clear hans hmp hlp
  subst hk
  have HSB : Hid (∀ W pa pc, Only (fun _ => False) w W → Src W (.slice pa t.length pc) t → (t ≠ [] → ∀ g o, pa = some ⟨g, o, none⟩ → ¬ F g) → t.length ≤ pc → Calls Try.prog 28 #[.pointer (some ⟨l, 0, none⟩), .slice pa t.length pc] W fun e w' => e = .returned (.int .i64 (M.checkpoint t).2) ∧ LStep W w' l b r (M.checkpoint t).1 F) := hid fun W pa pc hW hs h1 h2 => checkpoint_c (HL.out.same hW) hfit (by omega) hs h2 (by omega) h1
  have HRF : Hid (∀ W, Only F w W → Calls Try.prog 42 #[.agg #[.int .i64 (Lr.size : Nat), .int .i64 (Lr.first : Nat), .int .i64 (Lr.tail : Nat), .slice fa Lr.frames.length fc, .slice qa Lr.waiting.length qc], .string (strOf t)] W fun e w' => ∃ fv' wv' G', e = .returned (.tuple #[.agg (rcells (Lr.check t).1 fv' wv'), .int .i64 (Lr.check t).2]) ∧ RLAt w' (Lr.check t).1 fv' wv' G' ∧ (∀ k, G' k → G k ∨ W.heap.size ≤ k) ∧ Only (fun _ => False) W w') := hid fun W hW => rcheckpoint_c (HR.out.only hW HSEP.out) hT t (by omega) (by have := cut_room Lr.tail t; omega)
  obtain ⟨M2, hM2⟩ : ∃ x, (M.checkpoint t).1 = x := ⟨_, rfl⟩
  obtain ⟨mc, hmc⟩ : ∃ x, (M.checkpoint t).2 = x := ⟨_, rfl⟩
  obtain ⟨L2, hL2⟩ : ∃ x, (Lr.check t).1 = x := ⟨_, rfl⟩
  obtain ⟨lc, hlc⟩ : ∃ x, (Lr.check t).2 = x := ⟨_, rfl⟩
  rw [hM2] at HMP HSB
  rw [hmc] at HAN HSB
  rw [hL2] at HLP HRF
  rw [hlc] at HAN HRF
  clear hM2 hmc hL2 hlc
  go_enter Try.func16, Try.ntmps16
  go_upto_region 1 with fail
  rw [HW0.out]
  go_upto_region 16 with fail
  go_wp2_with ((guard_target =~ wpList _ _ _ (⟨some 66, _, _, _, _, _⟩ :: _) _ _); refine wpList_load_row (o := ⟨some 66, _, _, _, _, _⟩) rfl 47 (.tmp 5) rfl (w.heap.size + 1) rfl 47 #[.int .i64 3, .int .i64 o, .slice da s.length dc] (0, 0) _ (HB5.out W0 (Only.refl _ _)) Try.underlying47 rfl info_op8 ?_)
  refine (HTX.out W0 (HO0.out.mono (fun _ _ e => e.elim))).mono ?_
  rintro x w1 ⟨rfl, ho1⟩
  have hcv := conv_bytes w1 t
  have hso := conv_bytes_src w1 t
  have hoo := bytesWorld_only w1 5 (strOf t)
  have hcp := grownCap_ge w1 t.length 0 5
  obtain ⟨W2, hW2⟩ : ∃ x, Go.Lib.bytesWorld w1 5 (strOf t) = x := ⟨_, rfl⟩
  obtain ⟨cp, hcpe⟩ : ∃ x, grownCap w1 t.length 0 5 = x := ⟨_, rfl⟩
  rw [hW2, hcpe] at hcv
  rw [hW2, hcpe] at hso
  rw [hW2] at hoo
  rw [hcpe] at hcp
  have HO02 : Hid (Only (fun _ => False) W0 W2) := hid (ho1.trans hoo (fun _ _ e => e))
  have hsz1 := ho1.size
  have HSB2 := hid (HSB.out W2 _ _ (HO0.out.trans HO02.out (fun _ _ e => e)) hso (fun _ g o e hf => by
    simp only [Option.some.injEq, Addr.mk.injEq, and_true] at e
    have := HFL.out g hf
    omega) hcp)
  clear hso hoo hcp hW2 hcpe ho1 hsz1
  go_wp2_with fail
  refine HSB2.out.mono ?_
  rintro x w3 ⟨rfl, F3, hl3, ho3, hn3⟩
  have HO3 : Hid (Only F W0 w3) := hid ((HO02.out.mono (fun _ _ e => e.elim)).trans ho3 (fun _ _ e => e))
  have HL3 := hid hl3; have HN3 := hid hn3; have HS3 := hid ho3.size
  have HOW3 : Hid (Only F w w3) := hid ((HO0.out.mono (fun _ _ e => e.elim)).trans HO3.out (fun _ _ e => e))
  clear hl3 hn3 ho3 hcv c50
  go_upto_region 18 with fail
  have HTX3 : Hid (∀ W, Only (fun _ => False) w3 W → Calls Try.prog 38 #[.agg #[.int .i64 3, .int .i64 o, .slice da s.length dc]] W fun e w' => e = .returned (.string (strOf t)) ∧ Only (fun _ => False) W w') := hid fun W hW => HTX.out W (HOW3.out.trans (hW.mono (fun _ _ e => e.elim)) (fun _ _ e => e))
  have HRF3 : Hid (∀ W, Only (fun _ => False) w3 W → Calls Try.prog 42 #[.agg #[.int .i64 (Lr.size : Nat), .int .i64 (Lr.first : Nat), .int .i64 (Lr.tail : Nat), .slice fa Lr.frames.length fc, .slice qa Lr.waiting.length qc], .string (strOf t)] W fun e w' => ∃ fv' wv' G', e = .returned (.tuple #[.agg (rcells L2 fv' wv'), .int .i64 lc]) ∧ RLAt w' L2 fv' wv' G' ∧ (∀ k, G' k → G k ∨ W.heap.size ≤ k) ∧ Only (fun _ => False) W w') := hid fun W hW => HRF.out W (HOW3.out.trans (hW.mono (fun _ _ e => e.elim)) (fun _ _ e => e))
  refine wp_region_noPanic ?_
  refine region_pt 7 [6] (by kernel_rfl) (by kernel_rfl) (by kernel_rfl) [(71, fun _ v => v = .agg #[.int .i64 (Lr.size : Nat), .int .i64 (Lr.first : Nat), .int .i64 (Lr.tail : Nat), .slice fa Lr.frames.length fc, .slice qa Lr.waiting.length qc]), (72, fun _ v => v = .agg #[.int .i64 3, .int .i64 o, .slice da s.length dc]), (73, fun _ v => v = .string (strOf t)), (74, fun W v => ∃ fv' wv' G', v = .tuple #[.agg (rcells L2 fv' wv'), .int .i64 lc] ∧ RLAt W L2 fv' wv' G' ∧ ∀ k, G' k → G k ∨ w3.heap.size ≤ k), (70, fun W v => ∃ fv' wv' G', v = .tuple #[.agg (rcells L2 fv' wv'), .int .i64 lc] ∧ RLAt W L2 fv' wv' G' ∧ ∀ k, G' k → G k ∨ w3.heap.size ≤ k), (75, fun W v => ∃ fv' wv' G', v = .agg (rcells L2 fv' wv') ∧ RLAt W L2 fv' wv' G' ∧ ∀ k, G' k → G k ∨ w3.heap.size ≤ k), (76, fun _ v => v = .int .i64 lc)] (fun _ W => Only (fun _ => False) w3 W) (by show [71, 72, 73, 74, 70, 75, 76].Nodup; decide) (by show ∀ d ∈ [71, 72, 73, 74, 70, 75, 76], d < 82; decide) ((Only.refl _ _).drew) (.inr (fun _ _ _ _ _ h => h)) ?_ ?_ ?_
  · refine ⟨?_, trivial⟩
    · refine ⟨_, _, _, _, rfl, rfl, rfl, fun _ _ h => h, fun L a W hI hd => ?_⟩
      have f70 := hI.fact 4 70 _ rfl (dep_of hd 4 (by kernel_rfl))
      obtain ⟨fv', wv', G', e9, hr', hg'⟩ := f70
      exact ⟨.int .i64 lc, fun W => by unfold execOp; simp only [e9]; kernel_rfl, fun W => rfl⟩
  · have hstab : PtStabs (Only (fun _ => False)) [(71, fun _ v => v = .agg #[.int .i64 (Lr.size : Nat), .int .i64 (Lr.first : Nat), .int .i64 (Lr.tail : Nat), .slice fa Lr.frames.length fc, .slice qa Lr.waiting.length qc]), (72, fun _ v => v = .agg #[.int .i64 3, .int .i64 o, .slice da s.length dc]), (73, fun _ v => v = .string (strOf t)), (74, fun W v => ∃ fv' wv' G', v = .tuple #[.agg (rcells L2 fv' wv'), .int .i64 lc] ∧ RLAt W L2 fv' wv' G' ∧ ∀ k, G' k → G k ∨ w3.heap.size ≤ k), (70, fun W v => ∃ fv' wv' G', v = .tuple #[.agg (rcells L2 fv' wv'), .int .i64 lc] ∧ RLAt W L2 fv' wv' G' ∧ ∀ k, G' k → G k ∨ w3.heap.size ≤ k), (75, fun W v => ∃ fv' wv' G', v = .agg (rcells L2 fv' wv') ∧ RLAt W L2 fv' wv' G' ∧ ∀ k, G' k → G k ∨ w3.heap.size ≤ k), (76, fun _ v => v = .int .i64 lc)] := ⟨fun _ _ _ _ h => h, fun _ _ _ _ h => h, fun _ _ _ _ h => h, fun W W' v hr ⟨fv', wv', G', h1, h2, h3⟩ => ⟨fv', wv', G', h1, h2.same hr, h3⟩, fun W W' v hr ⟨fv', wv', G', h1, h2, h3⟩ => ⟨fv', wv', G', h1, h2.same hr, h3⟩, fun W W' v hr ⟨fv', wv', G', h1, h2, h3⟩ => ⟨fv', wv', G', h1, h2.same hr, h3⟩, fun _ _ _ _ h => h, trivial⟩
    refine PtAllS.cons rfl ⟨rfl, rfl⟩ ?_ (PtAllS.cons rfl ⟨rfl, rfl⟩ ?_ (PtAllS.cons rfl ⟨rfl, rfl⟩ ?_ (PtAllS.cons rfl ⟨rfl, rfl⟩ ?_ (PtAllS.cons rfl ⟨rfl, rfl⟩ ?_ (PtAllS.cons rfl ⟨rfl, rfl⟩ ?_ (PtAllS.cons rfl ⟨rfl, rfl⟩ ?_ (PtAllS.nil rfl)))))))
    · intro L a W K hI hn hd hK
      have e4 : a.eval (.tmp 4) = .pointer (some ⟨w.heap.size, 0, none⟩) := hI.ev 4 (by show ¬ (4 ∈ [71, 72, 73, 74, 70, 75, 76]); decide) rfl
      exact wp_load_row _ (.tmp 4) rfl (w.heap.size) e4 45 (#[.int .i64 (Lr.size : Nat), .int .i64 (Lr.first : Nat), .int .i64 (Lr.tail : Nat), .slice fa Lr.frames.length fc, .slice qa Lr.waiting.length qc]) (0, 0) _ (HB4.out _ ((HO3.out.trans (hI.j.mono (fun _ _ e => e.elim)) (fun _ _ e => e)))) Try.underlying45 rfl (info_rl) (hK _ _ hI.j PtKeep.refl rfl)
    · intro L a W K hI hn hd hK
      have e5 : a.eval (.tmp 5) = .pointer (some ⟨(w.heap.size + 1), 0, none⟩) := hI.ev 5 (by show ¬ (5 ∈ [71, 72, 73, 74, 70, 75, 76]); decide) rfl
      exact wp_load_row _ (.tmp 5) rfl ((w.heap.size + 1)) e5 47 (#[.int .i64 3, .int .i64 o, .slice da s.length dc]) (0, 0) _ (HB5.out _ ((HO3.out.trans (hI.j.mono (fun _ _ e => e.elim)) (fun _ _ e => e)))) Try.underlying47 rfl (info_op8) (hK _ _ hI.j PtKeep.refl rfl)
    · intro L a W K hI hn hd hK
      have e72 : a.eval (.tmp 72) = .agg #[.int .i64 3, .int .i64 o, .slice da s.length dc] := hI.fact 1 72 _ rfl (dep_of hd 1 (by kernel_rfl))
      refine wp_callc (f := 38) (args := #[a.eval (.tmp 72)]) (by kernel_rfl) ?_
      rw [e72]
      refine (HTX3.out _ hI.j).mono ?_
      rintro x W' ⟨rfl, ho⟩
      exact ⟨_, rfl, hK _ _ (hI.j.trans ho (fun _ _ e => e.elim)) (hstab.keep ho) rfl⟩
    · intro L a W K hI hn hd hK
      have e71 : a.eval (.tmp 71) = .agg #[.int .i64 (Lr.size : Nat), .int .i64 (Lr.first : Nat), .int .i64 (Lr.tail : Nat), .slice fa Lr.frames.length fc, .slice qa Lr.waiting.length qc] := hI.fact 0 71 _ rfl (dep_of hd 0 (by kernel_rfl))
      have e73 : a.eval (.tmp 73) = .string (strOf t) := hI.fact 2 73 _ rfl (dep_of hd 2 (by kernel_rfl))
      refine wp_callc (f := 42) (args := #[a.eval (.tmp 71), a.eval (.tmp 73)]) (by kernel_rfl) ?_
      rw [e71, e73]
      refine (HRF3.out W hI.j).mono ?_
      rintro x W' ⟨fv', wv', G', rfl, hr', hg', ho⟩
      exact ⟨_, rfl, hK _ _ (hI.j.trans ho (fun _ _ e => e.elim)) (hstab.keep ho) ⟨fv', wv', G', rfl, hr', fun k hk => (hg' k hk).imp id (fun h => by have := hI.j.size; omega)⟩⟩
    · intro L a W K hI hn hd hK
      have f74 := hI.fact 3 74 _ rfl (dep_of hd 3 (by kernel_rfl))
      obtain ⟨fv', wv', G', e9, hr', hg'⟩ := f74
      exact pt_move _ (by first | exact .inl rfl | exact .inr rfl) _ e9 (hK _ _ hI.j PtKeep.refl ⟨fv', wv', G', rfl, hr', hg'⟩)
    · intro L a W K hI hn hd hK
      have f70 := hI.fact 4 70 _ rfl (dep_of hd 4 (by kernel_rfl))
      obtain ⟨fv', wv', G', e9, hr', hg'⟩ := f70
      exact pt_val (v := .agg (rcells L2 fv' wv')) (by unfold execOp; simp only [e9]; kernel_rfl) (hK _ _ hI.j PtKeep.refl ⟨fv', wv', G', rfl, hr', hg'⟩)
    · intro L a W K hI hn hd hK
      have f70 := hI.fact 4 70 _ rfl (dep_of hd 4 (by kernel_rfl))
      obtain ⟨fv', wv', G', e9, hr', hg'⟩ := f70
      exact pt_val (v := .int .i64 lc) (by unfold execOp; simp only [e9]; kernel_rfl) (hK _ _ hI.j PtKeep.refl rfl)
  · intro L a w4 hal hj hfs
    dsimp only [PtAll] at hfs
    obtain ⟨f71, f72, f73, f74, f70, f75, f76, -⟩ := hfs
    obtain ⟨fx74, wx74, Gx74, f74, -, -⟩ := f74
    obtain ⟨fx70, wx70, Gx70, f70, -, -⟩ := f70
    obtain ⟨fv5, wv5, G5, f75, hr5, hg5⟩ := f75
    have hA := hal.turned
    simp only [List.map_cons, List.map_nil, Act.turned, f71, f72, f73, f74, f70, f75, f76] at hA
    simp only [Act.put, List.setIfInBounds_toArray, List.set_cons_zero, List.set_cons_succ] at hA
    clear hal f71 f72 f73 f74 f70 f75 f76
    subst hA
    change wpList _ _ _ [_, _] _ _
    have HJ := hid (HO3.out.trans (hj.mono (fun _ _ e => e.elim)) (fun _ _ e => e))
    have HJ3 := hid hj
    have HR5 := hid hr5; have HG5 := hid hg5
    have hone := hr5.one
    obtain ⟨cl5, hcl5⟩ : ∃ x, rcells L2 fv5 wv5 = x := ⟨_, rfl⟩
    have hcs : cl5.size = 5 := by rw [← hcl5]; rfl
    rw [hcl5] at hone ⊢
    have HC5 := hid hcl5; have HONE := hid hone; have HCS := hid hcs
    have HCI : Hid ((Try.prog.info? 45).map (·.size) = some cl5.size) := hid (by rw [hcs]; exact info_rl)
    clear hj hr5 hg5 hone hcs hcl5
    go_wp2_with ((guard_target =~ wpList _ _ _ (⟨none, .store 45 (.tmp 4) _, _, _, _, _⟩ :: _) _ _); refine wpList_store_all rfl 45 (.tmp 4) (.tmp 75) rfl w.heap.size cl5 rfl rfl #[.int .i64 (Lr.size : Nat), .int .i64 (Lr.first : Nat), .int .i64 (Lr.tail : Nat), .slice fa Lr.frames.length fc, .slice qa Lr.waiting.length qc] 45 (HB4.out _ HJ.out) (by rw [HCS.out]; rfl) HCI.out HONE.out ?_; intro w5 hb5s ho5s hs5s; have HB5s := hid hb5s; have HO5s := hid ho5s; clear hb5s ho5s hs5s)
    refine NoPanic.normal ?_
    go_wp2_with (first | ((guard_target =~ wpList _ _ _ (⟨some 77, _, _, _, _, _⟩ :: _) _ _); refine wpList_load_row (o := ⟨some 77, _, _, _, _, _⟩) rfl 45 (.tmp 4) rfl w.heap.size rfl 45 cl5 (0, 0) _ HB5s.out Try.underlying45 rfl HCI.out ?_) | ((guard_target =~ wpList _ _ _ (⟨none, .store 45 (.tmp 6) _, _, _, _, _⟩ :: _) _ _); refine wpList_store_all rfl 45 (.tmp 6) (.tmp 77) rfl (w.heap.size + 1 + 1) cl5 rfl rfl #[.int .i64 0, .int .i64 0, .int .i64 0, .slice none 0 0, .slice none 0 0] 45 (blk_only (HB6.out _ HJ.out) HO5s.out (by show ¬ w.heap.size + 1 + 1 = w.heap.size; omega)) (by rw [HCS.out]; rfl) HCI.out HONE.out ?_; intro w6 hb6s ho6s hs6s; have HB6s := hid hb6s; have HO6s := hid ho6s; clear hb6s ho6s hs6s))
    have hO56 : Only (fun k => k = w.heap.size ∨ k = (w.heap.size + 1 + 1)) w4 w6 := (HO5s.out.mono (fun k _ e => .inl e)).trans (HO6s.out.mono (fun k _ e => .inr e)) (fun k _ e => e)
    have hz4 := HJ.out.size
    have hz3 := HS3.out
    have hz2 := HO02.out.size
    have hw : ∀ k, k < w.heap.size → ¬ (k = w.heap.size ∨ k = (w.heap.size + 1 + 1)) := fun k hk e => by omega
    have hF3 : ∀ k, F3 k → k < w.heap.size ∨ W0.heap.size ≤ k := fun k hk => (HN3.out k hk).elim (fun e => .inl (HFL.out k e)) (fun e => .inr (by omega))
    have hG5 : ∀ k, G5 k → k < w.heap.size ∨ W0.heap.size ≤ k := fun k hk => (HG5.out k hk).elim (fun e => .inl (HR.out.lt k e)) (fun e => .inr (by omega))
    exact bodyPost_ret (results_cell1 rfl _ _ (w.heap.size + 1 + 1) 45 cl5 (0, 0) _ rfl HB6s.out Try.underlying45 rfl HCI.out) rfl ⟨fv5, wv5, F3, G5, by rw [HLP.out, HAN.out, HC5.out]; rfl, by
      rw [HMP.out]
      exact (HL3.out.same HJ3.out).only hO56 (fun k hk e => by have := hF3 k hk; omega), by
      rw [HLP.out]
      exact HR5.out.only hO56 (fun k hk e => by have := hG5 k hk; omega), fun k hk hf => (HG5.out k hk).elim (fun e => (HN3.out k hf).elim (HSEP.out k e) (fun e' => by have := HR.out.lt k e; have := HO0.out.size; omega)) (fun e => by have := HL3.out.lt hf; omega), fun k hk => (HN3.out k hk).imp id (fun e => by have := HO0.out.size; omega), fun k hk => (HG5.out k hk).imp id (fun e => by have := HO0.out.size; omega), ((HO0.out.mono (fun _ _ e => e.elim)).trans HJ.out (fun _ _ e => e)).trans hO56 (fun k hk e => absurd e (hw k hk))⟩
set_option maxRecDepth 100000 in
set_option maxHeartbeats 6400000 in
theorem play4_c (h : LogAt w l b r M F) (hr : RLAt w Lr fv wv G) (hsep : ∀ k, G k → ¬ F k) (k o : Int) (s : List UInt8) {da : Option Addr} {dc : Nat} (hd : Src w (.slice da s.length dc) s) (hsl : s.length ≤ 100) (hds : ∀ g o, da = some ⟨g, o, none⟩ → s ≠ [] → ¬ F g) (hfit : M.R.first + M.R.count ≤ M.D.n) (htl : M.R.tail ≤ 4000000000000000000) (hT : Lr.tail ≤ 4000000000000000000) (hk0 : k ≠ 0) (hk1 : k ≠ 1) (hk2 : k ≠ 2) (hk3 : k ≠ 3) :
    Calls Try.prog 16 #[.pointer (some ⟨l, 0, none⟩), .agg (rcells Lr fv wv), .agg #[.int .i64 k, .int .i64 o, .slice da s.length dc]] w (PPost w l b r M Lr F G k (rept (oftN o) s)) := by
  have HL := hid h; have HR := hid hr; have HS := hid hd; have HSEP := hid hsep; have HDS := hid hds
  obtain ⟨⟨fa, fc, rfl, -⟩, ⟨qa, qc, rfl, -⟩, -⟩ := hr
  obtain ⟨t, ht⟩ : ∃ x, rept (oftN o) s = x := ⟨_, rfl⟩
  have htl6 : t.length ≤ 6000 := by
    rw [← ht, rept_len]
    have h1 : oftN o ≤ 60 := by unfold oftN; omega
    have := Nat.mul_le_mul h1 hsl
    omega
  have HTX : Hid (∀ W, Only F w W → Calls Try.prog 38 #[.agg #[.int .i64 k, .int .i64 o, .slice da s.length dc]] W fun e w' => e = .returned (.string (strOf t)) ∧ Only (fun _ => False) W w') := hid fun W hW => by
    rw [← ht]
    refine text_c k o s (hd.only hW ?_) (by omega)
    intro hne g of c e hf
    simp only [Value.slice.injEq] at e
    exact hds g of e.1 hne hf
  have HSR : Hid (Src w (.slice da s.length dc) s) := hid hd
  rw [ht]
  clear ht h hsep hd hds
  obtain ⟨W0, hW0⟩ : ∃ x, ((w.alloc (.cells #[.int .i64 (Lr.size : Nat), .int .i64 (Lr.first : Nat), .int .i64 (Lr.tail : Nat), .slice fa Lr.frames.length fc, .slice qa Lr.waiting.length qc] 45)).alloc (.cells #[.int .i64 k, .int .i64 o, .slice da s.length dc] 47)).alloc (.cells #[.int .i64 0, .int .i64 0, .int .i64 0, .slice none 0 0, .slice none 0 0] 45) = x := ⟨_, rfl⟩
  have hO0 : Only (fun _ => False) w W0 := by rw [← hW0]; exact ((only_new _ _).trans (only_new _ _) (fun _ _ e => e)).trans (only_new _ _) (fun _ _ e => e)
  have HFL : Hid (∀ k, F k → k < w.heap.size) := hid fun k hk => HL.out.lt hk
  have HB4 : Hid (∀ W, Only F W0 W → W.heap[w.heap.size]? = some (.cells #[.int .i64 (Lr.size : Nat), .int .i64 (Lr.first : Nat), .int .i64 (Lr.tail : Nat), .slice fa Lr.frames.length fc, .slice qa Lr.waiting.length qc] 45 (0, 0))) := hid fun W hW => blk_only (by rw [← hW0]; exact blk_alloc (blk_alloc (blk_new _ _))) hW (fun e => by have := HFL.out _ e; omega)
  have HB5 : Hid (∀ W, Only F W0 W → W.heap[(w.heap.size + 1)]? = some (.cells #[.int .i64 k, .int .i64 o, .slice da s.length dc] 47 (0, 0))) := hid fun W hW => blk_only (by rw [← hW0]; exact blk_alloc (blk2w _ _ _)) hW (fun e => by have := HFL.out _ e; omega)
  have HB6 : Hid (∀ W, Only F W0 W → W.heap[(w.heap.size + 1 + 1)]? = some (.cells #[.int .i64 0, .int .i64 0, .int .i64 0, .slice none 0 0, .slice none 0 0] 45 (0, 0))) := hid fun W hW => blk_only (by rw [← hW0]; have := blk2w (w.alloc (.cells #[.int .i64 (Lr.size : Nat), .int .i64 (Lr.first : Nat), .int .i64 (Lr.tail : Nat), .slice fa Lr.frames.length fc, .slice qa Lr.waiting.length qc] 45)) (.cells #[.int .i64 k, .int .i64 o, .slice da s.length dc] 47) (.cells #[.int .i64 0, .int .i64 0, .int .i64 0, .slice none 0 0, .slice none 0 0] 45); rw [World.size_alloc] at this; exact this) hW (fun e => by have := HFL.out _ e; omega)
  have hz0 : (w.heap.size + 1 + 1) < W0.heap.size := by rw [← hW0]; simp
  have HO0 := hid hO0; have HW0 := hid hW0
  clear hO0 hW0
  unfold rcells
  have c50 : W0.cell? ⟨(w.heap.size + 1), 0, none⟩ = some (.int .i64 k) := cell_blk (HB5.out W0 (Only.refl _ _)) 0
  have hans : answ M Lr k t = true := by unfold answ; rw [if_neg hk0, if_neg hk1, if_neg hk3]
  have hmp : M.play k t = M := by unfold WM.play; rw [if_neg hk0, if_neg hk1, if_neg hk2, if_neg hk3]
  have hlp : Lr.play k t = Lr := by unfold RLog.play; rw [if_neg hk0, if_neg hk1, if_neg hk2, if_neg hk3]
  have HAN := hid hans; have HMP := hid hmp; have HLP := hid hlp
  clear hans hmp hlp
  have kb0 : (k == 0) = false := beq_eq_false_iff_ne.2 hk0
  have kb1 : (k == 1) = false := beq_eq_false_iff_ne.2 hk1
  have kb2 : (k == 2) = false := beq_eq_false_iff_ne.2 hk2
  have kb3 : (k == 3) = false := beq_eq_false_iff_ne.2 hk3
  clear hk0 hk1 hk2 hk3
  go_enter Try.func16, Try.ntmps16
  go_upto_region 1 with fail
  rw [HW0.out]
  have HO3 : Hid (Only F W0 W0) := hid (Only.refl _ _)
  have HS3 := hid (Nat.le_refl W0.heap.size)
  have HL3 := hid (HL.out.same HO0.out)
  have HN3 : Hid (∀ k, F k → F k ∨ W0.heap.size ≤ k) := hid fun k hk => .inl hk
  have HJ := hid HO3.out
  have HJ3 := hid (Only.refl (fun _ => False) W0)
  have HGL : Hid (∀ k, G k → G k ∨ W0.heap.size ≤ k) := hid fun k hk => .inl hk
  go_wp2_with (first | ((guard_target =~ wpList _ _ _ (⟨some 81, _, _, _, _, _⟩ :: _) _ _); refine wpList_load_row (o := ⟨some 81, _, _, _, _, _⟩) rfl 45 (.tmp 4) rfl w.heap.size rfl 45 #[.int .i64 (Lr.size : Nat), .int .i64 (Lr.first : Nat), .int .i64 (Lr.tail : Nat), .slice fa Lr.frames.length fc, .slice qa Lr.waiting.length qc] (0, 0) _ (HB4.out W0 (Only.refl _ _)) Try.underlying45 rfl info_rl ?_) | ((guard_target =~ wpList _ _ _ (⟨none, .store 45 (.tmp 6) _, _, _, _, _⟩ :: _) _ _); refine wpList_store_all rfl 45 (.tmp 6) (.tmp 81) rfl (w.heap.size + 1 + 1) #[.int .i64 (Lr.size : Nat), .int .i64 (Lr.first : Nat), .int .i64 (Lr.tail : Nat), .slice fa Lr.frames.length fc, .slice qa Lr.waiting.length qc] rfl rfl #[.int .i64 0, .int .i64 0, .int .i64 0, .slice none 0 0, .slice none 0 0] 45 (HB6.out W0 (Only.refl _ _)) rfl info_rl (by simp [Value.oneCell']) ?_; intro w6 hb6s ho6s hs6s; have HB6s := hid hb6s; have HO6s := hid ho6s; clear hb6s ho6s hs6s))
  have hO56 : Only (fun k => k = w.heap.size ∨ k = (w.heap.size + 1 + 1)) W0 w6 := HO6s.out.mono (fun k _ e => .inr e)
  have HRD := hid (HR.out.same HO0.out)
  have hz4 := HJ.out.size
  have hz3 := HS3.out
  have hw : ∀ k, k < w.heap.size → ¬ (k = w.heap.size ∨ k = (w.heap.size + 1 + 1)) := fun k hk e => by omega
  have hF3 : ∀ k, F k → k < w.heap.size ∨ W0.heap.size ≤ k := fun k hk => (HN3.out k hk).elim (fun e => .inl (HFL.out k e)) (fun e => .inr (by omega))
  have hG5 : ∀ k, G k → k < w.heap.size ∨ W0.heap.size ≤ k := fun k hk => (HGL.out k hk).elim (fun e => .inl (HR.out.lt k e)) (fun e => .inr (by omega))
  exact bodyPost_ret (results_cell1 rfl _ _ (w.heap.size + 1 + 1) 45 #[.int .i64 (Lr.size : Nat), .int .i64 (Lr.first : Nat), .int .i64 (Lr.tail : Nat), .slice fa Lr.frames.length fc, .slice qa Lr.waiting.length qc] (0, 0) _ rfl HB6s.out Try.underlying45 rfl info_rl) rfl ⟨.slice fa Lr.frames.length fc, .slice qa Lr.waiting.length qc, F, G, by rw [HLP.out, HAN.out]; rfl, by
      rw [HMP.out]
      exact (HL3.out.same HJ3.out).only hO56 (fun k hk e => by have := hF3 k hk; omega), by
      rw [HLP.out]
      exact HRD.out.only hO56 (fun k hk e => by have := hG5 k hk; omega), fun k hk hf => (HGL.out k hk).elim (fun e => (HN3.out k hf).elim (HSEP.out k e) (fun e' => by have := HR.out.lt k e; have := HO0.out.size; omega)) (fun e => by have := HL3.out.lt hf; omega), fun k hk => (HN3.out k hk).imp id (fun e => by have := HO0.out.size; omega), fun k hk => (HGL.out k hk).imp id (fun e => by have := HO0.out.size; omega), ((HO0.out.mono (fun _ _ e => e.elim)).trans HJ.out (fun _ _ e => e)).trans hO56 (fun k hk e => absurd e (hw k hk))⟩
theorem play_c (h : LogAt w l b r M F) (hr : RLAt w Lr fv wv G) (hsep : ∀ k, G k → ¬ F k) (k o : Int) (s : List UInt8) {da : Option Addr} {dc : Nat} (hd : Src w (.slice da s.length dc) s) (hsl : s.length ≤ 100) (hds : ∀ g o, da = some ⟨g, o, none⟩ → s ≠ [] → ¬ F g) (hfit : M.R.first + M.R.count ≤ M.D.n) (htl : M.R.tail ≤ 4000000000000000000) (hT : Lr.tail ≤ 4000000000000000000) :
    Calls Try.prog 16 #[.pointer (some ⟨l, 0, none⟩), .agg (rcells Lr fv wv), .agg #[.int .i64 k, .int .i64 o, .slice da s.length dc]] w (PPost w l b r M Lr F G k (rept (oftN o) s)) := by
  by_cases h0 : k = 0
  · exact play0_c h hr hsep k o s hd hsl hds hfit htl hT h0
  by_cases h1 : k = 1
  · exact play1_c h hr hsep k o s hd hsl hds hfit htl hT h1
  by_cases h2 : k = 2
  · exact play2_c h hr hsep k o s hd hsl hds hfit htl hT h2
  by_cases h3 : k = 3
  · exact play3_c h hr hsep k o s hd hsl hds hfit htl hT h3
  · exact play4_c h hr hsep k o s hd hsl hds hfit htl hT h0 h1 h2 h3
end
end Go.Proofs.Ythodcbhejjbhaaa
namespace Go.Proofs.Ythodcbhejjbhaaa
open Go.RowKit

/-- A log (new since w0) and the document's, in block s, tell the same. -/
structure WS (w0 w : World) (l b r s : Nat) (M : WM) (L : RLog) (fv wv : Value) (F G : Nat → Prop) (sg N : Nat) (T0 : List UInt8) (fs : List (Nat × List UInt8)) : Prop where
  lg : LgAt w0 w l b r M F
  rl : RLAt w L fv wv G
  bs : w.heap[s]? = some (.cells (rcells L fv wv) 45 (0, 0))
  fg : ∀ k, G k → ¬ F k
  gs : ¬ G s
  fz : ¬ F s
  s0 : w0.heap.size ≤ s
  lp : LP M sg N T0 fs
  sam : Sam M L sg fs
section
variable {w0 w w1 w2 : World} {l b r s sg N : Nat} {M : WM} {L : RLog} {fv wv : Value} {F G : Nat → Prop} {T0 : List UInt8} {fs : List (Nat × List UInt8)}
theorem WS.same (h : WS w0 w l b r s M L fv wv F G sg N T0 fs) (ho : Only (fun _ => False) w w1) : WS w0 w1 l b r s M L fv wv F G sg N T0 fs :=
  { h with lg := h.lg.same ho, rl := h.rl.same ho, bs := blk_only h.bs ho (fun e => e) }
theorem WS.n (h : WS w0 w l b r s M L fv wv F G sg N T0 fs) (hN : N ≤ 90) : M.R.first + M.R.count ≤ M.D.n ∧ M.R.tail ≤ 4000000000000000000 ∧ L.tail ≤ 4000000000000000000 ∧ M.head ≤ M.tail ∧ M.tail ≤ 4000000000000000000 := by
  have h1 := h.lp.dn; have h2 := h.lp.rs.tail; have h3 := h.lp.tl; have h4 := h.lp.len; have h5 := h.sam.tail; have h6 := h.lp.hd
  have h7 : (T0 ++ layT T0.length fs).length = T0.length + (layT T0.length fs).length := List.length_append
  have h9 : N * 1000000000 ≤ 90 * 1000000000 := Nat.mul_le_mul_right _ hN
  refine ⟨by rw [h.lp.first, h.lp.count]; exact h1, by omega, by omega, by omega, by omega⟩
theorem WS.play (h : WS w0 w l b r s M L fv wv F G sg N T0 fs) (hN : N ≤ 90) {k : Int} {t : List UInt8} (ht : t.length ≤ 100000) {fv' wv' : Value} {F' G' : Nat → Prop} (h1 : LogAt w1 l b r (M.play k t) F') (h2 : RLAt w1 (L.play k t) fv' wv' G') (h3 : ∀ k, G' k → ¬ F' k) (h4 : ∀ k, F' k → F k ∨ w.heap.size ≤ k) (h5 : ∀ k, G' k → G k ∨ w.heap.size ≤ k) (h6 : Only F w w1)
    (hb : w2.heap[s]? = some (.cells (rcells (L.play k t) fv' wv') 45 (0, 0))) (ho : Only (fun k => k = s) w1 w2) : ∃ T0' fs', WS w0 w2 l b r s (M.play k t) (L.play k t) fv' wv' F' G' sg (N + 1) T0' fs' := by
  obtain ⟨-, T0', fs', hp, hs⟩ := h.lp.play h.sam hN k ht
  have hz := h.lg.only.size
  have hsl := blk_lt h.bs
  have hfs : ¬ F' s := fun e => (h4 s e).elim h.fz (fun e => by omega)
  have hgs : ¬ G' s := fun e => (h5 s e).elim h.gs (fun e => by omega)
  have h0 := h.s0
  exact ⟨T0', fs', ⟨h1.only ho (fun k hk e => hfs (by have e' : k = s := e; exact e' ▸ hk)), fun k hk => (h4 k hk).elim (h.lg.new k) (fun e => by omega), (h.lg.only.trans h6 (fun k hk e => by have := h.lg.new k e; omega)).trans ho (fun k hk e => by have e' : k = s := e; omega)⟩,
    h2.only ho (fun k hk e => hgs (by have e' : k = s := e; exact e' ▸ hk)), hb, h3, hgs, hfs, h0, hp, hs⟩
/-- The log is opened anew. -/
theorem WS.reopen (h : WS w0 w l b r s M L fv wv F G sg N T0 fs) {l' r' : Nat} {F' FD : Nat → Prop} (h1 : LgAt w0 w1 l' b r' ⟨M.D, RingM.opened M.D 2 (sg * 16) M.tail, M.head, M.tail, [], false⟩ F') (hF : ∀ k, F' k → FD k ∨ w.heap.size ≤ k) (hD : ∀ k, FD k → F k) (ho1 : Only (fun _ => False) w w1)
    (hb : w2.heap[s]? = some (.cells (rcells { L with waiting := [] } fv (.slice none 0 0)) 45 (0, 0))) (ho : Only (fun k => k = s) w1 w2) : WS w0 w2 l' b r' s ⟨M.D, RingM.opened M.D 2 (sg * 16) M.tail, M.head, M.tail, [], false⟩ { L with waiting := [] } fv (.slice none 0 0) F' G sg N T0 fs := by
  have hsl := blk_lt h.bs
  have hfs : ¬ F' s := fun e => (hF s e).elim (fun e => h.fz (hD s e)) (fun e => by omega)
  have h0 := h.s0
  have hr := (h.rl.same ho1).only ho (fun k hk e => h.gs (by have e' : k = s := e; exact e' ▸ hk))
  exact ⟨⟨h1.log.only ho (fun k hk e => hfs (by have e' : k = s := e; exact e' ▸ hk)), h1.new, h1.only.trans ho (fun k hk e => by have e' : k = s := e; omega)⟩,
    ⟨hr.f, SlV.nil _ _ _, hr.sz, hr.ft, hr.rm, hr.nf, Nat.zero_le _, (fun _ hs => nomatch hs), hr.lt⟩, hb, fun k hk hf => (hF k hf).elim (fun e => h.fg k hk (hD k e)) (fun e => by have := h.rl.lt k hk; omega), h.gs, hfs, h0, h.lp.anew, ⟨h.sam.size, h.sam.first, h.sam.tail, h.sam.frames, rfl⟩⟩
theorem WS.left (h : WS w0 w l b r s M L fv wv F G sg N T0 fs) : M.R.left M.head = rleft L.size L.first L.tail := by
  rw [h.lp.left, h.sam.size, h.sam.first, h.sam.tail]; rfl
end
theorem src_lt {w : World} {pa : Option Addr} {pc : Nat} {s : List UInt8} (hs : Src w (.slice pa s.length pc) s) : ∀ g o, pa = some ⟨g, o, none⟩ → s ≠ [] → g < w.heap.size := fun g o e hne => by
  obtain ⟨a, c, e1, h2⟩ := hs
  obtain ⟨g0, o0, e2, hc⟩ := h2 hne
  simp only [Value.slice.injEq, true_and] at e1
  rw [← e1.1, e] at e2
  simp only [Option.some.injEq, Addr.mk.injEq, and_true] at e2
  obtain ⟨rfl, rfl⟩ := e2
  have hp0 : 0 < (bytesV s).length := by simpa using List.length_pos_iff.2 hne
  exact World.block_lt_of_cell? _ _ (hc 0 _ (List.getElem?_eq_getElem hp0))
end Go.Proofs.Ythodcbhejjbhaaa
