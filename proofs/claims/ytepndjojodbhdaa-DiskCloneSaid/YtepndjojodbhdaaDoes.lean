/- foliotlaw05.play: an operation on a disk and on the document's. -/
import Derived.Test.YtepndjojodbhdaaSame
import Derived.Test.YtepndjojodbhdaaDiskP
import Derived.Test.YtepndjojodbhdaaStrB
import Derived.Deep.RegionHeld3
import Derived.Deep.Cut
import Derived.Deep.CutRange
import Derived.Deep.RegionLaw
import Derived.Deep.CutBlock
import Derived.StillTailTactics
namespace Go.Proofs.Ytepndjojodbhdaa
open Go.RowKit

section
variable {w : World} {cs : Array Value} {r : RM} {G : Nat → Prop}
theorem rput_c (h : RefAt w cs r G) (hf : -1 ≤ r.fuse ∧ r.fuse ≤ 9223372036854775807) (hwl : r.ws.length ≤ 1000000) (hwr : 0 ≤ r.written ∧ r.written ≤ 1000000) (n : Int) (b : List UInt8) :
    Calls Try.prog 93 #[.agg cs, .int .i64 n, .string (strOf b)] w fun e w' => ∃ cs' G', e = .returned (.tuple #[.agg cs', .int .i64 (r.put n b).2]) ∧ RefAt w' cs' (r.put n b).1 G' ∧ (∀ k, G' k → G k ∨ w.heap.size ≤ k) ∧ Only (fun _ => False) w w' := by
  by_cases hc : r.down = true ∨ n < 0 ∨ (r.sure.length : Int) ≤ n ∨ b.length ≠ 128
  · refine (rput_no h n b hc).mono fun e w' ⟨he, h1, ho⟩ => ⟨cs, G, he, ?_, fun k hk => .inl hk, ho⟩
    rw [h1]; exact h.same ho
  · simp only [not_or] at hc
    obtain ⟨h1, h2, h3, h4⟩ := hc
    exact rput_go h hf hwl hwr n b (by simpa using h1) h2 (by omega) (by omega)
theorem rflush_c (h : RefAt w cs r G) (hf : -1 ≤ r.fuse ∧ r.fuse ≤ 9223372036854775807) (hwl : r.ws.length ≤ 1000000) (hsl : r.sure.length ≤ 1000000) (hfl : 0 ≤ r.flushed ∧ r.flushed ≤ 1000000) :
    Calls Try.prog 95 #[.agg cs] w fun e w' => ∃ cs' G', e = .returned (.tuple #[.agg cs', .int .i64 r.flush.2]) ∧ RefAt w' cs' r.flush.1 G' ∧ (∀ k, G' k → G k ∨ w.heap.size ≤ k) ∧ Only (fun _ => False) w w' := by
  cases hd : r.down with
  | true =>
    refine (rflush_no h hd).mono fun e w' ⟨he, h1, ho⟩ => ⟨cs, G, he, ?_, fun k hk => .inl hk, ho⟩
    rw [h1]; exact h.same ho
  | false => exact rflush_go h hf hwl hsl hfl hd
theorem RefAt.info (h : RefAt w cs r G) : (Try.prog.info? 113).map (·.size) = some cs.size := by
  obtain ⟨sa, sc, wa, wk, rfl, -⟩ := h.ex
  exact info_rdisk
theorem RefAt.sa {sa wa : Option Addr} {sc wk : Nat} (h : RefAt w (r.cells sa sc wa wk) r G) (hne : 0 < r.sure.length) : ∃ g o, sa = some ⟨g, o, none⟩ := by
  obtain ⟨s1', c1', a1', d1', e, ⟨a', c', e2, hq⟩, -, -, -⟩ := h.ex
  unfold RM.cells at e
  simp only [Array.mk.injEq, List.cons.injEq, Value.slice.injEq, true_and] at e
  obtain ⟨⟨rfl, rfl⟩, -⟩ := e
  simp only [Value.slice.injEq] at e2
  obtain ⟨rfl, -, -⟩ := e2
  obtain ⟨g, o, e3, -⟩ := hq (by intro e; have := congrArg List.length e; rw [length_strs, List.length_nil] at this; omega)
  exact ⟨g, o, e3⟩
theorem RefAt.strs {g o : Nat} {wa : Option Addr} {sc wk : Nat} (h : RefAt w (r.cells (some ⟨g, o, none⟩) sc wa wk) r G) : ∀ i u, (strs r.sure)[i]? = some u → w.cell? ⟨g, o + i, none⟩ = some u := by
  obtain ⟨s1', c1', a1', d1', e, ⟨a', c', e2, hq⟩, -, -, -⟩ := h.ex
  unfold RM.cells at e
  simp only [Array.mk.injEq, List.cons.injEq, Value.slice.injEq, true_and] at e
  obtain ⟨⟨rfl, rfl⟩, -⟩ := e
  simp only [Value.slice.injEq] at e2
  obtain ⟨rfl, -, -⟩ := e2
  intro i u hu
  obtain ⟨g', o', e3, hc⟩ := hq (by rintro e; rw [e] at hu; simp at hu)
  simp only [Option.some.injEq, Addr.mk.injEq, and_true] at e3
  obtain ⟨rfl, rfl⟩ := e3
  exact hc i u hu
theorem RefAt.str {g o : Nat} {wa : Option Addr} {sc wk : Nat} (h : RefAt w (r.cells (some ⟨g, o, none⟩) sc wa wk) r G) (k : Nat) (hk : k < r.sure.length) : w.cell? ⟨g, o + k, none⟩ = some (.string (strOf (r.sure.getD k []))) :=
  h.strs k _ (by simp [Go.Proofs.Ytepndjojodbhdaa.strs, List.getD_eq_getElem?_getD, List.getElem?_eq_getElem hk])
theorem RefAt.one (h : RefAt w cs r G) : cs.all (·.oneCell') = true := by
  obtain ⟨sa, sc, wa, wk, rfl, -⟩ := h.ex
  simp [RM.cells, Value.oneCell']
theorem RefAt.size (h : RefAt w cs r G) : cs.size = 6 := by
  obtain ⟨sa, sc, wa, wk, rfl, -⟩ := h.ex
  rfl
end

theorem write_c2 {w : World} {b : Nat} {D : DiskM} {F : Nat → Prop} (h : DiskAt w b D F) (n : Int) (v : Value) (l : List UInt8) (hs : Src w v l) (hv : l ≠ [] → ∀ g o c, v = .slice (some ⟨g, o, none⟩) l.length c → ¬ F g) (hbig : l.length ≤ 1000000) :
    Calls Try.prog 28 #[.pointer (some ⟨b, 0, none⟩), .int .i64 n, v] w fun e w' => e = .returned (.int .i64 (D.write n l).2) ∧ DStep w w' b (D.write n l).1 F := by
  by_cases hl : l = []
  · refine (write_refused h n v l hs (.inr (.inr (.inr (by rw [hl]; decide)))) hbig).mono fun e w' ⟨he, h1, hw⟩ => ?_
    subst hw
    rw [h1]; exact ⟨he, h.same⟩
  · exact write_c h n v l hs (hv hl) hbig
/-- What a disk's Read answers. -/
def DiskM.get (D : DiskM) (n : Int) : List UInt8 × Int :=
  if D.down then ([], 50) else if n < 0 ∨ (D.n : Int) ≤ n then ([], 1) else (D.cur n.toNat, 0)
theorem read_c {w : World} {b : Nat} {D : DiskM} {F : Nat → Prop} (h : DiskAt w b D F) (n : Int) :
    Calls Try.prog 31 #[.pointer (some ⟨b, 0, none⟩), .int .i64 n] w fun e w' => ∃ a c, e = .returned (.tuple #[.slice a (D.get n).1.length c, .int .i64 (D.get n).2]) ∧ Src w' (.slice a (D.get n).1.length c) (D.get n).1 ∧ Only (fun _ => False) w w' := by
  unfold DiskM.get
  cases hd : D.down with
  | true =>
    refine (read_down h hd n).mono fun e w' ⟨he, hw⟩ => ?_
    subst hw
    exact ⟨none, 0, he, ⟨none, 0, rfl, fun e => absurd rfl e⟩, Only.refl _ _⟩
  | false =>
    simp only [Bool.false_eq_true, if_false]
    by_cases hn : n < 0 ∨ (D.n : Int) ≤ n
    · rw [if_pos hn]
      refine (read_out h hd n hn).mono fun e w' ⟨he, hw⟩ => ?_
      subst hw
      exact ⟨none, 0, he, ⟨none, 0, rfl, fun e => absurd rfl e⟩, Only.refl _ _⟩
    · rw [if_neg hn]
      refine (read_ok h hd n (by omega) (by omega)).mono fun e w' ⟨g, c, he, hm, ho⟩ => ?_
      have hs := hm.src
      have hv := hm.val
      unfold secV at he hv hs
      simp only [Value.slice.injEq] at hv
      rw [hv.2.1] at he hs
      exact ⟨_, c, he, hs, ho⟩
theorem match_get' {D : DiskM} {r : RM} (h : Match D r) (n : Int) : r.get n = D.get n := by
  unfold DiskM.get
  cases hd : D.down with
  | true => exact RM.get_down (h.dn.trans hd) n
  | false =>
    simp only [Bool.false_eq_true, if_false]
    by_cases hn : n < 0 ∨ (D.n : Int) ≤ n
    · rw [if_pos hn]; exact RM.get_out (h.dn.trans hd) (by rw [h.n]; exact hn)
    · rw [if_neg hn]; exact match_get h hd n (by omega) (by omega)

/-- A disk and the document's, the same, behind m operations. -/
structure PS (w : World) (b : Nat) (D : DiskM) (r : RM) (cs : Array Value) (F G : Nat → Prop) (m : Nat) : Prop where
  disk : DiskAt w b D F
  ref : RefAt w cs r G
  mat : Match D r
  apart : ∀ k, F k → ¬ G k
  nw : 0 ≤ D.nw ∧ D.nw ≤ m
  nf : 0 ≤ D.nf ∧ D.nf ≤ m
  wl : r.ws.length ≤ m
theorem PS.fu {w : World} {b : Nat} {D : DiskM} {r : RM} {cs : Array Value} {F G : Nat → Prop} {m : Nat} (h : PS w b D r cs F G m) : -1 ≤ r.fuse ∧ r.fuse ≤ 9223372036854775807 := by
  rw [h.mat.fu]; exact h.disk.fu
theorem PS.sl {w : World} {b : Nat} {D : DiskM} {r : RM} {cs : Array Value} {F G : Nat → Prop} {m : Nat} (h : PS w b D r cs F G m) : r.sure.length ≤ 1000000 := by
  have := h.disk.n0
  rw [h.mat.n]; omega
theorem PS.l128 {w : World} {b : Nat} {D : DiskM} {r : RM} {cs : Array Value} {F G : Nat → Prop} {m : Nat} (h : PS w b D r cs F G m) (n : Int) (l : List UInt8) (hl : r.last n = some l) : l.length = 128 := by
  have h1 := lastW_any n r.ws none
  rw [show lastW n r.ws none = some l from hl] at h1
  simp only [Option.isSome_some, Option.isSome_none, Bool.false_or] at h1
  obtain ⟨p, hp, e⟩ := List.any_eq_true.1 h1.symm
  have e' : p.1 = n := by simpa using e
  obtain ⟨h0, -⟩ := h.mat.rg p hp
  obtain ⟨j, rfl⟩ : ∃ j : Nat, n = j := ⟨n.toNat, by omega⟩
  rw [h.mat.pe] at hl
  exact (h.disk.pend_lt hl).2
theorem PS.s128 {w : World} {b : Nat} {D : DiskM} {r : RM} {cs : Array Value} {F G : Nat → Prop} {m : Nat} (h : PS w b D r cs F G m) (k : Nat) (hk : k < r.sure.length) : (r.sure.getD k []).length = 128 := by
  rw [h.mat.n] at hk
  rw [h.mat.su k hk]
  exact h.disk.sure_len hk

/-- In the middle of play: the disk, the document's in the parameter's block (at w.heap.size), the result's block (two behind). -/
structure PMid (w wr : World) (b : Nat) (D : DiskM) (r : RM) (cs : Array Value) (F G F' G' : Nat → Prop) (m : Nat) : Prop where
  ps : PS wr b D r cs F' G' m
  bw : wr.heap[w.heap.size]? = some (.cells cs 113 (0, 0))
  bz : wr.heap[w.heap.size + 2]? = some (.cells #[.slice none 0 0, .slice none 0 0, .bool false, .int .i64 0, .int .i64 0, .int .i64 0] 113 (0, 0))
  only : Only F w wr
  nf : ∀ k, F' k → F k ∨ w.heap.size + 3 ≤ k
  ng : ∀ k, G' k → G k ∨ w.heap.size + 3 ≤ k
  lf : ∀ k, F k → k < w.heap.size
  lg : ∀ k, G k → k < w.heap.size
  sz : w.heap.size + 3 ≤ wr.heap.size
section
variable {w w3 w5 w6 w7 : World} {b : Nat} {D D' : DiskM} {r r' : RM} {cs cs' : Array Value} {F G F1 G1 F2 G2 : Nat → Prop} {m : Nat}
theorem PMid.nF (h : PMid w w3 b D r cs F G F1 G1 m) {k : Nat} (hk : F1 k) : k < w.heap.size ∨ w.heap.size + 3 ≤ k := by
  rcases h.nf k hk with e | e
  · exact .inl (h.lf k e)
  · exact .inr e
theorem PMid.nG (h : PMid w w3 b D r cs F G F1 G1 m) {k : Nat} (hk : G1 k) : k < w.heap.size ∨ w.heap.size + 3 ≤ k := by
  rcases h.ng k hk with e | e
  · exact .inl (h.lg k e)
  · exact .inr e
theorem PMid.stepR (h : PMid w w3 b D r cs F G F1 G1 m) (hd : DiskAt w5 b D' F2) (ho5 : Only F1 w3 w5) (hn5 : ∀ k, F2 k → F1 k ∨ w3.heap.size ≤ k)
    (hr : RefAt w7 cs' r' G2) (hn6 : ∀ k, G2 k → G1 k ∨ w5.heap.size ≤ k)
    (hb7 : w7.heap[w.heap.size]? = some (.cells cs' 113 (0, 0))) (ho7 : Only (fun k => k = w.heap.size) w5 w7)
    (hm : Match D' r') (h1 : 0 ≤ D'.nw ∧ D'.nw ≤ (m : Int) + 1) (h2 : 0 ≤ D'.nf ∧ D'.nf ≤ (m : Int) + 1) (h3 : r'.ws.length ≤ m + 1) : PMid w w7 b D' r' cs' F G F2 G2 (m + 1) := by
  have s5 := ho5.size
  have s7 := ho7.size
  have hsz := h.sz
  have nF2 : ∀ k, F2 k → k < w.heap.size ∨ w.heap.size + 3 ≤ k := fun k hk => by
    rcases hn5 k hk with e | e
    · exact h.nF e
    · omega
  refine ⟨⟨hd.only ho7 (fun k hk e => by have := nF2 k hk; omega), hr, hm, fun k hf hg => ?_, by omega, by omega, h3⟩, hb7, ?_, ?_, ?_, ?_, h.lf, h.lg, by omega⟩
  · rcases hn6 k hg with e | e
    · rcases hn5 k hf with e' | e'
      · exact h.ps.apart k e' e
      · have := h.ps.ref.lt k e; omega
    · have := hd.lt hf; omega
  · exact blk_only (blk_only h.bz ho5 (fun e => by have := h.nF e; omega)) ho7 (fun e => by omega)
  · exact (h.only.trans ho5 (fun k hk e => by
      rcases h.nf k e with e' | e'
      · exact e'
      · omega)).trans ho7 (fun k hk e => by omega)
  · intro k hk
    rcases hn5 k hk with e | e
    · exact h.nf k e
    · exact .inr (by omega)
  · intro k hk
    rcases hn6 k hk with e | e
    · exact h.ng k e
    · exact .inr (by omega)
theorem PMid.step (h : PMid w w3 b D r cs F G F1 G1 m) (hd : DiskAt w5 b D' F2) (ho5 : Only F1 w3 w5) (hn5 : ∀ k, F2 k → F1 k ∨ w3.heap.size ≤ k)
    (hr : RefAt w6 cs' r' G2) (hn6 : ∀ k, G2 k → G1 k ∨ w5.heap.size ≤ k) (ho6 : Only (fun _ => False) w5 w6)
    (hb7 : w7.heap[w.heap.size]? = some (.cells cs' 113 (0, 0))) (ho7 : Only (fun k => k = w.heap.size) w6 w7)
    (hm : Match D' r') (h1 : 0 ≤ D'.nw ∧ D'.nw ≤ (m : Int) + 1) (h2 : 0 ≤ D'.nf ∧ D'.nf ≤ (m : Int) + 1) (h3 : r'.ws.length ≤ m + 1) : PMid w w7 b D' r' cs' F G F2 G2 (m + 1) := by
  have s5 := ho5.size
  have hsz := h.sz
  refine h.stepR hd ho5 hn5 (hr.only ho7 (fun k hk e => ?_)) hn6 hb7 ((ho6.mono (G := fun k => k = w.heap.size) (fun _ _ e => e.elim)).trans ho7 (fun _ _ e => e)) hm h1 h2 h3
  rcases hn6 k hk with e' | e'
  · have := h.nG e'; omega
  · omega
theorem PMid.step4 {w4 : World} (h : PMid w w3 b D r cs F G F1 G1 m) (h34 : Only (fun _ => False) w3 w4) (hd : DiskAt w5 b D' F2) (ho5 : Only F1 w4 w5) (hn5 : ∀ k, F2 k → F1 k ∨ w4.heap.size ≤ k)
    (hr : RefAt w6 cs' r' G2) (hn6 : ∀ k, G2 k → G1 k ∨ w5.heap.size ≤ k) (ho6 : Only (fun _ => False) w5 w6)
    (hb7 : w7.heap[w.heap.size]? = some (.cells cs' 113 (0, 0))) (ho7 : Only (fun k => k = w.heap.size) w6 w7)
    (hm : Match D' r') (h1 : 0 ≤ D'.nw ∧ D'.nw ≤ (m : Int) + 1) (h2 : 0 ≤ D'.nf ∧ D'.nf ≤ (m : Int) + 1) (h3 : r'.ws.length ≤ m + 1) : PMid w w7 b D' r' cs' F G F2 G2 (m + 1) :=
  have s4 := h34.size
  h.step hd ((h34.mono (G := F1) (fun _ _ e => e.elim)).trans ho5 (fun _ _ e => e)) (fun k hk => (hn5 k hk).imp id (fun e => Nat.le_trans s4 e)) hr hn6 ho6 hb7 ho7 hm h1 h2 h3
end
theorem PS.bounds {w : World} {b m : Nat} {D : DiskM} {r : RM} {cs : Array Value} {F G : Nat → Prop} (h : PS w b D r cs F G m) (hm : m ≤ 1001) : r.ws.length ≤ 1000000 ∧ (0 ≤ r.written ∧ r.written ≤ 1000000) ∧ (0 ≤ r.flushed ∧ r.flushed ≤ 1000000) ∧ (0 ≤ D.nw ∧ D.nw ≤ 1000000) ∧ (0 ≤ D.nf ∧ D.nf ≤ 1000000) := by
  have h1 := h.nw; have h2 := h.nf; have h3 := h.wl; have h4 := h.mat.nw; have h5 := h.mat.nf
  omega
theorem PMid.more {w w3 : World} {b m : Nat} {D : DiskM} {r : RM} {cs : Array Value} {F G F1 G1 : Nat → Prop} (h : PMid w w3 b D r cs F G F1 G1 m) : PMid w w3 b D r cs F G F1 G1 (m + 1) :=
  ⟨⟨h.ps.disk, h.ps.ref, h.ps.mat, h.ps.apart, by have := h.ps.nw; omega, by have := h.ps.nf; omega, by have := h.ps.wl; omega⟩, h.bw, h.bz, h.only, h.nf, h.ng, h.lf, h.lg, h.sz⟩
theorem write_nw (D : DiskM) (n : Int) (l : List UInt8) (m : Nat) (hm : m ≤ 1000) (h1 : 0 ≤ D.nw ∧ D.nw ≤ m) (h2 : 0 ≤ D.nf ∧ D.nf ≤ m) : (0 ≤ (D.write n l).1.nw ∧ (D.write n l).1.nw ≤ (m : Int) + 1) ∧ (0 ≤ (D.write n l).1.nf ∧ (D.write n l).1.nf ≤ (m : Int) + 1) := by
  have e1 := burn_nw D
  have e2 := burn_nf D
  unfold DiskM.write
  split
  · dsimp only; omega
  split
  · dsimp only; omega
  split
  · dsimp only; omega
  split
  · dsimp only; omega
  split
  · show (0 ≤ wrap64 (D.nw + 1) ∧ wrap64 (D.nw + 1) ≤ (m : Int) + 1) ∧ (0 ≤ D.burn.nf ∧ D.burn.nf ≤ (m : Int) + 1)
    unfold wrap64; omega
  · dsimp only; omega
theorem flush_nw (D : DiskM) (m : Nat) (hm : m ≤ 1000) (h1 : 0 ≤ D.nw ∧ D.nw ≤ m) (h2 : 0 ≤ D.nf ∧ D.nf ≤ m) : (0 ≤ D.flush.1.nw ∧ D.flush.1.nw ≤ (m : Int) + 1) ∧ (0 ≤ D.flush.1.nf ∧ D.flush.1.nf ≤ (m : Int) + 1) := by
  have e1 := burn_nw D
  have e2 := burn_nf D
  unfold DiskM.flush
  split
  · dsimp only; omega
  split
  · show (0 ≤ D.burn.nw ∧ D.burn.nw ≤ (m : Int) + 1) ∧ (0 ≤ wrap64 (D.nf + 1) ∧ wrap64 (D.nf + 1) ≤ (m : Int) + 1)
    unfold wrap64; omega
  · dsimp only; omega
theorem put_wl (r : RM) (n : Int) (l : List UInt8) : (r.put n l).1.ws.length ≤ r.ws.length + 1 := by
  obtain ⟨e, -, -⟩ := rburn_ws r
  unfold RM.put
  repeat' split
  all_goals simp [e]
theorem flush_wl (r : RM) : r.flush.1.ws.length ≤ r.ws.length + 1 := by
  obtain ⟨e, -, -⟩ := rburn_ws r
  unfold RM.flush
  repeat' split
  all_goals simp [e]
theorem match_spoil {D : DiskM} {r : RM} (h : Match D r) (n a : Nat) (hn : n < D.n) (x : UInt8) : Match (D.spoilt n a x) { r with sure := r.sure.set n (spoilL (r.sure.getD n []) a x) } := by
  refine ⟨by show (r.sure.set n _).length = D.n; rw [List.length_set]; exact h.n, fun k hk => ?_, h.pe, h.rg, h.dn, h.fu, h.nw, h.nf⟩
  show (r.sure.set n (spoilL (r.sure.getD n []) a x)).getD k [] = if k = n then spoilL (D.sure n) a x else D.sure k
  have hk' : k < D.n := hk
  rw [List.getD_eq_getElem?_getD, List.getElem?_set]
  by_cases e : k = n
  · subst e
    rw [if_pos rfl, if_pos (by rw [h.n]; exact hn), if_pos rfl, h.su k hk']; rfl
  · rw [if_neg (fun e' => e e'.symm), if_neg e, ← h.su k hk', List.getD_eq_getElem?_getD]
theorem strs_get {l : List (List UInt8)} {k : Nat} (hk : k < l.length) : (strs l)[k]? = some (.string (strOf (l.getD k []))) := by
  simp [strs, List.getD_eq_getElem?_getD, List.getElem?_eq_getElem hk]
theorem strs_set (l : List (List UInt8)) (n : Nat) (s : List UInt8) : (strs l).set n (.string (strOf s)) = strs (l.set n s) := by simp [strs, List.map_set]
/-- A byte of a string's bytes is turned. -/
theorem spoil_src (w : World) (s : List UInt8) (a : Nat) (y x : UInt8) (hy : s[a]? = some y) (c : Nat) : Src ((Go.Lib.bytesWorld w 5 (strOf s)).setCell ⟨w.heap.size, a, none⟩ (.int .u8 ((y ^^^ x).toNat : Nat))) (.slice (some ⟨w.heap.size, 0, none⟩) s.length c) (spoilL s a x) := by
  refine ⟨some ⟨w.heap.size, 0, none⟩, c, by simp, fun _ => ⟨w.heap.size, 0, rfl, fun i u hu => ?_⟩⟩
  rw [Nat.zero_add]
  have hal : a < s.length := (List.getElem?_eq_some_iff.1 hy).1
  have hg : s.getD a 0 = y := by rw [List.getD_eq_getElem?_getD, hy]; rfl
  have hcell : ∀ j, j < s.length → (Go.Lib.bytesWorld w 5 (strOf s)).cell? ⟨w.heap.size, j, none⟩ = some (.int .u8 (s.getD j 0).toNat) := fun j hj => by
    rw [Go.Lib.bytesWorld_cell _ _ _ _ (by exact hj)]
    simp [strOf]
  rw [bytesV_get] at hu
  unfold spoilL at hu
  rw [hg, List.getElem?_set] at hu
  by_cases e : a = i
  · subst e
    rw [if_pos rfl, if_pos hal] at hu
    simp only [Option.map_some, Option.some.injEq] at hu
    rw [World.cell?_setCell_same (h := hcell a hal), hu]
  · rw [if_neg e] at hu
    have hi : i < s.length := by
      rcases Nat.lt_or_ge i s.length with h | h
      · exact h
      · rw [List.getElem?_eq_none h] at hu; cases hu
    rw [World.cell?_setCell_other (h := fun e' => e (by injection e')), hcell i hi]
    rw [List.getElem?_eq_getElem hi] at hu
    simp only [Option.map_some, Option.some.injEq] at hu
    rw [← hu]
    simp [List.getD_eq_getElem?_getD, hi]
theorem step_on {P : Program} {ops : Array Oper} {o : Oper} {a : Act} {Q : Exit → Act → World → Prop} {w : World} {K : Act → World → Prop} {E : Prop} (hg : Region.wanted o (yielded ops a.tmps) = true) (h : o.wp P a w K Q) : if Region.wanted o (yielded ops a.tmps) = true then o.wp P a w K Q else E := by
  rw [if_pos hg]; exact h
def PMidV (w wr : World) (b : Nat) (F G : Nat → Prop) (m : Nat) (x y : Value) : Prop := ∃ D r cs F' G' c, x = .int .i64 c ∧ y = .int .i64 c ∧ PMid w wr b D r cs F G F' G' m
def PlayPost (w : World) (b : Nat) (F G : Nat → Prop) (m : Nat) (e : Ending) (w' : World) : Prop := ∃ D' r' cs' F' G', e = .returned (.tuple #[.agg cs', .bool true]) ∧ PS w' b D' r' cs' F' G' m ∧ Only F w w' ∧ (∀ k, F' k → F k ∨ w.heap.size ≤ k) ∧ ∀ k, G' k → G k ∨ w.heap.size ≤ k

section
variable {w : World} {b : Nat} {D : DiskM} {r : RM} {cs : Array Value} {F G : Nat → Prop} {m : Nat} {B : Nat} {o : OpM}
set_option maxRecDepth 100000 in
set_option maxHeartbeats 6400000 in
theorem play_c (hp : PS w b D r cs F G m) (hm : m ≤ 1000) (hat : OpAt w B o) (hBF : ∀ k, k < B → ¬ F k) (hok : o.ok = true) :
    Calls Try.prog 64 #[.pointer (some ⟨b, 0, none⟩), .agg cs, .agg o.cells.toArray] w (PlayPost w b F G (m + 1)) := by
  obtain ⟨sa, sc, wa, wk, rfl, -⟩ := hp.ref.ex
  obtain ⟨da, dc, hdv⟩ := hat.data.len
  obtain ⟨ka, kc, hkv⟩ := hat.keep.len
  rw [length_intsV] at hkv
  have HP := hid hp; have HA := hid hat; have HBF := hid hBF; have HOK := hid hok; have HDv := hid hdv; have HKv := hid hkv
  unfold RM.cells OpM.cells
  rw [hdv, hkv]
  clear hp hat hBF hok hdv hkv
  go_enter Try.func64, Try.ntmps64
  go_upto_block 0 with fail
  obtain ⟨w3, hw3⟩ : ∃ w3, ((w.alloc (.cells #[.slice sa r.sure.length sc, .slice wa r.ws.length wk, .bool r.down, .int .i64 r.fuse, .int .i64 r.written, .int .i64 r.flushed] 113)).alloc (.cells #[.int .i64 o.kind, .int .i64 o.n, .int .i64 o.at', .int .u8 o.x, .bool o.raw, .slice da o.data.length dc, .slice ka o.keep.length kc] 33)).alloc (.cells #[.slice none 0 0, .slice none 0 0, .bool false, .int .i64 0, .int .i64 0, .int .i64 0] 113) = w3 := ⟨_, rfl⟩
  have Ho3 : Hid (Only (fun _ => False) w w3) := hid (by rw [← hw3]; exact (((Only.refl _ w).alloc _).alloc _).alloc _)
  have Hsz : Hid (w3.heap.size = w.heap.size + 3) := hid (by rw [← hw3]; simp)
  have HM : Hid (PMid w w3 b D r (r.cells sa sc wa wk) F G F G m) := hid (by
    refine ⟨⟨HP.out.disk.only Ho3.out (fun _ _ e => e), HP.out.ref.same Ho3.out, HP.out.mat, HP.out.apart, HP.out.nw, HP.out.nf, HP.out.wl⟩, ?_, ?_, Ho3.out.mono (fun _ _ e => e.elim), fun k hk => .inl hk, fun k hk => .inl hk, fun k hk => HP.out.disk.lt hk, HP.out.ref.lt, by rw [Hsz.out]; exact Nat.le_refl _⟩
    · rw [← hw3]; exact blk_alloc (blk_alloc (blk_new w _))
    · rw [← hw3]
      have := blk_new ((w.alloc (.cells #[.slice sa r.sure.length sc, .slice wa r.ws.length wk, .bool r.down, .int .i64 r.fuse, .int .i64 r.written, .int .i64 r.flushed] 113)).alloc (.cells #[.int .i64 o.kind, .int .i64 o.n, .int .i64 o.at', .int .u8 o.x, .bool o.raw, .slice da o.data.length dc, .slice ka o.keep.length kc] 33)) (.cells #[.slice none 0 0, .slice none 0 0, .bool false, .int .i64 0, .int .i64 0, .int .i64 0] 113)
      simpa using this)
  have HO : Hid (w3.heap[w.heap.size + 1]? = some (.cells #[.int .i64 o.kind, .int .i64 o.n, .int .i64 o.at', .int .u8 o.x, .bool o.raw, .slice da o.data.length dc, .slice ka o.keep.length kc] 33 (0, 0))) := hid (by rw [← hw3]; exact blk_alloc (blk2 w _ _))
  have HAt := hid (HA.out.only Ho3.out (fun _ _ e => e))
  have HBF3 : Hid (∀ wx : World, Only F w3 wx → ∀ i, wx.cell? ⟨w.heap.size + 1, i, none⟩ = (#[.int .i64 o.kind, .int .i64 o.n, .int .i64 o.at', .int .u8 o.x, .bool o.raw, .slice da o.data.length dc, .slice ka o.keep.length kc] : Array Value)[i]?) := hid (fun wx ho i => cell_blk (blk_only HO.out ho (fun e => by have := HP.out.disk.lt e; omega)) i)
  rw [hw3]
  have x0 := HBF3.out w3 (Only.refl _ _) 0
  have x1 := HBF3.out w3 (Only.refl _ _) 1
  have x2 := HBF3.out w3 (Only.refl _ _) 2
  have x3 := HBF3.out w3 (Only.refl _ _) 3
  have x4 := HBF3.out w3 (Only.refl _ _) 4
  have x5 := HBF3.out w3 (Only.refl _ _) 5
  have x6 := HBF3.out w3 (Only.refl _ _) 6
  simp only [List.getElem?_toArray, List.getElem?_cons_zero, List.getElem?_cons_succ] at x0 x1 x2 x3 x4 x5 x6
  clear hw3
  go_cut [8, 9] from 8 to 161 (fun x y wx => PMidV w wx b F G (m + 1) x y)
  case first =>
    have HF0 : Hid (¬ F w.heap.size) := hid (fun e => by have := HM.out.lf _ e; omega)
    have HF1 : Hid (¬ F (w.heap.size + 1)) := hid (fun e => by have := HM.out.lf _ e; omega)
    have Hdlen : Hid (o.data.length ≤ 1000000) := hid (by have := HOK.out; unfold OpM.ok at this; simp at this; omega)
    have Hklen : Hid (o.keep.length ≤ 1000000) := hid (by have := HOK.out; unfold OpM.ok at this; simp at this; omega)
    have hn1 := HA.out.n0
    by_cases h0 : o.kind = 0
    · have hb0 : (o.kind == 0) = true := by simp [h0]
      clear h0
      rcases Bool.eq_false_or_eq_true o.raw with hraw | hraw
      · rw [hraw] at x4
        clear hraw
        obtain ⟨w4, hw4⟩ : ∃ w4, w4 = w3 := ⟨_, rfl⟩
        have H34 : Hid (Only (fun _ => False) w3 w4) := hid (by rw [hw4]; exact Only.refl _ _)
        have HD4 := hid (HM.out.ps.disk.only H34.out (fun _ _ e => e))
        rw [← hw4] at x0 x1 x2 x3 x4 x5 x6 ⊢
        clear hw4
        go_wp2_with (first | (go_at_call 28; refine (write_c2 HD4.out o.n _ o.data (by have := HAt.out.data; rw [HDv.out] at this; exact this.only H34.out (fun _ _ _ _ _ e => e)) (fun hne g of c e hf => HBF.out g (HA.out.dlt g of c (by rw [HDv.out]; exact e) hne) hf) Hdlen.out).mono ?_; rintro e w5 ⟨rfl, F5, hd5, ho5, hn5⟩; have Hd5 := hid hd5; have Ho5 := hid ho5; have Hn5 := hid hn5; have HXw5 : Hid (∀ wx : World, Only (fun _ => False) w5 wx → ∀ i, wx.cell? ⟨w.heap.size + 1, i, none⟩ = (#[.int .i64 o.kind, .int .i64 o.n, .int .i64 o.at', .int .u8 o.x, .bool o.raw, .slice da o.data.length dc, .slice ka o.keep.length kc] : Array Value)[i]?) := hid (fun wx ho i => cell_blk (blk_only (blk_only (blk_only HO.out H34.out (fun e => e)) ho5 (fun e => HF1.out e)) ho (fun e => e)) i); have Hb5 := hid (blk_only (blk_only HM.out.bw H34.out (fun e => e)) ho5 (fun e => HF0.out e)); have Hr5 := hid ((HM.out.ps.ref.same H34.out).only ho5 (fun k hg hf => HM.out.ps.apart k hf hg)); have hcv := conv_str (Src.only (by have := HAt.out.data; rw [HDv.out] at this; exact this.only H34.out (fun _ _ _ _ _ e => e)) ho5 (fun hne g of c e hf => HBF.out g (HA.out.dlt g of c (by rw [HDv.out]; exact e) hne) hf)); clear hd5 ho5 hn5; have z1w5 : w5.cell? ⟨w.heap.size + 1, 1, none⟩ = some (.int .i64 o.n) := HXw5.out w5 (Only.refl _ _) 1) | ((guard_target =~ wpList _ _ _ (⟨some 31, _, _, _, _, _⟩ :: _) _ _); refine wpList_load_row (o := ⟨some 31, _, _, _, _, _⟩) rfl 113 (.tmp 4) rfl w.heap.size rfl 113 (r.cells sa sc wa wk) (0, 0) _ Hb5.out Try.underlying113 rfl Hr5.out.info ?_) | (go_at_call 93; refine (rput_c Hr5.out HM.out.ps.fu (HM.out.ps.bounds (by omega)).1 (HM.out.ps.bounds (by omega)).2.1 o.n o.data).mono ?_; rintro e w6 ⟨cs6, G6, rfl, hr6, hn6, ho6⟩; have Hr6 := hid hr6; have Hn6 := hid hn6; have Ho6 := hid ho6; have Hb6 := hid (blk_only Hb5.out ho6 (fun e => e)); clear hr6 hn6 ho6) | ((guard_target =~ wpList _ _ _ (⟨none, .store 113 (.tmp 4) (.tmp 37), _, _, _, _⟩ :: _) _ _); refine wpList_store_all (o := ⟨none, .store 113 (.tmp 4) (.tmp 37), _, _, _, _⟩) rfl 113 (.tmp 4) (.tmp 37) rfl w.heap.size cs6 rfl rfl (r.cells sa sc wa wk) 113 Hb6.out (by rw [Hr6.out.size, Hr5.out.size]) Hr6.out.info Hr6.out.one ?_; intro w7 hb7 ho7 hs7; have Hb7 := hid hb7; have Ho7 := hid ho7; clear hb7 ho7 hs7))
        obtain ⟨hmt, hcode⟩ := match_write HM.out.ps.mat HM.out.ps.disk.fu.1 (HM.out.ps.bounds (by omega)).2.2.2.1 o.n o.data
        obtain ⟨hb1, hb2⟩ := write_nw D o.n o.data m hm HM.out.ps.nw HM.out.ps.nf
        have Hcode := hid hcode
        have Hmid := hid (HM.out.step4 H34.out Hd5.out Ho5.out Hn5.out Hr6.out Hn6.out Ho6.out Hb7.out Ho7.out hmt hb1 hb2 (Nat.le_trans (put_wl r o.n o.data) (by have := HM.out.ps.wl; omega)))
        clear hmt hcode hb1 hb2
        go_meet
        case rel => exact ⟨_, _, _, _, _, _, rfl, by rw [Hcode.out], Hmid.out⟩
      · rw [hraw] at x4
        clear hraw
        have HDk := hid HM.out.ps.disk
        go_wp2_with (first | (go_at_call 29; refine (sector_c _ _ o.data (by have := HAt.out.data; rw [HDv.out] at this; exact this)).mono ?_; rintro e w4 ⟨g4, rfl, hm4, ho4⟩; have H34 := hid ho4; have HD4 := hid (HDk.out.only ho4 (fun _ _ e => e)); have HSr := hid (made_src128 hm4 (length_sectorL _)); have HAp := hid (hm4.apart HDk.out); have hx14 : w4.cell? ⟨w.heap.size + 1, 1, none⟩ = some (.int .i64 o.n) := cell_blk (blk_only HO.out ho4 (fun e => e)) 1; clear hm4 ho4) | (go_at_call 28; refine (write_c2 HD4.out o.n _ (sectorL o.data) HSr.out (fun _ => HAp.out) (by simp)).mono ?_; rintro e w5 ⟨rfl, F5, hd5, ho5, hn5⟩; have Hd5 := hid hd5; have Ho5 := hid ho5; have Hn5 := hid hn5; have HXw5 : Hid (∀ wx : World, Only (fun _ => False) w5 wx → ∀ i, wx.cell? ⟨w.heap.size + 1, i, none⟩ = (#[.int .i64 o.kind, .int .i64 o.n, .int .i64 o.at', .int .u8 o.x, .bool o.raw, .slice da o.data.length dc, .slice ka o.keep.length kc] : Array Value)[i]?) := hid (fun wx ho i => cell_blk (blk_only (blk_only (blk_only HO.out H34.out (fun e => e)) ho5 (fun e => HF1.out e)) ho (fun e => e)) i); have Hb5 := hid (blk_only (blk_only HM.out.bw H34.out (fun e => e)) ho5 (fun e => HF0.out e)); have Hr5 := hid ((HM.out.ps.ref.same H34.out).only ho5 (fun k hg hf => HM.out.ps.apart k hf hg)); have hcv := conv_str (Src.only HSr.out ho5 (fun _ => HAp.out)); clear hd5 ho5 hn5; have z1w5 : w5.cell? ⟨w.heap.size + 1, 1, none⟩ = some (.int .i64 o.n) := HXw5.out w5 (Only.refl _ _) 1) | ((guard_target =~ wpList _ _ _ (⟨some 31, _, _, _, _, _⟩ :: _) _ _); refine wpList_load_row (o := ⟨some 31, _, _, _, _, _⟩) rfl 113 (.tmp 4) rfl w.heap.size rfl 113 (r.cells sa sc wa wk) (0, 0) _ Hb5.out Try.underlying113 rfl Hr5.out.info ?_) | (go_at_call 93; refine (rput_c Hr5.out HM.out.ps.fu (HM.out.ps.bounds (by omega)).1 (HM.out.ps.bounds (by omega)).2.1 o.n (sectorL o.data)).mono ?_; rintro e w6 ⟨cs6, G6, rfl, hr6, hn6, ho6⟩; have Hr6 := hid hr6; have Hn6 := hid hn6; have Ho6 := hid ho6; have Hb6 := hid (blk_only Hb5.out ho6 (fun e => e)); clear hr6 hn6 ho6) | ((guard_target =~ wpList _ _ _ (⟨none, .store 113 (.tmp 4) (.tmp 37), _, _, _, _⟩ :: _) _ _); refine wpList_store_all (o := ⟨none, .store 113 (.tmp 4) (.tmp 37), _, _, _, _⟩) rfl 113 (.tmp 4) (.tmp 37) rfl w.heap.size cs6 rfl rfl (r.cells sa sc wa wk) 113 Hb6.out (by rw [Hr6.out.size, Hr5.out.size]) Hr6.out.info Hr6.out.one ?_; intro w7 hb7 ho7 hs7; have Hb7 := hid hb7; have Ho7 := hid ho7; clear hb7 ho7 hs7))
        obtain ⟨hmt, hcode⟩ := match_write HM.out.ps.mat HM.out.ps.disk.fu.1 (HM.out.ps.bounds (by omega)).2.2.2.1 o.n (sectorL o.data)
        obtain ⟨hb1, hb2⟩ := write_nw D o.n (sectorL o.data) m hm HM.out.ps.nw HM.out.ps.nf
        have Hcode := hid hcode
        have Hmid := hid (HM.out.step4 H34.out Hd5.out Ho5.out Hn5.out Hr6.out Hn6.out Ho6.out Hb7.out Ho7.out hmt hb1 hb2 (Nat.le_trans (put_wl r o.n (sectorL o.data)) (by have := HM.out.ps.wl; omega)))
        clear hmt hcode hb1 hb2
        go_meet
        case rel => exact ⟨_, _, _, _, _, _, rfl, by rw [Hcode.out], Hmid.out⟩
    have hb0 : (o.kind == 0) = false := by simp [h0]
    clear h0
    by_cases h1 : o.kind = 1
    · have hb1 : (o.kind == 1) = true := by simp [h1]
      clear h1
      obtain ⟨w4, hw4⟩ : ∃ w4, w4 = w3 := ⟨_, rfl⟩
      have H34 : Hid (Only (fun _ => False) w3 w4) := hid (by rw [hw4]; exact Only.refl _ _)
      have HD4 := hid (HM.out.ps.disk.only H34.out (fun _ _ e => e))
      rw [← hw4] at x0 x1 x2 x3 x4 x5 x6 ⊢
      clear hw4
      obtain ⟨P, hP⟩ : ∃ P, D.get o.n = P := ⟨_, rfl⟩
      have HP' := hid hP
      clear hP
      have hse : ((strOf P.1).toList == (strOf P.1).toList) = true := beq_self_eq_true _
      go_wp2_with (first | (go_at_call 31; refine (read_c HD4.out o.n).mono ?_; rintro e w5 ⟨av, cv, rfl, hs5, ho5'⟩; rw [HP'.out] at hs5 ⊢; have Hs5 := hid hs5; have hd5 := HD4.out.only ho5' (fun _ _ e => e); have ho5 := ho5'.mono (G := F) (fun _ _ e => e.elim); clear hs5 ho5'; have hn5 : ∀ k, F k → F k ∨ w4.heap.size ≤ k := fun k hk => .inl hk; have Hg5 := hid (rget_c ((HM.out.ps.ref.same H34.out).only ho5 (fun k hg hf => HM.out.ps.apart k hf hg)) (HM.out.ps.bounds (by omega)).1 o.n); rw [match_get' HM.out.ps.mat, HP'.out] at Hg5; have Hd5 := hid hd5; have Ho5 := hid ho5; have Hn5 := hid hn5; have HXw5 : Hid (∀ wx : World, Only (fun _ => False) w5 wx → ∀ i, wx.cell? ⟨w.heap.size + 1, i, none⟩ = (#[.int .i64 o.kind, .int .i64 o.n, .int .i64 o.at', .int .u8 o.x, .bool o.raw, .slice da o.data.length dc, .slice ka o.keep.length kc] : Array Value)[i]?) := hid (fun wx ho i => cell_blk (blk_only (blk_only (blk_only HO.out H34.out (fun e => e)) ho5 (fun e => HF1.out e)) ho (fun e => e)) i); have Hb5 := hid (blk_only (blk_only HM.out.bw H34.out (fun e => e)) ho5 (fun e => HF0.out e)); have Hr5 := hid ((HM.out.ps.ref.same H34.out).only ho5 (fun k hg hf => HM.out.ps.apart k hf hg)); clear hd5 ho5 hn5; have z1w5 : w5.cell? ⟨w.heap.size + 1, 1, none⟩ = some (.int .i64 o.n) := HXw5.out w5 (Only.refl _ _) 1) | ((guard_target =~ wpList _ _ _ (⟨some 49, _, _, _, _, _⟩ :: _) _ _); refine wpList_load_row (o := ⟨some 49, _, _, _, _, _⟩) rfl 113 (.tmp 4) rfl w.heap.size rfl 113 (r.cells sa sc wa wk) (0, 0) _ Hb5.out Try.underlying113 rfl Hr5.out.info ?_) | (go_at_call 94; refine Hg5.out.mono ?_; rintro e w6 ⟨rfl, ho6⟩; have Hr6 := hid (Hr5.out.same ho6); have Ho6 := hid ho6; have Hb6 := hid (blk_only Hb5.out ho6 (fun e => e)); have hcv := conv_str (Hs5.out.only ho6 (fun _ _ _ _ _ e => e)); clear ho6))
      have Hmid := hid (HM.out.step4 H34.out Hd5.out Ho5.out Hn5.out Hr6.out (fun k hk => .inl hk) Ho6.out Hb6.out (Only.refl _ _) HM.out.ps.mat (by have := HM.out.ps.nw; omega) (by have := HM.out.ps.nf; omega) (by have := HM.out.ps.wl; omega))
      go_meet
      case rel => exact ⟨_, _, _, _, _, _, rfl, rfl, Hmid.out⟩
    have hb1 : (o.kind == 1) = false := by simp [h1]
    clear h1
    by_cases h2 : o.kind = 2
    · have hb2 : (o.kind == 2) = true := by simp [h2]
      clear h2
      obtain ⟨w4, hw4⟩ : ∃ w4, w4 = w3 := ⟨_, rfl⟩
      have H34 : Hid (Only (fun _ => False) w3 w4) := hid (by rw [hw4]; exact Only.refl _ _)
      have HD4 := hid (HM.out.ps.disk.only H34.out (fun _ _ e => e))
      rw [← hw4] at x0 x1 x2 x3 x4 x5 x6 ⊢
      clear hw4
      go_wp2_with (first | (go_at_call 27; refine (flush_c HD4.out).mono ?_; rintro e w5 ⟨rfl, hd5, ho5⟩; have hn5 : ∀ k, F k → F k ∨ w4.heap.size ≤ k := fun k hk => .inl hk; have Hd5 := hid hd5; have Ho5 := hid ho5; have Hn5 := hid hn5; have HXw5 : Hid (∀ wx : World, Only (fun _ => False) w5 wx → ∀ i, wx.cell? ⟨w.heap.size + 1, i, none⟩ = (#[.int .i64 o.kind, .int .i64 o.n, .int .i64 o.at', .int .u8 o.x, .bool o.raw, .slice da o.data.length dc, .slice ka o.keep.length kc] : Array Value)[i]?) := hid (fun wx ho i => cell_blk (blk_only (blk_only (blk_only HO.out H34.out (fun e => e)) ho5 (fun e => HF1.out e)) ho (fun e => e)) i); have Hb5 := hid (blk_only (blk_only HM.out.bw H34.out (fun e => e)) ho5 (fun e => HF0.out e)); have Hr5 := hid ((HM.out.ps.ref.same H34.out).only ho5 (fun k hg hf => HM.out.ps.apart k hf hg)); clear hd5 ho5 hn5; skip) | ((guard_target =~ wpList _ _ _ (⟨some 65, _, _, _, _, _⟩ :: _) _ _); refine wpList_load_row (o := ⟨some 65, _, _, _, _, _⟩) rfl 113 (.tmp 4) rfl w.heap.size rfl 113 (r.cells sa sc wa wk) (0, 0) _ Hb5.out Try.underlying113 rfl Hr5.out.info ?_) | (go_at_call 95; refine (rflush_c Hr5.out HM.out.ps.fu (HM.out.ps.bounds (by omega)).1 HM.out.ps.sl (HM.out.ps.bounds (by omega)).2.2.1).mono ?_; rintro e w6 ⟨cs6, G6, rfl, hr6, hn6, ho6⟩; have Hr6 := hid hr6; have Hn6 := hid hn6; have Ho6 := hid ho6; have Hb6 := hid (blk_only Hb5.out ho6 (fun e => e)); clear hr6 hn6 ho6) | ((guard_target =~ wpList _ _ _ (⟨none, .store 113 (.tmp 4) (.tmp 67), _, _, _, _⟩ :: _) _ _); refine wpList_store_all (o := ⟨none, .store 113 (.tmp 4) (.tmp 67), _, _, _, _⟩) rfl 113 (.tmp 4) (.tmp 67) rfl w.heap.size cs6 rfl rfl (r.cells sa sc wa wk) 113 Hb6.out (by rw [Hr6.out.size, Hr5.out.size]) Hr6.out.info Hr6.out.one ?_; intro w7 hb7 ho7 hs7; have Hb7 := hid hb7; have Ho7 := hid ho7; clear hb7 ho7 hs7))
      obtain ⟨hmt, hcode⟩ := match_flush HM.out.ps.mat HM.out.ps.disk.fu.1 (HM.out.ps.bounds (by omega)).2.2.2.2
      obtain ⟨hb1, hb2⟩ := flush_nw D m hm HM.out.ps.nw HM.out.ps.nf
      have Hcode := hid hcode
      have Hmid := hid (HM.out.step4 H34.out Hd5.out Ho5.out Hn5.out Hr6.out Hn6.out Ho6.out Hb7.out Ho7.out hmt hb1 hb2 (Nat.le_trans (flush_wl r) (by have := HM.out.ps.wl; omega)))
      clear hmt hcode hb1 hb2
      go_meet
      case rel => exact ⟨_, _, _, _, _, _, rfl, by rw [Hcode.out], Hmid.out⟩
    have hb2 : (o.kind == 2) = false := by simp [h2]
    clear h2
    by_cases h3 : o.kind = 3
    · have hb3 : (o.kind == 3) = true := by simp [h3]
      clear h3
      obtain ⟨w4, hw4⟩ : ∃ w4, w4 = w3 := ⟨_, rfl⟩
      have H34 : Hid (Only (fun _ => False) w3 w4) := hid (by rw [hw4]; exact Only.refl _ _)
      have HD4 := hid (HM.out.ps.disk.only H34.out (fun _ _ e => e))
      rw [← hw4] at x0 x1 x2 x3 x4 x5 x6 ⊢
      clear hw4
      go_wp2_with (first | (go_at_call 50; refine (crash_c2 HD4.out _ o.keep (by have := HAt.out.keep; rw [HKv.out] at this; exact this.only H34.out (fun _ _ _ _ _ _ e => e)) (fun hne g of c e hf => HBF.out g (HA.out.klt g of c (by rw [HKv.out]; exact e) hne) hf) (Nat.le_trans Hklen.out (by decide)) o.n o.at').mono ?_; rintro e w5 ⟨rfl, hd5, ho5⟩; have hn5 : ∀ k, F k → F k ∨ w4.heap.size ≤ k := fun k hk => .inl hk; have Hd5 := hid hd5; have Ho5 := hid ho5; have Hn5 := hid hn5; have HXw5 : Hid (∀ wx : World, Only (fun _ => False) w5 wx → ∀ i, wx.cell? ⟨w.heap.size + 1, i, none⟩ = (#[.int .i64 o.kind, .int .i64 o.n, .int .i64 o.at', .int .u8 o.x, .bool o.raw, .slice da o.data.length dc, .slice ka o.keep.length kc] : Array Value)[i]?) := hid (fun wx ho i => cell_blk (blk_only (blk_only (blk_only HO.out H34.out (fun e => e)) ho5 (fun e => HF1.out e)) ho (fun e => e)) i); have Hb5 := hid (blk_only (blk_only HM.out.bw H34.out (fun e => e)) ho5 (fun e => HF0.out e)); have Hr5 := hid ((HM.out.ps.ref.same H34.out).only ho5 (fun k hg hf => HM.out.ps.apart k hf hg)); have HKs := hid (show SrcV w5 (.slice ka o.keep.length kc) (intsV o.keep) from (show SrcV w4 (.slice ka o.keep.length kc) (intsV o.keep) from (by have := HAt.out.keep; rw [HKv.out] at this; exact this.only H34.out (fun _ _ _ _ _ _ e => e))).only ho5 (fun hne g of c e _ hf => HBF.out g (HA.out.klt g of c (by rw [HKv.out]; simpa using e) (by rintro e2; apply hne; rw [e2]; rfl)) hf)); clear hd5 ho5 hn5; have z1w5 : w5.cell? ⟨w.heap.size + 1, 1, none⟩ = some (.int .i64 o.n) := HXw5.out w5 (Only.refl _ _) 1; have z2w5 : w5.cell? ⟨w.heap.size + 1, 2, none⟩ = some (.int .i64 o.at') := HXw5.out w5 (Only.refl _ _) 2; have z6w5 : w5.cell? ⟨w.heap.size + 1, 6, none⟩ = some (.slice ka o.keep.length kc) := HXw5.out w5 (Only.refl _ _) 6) | ((guard_target =~ wpList _ _ _ (⟨some 79, _, _, _, _, _⟩ :: _) _ _); refine wpList_load_row (o := ⟨some 79, _, _, _, _, _⟩) rfl 113 (.tmp 4) rfl w.heap.size rfl 113 (r.cells sa sc wa wk) (0, 0) _ Hb5.out Try.underlying113 rfl Hr5.out.info ?_) | (go_at_call 96; refine (rcrash_c Hr5.out (HM.out.ps.bounds (by omega)).1 HM.out.ps.sl _ o.keep HKs.out (Nat.le_trans Hklen.out (by decide)) o.n o.at' HM.out.ps.s128 HM.out.ps.l128).mono ?_; rintro e w6 ⟨cs6, G6, rfl, hr6, hn6, ho6⟩; have Hr6 := hid hr6; have Hn6 := hid hn6; have Ho6 := hid ho6; have Hb6 := hid (blk_only Hb5.out ho6 (fun e => e)); clear hr6 hn6 ho6) | ((guard_target =~ wpList _ _ _ (⟨none, .store 113 (.tmp 4) (.tmp 86), _, _, _, _⟩ :: _) _ _); refine wpList_store_all (o := ⟨none, .store 113 (.tmp 4) (.tmp 86), _, _, _, _⟩) rfl 113 (.tmp 4) (.tmp 86) rfl w.heap.size cs6 rfl rfl (r.cells sa sc wa wk) 113 Hb6.out (by rw [Hr6.out.size, Hr5.out.size]) Hr6.out.info Hr6.out.one ?_; intro w7 hb7 ho7 hs7; have Hb7 := hid hb7; have Ho7 := hid ho7; clear hb7 ho7 hs7))
      have Hmid := hid (HM.out.step4 H34.out Hd5.out Ho5.out Hn5.out Hr6.out Hn6.out Ho6.out Hb7.out Ho7.out (match_crash HM.out.ps.mat o.keep o.n o.at') (by have := HM.out.ps.nw; show 0 ≤ D.nw ∧ D.nw ≤ (m : Int) + 1; omega) (by have := HM.out.ps.nf; show 0 ≤ D.nf ∧ D.nf ≤ (m : Int) + 1; omega) (by show ([] : List (Int × List UInt8)).length ≤ m + 1; simp))
      go_meet
      case rel => exact ⟨_, _, _, _, _, 0, rfl, rfl, Hmid.out⟩
    have hb3 : (o.kind == 3) = false := by simp [h3]
    clear h3
    by_cases h4 : o.kind = 4
    · have hb4 : (o.kind == 4) = true := by simp [h4]
      clear h4
      obtain ⟨w4, hw4⟩ : ∃ w4, w4 = w3 := ⟨_, rfl⟩
      have H34 : Hid (Only (fun _ => False) w3 w4) := hid (by rw [hw4]; exact Only.refl _ _)
      have HD4 := hid (HM.out.ps.disk.only H34.out (fun _ _ e => e))
      rw [← hw4] at x0 x1 x2 x3 x4 x5 x6 ⊢
      clear hw4
      go_wp2_with (first | (go_at_call 32; refine (up_c HD4.out).mono ?_; rintro e w5 ⟨rfl, hd5, ho5⟩; have hn5 : ∀ k, F k → F k ∨ w4.heap.size ≤ k := fun k hk => .inl hk; have Hd5 := hid hd5; have Ho5 := hid ho5; have Hn5 := hid hn5; have HXw5 : Hid (∀ wx : World, Only (fun _ => False) w5 wx → ∀ i, wx.cell? ⟨w.heap.size + 1, i, none⟩ = (#[.int .i64 o.kind, .int .i64 o.n, .int .i64 o.at', .int .u8 o.x, .bool o.raw, .slice da o.data.length dc, .slice ka o.keep.length kc] : Array Value)[i]?) := hid (fun wx ho i => cell_blk (blk_only (blk_only (blk_only HO.out H34.out (fun e => e)) ho5 (fun e => HF1.out e)) ho (fun e => e)) i); have Hb5 := hid (blk_only (blk_only HM.out.bw H34.out (fun e => e)) ho5 (fun e => HF0.out e)); have Hr5 := hid ((HM.out.ps.ref.same H34.out).only ho5 (fun k hg hf => HM.out.ps.apart k hf hg)); clear hd5 ho5 hn5; skip) | ((guard_target =~ wpList _ _ _ (⟨some 91, _, _, _, _, _⟩ :: _) _ _); refine wpList_load_row (o := ⟨some 91, _, _, _, _, _⟩) rfl 113 (.tmp 4) rfl w.heap.size rfl 113 (r.cells sa sc wa wk) (0, 0) _ Hb5.out Try.underlying113 rfl Hr5.out.info ?_) | (go_at_call 97; refine (rup_c Hr5.out).mono ?_; rintro e w6 ⟨cs6, rfl, hr6, ho6⟩; have hn6 : ∀ k, G k → G k ∨ w5.heap.size ≤ k := fun k hk => .inl hk; have Hr6 := hid hr6; have Hn6 := hid hn6; have Ho6 := hid ho6; have Hb6 := hid (blk_only Hb5.out ho6 (fun e => e)); clear hr6 hn6 ho6) | ((guard_target =~ wpList _ _ _ (⟨none, .store 113 (.tmp 4) (.tmp 92), _, _, _, _⟩ :: _) _ _); refine wpList_store_all (o := ⟨none, .store 113 (.tmp 4) (.tmp 92), _, _, _, _⟩) rfl 113 (.tmp 4) (.tmp 92) rfl w.heap.size cs6 rfl rfl (r.cells sa sc wa wk) 113 Hb6.out (by rw [Hr6.out.size, Hr5.out.size]) Hr6.out.info Hr6.out.one ?_; intro w7 hb7 ho7 hs7; have Hb7 := hid hb7; have Ho7 := hid ho7; clear hb7 ho7 hs7))
      have Hmid := hid (HM.out.step4 H34.out Hd5.out Ho5.out Hn5.out Hr6.out Hn6.out Ho6.out Hb7.out Ho7.out (match_up HM.out.ps.mat) (by have := HM.out.ps.nw; show 0 ≤ D.nw ∧ D.nw ≤ (m : Int) + 1; omega) (by have := HM.out.ps.nf; show 0 ≤ D.nf ∧ D.nf ≤ (m : Int) + 1; omega) (by have := HM.out.ps.wl; show (if r.down then [] else r.ws).length ≤ m + 1; cases r.down <;> simp <;> omega))
      go_meet
      case rel => exact ⟨_, _, _, _, _, 0, rfl, rfl, Hmid.out⟩
    have hb4 : (o.kind == 4) = false := by simp [h4]
    clear h4
    by_cases h5 : o.kind = 5
    · have hb5 : (o.kind == 5) = true := by simp [h5]
      clear h5
      obtain ⟨w4, hw4⟩ : ∃ w4, w4 = w3 := ⟨_, rfl⟩
      have H34 : Hid (Only (fun _ => False) w3 w4) := hid (by rw [hw4]; exact Only.refl _ _)
      have HD4 := hid (HM.out.ps.disk.only H34.out (fun _ _ e => e))
      rw [← hw4] at x0 x1 x2 x3 x4 x5 x6 ⊢
      clear hw4
      go_wp2_with (go_at_call 26; refine (fuse_c HD4.out o.n hn1.2).mono ?_; rintro e w5 ⟨rfl, hd5, ho5⟩; have hn5 : ∀ k, F k → F k ∨ w4.heap.size ≤ k := fun k hk => .inl hk; have Hd5 := hid hd5; have Ho5 := hid ho5; have Hn5 := hid hn5; have HXw5 : Hid (∀ wx : World, Only (fun _ => False) w5 wx → ∀ i, wx.cell? ⟨w.heap.size + 1, i, none⟩ = (#[.int .i64 o.kind, .int .i64 o.n, .int .i64 o.at', .int .u8 o.x, .bool o.raw, .slice da o.data.length dc, .slice ka o.keep.length kc] : Array Value)[i]?) := hid (fun wx ho i => cell_blk (blk_only (blk_only (blk_only HO.out H34.out (fun e => e)) ho5 (fun e => HF1.out e)) ho (fun e => e)) i); have Hb5 := hid (blk_only (blk_only HM.out.bw H34.out (fun e => e)) ho5 (fun e => HF0.out e)); have Hr5 := hid ((HM.out.ps.ref.same H34.out).only ho5 (fun k hg hf => HM.out.ps.apart k hf hg)); clear hd5 ho5 hn5; have z1w5 : w5.cell? ⟨w.heap.size + 1, 1, none⟩ = some (.int .i64 o.n) := HXw5.out w5 (Only.refl _ _) 1; have q3 : w5.cell? ⟨w.heap.size, 3, none⟩ = some (.int .i64 r.fuse) := cell_blk Hb5.out 3; have q4 : w5.frozen? ⟨w.heap.size, 3, none⟩ = false := frozen_blk Hb5.out 3)
      have Hmid : Hid (PMid w (w5.setCell ⟨w.heap.size, 3, none⟩ (.int .i64 (max o.n (-1)))) b (D.setFuse o.n) { r with fuse := max o.n (-1) } (({ r with fuse := max o.n (-1) } : RM).cells sa sc wa wk) F G F G (m + 1)) := hid (by
        have hr6 : RefAt w5 (({ r with fuse := max o.n (-1) } : RM).cells sa sc wa wk) { r with fuse := max o.n (-1) } G := by
          obtain ⟨s1', c1', a1', d1', e, hq1, hq2, hq3, hq4⟩ := Hr5.out.ex
          unfold RM.cells at e
          simp only [Array.mk.injEq, List.cons.injEq, Value.slice.injEq, true_and] at e
          obtain ⟨⟨rfl, rfl⟩, ⟨rfl, rfl⟩, -⟩ := e
          exact RefAt.plain (r := ({ r with fuse := max o.n (-1) } : RM)) hq1 hq2 hq3 hq4 Hr5.out.lt
        exact HM.out.step4 H34.out Hd5.out Ho5.out Hn5.out hr6 (fun k hk => .inl hk) (Only.refl _ _) (blk_set Hb5.out 3 _) (only_set _ _ _) (match_fuse HM.out.ps.mat o.n) (by have := HM.out.ps.nw; show 0 ≤ D.nw ∧ D.nw ≤ (m : Int) + 1; omega) (by have := HM.out.ps.nf; show 0 ≤ D.nf ∧ D.nf ≤ (m : Int) + 1; omega) (by have := HM.out.ps.wl; show r.ws.length ≤ m + 1; omega))
      go_meet
      case rel => exact ⟨_, _, _, _, _, 0, rfl, rfl, Hmid.out⟩
    have hb5 : (o.kind == 5) = false := by simp [h5]
    clear h5
    by_cases h6 : o.kind = 6
    · have hb6 : (o.kind == 6) = true := by simp [h6]
      clear h6
      have HN := hid HM.out.ps.mat.n
      by_cases hn0 : o.n < 0
      · obtain ⟨w4, hw4⟩ : ∃ w4, w4 = w3 := ⟨_, rfl⟩
        have H34 : Hid (Only (fun _ => False) w3 w4) := hid (by rw [hw4]; exact Only.refl _ _)
        have HD4 := hid (HM.out.ps.disk.only H34.out (fun _ _ e => e))
        rw [← hw4] at x0 x1 x2 x3 x4 x5 x6 ⊢
        clear hw4
        go_wp2_with (go_at_call 49; refine (spoil_out HD4.out o.n o.at' (.int .u8 o.x) (.inl hn0)).mono ?_; rintro e w5 ⟨rfl, hw5⟩; have hd5 : DiskAt w5 b D F := hw5 ▸ HD4.out; have ho5 : Only F w4 w5 := hw5 ▸ Only.refl F w4; have hn5 : ∀ k, F k → F k ∨ w4.heap.size ≤ k := fun k hk => .inl hk; have q0 : w5.cell? ⟨w.heap.size, 0, none⟩ = some (.slice sa r.sure.length sc) := hw5 ▸ cell_blk (blk_only HM.out.bw H34.out (fun e => e)) 0; clear hw5; have Hd5 := hid hd5; have Ho5 := hid ho5; have Hn5 := hid hn5; have HXw5 : Hid (∀ wx : World, Only (fun _ => False) w5 wx → ∀ i, wx.cell? ⟨w.heap.size + 1, i, none⟩ = (#[.int .i64 o.kind, .int .i64 o.n, .int .i64 o.at', .int .u8 o.x, .bool o.raw, .slice da o.data.length dc, .slice ka o.keep.length kc] : Array Value)[i]?) := hid (fun wx ho i => cell_blk (blk_only (blk_only (blk_only HO.out H34.out (fun e => e)) ho5 (fun e => HF1.out e)) ho (fun e => e)) i); have Hb5 := hid (blk_only (blk_only HM.out.bw H34.out (fun e => e)) ho5 (fun e => HF0.out e)); have Hr5 := hid ((HM.out.ps.ref.same H34.out).only ho5 (fun k hg hf => HM.out.ps.apart k hf hg)); clear hd5 ho5 hn5; have z1w5 : w5.cell? ⟨w.heap.size + 1, 1, none⟩ = some (.int .i64 o.n) := HXw5.out w5 (Only.refl _ _) 1; have z2w5 : w5.cell? ⟨w.heap.size + 1, 2, none⟩ = some (.int .i64 o.at') := HXw5.out w5 (Only.refl _ _) 2)
        have Hmid := hid (HM.out.step4 H34.out Hd5.out Ho5.out Hn5.out Hr5.out (fun k hk => .inl hk) (Only.refl _ _) Hb5.out (Only.refl _ _) HM.out.ps.mat (by have := HM.out.ps.nw; omega) (by have := HM.out.ps.nf; omega) (by have := HM.out.ps.wl; omega))
        go_meet
        case rel => exact ⟨_, _, _, _, _, _, rfl, rfl, Hmid.out⟩
      by_cases hn2 : (r.sure.length : Int) ≤ o.n
      · obtain ⟨w4, hw4⟩ : ∃ w4, w4 = w3 := ⟨_, rfl⟩
        have H34 : Hid (Only (fun _ => False) w3 w4) := hid (by rw [hw4]; exact Only.refl _ _)
        have HD4 := hid (HM.out.ps.disk.only H34.out (fun _ _ e => e))
        rw [← hw4] at x0 x1 x2 x3 x4 x5 x6 ⊢
        clear hw4
        go_wp2_with (go_at_call 49; refine (spoil_out HD4.out o.n o.at' (.int .u8 o.x) (.inr (.inl (by rw [← HN.out]; exact hn2)))).mono ?_; rintro e w5 ⟨rfl, hw5⟩; have hd5 : DiskAt w5 b D F := hw5 ▸ HD4.out; have ho5 : Only F w4 w5 := hw5 ▸ Only.refl F w4; have hn5 : ∀ k, F k → F k ∨ w4.heap.size ≤ k := fun k hk => .inl hk; have q0 : w5.cell? ⟨w.heap.size, 0, none⟩ = some (.slice sa r.sure.length sc) := hw5 ▸ cell_blk (blk_only HM.out.bw H34.out (fun e => e)) 0; clear hw5; have Hd5 := hid hd5; have Ho5 := hid ho5; have Hn5 := hid hn5; have HXw5 : Hid (∀ wx : World, Only (fun _ => False) w5 wx → ∀ i, wx.cell? ⟨w.heap.size + 1, i, none⟩ = (#[.int .i64 o.kind, .int .i64 o.n, .int .i64 o.at', .int .u8 o.x, .bool o.raw, .slice da o.data.length dc, .slice ka o.keep.length kc] : Array Value)[i]?) := hid (fun wx ho i => cell_blk (blk_only (blk_only (blk_only HO.out H34.out (fun e => e)) ho5 (fun e => HF1.out e)) ho (fun e => e)) i); have Hb5 := hid (blk_only (blk_only HM.out.bw H34.out (fun e => e)) ho5 (fun e => HF0.out e)); have Hr5 := hid ((HM.out.ps.ref.same H34.out).only ho5 (fun k hg hf => HM.out.ps.apart k hf hg)); clear hd5 ho5 hn5; have z1w5 : w5.cell? ⟨w.heap.size + 1, 1, none⟩ = some (.int .i64 o.n) := HXw5.out w5 (Only.refl _ _) 1; have z2w5 : w5.cell? ⟨w.heap.size + 1, 2, none⟩ = some (.int .i64 o.at') := HXw5.out w5 (Only.refl _ _) 2)
        have Hmid := hid (HM.out.step4 H34.out Hd5.out Ho5.out Hn5.out Hr5.out (fun k hk => .inl hk) (Only.refl _ _) Hb5.out (Only.refl _ _) HM.out.ps.mat (by have := HM.out.ps.nw; omega) (by have := HM.out.ps.nf; omega) (by have := HM.out.ps.wl; omega))
        go_meet
        case rel => exact ⟨_, _, _, _, _, _, rfl, rfl, Hmid.out⟩
      by_cases ha0 : o.at' < 0
      · obtain ⟨w4, hw4⟩ : ∃ w4, w4 = w3 := ⟨_, rfl⟩
        have H34 : Hid (Only (fun _ => False) w3 w4) := hid (by rw [hw4]; exact Only.refl _ _)
        have HD4 := hid (HM.out.ps.disk.only H34.out (fun _ _ e => e))
        rw [← hw4] at x0 x1 x2 x3 x4 x5 x6 ⊢
        clear hw4
        go_wp2_with (go_at_call 49; refine (spoil_out HD4.out o.n o.at' (.int .u8 o.x) (.inr (.inr (.inl ha0)))).mono ?_; rintro e w5 ⟨rfl, hw5⟩; have hd5 : DiskAt w5 b D F := hw5 ▸ HD4.out; have ho5 : Only F w4 w5 := hw5 ▸ Only.refl F w4; have hn5 : ∀ k, F k → F k ∨ w4.heap.size ≤ k := fun k hk => .inl hk; have q0 : w5.cell? ⟨w.heap.size, 0, none⟩ = some (.slice sa r.sure.length sc) := hw5 ▸ cell_blk (blk_only HM.out.bw H34.out (fun e => e)) 0; clear hw5; have Hd5 := hid hd5; have Ho5 := hid ho5; have Hn5 := hid hn5; have HXw5 : Hid (∀ wx : World, Only (fun _ => False) w5 wx → ∀ i, wx.cell? ⟨w.heap.size + 1, i, none⟩ = (#[.int .i64 o.kind, .int .i64 o.n, .int .i64 o.at', .int .u8 o.x, .bool o.raw, .slice da o.data.length dc, .slice ka o.keep.length kc] : Array Value)[i]?) := hid (fun wx ho i => cell_blk (blk_only (blk_only (blk_only HO.out H34.out (fun e => e)) ho5 (fun e => HF1.out e)) ho (fun e => e)) i); have Hb5 := hid (blk_only (blk_only HM.out.bw H34.out (fun e => e)) ho5 (fun e => HF0.out e)); have Hr5 := hid ((HM.out.ps.ref.same H34.out).only ho5 (fun k hg hf => HM.out.ps.apart k hf hg)); clear hd5 ho5 hn5; have z1w5 : w5.cell? ⟨w.heap.size + 1, 1, none⟩ = some (.int .i64 o.n) := HXw5.out w5 (Only.refl _ _) 1; have z2w5 : w5.cell? ⟨w.heap.size + 1, 2, none⟩ = some (.int .i64 o.at') := HXw5.out w5 (Only.refl _ _) 2)
        have Hmid := hid (HM.out.step4 H34.out Hd5.out Ho5.out Hn5.out Hr5.out (fun k hk => .inl hk) (Only.refl _ _) Hb5.out (Only.refl _ _) HM.out.ps.mat (by have := HM.out.ps.nw; omega) (by have := HM.out.ps.nf; omega) (by have := HM.out.ps.wl; omega))
        go_meet
        case rel => exact ⟨_, _, _, _, _, _, rfl, rfl, Hmid.out⟩
      by_cases ha1 : 128 ≤ o.at'
      · obtain ⟨w4, hw4⟩ : ∃ w4, w4 = w3 := ⟨_, rfl⟩
        have H34 : Hid (Only (fun _ => False) w3 w4) := hid (by rw [hw4]; exact Only.refl _ _)
        have HD4 := hid (HM.out.ps.disk.only H34.out (fun _ _ e => e))
        rw [← hw4] at x0 x1 x2 x3 x4 x5 x6 ⊢
        clear hw4
        go_wp2_with (go_at_call 49; refine (spoil_out HD4.out o.n o.at' (.int .u8 o.x) (.inr (.inr (.inr ha1)))).mono ?_; rintro e w5 ⟨rfl, hw5⟩; have hd5 : DiskAt w5 b D F := hw5 ▸ HD4.out; have ho5 : Only F w4 w5 := hw5 ▸ Only.refl F w4; have hn5 : ∀ k, F k → F k ∨ w4.heap.size ≤ k := fun k hk => .inl hk; have q0 : w5.cell? ⟨w.heap.size, 0, none⟩ = some (.slice sa r.sure.length sc) := hw5 ▸ cell_blk (blk_only HM.out.bw H34.out (fun e => e)) 0; clear hw5; have Hd5 := hid hd5; have Ho5 := hid ho5; have Hn5 := hid hn5; have HXw5 : Hid (∀ wx : World, Only (fun _ => False) w5 wx → ∀ i, wx.cell? ⟨w.heap.size + 1, i, none⟩ = (#[.int .i64 o.kind, .int .i64 o.n, .int .i64 o.at', .int .u8 o.x, .bool o.raw, .slice da o.data.length dc, .slice ka o.keep.length kc] : Array Value)[i]?) := hid (fun wx ho i => cell_blk (blk_only (blk_only (blk_only HO.out H34.out (fun e => e)) ho5 (fun e => HF1.out e)) ho (fun e => e)) i); have Hb5 := hid (blk_only (blk_only HM.out.bw H34.out (fun e => e)) ho5 (fun e => HF0.out e)); have Hr5 := hid ((HM.out.ps.ref.same H34.out).only ho5 (fun k hg hf => HM.out.ps.apart k hf hg)); clear hd5 ho5 hn5; have z1w5 : w5.cell? ⟨w.heap.size + 1, 1, none⟩ = some (.int .i64 o.n) := HXw5.out w5 (Only.refl _ _) 1; have z2w5 : w5.cell? ⟨w.heap.size + 1, 2, none⟩ = some (.int .i64 o.at') := HXw5.out w5 (Only.refl _ _) 2)
        have Hmid := hid (HM.out.step4 H34.out Hd5.out Ho5.out Hn5.out Hr5.out (fun k hk => .inl hk) (Only.refl _ _) Hb5.out (Only.refl _ _) HM.out.ps.mat (by have := HM.out.ps.nw; omega) (by have := HM.out.ps.nf; omega) (by have := HM.out.ps.wl; omega))
        go_meet
        case rel => exact ⟨_, _, _, _, _, _, rfl, rfl, Hmid.out⟩
      obtain ⟨x8, hx8⟩ : ∃ x : UInt8, o.x = (x.toNat : Int) := ⟨UInt8.ofNat o.x.toNat, by have := HA.out.x0; simp; omega⟩
      have Hx8 := hid hx8
      rw [hx8] at x3
      clear hx8
      obtain ⟨n, hnn⟩ : ∃ n : Nat, o.n = n := ⟨o.n.toNat, by omega⟩
      obtain ⟨a, haa⟩ : ∃ a : Nat, o.at' = a := ⟨o.at'.toNat, by omega⟩
      have Hnn := hid hnn; have Haa := hid haa
      rw [hnn] at x1 hn0 hn2 hn1
      rw [haa] at x2 ha0 ha1
      have hnl : n < r.sure.length := by omega
      have hnD : n < D.n := by rw [← HN.out]; exact hnl
      have ha128 : a < 128 := by omega
      obtain ⟨s, hs⟩ : ∃ s, r.sure.getD n [] = s := ⟨_, rfl⟩
      have hsl : s.length = 128 := by rw [← hs]; exact HM.out.ps.s128 n hnl
      obtain ⟨y, hy⟩ : ∃ y, s[a]? = some y := ⟨_, List.getElem?_eq_getElem (by omega)⟩
      have Hs := hid hs; have Hy := hid hy; have Hsl := hid hsl
      have hnI : (n : Int) < r.sure.length := by omega
      have haI : (a : Int) < 128 := by omega
      have hsI : (a : Int) < s.length := by omega
      clear hnn haa hs hy hsl
      obtain ⟨sg, so, rfl⟩ := HM.out.ps.ref.sa (by omega)
      obtain ⟨w4, hw4⟩ : ∃ w4, w4 = w3 := ⟨_, rfl⟩
      have H34 : Hid (Only (fun _ => False) w3 w4) := hid (by rw [hw4]; exact Only.refl _ _)
      have HD4 := hid (HM.out.ps.disk.only H34.out (fun _ _ e => e))
      rw [← hw4] at x0 x1 x2 x3 x4 x5 x6 ⊢
      clear hw4
      have HSp := hid (spoil_ok HD4.out n (by omega) (by omega) a (by omega) haI x8)
      rw [Int.toNat_natCast, Int.toNat_natCast] at HSp
      go_wp2_with (first | (go_at_call 49; refine HSp.out.mono ?_; rintro e w5 ⟨rfl, hd5, ho5⟩; have hn5 : ∀ k, F k → F k ∨ w4.heap.size ≤ k := fun k hk => .inl hk; have Hd5 := hid hd5; have Ho5 := hid ho5; have Hn5 := hid hn5; have HXw5 : Hid (∀ wx : World, Only (fun _ => False) w5 wx → ∀ i, wx.cell? ⟨w.heap.size + 1, i, none⟩ = (#[.int .i64 o.kind, .int .i64 o.n, .int .i64 o.at', .int .u8 o.x, .bool o.raw, .slice da o.data.length dc, .slice ka o.keep.length kc] : Array Value)[i]?) := hid (fun wx ho i => cell_blk (blk_only (blk_only (blk_only HO.out H34.out (fun e => e)) ho5 (fun e => HF1.out e)) ho (fun e => e)) i); have Hb5 := hid (blk_only (blk_only HM.out.bw H34.out (fun e => e)) ho5 (fun e => HF0.out e)); have Hr5 := hid ((HM.out.ps.ref.same H34.out).only ho5 (fun k hg hf => HM.out.ps.apart k hf hg)); clear hd5 ho5 hn5; skip; have q0 : w5.cell? ⟨w.heap.size, 0, none⟩ = some (.slice (some ⟨sg, so, none⟩) r.sure.length sc) := cell_blk Hb5.out 0; have q1 : w5.cell? ⟨w.heap.size + 1, 1, none⟩ = some (.int .i64 n) := (HXw5.out w5 (Only.refl _ _) 1).trans (congrArg (fun z => some (Value.int .i64 z)) Hnn.out); have q2 : w5.cell? ⟨w.heap.size + 1, 2, none⟩ = some (.int .i64 a) := (HXw5.out w5 (Only.refl _ _) 2).trans (congrArg (fun z => some (Value.int .i64 z)) Haa.out); have q5 := Hr5.out.str n hnl; rw [Hs.out] at q5; have hcb := conv_bytes w5 s)) 
      obtain ⟨w6, hw6⟩ : ∃ w6, Go.Lib.bytesWorld w5 5 (strOf s) = w6 := ⟨_, rfl⟩
      have Ho56 : Hid (Only (fun _ => False) w5 w6) := hid (by rw [← hw6]; exact bytesWorld_only _ _ _)
      have Hw6 := hid hw6
      have p0 : w6.cell? ⟨w.heap.size, 0, none⟩ = some (.slice (some ⟨sg, so, none⟩) r.sure.length sc) := cell_blk (blk_only Hb5.out Ho56.out (fun e => e)) 0
      have p1 : w6.cell? ⟨w.heap.size + 1, 1, none⟩ = some (.int .i64 n) := (HXw5.out w6 Ho56.out 1).trans (congrArg (fun z => some (Value.int .i64 z)) Hnn.out)
      have p2 : w6.cell? ⟨w.heap.size + 1, 2, none⟩ = some (.int .i64 a) := (HXw5.out w6 Ho56.out 2).trans (congrArg (fun z => some (Value.int .i64 z)) Haa.out)
      have p3 : w6.cell? ⟨w.heap.size + 1, 3, none⟩ = some (.int .u8 (x8.toNat : Nat)) := (HXw5.out w6 Ho56.out 3).trans (congrArg (fun z => some (Value.int .u8 z)) Hx8.out)
      have p4 : w6.cell? ⟨w5.heap.size, a, none⟩ = some (.int .u8 (y.toNat : Nat)) := by
        rw [← hw6, Go.Lib.bytesWorld_cell _ _ _ _ (by show a < s.length; rw [Hsl.out]; exact ha128)]
        simp [strOf, List.getD_eq_getElem?_getD, Hy.out]
      have p5 : w6.frozen? ⟨w5.heap.size, a, none⟩ = false := by
        have h := Go.Lib.bytesWorld_at_new w5 5 (strOf s)
        rw [hw6] at h
        have h2 : a < (Go.Lib.bytesCells w5 5 (strOf s)).size := by unfold Go.Lib.bytesCells; simp [strOf]; rw [Hsl.out]; omega
        simp [World.frozen?, h]; omega
      rw [hw6]
      clear hw6 hcb q0 q1 q2 q5
      go_region
      obtain ⟨w7, hw7⟩ : ∃ w7, (w6.setCell ⟨w5.heap.size, a, none⟩ (.int .u8 (bits .xor .u8 (y.toNat : Nat) (x8.toNat : Nat)))).drew = w7 := ⟨_, rfl⟩
      have hxor : bits .xor .u8 (y.toNat : Nat) (x8.toNat : Nat) = (((y ^^^ x8).toNat : Nat) : Int) := by
        rw [u8_xor_nat _ _ y.toNat_lt x8.toNat_lt]; simp
      have Ho57 : Hid (Only (fun _ => False) w5 w7) := hid (by
        rw [← hw7]
        exact (Ho56.out.trans (only_set w5.heap.size a _) (fun k hk e => by omega)).drew)
      have HSs : Hid (Src w7 (.slice (some ⟨w5.heap.size, 0, none⟩) s.length (grownCap w5 s.length 0 5)) (spoilL s a x8)) := hid (by
        rw [← hw7, hxor, ← Hw6.out]
        exact spoil_src w5 s a y x8 Hy.out _)
      have Hb7 := hid (blk_only Hb5.out Ho57.out (fun e => e))
      have Hst7 : Hid (∀ i u, (strs r.sure)[i]? = some u → w7.cell? ⟨sg, so + i, none⟩ = some u) := hid (fun i u hu => (Hr5.out.same Ho57.out).strs i u hu)
      have HX7 := hid (HXw5.out w7 Ho57.out 1)
      have z0 : w7.cell? ⟨w.heap.size, 0, none⟩ = some (.slice (some ⟨sg, so, none⟩) r.sure.length sc) := cell_blk Hb7.out 0
      have z1 : w7.cell? ⟨w.heap.size + 1, 1, none⟩ = some (.int .i64 n) := HX7.out.trans (congrArg (fun z => some (Value.int .i64 z)) Hnn.out)
      rw [hw7]
      clear hw7 hxor p0 p1 p2 p3 p4 p5
      obtain ⟨i0, hi, hz0, hz1, hz2⟩ := info_parts infoS
      have hW70 : w.heap.size < w7.heap.size := by have := blk_lt Hb7.out; exact this
      have hW71 : ¬ w7.heap.size = w.heap.size := by omega
      have hW72 : ¬ w.heap.size = w7.heap.size := by omega
      have HW7 : Hid (w.heap.size + 3 ≤ w7.heap.size) := hid (Nat.le_trans (Nat.le_trans (Nat.le_trans HM.out.sz H34.out.size) Ho5.out.size) Ho57.out.size)
      go_wp2_with ((guard_target =~ wpList _ _ _ (⟨some 153, _, _, _, _, _⟩ :: _) _ _); refine wpList_appS rfl (.tmp 150) (.tmp 152) 93 rfl 9 i0 (.string ⟨#[]⟩) 1 16 Try.underlying93 hi hz0 hz1 hz2 rfl w7.heap.size 0 0 [] rfl (Nat.le_refl _) ?hrow rfl (some ⟨sg, so, none⟩) r.sure.length sc rfl (strs r.sure) ?hl ?hnews (strs_one _) ?h63 ?hby ?_; rotate_right 1; intro g' cap' w8 hcap' hrow8 hg' ho8; rw [Nat.mul_one, List.nil_append] at hrow8; have Hrow8 := hid hrow8; rw [World.size_alloc] at hg'; have hgW : ¬ g' = w.heap.size := (by omega); have hgW' : ¬ w.heap.size = g' := fun e => hgW e.symm; have hgW1 : w.heap.size + 3 ≤ g' := (by have := HW7.out; omega); have Hg5 : Hid (w5.heap.size ≤ g') := hid (by (have := Ho57.out.size; omega)); have Ho78 : Hid (Only (fun _ => False) w7 w8) := hid (((Only.refl (fun _ => False) w7).alloc _).trans ho8 (fun k hk e => by have e' : k = w7.heap.size := e; omega)); have Hb8 := hid (blk_only Hb7.out Ho78.out (fun e => e)); have v0 : w8.cell? ⟨w.heap.size, 0, none⟩ = some (.slice (some ⟨sg, so, none⟩) r.sure.length sc) := cell_blk Hb8.out 0; have v0' : w8.frozen? ⟨w.heap.size, 0, none⟩ = false := frozen_blk Hb8.out 0; have v1 : w8.cell? ⟨w.heap.size + 1, 1, none⟩ = some (.int .i64 n) := (HXw5.out w8 (Ho57.out.trans Ho78.out (fun _ _ e => e)) 1).trans (congrArg (fun z => some (Value.int .i64 z)) Hnn.out); have v2 : w8.cell? ⟨g', n, none⟩ = some (.string (strOf s)) := (Hrow8.out.cell n (by rw [length_strs]; exact hnl)).trans ((strs_get hnl).trans (congrArg (fun z => some (Value.string (strOf z))) Hs.out)); have v3 : w8.frozen? ⟨g', n, none⟩ = false := Hrow8.out.frozen n; have hcv : ∀ v : Value, (convert 30 9 (.slice (some ⟨w5.heap.size, 0, none⟩) s.length (grownCap w5 s.length 0 5))).run Try.prog (w8.setCell ⟨w.heap.size, 0, none⟩ v) = .ok (.string (strOf (spoilL s a x8))) (w8.setCell ⟨w.heap.size, 0, none⟩ v) := fun v => conv_str ((HSs.out.only Ho78.out (fun _ _ _ _ _ e => e)).only (only_set w.heap.size 0 v) (fun _ g of c e e2 => by (simp only [Value.slice.injEq, Option.some.injEq, Addr.mk.injEq] at e; have e3 : g = w.heap.size := e2; have := HM.out.sz; have := H34.out.size; have := Ho5.out.size; omega))); clear hcap' hrow8 hg' ho8)
      case hrow => exact ⟨[], blk_new w7 _, rfl⟩
      case hl => simp
      case h63 => have := HM.out.ps.sl; omega
      case hby => have := HM.out.ps.sl; omega
      case hnews =>
        intro _
        refine ⟨_, rfl, fun j u hj => ?_⟩
        have h1 := Hst7.out j u hj
        rw [addr_add, World.cell?_alloc_lt]
        · exact h1
        · exact World.block_lt_of_cell? _ _ h1
      have Hmid : Hid (PMid w ((w8.setCell ⟨w.heap.size, 0, none⟩ (.slice (some ⟨g', 0, none⟩) r.sure.length cap')).setCell ⟨g', n, none⟩ (.string (strOf (spoilL s a x8)))) b (D.spoilt n a x8) { r with sure := r.sure.set n (spoilL s a x8) } (({ r with sure := r.sure.set n (spoilL s a x8) } : RM).cells (some ⟨g', 0, none⟩) cap' wa wk) F G F (fun k => k = g' ∨ G k) (m + 1)) := hid (by
        have ho58 := Ho57.out.trans Ho78.out (fun _ _ e => e)
        have hrow9 : Row ((w8.setCell ⟨w.heap.size, 0, none⟩ (.slice (some ⟨g', 0, none⟩) r.sure.length cap')).setCell ⟨g', n, none⟩ (.string (strOf (spoilL s a x8)))) g' 9 cap' (strs (r.sure.set n (spoilL s a x8))) := by
          rw [← strs_set]
          exact (Hrow8.out.setCell_other _ _ hgW).set n _ (by simpa using hnl)
        have ho89 : Only (fun k => k = w.heap.size ∨ k = g') w8 ((w8.setCell ⟨w.heap.size, 0, none⟩ (.slice (some ⟨g', 0, none⟩) r.sure.length cap')).setCell ⟨g', n, none⟩ (.string (strOf (spoilL s a x8)))) :=
          ((only_set w.heap.size 0 _).mono (fun _ _ e => .inl e)).trans (only_set g' n _) (fun _ _ e => .inr e)
        have hr9 : RefAt ((w8.setCell ⟨w.heap.size, 0, none⟩ (.slice (some ⟨g', 0, none⟩) r.sure.length cap')).setCell ⟨g', n, none⟩ (.string (strOf (spoilL s a x8)))) (({ r with sure := r.sure.set n (spoilL s a x8) } : RM).cells (some ⟨g', 0, none⟩) cap' wa wk) { r with sure := r.sure.set n (spoilL s a x8) } (fun k => k = g' ∨ G k) := by
          obtain ⟨s1', c1', a1', d1', e, hq1, hq2, hq3, hq4⟩ := (Hr5.out.same ho58).ex
          unfold RM.cells at e
          simp only [Array.mk.injEq, List.cons.injEq, Value.slice.injEq, true_and] at e
          obtain ⟨-, ⟨rfl, rfl⟩, -⟩ := e
          refine RefAt.plain (r := ({ r with sure := r.sure.set n (spoilL s a x8) } : RM)) ⟨_, cap', by simp, fun _ => ⟨g', 0, rfl, fun i u hu => by have := hrow9.news i u hu; rw [addr_add] at this; exact this⟩⟩ (hq2.only ho89 (fun g o c e hk => ?_)) (fun g o e => .inl (by simp only [Option.some.injEq, Addr.mk.injEq] at e; exact e.1.symm)) (fun g o e => .inr (hq4 g o e)) (fun k hk => ?_)
          · simp only [Value.slice.injEq] at e
            have hG := hq4 g o e.1
            have h1 := HM.out.lg g hG
            omega
          · have h1 := ho89.size
            rcases hk with rfl | hk
            · exact Nat.lt_of_lt_of_le Hrow8.out.lt h1
            · have h2 := HM.out.lg k hk; have h3 := blk_lt Hb8.out; omega
        refine HM.out.stepR Hd5.out ((H34.out.mono (G := F) (fun _ _ e => e.elim)).trans Ho5.out (fun _ _ e => e)) (fun k hk => .inl hk) hr9 (fun k hk => ?_) ?_ ?_ (by have := match_spoil HM.out.ps.mat n a hnD x8; rw [Hs.out] at this; exact this) (by have := HM.out.ps.nw; show 0 ≤ D.nw ∧ D.nw ≤ (m : Int) + 1; omega) (by have := HM.out.ps.nf; show 0 ≤ D.nf ∧ D.nf ≤ (m : Int) + 1; omega) (by have := HM.out.ps.wl; show r.ws.length ≤ m + 1; omega)
        · rcases hk with rfl | hk
          · exact .inr Hg5.out
          · exact .inl hk
        · refine blk_set_other ?_ hgW'
          have := blk_set Hb8.out 0 (.slice (some ⟨g', 0, none⟩) r.sure.length cap')
          simpa [RM.cells] using this
        · refine ((ho58.mono (G := fun k => k = w.heap.size) (fun _ _ e => e.elim)).trans ho89 (fun k hk e => ?_))
          rcases e with e | e
          · exact e
          · have := Hg5.out; omega)
      go_meet
      case rel => exact ⟨_, _, _, _, _, 0, rfl, rfl, Hmid.out⟩
    have hb6 : (o.kind == 6) = false := by simp [h6]
    clear h6
    go_wp2_with fail
    go_meet
    case rel => exact ⟨_, _, _, _, _, 0, rfl, rfl, HM.out.more⟩
  case rest =>
    obtain ⟨D2, r2, cs2, F2, G2, c, rfl, rfl, hmid⟩ := hcut
    obtain ⟨sa2, sc2, wa2, wk2, rfl, -⟩ := hmid.ps.ref.ex
    have HM2 := hid hmid
    have HBd := hid (hmid.ps.bounds (by omega))
    have hcc : (c == c) = true := beq_self_eq_true _
    have HCs : Hid (∀ wx : World, Only (fun _ => False) wc wx → Calls Try.prog 67 #[.pointer (some ⟨b, 0, none⟩), .agg #[.slice sa2 r2.sure.length sc2, .slice wa2 r2.ws.length wk2, .bool r2.down, .int .i64 r2.fuse, .int .i64 r2.written, .int .i64 r2.flushed]] wx fun e w' => e = .returned (.bool true) ∧ Only (fun _ => False) wx w') := hid (fun wx ho => same_c (hmid.ps.disk.only ho (fun _ _ e => e)) (hmid.ps.ref.same ho) hmid.ps.mat HBd.out.1)
    have a0 : wc.cell? ⟨w.heap.size, 0, none⟩ = some (.slice sa2 r2.sure.length sc2) := cell_blk hmid.bw 0
    have a1 : wc.cell? ⟨w.heap.size, 1, none⟩ = some (.slice wa2 r2.ws.length wk2) := cell_blk hmid.bw 1
    have a2 : wc.cell? ⟨w.heap.size, 2, none⟩ = some (.bool r2.down) := cell_blk hmid.bw 2
    have a3 : wc.cell? ⟨w.heap.size, 3, none⟩ = some (.int .i64 r2.fuse) := cell_blk hmid.bw 3
    have a4 : wc.cell? ⟨w.heap.size, 4, none⟩ = some (.int .i64 r2.written) := cell_blk hmid.bw 4
    have a5 : wc.cell? ⟨w.heap.size, 5, none⟩ = some (.int .i64 r2.flushed) := cell_blk hmid.bw 5
    clear hmid HM HO HAt HBF3 x0 x1 x2 x3 x4 x5 x6
    go_wp2_with fail
    go_region_law (refine step_on (by rfl) (wp_callc (o := ⟨some 169, _, _, _, _, _⟩) (f := 67) (args := #[.pointer (some ⟨b, 0, none⟩), .agg #[.slice sa2 r2.sure.length sc2, .slice wa2 r2.ws.length wk2, .bool r2.down, .int .i64 r2.fuse, .int .i64 r2.written, .int .i64 r2.flushed]]) (by kernel_rfl) ?_); refine (HCs.out _ ((Only.refl _ _).drew)).mono ?_; rintro e w8 ⟨rfl, ho8⟩; have Ho8 := hid ho8; have hb8 := blk_only HM2.out.bz ((Only.refl (fun _ => False) wc).drew.trans ho8 (fun _ _ e => e)) (fun e => e); have hb8w := blk_only HM2.out.bw ((Only.refl (fun _ => False) wc).drew.trans ho8 (fun _ _ e => e)) (fun e => e); have Hb8 := hid hb8; have d0 : w8.cell? ⟨w.heap.size, 0, none⟩ = some (.slice sa2 r2.sure.length sc2) := cell_blk hb8w 0; have d1 : w8.cell? ⟨w.heap.size, 1, none⟩ = some (.slice wa2 r2.ws.length wk2) := cell_blk hb8w 1; have d2 : w8.cell? ⟨w.heap.size, 2, none⟩ = some (.bool r2.down) := cell_blk hb8w 2; have d3 : w8.cell? ⟨w.heap.size, 3, none⟩ = some (.int .i64 r2.fuse) := cell_blk hb8w 3; have d4 : w8.cell? ⟨w.heap.size, 4, none⟩ = some (.int .i64 r2.written) := cell_blk hb8w 4; have d5 : w8.cell? ⟨w.heap.size, 5, none⟩ = some (.int .i64 r2.flushed) := cell_blk hb8w 5; have e0 : w8.cell? ⟨w.heap.size + 1 + 1, 0, none⟩ = some (.slice none 0 0) := cell_blk hb8 0; have e1 : w8.cell? ⟨w.heap.size + 1 + 1, 1, none⟩ = some (.slice none 0 0) := cell_blk hb8 1; have e2 : w8.cell? ⟨w.heap.size + 1 + 1, 2, none⟩ = some (.bool false) := cell_blk hb8 2; have e3 : w8.cell? ⟨w.heap.size + 1 + 1, 3, none⟩ = some (.int .i64 0) := cell_blk hb8 3; have e4 : w8.cell? ⟨w.heap.size + 1 + 1, 4, none⟩ = some (.int .i64 0) := cell_blk hb8 4; have e5 : w8.cell? ⟨w.heap.size + 1 + 1, 5, none⟩ = some (.int .i64 0) := cell_blk hb8 5; have e6 : ∀ i, w8.frozen? ⟨w.heap.size + 1 + 1, i, none⟩ = false := fun i => frozen_blk hb8 i; clear ho8 hb8 hb8w; refine ⟨_, rfl, ?_⟩)
    all_goals go_wp2_with fail
    all_goals
      have hb9 := blk_set (blk_set (blk_set (blk_set (blk_set (blk_set Hb8.out 0 (.slice sa2 r2.sure.length sc2)) 1 (.slice wa2 r2.ws.length wk2)) 2 (.bool r2.down)) 3 (.int .i64 r2.fuse)) 4 (.int .i64 r2.written)) 5 (.int .i64 r2.flushed)
      have ho9 := (((((only_set (w := w8) (w.heap.size + 2) 0 (.slice sa2 r2.sure.length sc2)).trans (only_set (w.heap.size + 2) 1 (.slice wa2 r2.ws.length wk2)) (fun _ _ e => e)).trans (only_set (w.heap.size + 2) 2 (.bool r2.down)) (fun _ _ e => e)).trans (only_set (w.heap.size + 2) 3 (.int .i64 r2.fuse)) (fun _ _ e => e)).trans (only_set (w.heap.size + 2) 4 (.int .i64 r2.written)) (fun _ _ e => e)).trans (only_set (w.heap.size + 2) 5 (.int .i64 r2.flushed)) (fun _ _ e => e)
      have hoc := ((Only.refl (fun _ => False) wc).drew.trans Ho8.out (fun _ _ e => e))
      refine bodyPost_ret (results_cell1 (q := 7) rfl _ _ (w.heap.size + 2) 113 #[.slice sa2 r2.sure.length sc2, .slice wa2 r2.ws.length wk2, .bool r2.down, .int .i64 r2.fuse, .int .i64 r2.written, .int .i64 r2.flushed] (0, 0) _ rfl (by simpa using hb9) Try.underlying113 rfl info_rdisk) rfl ?_
      refine ⟨D2, r2, #[.slice sa2 r2.sure.length sc2, .slice wa2 r2.ws.length wk2, .bool r2.down, .int .i64 r2.fuse, .int .i64 r2.written, .int .i64 r2.flushed], F2, G2, rfl, ⟨(HM2.out.ps.disk.only hoc (fun _ _ e => e)).only ho9 (fun k hk e => ?_), (HM2.out.ps.ref.same hoc).only ho9 (fun k hk e => ?_), HM2.out.ps.mat, HM2.out.ps.apart, HM2.out.ps.nw, HM2.out.ps.nf, HM2.out.ps.wl⟩, ?_, fun k hk => ?_, fun k hk => ?_⟩
      · have := HM2.out.nF hk; have e' : k = w.heap.size + 2 := e; omega
      · have := HM2.out.nG hk; have e' : k = w.heap.size + 2 := e; omega
      · exact ((HM2.out.only.trans hoc (fun _ _ e => e.elim)).trans ho9 (fun k hk e => by have e' : k = w.heap.size + 2 := e; omega))
      · rcases HM2.out.nf k hk with e | e
        · exact .inl e
        · exact .inr (by omega)
      · rcases HM2.out.ng k hk with e | e
        · exact .inl e
        · exact .inr (by omega)
end
end Go.Proofs.Ytepndjojodbhdaa
