/- DiskSure: the walk. -/
import Derived.Test.YtepndjojodbhdaaFuse
import Derived.Test.YtepndjojodbhdaaPend
import Derived.Test.YtepndjojodbhdaaDiskY
import Derived.Test.YtepndjojodbhdaaRegion
import Derived.Deep.RegionLaw
import Derived.BigQuiet
import Derived.Test.YtepndjojodbhdaaBytes
import Derived.Deep.RegionHeld3
import Derived.Deep.Cut
import Derived.Deep.CutRange
import Derived.IntWalk
namespace Go.Proofs.Ytepndjojodbhdaa
open Go.RowKit

theorem write_eq {D : DiskM} (hd : D.down = false) (hf : D.fuse < 0) (n : Int) (l : List UInt8) (hl : l.length = 128) : D.write n l = if n < 0 ∨ (D.n : Int) ≤ n then (D, 1) else ({ D.put n.toNat l with nw := wrap64 (D.nw + 1) }, 0) := by
  have hb : D.burn = D := by unfold DiskM.burn; rw [if_pos hf]
  have hbs : D.burns = true := by unfold DiskM.burns; simp; omega
  unfold DiskM.write
  rw [hd, hbs, hb, hl, if_neg (by simp)]
  split
  · rfl
  · rw [if_neg (by omega), if_neg (by omega), if_pos rfl]
theorem flush_eq {D : DiskM} (hd : D.down = false) (hf : D.fuse < 0) : D.flush = ({ D.flushed with nf := wrap64 (D.nf + 1) }, 0) := by
  have hb : D.burn = D := by unfold DiskM.burn; rw [if_pos hf]
  have hbs : D.burns = true := by unfold DiskM.burns; simp; omega
  unfold DiskM.flush
  rw [hd, hbs, hb]; rfl
def wv (S : Nat → List UInt8) (k j : Nat) : Value := .string (if j < k then strOf (S j) else ⟨#[]⟩)
def wasA (S : Nat → List UInt8) (k : Nat) : Array Value := #[wv S k 0, wv S k 1, wv S k 2, wv S k 3]
def lv (D : DiskM) (j : Nat) : Value := .string (match D.pend j with | some l => strOf l | none => ⟨#[]⟩)
def lastA (D : DiskM) : Array Value := #[lv D 0, lv D 1, lv D 2, lv D 3]
theorem wasA_next (S : Nat → List UInt8) (k : Nat) (hk : k < 4) : (wasA S k).setIfInBounds k (.string (strOf (S k))) = wasA S (k + 1) := by
  have : k = 0 ∨ k = 1 ∨ k = 2 ∨ k = 3 := by omega
  rcases this with rfl | rfl | rfl | rfl <;> simp [wasA, wv]
theorem lastA_put (D : DiskM) (n : Nat) (hn : n < 4) (l : List UInt8) (x : Int) : (lastA D).setIfInBounds n (.string (strOf l)) = lastA { D.put n l with nw := x } := by
  have : n = 0 ∨ n = 1 ∨ n = 2 ∨ n = 3 := by omega
  rcases this with rfl | rfl | rfl | rfl <;> simp [lastA, lv, DiskM.put]

/-- The disk, and the crash's own block (at w.heap.size). -/
structure DS (w wr : World) (b : Nat) (D : DiskM) (F : Nat → Prop) (cc : Array Value) : Prop where
  disk : DiskAt wr b D F
  up : D.down = false
  fu : D.fuse < 0
  n : D.n = 4
  f0 : ∀ k, F k → w.heap.size < k
  bc : wr.heap[w.heap.size]? = some (.cells cc 33 (0, 0))
  only : Only (fun _ => False) w wr
theorem DS.step {w wr w' : World} {b : Nat} {D : DiskM} {F : Nat → Prop} {cc : Array Value} (h : DS w wr b D F cc) (ho : Only (fun _ => False) wr w') : DS w w' b D F cc :=
  ⟨h.disk.only ho (fun _ _ e => e), h.up, h.fu, h.n, h.f0, blk_only h.bc ho (fun e => e), h.only.trans ho (fun _ _ e => e)⟩
theorem DS.put {w wr w' : World} {b : Nat} {D D' : DiskM} {F F' : Nat → Prop} {cc : Array Value} (h : DS w wr b D F cc) (hd : DiskAt w' b D' F') (ho : Only F wr w') (hn : ∀ k, F' k → F k ∨ wr.heap.size ≤ k) (up : D'.down = false) (fu : D'.fuse < 0) (n : D'.n = 4) : DS w w' b D' F' cc := by
  have hl := blk_lt h.bc
  refine ⟨hd, up, fu, n, fun k hk => ?_, blk_only h.bc ho (fun e => by have := h.f0 _ e; omega), h.only.trans ho (fun k hk e => by have := h.f0 k e; omega)⟩
  rcases hn k hk with e | e
  · exact h.f0 k e
  · omega
theorem DS.write {w wr w' : World} {b : Nat} {D : DiskM} {F F' : Nat → Prop} {cc : Array Value} (h : DS w wr b D F cc) (n : Int) (l : List UInt8) (hl : l.length = 128) (hd : DiskAt w' b (D.write n l).1 F') (ho : Only F wr w') (hn : ∀ k, F' k → F k ∨ wr.heap.size ≤ k) : DS w w' b (D.write n l).1 F' cc := by
  refine h.put hd ho hn ?_ ?_ ?_ <;> rw [write_eq h.up h.fu n l hl] <;> split
  · exact h.up
  · exact h.up
  · exact h.fu
  · exact h.fu
  · exact h.n
  · exact h.n
theorem OpAt.up {w : World} {B B' : Nat} {o : OpM} (h : OpAt w B o) (hb : B ≤ B') : OpAt w B' o := ⟨h.data, h.keep, fun g of c e hne => Nat.lt_of_lt_of_le (h.dlt g of c e hne) hb, fun g of c e hne => Nat.lt_of_lt_of_le (h.klt g of c e hne) hb, h.dlen, h.klen, h.n0, h.x0⟩
/-- One operation, laid into a slice of its own. -/
theorem opsAt_one {w : World} {o : OpM} (h : OpAt w w.heap.size o) (T : TypeId) : OpsAt (w.alloc (.cells o.cells.toArray T)) (w.heap.size + 1) (.slice (some ⟨w.heap.size, 0, none⟩) 1 1) [o] := by
  refine ⟨_, _, rfl, by simp, fun i o' hi => ?_⟩
  match i with
  | 0 =>
    simp only [List.getElem?_cons_zero, Option.some.injEq] at hi
    subst hi
    refine ⟨(h.only ((Only.refl (fun _ => False) w).alloc _) (fun _ _ e => e)).up (Nat.le_succ _), _, _, rfl, by omega, fun j u hj => ?_⟩
    rw [cell_blk (blk_new w _)]
    simpa using hj
  | i + 1 => simp at hi


theorem lastA_none {D : DiskM} (h : ∀ k, D.pend k = none) : lastA D = #[.string ⟨#[]⟩, .string ⟨#[]⟩, .string ⟨#[]⟩, .string ⟨#[]⟩] := by simp [lastA, lv, h]
theorem wasA_zero (S : Nat → List UInt8) : wasA S 0 = #[.string ⟨#[]⟩, .string ⟨#[]⟩, .string ⟨#[]⟩, .string ⟨#[]⟩] := by simp [wasA, wv]
theorem wasA_get (S : Nat → List UInt8) (k j : Nat) (hj : j < 4) : (wasA S k)[j]? = some (wv S k j) := by
  have : j = 0 ∨ j = 1 ∨ j = 2 ∨ j = 3 := by omega
  rcases this with rfl | rfl | rfl | rfl <;> rfl
theorem lastA_get (D : DiskM) (j : Nat) (hj : j < 4) : (lastA D)[j]? = some (lv D j) := by
  have : j = 0 ∨ j = 1 ∨ j = 2 ∨ j = 3 := by omega
  rcases this with rfl | rfl | rfl | rfl <;> rfl
/-- The flushed bytes' block, k of them told. -/
structure WS (w wr : World) (b gw : Nat) (D : DiskM) (F : Nat → Prop) (cc : Array Value) (k : Nat) : Prop where
  ds : DS w wr b D F cc
  bw : wr.heap[gw]? = some (.cells (wasA D.sure k) 108 (0, 0))
  nw : ¬ F gw
  gww : w.heap.size < gw
theorem WS.step {w wr w' : World} {b gw : Nat} {D : DiskM} {F : Nat → Prop} {cc : Array Value} {k : Nat} (h : WS w wr b gw D F cc k) (ho : Only (fun _ => False) wr w') : WS w w' b gw D F cc k := ⟨h.ds.step ho, blk_only h.bw ho (fun e => e), h.nw, h.gww⟩
theorem WS.next {w wr : World} {b gw : Nat} {D : DiskM} {F : Nat → Prop} {cc : Array Value} {k : Nat} (h : WS w wr b gw D F cc k) (hk : k < 4) : WS w (wr.setCell ⟨gw, k, none⟩ (.string (strOf (D.sure k)))) b gw D F cc (k + 1) := by
  have ho : Only (fun j => j = gw) wr (wr.setCell ⟨gw, k, none⟩ (.string (strOf (D.sure k)))) := only_set _ _ _
  have hb := blk_set h.bw k (.string (strOf (D.sure k)))
  rw [wasA_next _ _ hk] at hb
  have hgw := h.gww
  exact ⟨⟨h.ds.disk.only ho (fun j hj e => h.nw (by have e' : j = gw := e; rw [← e']; exact hj)), h.ds.up, h.ds.fu, h.ds.n, h.ds.f0, blk_only h.ds.bc ho (show ¬ w.heap.size = gw by omega), h.ds.only.trans ho (fun j hj e => by have e' : j = gw := e; omega)⟩, hb, h.nw, h.gww⟩
/-- Behind the flush: what is written since stands in a second block. -/
structure LS (w wr : World) (b gw gl : Nat) (S : Nat → List UInt8) (D : DiskM) (F : Nat → Prop) (cc : Array Value) : Prop where
  ds : DS w wr b D F cc
  su : D.sure = S
  bw : wr.heap[gw]? = some (.cells (wasA S 4) 108 (0, 0))
  bl : wr.heap[gl]? = some (.cells (lastA D) 108 (0, 0))
  nw : ¬ F gw
  nl : ¬ F gl
  gww : w.heap.size < gw
  glw : gw < gl
theorem LS.step {w wr w' : World} {b gw gl : Nat} {S : Nat → List UInt8} {D : DiskM} {F : Nat → Prop} {cc : Array Value} (h : LS w wr b gw gl S D F cc) (ho : Only (fun _ => False) wr w') : LS w w' b gw gl S D F cc :=
  ⟨h.ds.step ho, h.su, blk_only h.bw ho (fun e => e), blk_only h.bl ho (fun e => e), h.nw, h.nl, h.gww, h.glw⟩
/-- A write, and its note. -/
theorem LS.write {w wr w' : World} {b gw gl : Nat} {S : Nat → List UInt8} {D : DiskM} {F F' : Nat → Prop} {cc : Array Value} (h : LS w wr b gw gl S D F cc) (n : Int) (l : List UInt8) (hl : l.length = 128) (hd : DiskAt w' b (D.write n l).1 F') (ho : Only F wr w') (hn : ∀ k, F' k → F k ∨ wr.heap.size ≤ k) :
    DS w w' b (D.write n l).1 F' cc ∧ (D.write n l).1.sure = S ∧ w'.heap[gw]? = some (.cells (wasA S 4) 108 (0, 0)) ∧ w'.heap[gl]? = some (.cells (lastA D) 108 (0, 0)) ∧ ¬ F' gw ∧ ¬ F' gl := by
  have lw := blk_lt h.bw
  have ll := blk_lt h.bl
  refine ⟨h.ds.write n l hl hd ho hn, ?_, blk_only h.bw ho h.nw, blk_only h.bl ho h.nl, fun e => ?_, fun e => ?_⟩
  · rw [write_eq h.ds.up h.ds.fu n l hl]
    split
    · exact h.su
    · exact h.su
  · rcases hn _ e with e | e
    · exact h.nw e
    · omega
  · rcases hn _ e with e | e
    · exact h.nl e
    · omega
theorem cellG {w7 w8 : World} {b i : Nat} {v : Value} {G : Nat → Prop} (ho : Only G w7 w8) (hlt : b < w7.heap.size) (hn : ¬ G b) (h : w7.cell? ⟨b, i, none⟩ = some v) : w8.cell? ⟨b, i, none⟩ = some v :=
  (World.cell?_of_block (a := ⟨b, i, none⟩) (ho.block b hlt hn)).trans h
/-- The note is laid. -/
theorem LS.note {w wr : World} {b gw gl : Nat} {S : Nat → List UInt8} {D : DiskM} {F : Nat → Prop} {cc : Array Value} {n : Int} {l : List UInt8} (hD : DS w wr b (D.write n l).1 F cc) (su : (D.write n l).1.sure = S) (bw : wr.heap[gw]? = some (.cells (wasA S 4) 108 (0, 0)))
    (bl : wr.heap[gl]? = some (.cells (lastA D) 108 (0, 0))) (nw : ¬ F gw) (nl : ¬ F gl) (gww : w.heap.size < gw) (glw : gw < gl) (up : D.down = false) (fu : D.fuse < 0) (hn : D.n = 4) (h0 : 0 ≤ n) (h4 : n < 4) (hl : l.length = 128) :
    LS w (wr.setCell ⟨gl, n.toNat, none⟩ (.string (strOf l))) b gw gl S (D.write n l).1 F cc := by
  have ho : Only (fun j => j = gl) wr (wr.setCell ⟨gl, n.toNat, none⟩ (.string (strOf l))) := only_set _ _ _
  have hb := blk_set bl n.toNat (.string (strOf l))
  have e : (D.write n l).1 = { D.put n.toNat l with nw := wrap64 (D.nw + 1) } := by rw [write_eq up fu n l hl, if_neg (by rw [hn]; omega)]
  rw [lastA_put D n.toNat (by omega) l (wrap64 (D.nw + 1)), ← e] at hb
  exact ⟨⟨hD.disk.only ho (fun j hj e => nl (by have e' : j = gl := e; rw [← e']; exact hj)), hD.up, hD.fu, hD.n, hD.f0, blk_only hD.bc ho (show ¬ w.heap.size = gl by omega), hD.only.trans ho (fun j hj e => by have e' : j = gl := e; omega)⟩, su, blk_only bw ho (show ¬ gw = gl by omega), hb, nw, nl, gww, glw⟩

theorem only_drewS (w : World) (q : Nat) : Only (fun _ => False) w (w.drewN q) := ⟨rfl, rfl, rfl, Nat.le_refl _, fun _ _ _ => rfl⟩
theorem strS_append (a b : List UInt8) : strOf a ++ strOf b = strOf (a ++ b) := by
  apply ByteArray.ext
  simp [strOf]

theorem strS_extract (l : List UInt8) (a n : Nat) : (strOf l).extract a (a + n) = strOf ((l.drop a).take n) := by
  apply ByteArray.ext
  apply Array.ext'
  simp [strOf, ByteArray.data_extract, List.extract_eq_take_drop]
theorem crash_cases {D : DiskM} {S : Nat → List UInt8} (hs : D.sure = S) (keep : List Int) (n a : Int) (k : Nat) :
    D.crashed keep n a k = S k ∨ ∃ l, D.pend k = some l ∧ (D.crashed keep n a k = l ∨ (n = k ∧ D.crashed keep n a k = torn l (S k) a)) := by
  unfold DiskM.crashed
  cases hp : D.pend k with
  | none => left; rw [hs]
  | some l =>
    simp only
    split
    · exact .inr ⟨l, rfl, .inl rfl⟩
    · split
      · rename_i h; exact .inr ⟨l, rfl, .inr ⟨h.symm, by rw [hs]⟩⟩
      · left; rw [hs]

set_option maxRecDepth 100000 in
set_option maxHeartbeats 12800000 in
theorem diskSure_c (w : World) (v1 v2 : Value) (l1 l2 : List OpM) (h1 : OpsAt w w.heap.size v1 l1) (h2 : OpsAt w w.heap.size v2 l2) (oc : OpM) (hoc : OpAt w w.heap.size oc) :
    Calls Try.prog 15 #[v1, v2, .agg oc.cells.toArray] w fun e w' => e = .returned (.bool true) ∧ Only (fun _ => False) w w' := by
  obtain ⟨cda, cdc, hcd⟩ := hoc.data.len
  obtain ⟨cka, ckc, hck⟩ := hoc.keep.len
  rw [length_intsV] at hck
  have hcells : oc.cells.toArray = #[.int .i64 oc.kind, .int .i64 oc.n, .int .i64 oc.at', .int .u8 oc.x, .bool oc.raw, .slice cda oc.data.length cdc, .slice cka oc.keep.length ckc] := by unfold OpM.cells; rw [hcd, hck]
  obtain ⟨CC, hCC⟩ : ∃ CC : Array Value, CC = #[.int .i64 oc.kind, .int .i64 oc.n, .int .i64 oc.at', .int .u8 oc.x, .bool oc.raw, .slice cda oc.data.length cdc, .slice cka oc.keep.length ckc] := ⟨_, rfl⟩
  have HOC := hid hoc; have H1 := hid h1; have H2 := hid h2; have HCells := hid hcells; have HCk := hid hck
  rw [hcells]
  clear hcells hcd hck hoc h1 h2
  go_enter Try.func15, Try.ntmps15
  go_wp2_with fail
  obtain ⟨w0, hw0⟩ : ∃ w0, w0 = w.alloc (.cells #[.int .i64 oc.kind, .int .i64 oc.n, .int .i64 oc.at', .int .u8 oc.x, .bool oc.raw, .slice cda oc.data.length cdc, .slice cka oc.keep.length ckc] 33) := ⟨_, rfl⟩
  have Hb0 : Hid (w0.heap[w.heap.size]? = some (.cells CC 33 (0, 0))) := hid (by rw [hw0, hCC]; exact blk_new w _)
  have Ho0 : Hid (Only (fun _ => False) w w0) := hid (by rw [hw0]; exact (Only.refl _ w).alloc _)
  have Hs0 : Hid (w.heap.size < w0.heap.size) := hid (blk_lt Hb0.out)
  rw [← hw0]
  clear hw0
  refine (works_c w0).mono ?_
  rintro e w1 ⟨rfl, ho1⟩
  have Ho1 := hid (Ho0.out.trans ho1 (fun _ _ e => e)); have Hb1 := hid (blk_only Hb0.out ho1 (fun e => e))
  clear ho1 Hb0 Ho0
  have HFit1 := hid (fits_c w1 w.heap.size Ho1.out.size v1 l1 (H1.out.only Ho1.out (Nat.le_refl _) (fun _ _ e => e)))
  go_wp2_with fail
  refine HFit1.out.mono ?_
  rintro e w2 ⟨rfl, ho2⟩
  have Ho2 := hid (Ho1.out.trans ho2 (fun _ _ e => e)); have Hb2 := hid (blk_only Hb1.out ho2 (fun e => e))
  clear ho2 HFit1 Hb1
  cases hf1 : fitsB l1 with
  | false =>
    go_wp2_with fail
    go_ret
    exact ⟨rfl, Ho2.out⟩
  | true =>
    have HFit2 := hid (fits_c w2 w.heap.size Ho2.out.size v2 l2 (H2.out.only Ho2.out (Nat.le_refl _) (fun _ _ e => e)))
    go_wp2_with fail
    refine HFit2.out.mono ?_
    rintro e w3 ⟨rfl, ho3⟩
    have Ho3 := hid (Ho2.out.trans ho3 (fun _ _ e => e)); have Hb3 := hid (blk_only Hb2.out ho3 (fun e => e))
    clear ho3 HFit2 Hb2 Ho2 Ho1
    cases hf2 : fitsB l2 with
    | false =>
      go_wp2_with fail
      go_ret
      exact ⟨rfl, Ho3.out⟩
    | true =>
      have hb3 := Hb3.out
      rw [hCC] at hb3
      have y0 : w3.cell? ⟨w.heap.size, 0, none⟩ = some (.int .i64 oc.kind) := cell_blk hb3 0; have y1 : w3.cell? ⟨w.heap.size, 1, none⟩ = some (.int .i64 oc.n) := cell_blk hb3 1; have y2 : w3.cell? ⟨w.heap.size, 2, none⟩ = some (.int .i64 oc.at') := cell_blk hb3 2; have y3 : w3.cell? ⟨w.heap.size, 3, none⟩ = some (.int .u8 oc.x) := cell_blk hb3 3; have y4 : w3.cell? ⟨w.heap.size, 4, none⟩ = some (.bool oc.raw) := cell_blk hb3 4; have y5 : w3.cell? ⟨w.heap.size, 5, none⟩ = some (.slice cda oc.data.length cdc) := cell_blk hb3 5; have y6 : w3.cell? ⟨w.heap.size, 6, none⟩ = some (.slice cka oc.keep.length ckc) := cell_blk hb3 6
      have HFit3 : Hid (Calls Try.prog 24 #[.slice (some ⟨w3.heap.size, 0, none⟩) 1 1] (w3.alloc (.cells #[.int .i64 oc.kind, .int .i64 oc.n, .int .i64 oc.at', .int .u8 oc.x, .bool oc.raw, .slice cda oc.data.length cdc, .slice cka oc.keep.length ckc] 33)) fun e w' => e = .returned (.bool (fitsB [oc])) ∧ Only (fun _ => False) (w3.alloc (.cells #[.int .i64 oc.kind, .int .i64 oc.n, .int .i64 oc.at', .int .u8 oc.x, .bool oc.raw, .slice cda oc.data.length cdc, .slice cka oc.keep.length ckc] 33)) w') := hid (by
        have := opsAt_one ((HOC.out.only Ho3.out (fun _ _ e => e)).up Ho3.out.size) 33
        rw [HCells.out] at this
        exact fits_c _ (w3.heap.size + 1) (by simp) _ _ this)
      clear hb3
      go_wp2_with fail
      refine HFit3.out.mono ?_
      rintro e w4 ⟨rfl, ho4⟩
      have Ho34 := hid (((Only.refl (fun _ => False) w3).alloc _).trans ho4 (fun _ _ e => e))
      have Ho4 := hid (Ho3.out.trans Ho34.out (fun _ _ e => e)); have Hb4 := hid (blk_only Hb3.out Ho34.out (fun e => e))
      clear ho4 HFit3 Hb3 Ho34 y0 y1 y2 y3 y4 y5 y6
      cases hf3 : fitsB [oc] with
      | false =>
        go_wp2_with fail
        go_ret
        exact ⟨rfl, Ho4.out⟩
      | true =>
        clear hf1 hf2 hf3
        go_wp2_with fail
        refine (new_ok w4 4 (by decide) (by decide)).mono ?_
        rintro e w5 ⟨b, F0, rfl, hD0, ho5, hF0⟩
        have HI : Hid (DS w w5 b (DiskM.new 4) F0 CC) := hid ⟨hD0, rfl, by decide, rfl, fun k hk => by have := hF0 k hk; have := blk_lt Hb4.out; omega, blk_only Hb4.out ho5 (fun e => e), Ho4.out.trans ho5 (fun _ _ e => e)⟩
        clear hD0 ho5 hF0 Hb4 Ho4
        obtain ⟨a1, c1, rfl, hll1, hl1⟩ := H1.out
        obtain ⟨a2, c2, rfl, hll2, hl2⟩ := H2.out
        have HL1 := hid hl1; have HL2 := hid hl2
        clear hl1 hl2 H1 H2
        go_wp2_with fail
        go_loopw [47, 10] (fun i _ wr => ∃ (k : Nat) (D : DiskM) (F : Nat → Prop), i = .int .i64 k ∧ k ≤ l1.length ∧ DS w wr b D F CC) (fun i _ _ => l1.length - (intOf i).toNat)
        case atStart => exact ⟨0, _, _, rfl, Nat.zero_le _, HI.out⟩
        case round =>
          clear HI
          obtain ⟨k, D, F, rfl, hk, hst⟩ := hrel
          obtain ⟨w6, rfl⟩ : ∃ w6 : World, w6 = wr := ⟨_, rfl⟩
          have HS := hid hst
          clear hst
          by_cases hkl : k < l1.length
          · obtain ⟨hat, g, of, rfl, hgB, hc⟩ := HL1.out k l1[k] (List.getElem?_eq_getElem hkl)
            obtain ⟨o, hoo⟩ : ∃ o, o = l1[k] := ⟨_, rfl⟩
            rw [← hoo] at hat hc
            have hcw : ∀ j u, o.cells[j]? = some u → w6.cell? ⟨g, of + k * 7 + j, none⟩ = some u := by
              intro j u hj
              rw [← hc j u hj]
              exact World.cell?_of_block (HS.out.only.block g hgB (fun e => e))
            have c0 := hcw 0 _ rfl
            rw [Nat.add_zero] at c0
            have c1 := hcw 1 _ rfl
            have c2 := hcw 2 _ rfl
            have c3 := hcw 3 _ rfl
            have c4 := hcw 4 _ rfl
            have c5 := hcw 5 _ rfl
            have c6 := hcw 6 _ rfl
            obtain ⟨da, dc, hd⟩ := hat.data.len
            obtain ⟨ka, kc, hkv⟩ := hat.keep.len
            rw [hd] at c5
            rw [hkv, length_intsV] at c6
            have Hat := hid (hat.only HS.out.only (fun _ _ e => e)); have Hdv := hid hd
            have HDd : ∀ ob, Hid (DiskAt (w6.alloc ob).drew b D F) := fun ob => HS.out.disk.only ((Only.refl (fun _ => False) _).alloc _).drew (fun _ _ e => e)
            have HSrc : ∀ ob, Hid (Src (w6.alloc ob).drew (.slice da o.data.length dc) o.data) := fun ob => hid (by
              have := Hat.out.data.only ((Only.refl (fun _ => False) w6).alloc ob).drew (fun _ _ _ _ _ e => e)
              rw [Hdv.out] at this; exact this)
            have hgn : (Hid (¬ F w6.heap.size)) := hid (fun h => by have := HS.out.disk.lt h; omega)
            clear hc hcw hat hoo hd hkv
            go_wp2_with fail
            go_region_held3 (fun W' => W'.cell? ⟨w6.heap.size, 1, none⟩ = some (.int .i64 o.n) ∧ W'.cell? ⟨w6.heap.size, 5, none⟩ = some (.slice da o.data.length dc))
              (first | exact ⟨(World.cell?_of_block (Ho7.out.block w6.heap.size (by simp) (fun e => e))).trans (by simp), (World.cell?_of_block (Ho7.out.block w6.heap.size (by simp) (fun e => e))).trans (by simp)⟩ | exact ⟨(World.cell?_of_block (Ho8.out.block w6.heap.size (Nat.lt_of_lt_of_le (by simp) Ho7.out.size) hgn.out)).trans ((World.cell?_of_block (Ho7.out.block w6.heap.size (by simp) (fun e => e))).trans (by simp)), (World.cell?_of_block (Ho8.out.block w6.heap.size (Nat.lt_of_lt_of_le (by simp) Ho7.out.size) hgn.out)).trans ((World.cell?_of_block (Ho7.out.block w6.heap.size (by simp) (fun e => e))).trans (by simp))⟩ | go_keep)
              (first
                | (go_at_call 29; refine (sector_c _ _ o.data (HSrc _).out).mono ?_; rintro e w7 ⟨g7, rfl, hm, ho⟩; have HWr := hid (write_c ((HDd _).out.only ho (fun _ _ e => e)) o.n _ (sectorL o.data) (made_src128 hm (length_sectorL _)) (hm.apart (HDd _).out) (by simp)); have Ho7 := hid ho; clear hm ho)
                | (go_at_call 28; refine HWr.out.mono ?_; rintro e w8 ⟨rfl, F8, hD, ho, hF⟩; have HD8 := hid hD; have Ho8 := hid ho; have HF8 := hid hF; clear hD ho hF))
            all_goals
              have HS7 := hid (HS.out.step (((Only.refl (fun _ => False) _).alloc _).drew.trans Ho7.out (fun _ _ e => e)))
              have HS8 := hid (HS7.out.write o.n (sectorL o.data) (length_sectorL _) HD8.out Ho8.out HF8.out)
              go_wp2_with fail
              go_roundw
              case rel => exact ⟨k + 1, _, F8, by go_num, by omega, HS8.out⟩
              case measure => simp [intOf]; omega
          · obtain rfl : k = l1.length := by omega
            have hfl := flush_c HS.out.disk
            rw [flush_eq HS.out.up HS.out.fu] at hfl
            have HFl := hid hfl
            clear hfl
            go_wp2_with fail
            refine HFl.out.mono ?_
            rintro e w7 ⟨rfl, hd7, ho7⟩
            obtain ⟨D1, hD1⟩ : ∃ D1 : DiskM, { D.flushed with nf := wrap64 (D.nf + 1) } = D1 := ⟨_, rfl⟩
            rw [hD1] at hd7
            have hp1 : ∀ k, D1.pend k = none := fun k => by rw [← hD1]; rfl
            have HS7 := hid (HS.out.put hd7 ho7 (fun k hk => .inl hk) (by rw [← hD1]; exact HS.out.up) (by rw [← hD1]; exact HS.out.fu) (by rw [← hD1]; exact HS.out.n))
            have Hp1 := hid hp1
            have hcu : ∀ k, D1.cur k = D1.sure k := fun k => by unfold DiskM.cur; rw [hp1]; rfl
            have Hcu := hid hcu
            clear hd7 ho7 hp1 hD1 HFl HS hk hkl hcu
            go_wp2_with fail
            have HW8 : Hid (WS w (w7.alloc (.cells #[.string ⟨#[]⟩, .string ⟨#[]⟩, .string ⟨#[]⟩, .string ⟨#[]⟩] 108)) b w7.heap.size D1 F CC 0) :=
              hid ⟨HS7.out.step ((Only.refl _ _).alloc _), by rw [wasA_zero]; exact blk_new w7 _, fun e => Nat.lt_irrefl _ (HS7.out.disk.lt e), blk_lt HS7.out.bc⟩
            clear HS7
            go_loopw [62, 12, 13, 14] (fun i _ _ _ wr => ∃ k : Nat, i = .int .i64 k ∧ k ≤ 4 ∧ WS w wr b w7.heap.size D1 F CC k) (fun i _ _ _ _ => 4 - (intOf i).toNat)
            case atStart => exact ⟨0, rfl, by decide, HW8.out⟩
            case round =>
              clear HW8
              obtain ⟨k, rfl, hk, hst⟩ := hrel
              obtain ⟨w8, rfl⟩ : ∃ w8 : World, w8 = wr := ⟨_, rfl⟩
              have HS := hid hst
              clear hst
              by_cases hk4 : k < 4
              · have HR := hid (read_ok HS.out.ds.disk HS.out.ds.up k (by omega) (by rw [HS.out.ds.n]; omega))
                rw [Int.toNat_natCast, Hcu.out] at HR
                have HLn := hid (HS.out.ds.disk.sure_len (k := k) (by rw [HS.out.ds.n]; omega))
                have hki : (k : Int) < 4 := by omega
                go_wp2_with (go_at_call 31; refine HR.out.mono ?_; rintro e w9 ⟨g, c, rfl, hm, ho9⟩; have HS9 := hid (HS.out.step ho9); have hcv := conv_str hm.src; unfold secV at hcv ⊢; have hv0 : w9.cell? ⟨w7.heap.size, k, none⟩ = some (wv D1.sure k k) := (cell_blk HS9.out.bw k).trans (wasA_get _ _ _ hk4); have hz0 := frozen_blk HS9.out.bw; clear hm ho9)
                go_roundw
                case rel => exact ⟨k + 1, by go_num, by omega, HS9.out.next hk4⟩
                case measure => simp [intOf]; omega
              · obtain rfl : k = 4 := by omega
                go_wp2_with fail
                have HW9 : Hid (LS w (w8.alloc (.cells #[.string ⟨#[]⟩, .string ⟨#[]⟩, .string ⟨#[]⟩, .string ⟨#[]⟩] 108)) b w7.heap.size w8.heap.size D1.sure D1 F CC) :=
                  hid ⟨HS.out.ds.step ((Only.refl _ _).alloc _), rfl, blk_alloc HS.out.bw, by rw [lastA_none Hp1.out]; exact blk_new w8 _, HS.out.nw, fun e => Nat.lt_irrefl _ (HS.out.ds.disk.lt e), HS.out.gww, blk_lt HS.out.bw⟩
                obtain ⟨S, hS⟩ : ∃ S, D1.sure = S := ⟨_, rfl⟩
                rw [hS] at HW9
                have HSl := hid (show ∀ k, k < 4 → (S k).length = 128 from fun k hk => by rw [← hS]; exact HS.out.ds.disk.sure_len (by rw [HS.out.ds.n]; exact hk))
                clear HS hS hk hk4
                go_loopw [78, 17] (fun i _ wr => ∃ (k : Nat) (D : DiskM) (F : Nat → Prop), i = .int .i64 k ∧ k ≤ l2.length ∧ LS w wr b w7.heap.size w8.heap.size S D F CC) (fun i _ _ => l2.length - (intOf i).toNat)
                case atStart => exact ⟨0, _, _, rfl, Nat.zero_le _, HW9.out⟩
                case round =>
                  clear HW9
                  obtain ⟨k, D, F, rfl, hk, hst⟩ := hrel
                  obtain ⟨w10, rfl⟩ : ∃ w10 : World, w10 = wr := ⟨_, rfl⟩
                  have HLs := hid hst
                  have HS := hid hst.ds
                  clear hst
                  by_cases hkl : k < l2.length
                  · obtain ⟨hat, g, of, rfl, hgB, hc⟩ := HL2.out k l2[k] (List.getElem?_eq_getElem hkl)
                    obtain ⟨o, hoo⟩ : ∃ o, o = l2[k] := ⟨_, rfl⟩
                    rw [← hoo] at hat hc
                    have hcw : ∀ j u, o.cells[j]? = some u → w10.cell? ⟨g, of + k * 7 + j, none⟩ = some u := by
                      intro j u hj
                      rw [← hc j u hj]
                      exact World.cell?_of_block (HS.out.only.block g hgB (fun e => e))
                    have c0 := hcw 0 _ rfl
                    rw [Nat.add_zero] at c0
                    have c1 := hcw 1 _ rfl
                    have c2 := hcw 2 _ rfl
                    have c3 := hcw 3 _ rfl
                    have c4 := hcw 4 _ rfl
                    have c5 := hcw 5 _ rfl
                    have c6 := hcw 6 _ rfl
                    obtain ⟨da, dc, hd⟩ := hat.data.len
                    obtain ⟨ka, kc, hkv⟩ := hat.keep.len
                    rw [hd] at c5
                    rw [hkv, length_intsV] at c6
                    have Hat := hid (hat.only HS.out.only (fun _ _ e => e)); have Hdv := hid hd
                    have HDd : ∀ ob, Hid (DiskAt (w10.alloc ob).drew b D F) := fun ob => HS.out.disk.only ((Only.refl (fun _ => False) _).alloc _).drew (fun _ _ e => e)
                    have HSrc : ∀ ob, Hid (Src (w10.alloc ob).drew (.slice da o.data.length dc) o.data) := fun ob => hid (by
                      have := Hat.out.data.only ((Only.refl (fun _ => False) w10).alloc ob).drew (fun _ _ _ _ _ e => e)
                      rw [Hdv.out] at this; exact this)
                    have hgn : (Hid (¬ F w10.heap.size)) := hid (fun h => by have := HS.out.disk.lt h; omega)
                    clear hc hcw hat hoo hd hkv
                    by_cases hN : o.n < 0 ∨ 4 ≤ o.n
                    · have E1 := hid (show (D.write o.n (sectorL o.data)).2 = 1 by rw [write_eq HS.out.up HS.out.fu _ _ (length_sectorL _), HS.out.n, if_pos (by omega)])
                      have E2 := hid (show (D.write o.n (sectorL o.data)).1 = D by rw [write_eq HS.out.up HS.out.fu _ _ (length_sectorL _), HS.out.n, if_pos (by omega)])
                      clear hN
                      go_wp2_with fail
                      go_region_held3 (fun W' => W'.cell? ⟨w10.heap.size, 1, none⟩ = some (.int .i64 o.n) ∧ W'.cell? ⟨w10.heap.size, 5, none⟩ = some (.slice da o.data.length dc))
                        (first | exact ⟨(World.cell?_of_block (Ho11.out.block w10.heap.size (by simp) (fun e => e))).trans (by simp), (World.cell?_of_block (Ho11.out.block w10.heap.size (by simp) (fun e => e))).trans (by simp)⟩ | exact ⟨(World.cell?_of_block (Ho12.out.block w10.heap.size (Nat.lt_of_lt_of_le (by simp) Ho11.out.size) hgn.out)).trans ((World.cell?_of_block (Ho11.out.block w10.heap.size (by simp) (fun e => e))).trans (by simp)), (World.cell?_of_block (Ho12.out.block w10.heap.size (Nat.lt_of_lt_of_le (by simp) Ho11.out.size) hgn.out)).trans ((World.cell?_of_block (Ho11.out.block w10.heap.size (by simp) (fun e => e))).trans (by simp))⟩ | go_keep)
                        (first
                          | (go_at_call 29; refine (sector_c _ _ o.data (HSrc _).out).mono ?_; rintro e w11 ⟨g11, rfl, hm, ho⟩; have HWr := hid (write_c ((HDd _).out.only ho (fun _ _ e => e)) o.n _ (sectorL o.data) (made_src128 hm (length_sectorL _)) (hm.apart (HDd _).out) (by simp)); have Ho11 := hid ho; clear hm ho)
                          | (go_at_call 28; refine HWr.out.mono ?_; rintro e w12 ⟨rfl, F12, hD, ho, hF⟩; have HD12 := hid hD; have Ho12 := hid ho; have HF12 := hid hF; clear hD ho hF; rw [E1.out]))
                      all_goals
                        have HLs7 := hid (HLs.out.step (((Only.refl (fun _ => False) _).alloc _).drew.trans Ho11.out (fun _ _ e => e)))
                        have HW := hid (HLs7.out.write o.n (sectorL o.data) (length_sectorL _) HD12.out Ho12.out HF12.out)
                        rw [E2.out] at HW
                        go_wp2_with fail
                        go_roundw
                        case rel => (iterate 21 (apply Exists.intro)); refine And.intro ?_ rfl; exact ⟨k + 1, D, F12, by go_num, by omega, HW.out.1, HW.out.2.1, HW.out.2.2.1, HW.out.2.2.2.1, HW.out.2.2.2.2.1, HW.out.2.2.2.2.2, HLs.out.gww, HLs.out.glw⟩
                        case measure => simp [intOf]; omega
                    · have hN0 : 0 ≤ o.n := by omega
                      have hN4 : o.n < 4 := by omega
                      have E1 := hid (show (D.write o.n (sectorL o.data)).2 = 0 by rw [write_eq HS.out.up HS.out.fu _ _ (length_sectorL _), HS.out.n, if_neg (by omega)])
                      clear hN
                      go_wp2_with fail
                      go_region_held3 (fun W' => W'.cell? ⟨w10.heap.size, 1, none⟩ = some (.int .i64 o.n) ∧ W'.cell? ⟨w10.heap.size, 5, none⟩ = some (.slice da o.data.length dc))
                        (first | exact ⟨(World.cell?_of_block (Ho11.out.block w10.heap.size (by simp) (fun e => e))).trans (by simp), (World.cell?_of_block (Ho11.out.block w10.heap.size (by simp) (fun e => e))).trans (by simp)⟩ | exact ⟨(World.cell?_of_block (Ho12.out.block w10.heap.size (Nat.lt_of_lt_of_le (by simp) Ho11.out.size) hgn.out)).trans ((World.cell?_of_block (Ho11.out.block w10.heap.size (by simp) (fun e => e))).trans (by simp)), (World.cell?_of_block (Ho12.out.block w10.heap.size (Nat.lt_of_lt_of_le (by simp) Ho11.out.size) hgn.out)).trans ((World.cell?_of_block (Ho11.out.block w10.heap.size (by simp) (fun e => e))).trans (by simp))⟩ | go_keep)
                        (first
                          | (go_at_call 29; refine (sector_c _ _ o.data (HSrc _).out).mono ?_; rintro e w11 ⟨g11, rfl, hm, ho⟩; have HWr := hid (write_c ((HDd _).out.only ho (fun _ _ e => e)) o.n _ (sectorL o.data) (made_src128 hm (length_sectorL _)) (hm.apart (HDd _).out) (by simp)); have Ho11 := hid ho; clear hm ho)
                          | (go_at_call 28; refine HWr.out.mono ?_; rintro e w12 ⟨rfl, F12, hD, ho, hF⟩; have HD12 := hid hD; have Ho12 := hid ho; have HF12 := hid hF; clear hD ho hF; rw [E1.out]))
                      all_goals
                        have HLs7 := hid (HLs.out.step (((Only.refl (fun _ => False) _).alloc _).drew.trans Ho11.out (fun _ _ e => e)))
                        have HW := hid (HLs7.out.write o.n (sectorL o.data) (length_sectorL _) HD12.out Ho12.out HF12.out)
                        have hlt10 : w10.heap.size < w12.heap.size := Nat.lt_of_lt_of_le (Nat.lt_of_lt_of_le (by simp) Ho11.out.size) Ho12.out.size
                        have Hlt10 := hid hlt10
                        have x1 : w12.cell? ⟨w10.heap.size, 1, none⟩ = some (.int .i64 o.n) := (World.cell?_of_block (Ho12.out.block w10.heap.size (Nat.lt_of_lt_of_le (by simp) Ho11.out.size) hgn.out)).trans ((World.cell?_of_block (Ho11.out.block w10.heap.size (by simp) (fun e => e))).trans (by simp))
                        have x5 : w12.cell? ⟨w10.heap.size, 5, none⟩ = some (.slice da o.data.length dc) := (World.cell?_of_block (Ho12.out.block w10.heap.size (Nat.lt_of_lt_of_le (by simp) Ho11.out.size) hgn.out)).trans ((World.cell?_of_block (Ho11.out.block w10.heap.size (by simp) (fun e => e))).trans (by simp))
                        have Hne := hid (show ¬ w10.heap.size = w8.heap.size from fun e => by have := blk_lt HLs.out.bl; omega)
                        have HSr : Hid (Src w12.drew (.slice da o.data.length dc) o.data) := hid (by
                          have := (Hat.out.data.only (((Only.refl (fun _ => False) w10).alloc _).drew.trans Ho11.out (fun _ _ e => e)) (fun _ _ _ _ _ e => e))
                          have h3 := this.only (Ho12.out.trans (Only.refl (fun _ => False) w12).drew (fun _ _ e => e.elim)) (fun hne g' o' c' e hF => by have := HS.out.f0 _ hF; have := Hat.out.dlt g' o' c' e hne; omega)
                          rw [Hdv.out] at h3; exact h3)
                        clear hlt10
                        go_wp2_with fail
                        go_region_law (first | (refine step_of rfl (wp_callc (o := ⟨some 94, _, _, _, _, _⟩) (f := 29) (args := #[.slice da o.data.length dc]) (by kernel_rfl) ?_); refine (sector_c _ _ o.data HSr.out).mono ?_; rintro e w13 ⟨g13, rfl, hm, ho⟩; have hcv := conv_str (made_src128 hm (length_sectorL _)); have Ho13 : Hid (Only (fun _ => False) w12 w13) := hid ((Only.refl (fun _ => False) w12).drew.trans ho (fun _ _ e => e)); have hv13 : w13.cell? ⟨w8.heap.size, o.n.toNat, none⟩ = some (lv D o.n.toNat) := (cell_blk (blk_only HW.out.2.2.2.1 Ho13.out (fun e => e)) o.n.toNat).trans (lastA_get _ _ (by omega)); have hz13 := frozen_blk (blk_only HW.out.2.2.2.1 Ho13.out (fun e => e)); have x13 : w13.cell? ⟨w10.heap.size, 1, none⟩ = some (.int .i64 o.n) := cellG Ho13.out Hlt10.out (fun e => e) x1; clear hm ho; refine ⟨_, rfl, ?_⟩))
                        all_goals
                          have HN := hid (LS.note (HW.out.1.step Ho13.out) HW.out.2.1 (blk_only HW.out.2.2.1 Ho13.out (fun e => e)) (blk_only HW.out.2.2.2.1 Ho13.out (fun e => e)) HW.out.2.2.2.2.1 HW.out.2.2.2.2.2 HLs.out.gww HLs.out.glw HS.out.up HS.out.fu HS.out.n hN0 hN4 (length_sectorL _))
                          go_wp2_with fail
                          go_roundw
                          case rel => (iterate 21 (apply Exists.intro)); refine And.intro ?_ rfl; exact ⟨k + 1, _, F12, by go_num, by omega, HN.out⟩
                          case measure => simp [intOf]; omega
                  · obtain rfl : k = l2.length := by omega
                    have hbc := HS.out.bc
                    rw [hCC] at hbc
                    have y6 : w10.cell? ⟨w.heap.size, 6, none⟩ = some (.slice cka oc.keep.length ckc) := cell_blk hbc 6
                    have y1 : w10.cell? ⟨w.heap.size, 1, none⟩ = some (.int .i64 oc.n) := cell_blk hbc 1
                    have y2 : w10.cell? ⟨w.heap.size, 2, none⟩ = some (.int .i64 oc.at') := cell_blk hbc 2
                    have HKs : Hid (SrcV w10 (.slice cka oc.keep.length ckc) (intsV oc.keep)) := hid (by
                      have := (HOC.out.only HS.out.only (fun _ _ e => e)).keep
                      rw [HCk.out] at this; exact this)
                    have HKf : Hid (oc.keep ≠ [] → ∀ g o c, (.slice cka oc.keep.length ckc : Value) = .slice (some ⟨g, o, none⟩) oc.keep.length c → ¬ F g) := hid (fun hne g o c e hF => by
                      have h1 := HS.out.f0 g hF
                      have h2 := HOC.out.klt g o c (by rw [HCk.out]; exact e) hne
                      omega)
                    have Hkl := hid HOC.out.klen
                    clear hbc hk hkl
                    go_wp2_with fail
                    refine (crash_c2 HS.out.disk _ oc.keep HKs.out HKf.out Hkl.out oc.n oc.at').mono ?_
                    rintro e w11 ⟨rfl, hd11, ho11⟩
                    clear y6 y1 y2
                    have HD11 := hid hd11
                    have Hbw11 := hid (blk_only HLs.out.bw ho11 HLs.out.nw)
                    have Hbl11 := hid (blk_only HLs.out.bl ho11 HLs.out.nl)
                    have Hbc11 := hid (blk_only HS.out.bc ho11 (fun e => by have := HS.out.f0 _ e; omega))
                    have Ho11 := hid (HS.out.only.trans ho11 (fun k hk e => by have := HS.out.f0 k e; omega))
                    clear hd11 ho11
                    go_wp2_with fail
                    refine (up_c HD11.out).mono ?_
                    rintro e w12 ⟨rfl, hd12, ho12⟩
                    have Hbw12 := hid (blk_only Hbw11.out ho12 HLs.out.nw)
                    have Hbl12 := hid (blk_only Hbl11.out ho12 HLs.out.nl)
                    have Hbc12 := hid (blk_only Hbc11.out ho12 (fun e => by have := HS.out.f0 _ e; omega))
                    have Ho12 := hid (Ho11.out.trans ho12 (fun k hk e => by have := HS.out.f0 k e; omega))
                    obtain ⟨D4, hD4⟩ : ∃ D4, (D.crash oc.keep oc.n oc.at').up = D4 := ⟨_, rfl⟩
                    rw [hD4] at hd12
                    have HD12 := hid hd12
                    have HD4 := hid (show D4.down = false ∧ D4.n = 4 ∧ (∀ k, D4.pend k = none) ∧ ∀ k, D4.cur k = D.crashed oc.keep oc.n oc.at' k by
                      rw [← hD4]
                      exact ⟨rfl, HS.out.n, fun k => rfl, fun k => rfl⟩)
                    have HDp := hid (show ∀ k, k < 4 → (∀ l, D.pend k = some l → l.length = 128) from fun k hk l hl => (HS.out.disk.pend_lt hl).2)
                    have HSu := hid HLs.out.su
                    clear hd12 ho12 hD4
                    go_wp2_with fail
                    go_loopw [108, 18, 19, 20, 21, 22] (fun i _ _ _ _ _ wr => ∃ k : Nat, i = .int .i64 k ∧ k ≤ 4 ∧ Only (fun _ => False) w12 wr) (fun i _ _ _ _ _ _ => 4 - (intOf i).toNat)
                    case atStart => exact ⟨0, rfl, by decide, Only.refl _ _⟩
                    case round =>
                      obtain ⟨k, rfl, hk, ho⟩ := hrel
                      obtain ⟨w13, rfl⟩ : ∃ w13 : World, w13 = wr := ⟨_, rfl⟩
                      have HO := hid ho
                      clear ho
                      by_cases hk4 : k < 4
                      · have HR := hid (read_ok (HD12.out.only HO.out (fun _ _ e => e)) HD4.out.1 k (by omega) (by rw [HD4.out.2.1]; omega))
                        rw [Int.toNat_natCast, HD4.out.2.2.2] at HR
                        have hcs := crash_cases HSu.out oc.keep oc.n oc.at' k
                        obtain ⟨X, hX⟩ : ∃ X, D.crashed oc.keep oc.n oc.at' k = X := ⟨_, rfl⟩
                        rw [hX] at HR hcs
                        have hki : (k : Int) < 4 := by omega
                        have hsk := HSl.out k hk4
                        have hwvk : wv S 4 k = .string (strOf (S k)) := by unfold wv; rw [if_pos hk4]
                        clear hX
                        by_cases hA : X = S k
                        · subst hA
                          obtain ⟨sw, hsw⟩ : ∃ sw, strOf (S k) = sw := ⟨_, rfl⟩
                          have hs1 : (sw.toList == sw.toList) = true := beq_self_eq_true _
                          have Hl0 := hid (lastA_get D k hk4)
                          obtain ⟨lz, hlz⟩ : ∃ lz, lv D k = .string lz := ⟨_, rfl⟩
                          rw [hlz] at Hl0
                          rw [hsw] at hwvk
                          go_wp2_with (go_at_call 31; refine HR.out.mono ?_; rintro e w14 ⟨g, c, rfl, hm, ho14⟩; have HO14 := hid (HO.out.trans ho14 (fun _ _ e => e)); have hcv := conv_str hm.src; unfold secV at hcv ⊢; rw [hsw] at hcv; have hwk : w14.cell? ⟨w7.heap.size, k, none⟩ = some (.string sw) := (cell_blk (blk_only Hbw12.out HO14.out (fun e => e)) k).trans ((wasA_get _ _ _ hk4).trans (by rw [hwvk])); have hlk : w14.cell? ⟨w8.heap.size, k, none⟩ = some (.string lz) := (cell_blk (blk_only Hbl12.out HO14.out (fun e => e)) k).trans Hl0.out; clear hm ho14)
                          go_roundw
                          case rel => exact ⟨k + 1, by go_num, by omega, HO14.out⟩
                          case measure => simp [intOf]; omega
                        · have hcs2 : ∃ l, D.pend k = some l ∧ (X = l ∨ (oc.n = k ∧ X = torn l (S k) oc.at')) := by
                            rcases hcs with h | h
                            · exact absurd h hA
                            · exact h
                          obtain ⟨l, hpl, hcs3⟩ := hcs2
                          have hll := HDp.out k hk4 l hpl
                          have hlz : lv D k = .string (strOf l) := by unfold lv; rw [hpl]
                          have Hl0 := hid (lastA_get D k hk4)
                          rw [hlz] at Hl0
                          obtain ⟨sw, hsw⟩ : ∃ sw, strOf (S k) = sw := ⟨_, rfl⟩
                          obtain ⟨sl, hsl⟩ : ∃ sl, strOf l = sl := ⟨_, rfl⟩
                          obtain ⟨sx, hsx⟩ : ∃ sx, strOf X = sx := ⟨_, rfl⟩
                          rw [hsw] at hwvk
                          rw [hsl] at Hl0
                          have hn1 : ¬ sx = sw := fun e => hA (strOf_inj (hsx.trans (e.trans hsw.symm)))
                          have hq1 : (sx.toList == sw.toList) = false := by
                            rw [beq_eq_false_iff_ne]; intro e; apply hA; have := congrArg List.length e; rw [← hsx, ← hsw] at e; simpa [strOf] using e
                          have hq2 : (sl.toList == ([] : List UInt8)) = false := by
                            rw [beq_eq_false_iff_ne, ← hsl]; intro e; have := congrArg List.length e; simp [strOf] at this; rw [this] at hll; simp at hll
                          by_cases hB : X = l
                          · subst hB
                            rw [hsx] at hsl
                            subst hsl
                            have hs1 : (sx.toList == sx.toList) = true := beq_self_eq_true _
                            have Hs := hid (And.intro hsw hsx)
                            clear hcs hcs3 hsw hA
                            go_wp2_with (go_at_call 31; refine HR.out.mono ?_; rintro e w14 ⟨g, c, rfl, hm, ho14⟩; have HO14 := hid (HO.out.trans ho14 (fun _ _ e => e)); have hcv := conv_str hm.src; unfold secV at hcv ⊢; rw [Hs.out.2] at hcv; have hwk : w14.cell? ⟨w7.heap.size, k, none⟩ = some (.string sw) := (cell_blk (blk_only Hbw12.out HO14.out (fun e => e)) k).trans ((wasA_get _ _ _ hk4).trans (by rw [hwvk])); have hlk : w14.cell? ⟨w8.heap.size, k, none⟩ = some (.string sx) := (cell_blk (blk_only Hbl12.out HO14.out (fun e => e)) k).trans Hl0.out; clear hm ho14)
                            go_roundw
                            case rel => exact ⟨k + 1, by go_num, by omega, HO14.out⟩
                            case measure => simp [intOf]; omega
                          · obtain ⟨hnk, hXt⟩ : oc.n = k ∧ X = torn l (S k) oc.at' := by
                              rcases hcs3 with h | h
                              · exact absurd h hB
                              · exact h
                            have hq3 : (sx.toList == sl.toList) = false := by
                              rw [beq_eq_false_iff_ne]; intro e; apply hB; rw [← hsx, ← hsl] at e; simpa [strOf] using e
                            have Hs := hid (And.intro hsw (And.intro hsl hsx))
                            have HXt := hid hXt
                            obtain ⟨m, hm⟩ : ∃ m : Nat, m = tornAt oc.at' := ⟨_, rfl⟩
                            have hif : max 0 (min oc.at' 128) = (m : Int) := by rw [hm]; unfold tornAt; omega
                            have Hnk := hid hnk
                            have Hq4 := hid (show (sx.toList == (sl.extract 0 m ++ sw.extract m 128).toList) = true by
                              have e1 := strS_extract l 0 m
                              have e2 := strS_extract (S k) m (128 - m)
                              have hm8 := tornAt_le oc.at'
                              rw [Nat.zero_add, hsl, List.drop_zero] at e1
                              rw [show m + (128 - m) = 128 by omega, hsw, List.take_of_length_le (by simp; omega)] at e2
                              rw [e1, e2, strS_append, ← hsx, hXt, hm]
                              exact beq_self_eq_true _)
                            have hm128 : (m : Int) ≤ 128 := by have := tornAt_le oc.at'; omega
                            have hsz1 : sl.size = 128 := by rw [← hsl]; exact hll
                            have hsz2 : sw.size = 128 := by rw [← hsw]; exact hsk
                            have Hm := hid hm
                            have hq4 := Hq4.out
                            have hcat : (sl.extract 0 m).size + (sw.extract m 128).size ≤ 9223372036854775807 := by (simp [ByteArray.size_extract, hsz1, hsz2]; omega)
                            clear hcs hcs3 hsw hsl hsx hA hB hXt hm hnk
                            go_wp2_with (go_at_call 31; refine HR.out.mono ?_; rintro e w14 ⟨g, c, rfl, hm, ho14⟩; have HO14 := hid (HO.out.trans ho14 (fun _ _ e => e)); have hcv := conv_str hm.src; unfold secV at hcv ⊢; rw [Hs.out.2.2] at hcv; have hwk : w14.cell? ⟨w7.heap.size, k, none⟩ = some (.string sw) := (cell_blk (blk_only Hbw12.out HO14.out (fun e => e)) k).trans ((wasA_get _ _ _ hk4).trans (by rw [hwvk])); have hlk : w14.cell? ⟨w8.heap.size, k, none⟩ = some (.string sl) := (cell_blk (blk_only Hbl12.out HO14.out (fun e => e)) k).trans Hl0.out; have x1 : w14.cell? ⟨w.heap.size, 1, none⟩ = some (.int .i64 (k : Int)) := by { have e := blk_only Hbc12.out HO14.out (fun e => e); rw [hCC, Hnk.out] at e; exact cell_blk e 1 }; have x2 : w14.cell? ⟨w.heap.size, 2, none⟩ = some (.int .i64 oc.at') := by { have e := blk_only Hbc12.out HO14.out (fun e => e); rw [hCC] at e; exact cell_blk e 2 }; clear hm ho14)
                            go_quiet (fail)
                            all_goals
                              go_wp2_with fail
                              go_roundw
                              case rel => exact ⟨k + 1, by go_num, by omega, HO14.out.trans (only_drewS _ _) (fun _ _ e => e)⟩
                              case measure => simp [intOf]; omega
                      · obtain rfl : k = 4 := by omega
                        have HD13 := hid (HD12.out.only HO.out (fun _ _ e => e))
                        go_wp2_with fail
                        refine (pending_c HD13.out).mono ?_
                        rintro e w20 ⟨bo, cp, ks, rfl, -, ho20, hpo, -⟩
                        obtain rfl : ks = [] := by
                          cases ks with
                          | nil => rfl
                          | cons z zs =>
                            obtain ⟨j, -, hj⟩ := (hpo.2 z).1 List.mem_cons_self
                            exact absurd (HD4.out.2.2.1 j) hj
                        go_wp2_with fail
                        go_ret
                        exact ⟨rfl, (Ho12.out.trans HO.out (fun _ _ e => e)).trans ho20 (fun _ _ e => e)⟩
end Go.Proofs.Ytepndjojodbhdaa
