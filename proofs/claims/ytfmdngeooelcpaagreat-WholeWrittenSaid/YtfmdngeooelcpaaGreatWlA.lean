/- wal, walked: its small functions, Submit, lay, settle, Commit, Checkpoint. -/
import Derived.Test.YtfmdngeooelcpaaGreatRig
import Derived.Test.YtfmdngeooelcpaaGreatTorP
import Derived.Deep.QuietTactic
import Derived.BigQuiet
import Derived.Deep.RegionLaw
import Derived.Deep.RegionHeld3
import Derived.Test.YtfmdngeooelcpaaGreatRegion
import Derived.Test.YtfmdngeooelcpaaGreatPt
import Derived.Deep.OwnRows
import Derived.Deep.Cut
import Derived.Deep.CutRange
import Derived.Deep.CutBlock
import Derived.Test.YtfmdngeooelcpaaGreatFuse
import Derived.Test.YtfmdngeooelcpaaGreatFrm
namespace Go.Proofs.YtfmdngeooelcpaaGreat
open Go.RowKit

theorem blk2w (w : World) (o1 o2 : Obj) : ((w.alloc o1).alloc o2).heap[w.heap.size + 1]? = some o2 := by
  have := blk_new (w.alloc o1) o2
  rw [World.size_alloc] at this
  exact this

/-- A number's four bytes, the lowest first. -/
def le4 (n : Nat) : List UInt8 := [UInt8.ofNat n, UInt8.ofNat (n / 256), UInt8.ofNat (n / 65536), UInt8.ofNat (n / 16777216)]
def roomN (at' : Nat) : Nat := 2048 - at' % 2048
theorem le4_cells (n : Nat) (h : n < 4294967296) : (bytesV (le4 n)).toArray = #[.int .u8 ((n : Int) % 256), .int .u8 ((n : Int) / 256 % 256), .int .u8 ((n : Int) / 65536 % 256), .int .u8 ((n : Int) / 16777216)] := by
  unfold le4 bytesV
  simp only [List.map_cons, List.map_nil, UInt8.toNat_ofNat']
  have e0 : (((n % 2 ^ 8 : Nat)) : Int) = (n : Int) % 256 := by omega
  have e1 : (((n / 256 % 2 ^ 8 : Nat)) : Int) = (n : Int) / 256 % 256 := by omega
  have e2 : (((n / 65536 % 2 ^ 8 : Nat)) : Int) = (n : Int) / 65536 % 256 := by omega
  have e3 : (((n / 16777216 % 2 ^ 8 : Nat)) : Int) = (n : Int) / 16777216 := by omega
  rw [e0, e1, e2, e3]
theorem or_part (a x k : Nat) (ha : a < 2 ^ k) (h : x * 2 ^ k < 4294967296) (hk : a < 4294967296) : bits .or .u32 (a : Int) ((x * 2 ^ k : Nat) : Int) = ((a + 2 ^ k * x : Nat) : Int) := by
  rw [u32_or_nat a (x * 2 ^ k) hk h, or_shl _ _ _ ha]
theorem num4 (x0 x1 x2 x3 : UInt8) {r : List UInt8} : bits .or .u32 (bits .or .u32 (bits .or .u32 ((x0.toNat : Int) % 4294967296) ((x1.toNat : Int) % 4294967296 * 256 % 4294967296)) ((x2.toNat : Int) % 4294967296 * 65536 % 4294967296)) ((x3.toNat : Int) % 4294967296 * 16777216 % 4294967296) = (deN ((x0 :: x1 :: x2 :: x3 :: r).take 4) : Nat) := by
  have h0 : x0.toNat < 256 := x0.toNat_lt
  have h1 : x1.toNat < 256 := x1.toNat_lt
  have h2 : x2.toNat < 256 := x2.toNat_lt
  have h3 : x3.toNat < 256 := x3.toNat_lt
  have e0 : (x0.toNat : Int) % 4294967296 = (x0.toNat : Nat) := by omega
  have e1 : (x1.toNat : Int) % 4294967296 * 256 % 4294967296 = ((x1.toNat * 2 ^ 8 : Nat) : Int) := by omega
  have e2 : (x2.toNat : Int) % 4294967296 * 65536 % 4294967296 = ((x2.toNat * 2 ^ 16 : Nat) : Int) := by omega
  have e3 : (x3.toNat : Int) % 4294967296 * 16777216 % 4294967296 = ((x3.toNat * 2 ^ 24 : Nat) : Int) := by omega
  rw [e0, e1, e2, e3, or_part _ _ 8 (by omega) (by omega) (by omega), or_part _ _ 16 (by omega) (by omega) (by omega), or_part _ _ 24 (by omega) (by omega) (by omega)]
  simp only [List.take_succ_cons, List.take_zero, deN]
  congr 1
  omega
section
variable {w : World}
set_option maxRecDepth 100000 in
theorem room_c (at' : Nat) (h : at' ≤ 18446744073709551615) : Calls Tryz.prog 46 #[.int .u64 at'] w fun e w' => e = .returned (.int .i64 (roomN at' : Nat)) ∧ w = w' := by
  go_enter Tryz.func46, Tryz.ntmps46
  go_wp2
  go_ret
  exact ⟨ret_i (by unfold roomN; omega), rfl⟩
set_option maxRecDepth 100000 in
theorem segments_c {b : Nat} {D : DiskM} {F : Nat → Prop} (h : DiskAt w b D F) : Calls Tryz.prog 19 #[.pointer (some ⟨b, 0, none⟩)] w fun e w' => e = .returned (.int .i64 (((D.n : Int) - 2).tdiv 16)) ∧ w = w' := by
  have HS := hid (sectors_c h)
  have hn := h.n0
  clear h
  go_enter Tryz.func19, Tryz.ntmps19
  go_wp2_with (go_at_call 42; refine HS.out.mono ?_; rintro e w' ⟨rfl, rfl⟩)
  go_ret
  exact ⟨rfl, rfl⟩
set_option maxRecDepth 100000 in
theorem digits_c (n : Nat) (h : n < 4294967296) : Calls Tryz.prog 58 #[.int .u32 n] w fun e w' => e = .returned (.slice (some ⟨w.heap.size, 0, none⟩) 4 4) ∧ w.alloc (.cells (bytesV (le4 n)).toArray 5) = w' := by
  go_enter Tryz.func58, Tryz.ntmps58
  go_wp2
  go_ret
  rw [le4_cells n h]
  exact ⟨rfl, rfl⟩
set_option maxRecDepth 100000 in
theorem wnumber_c (v : Value) (l : List UInt8) (h : Src w v l) (hl : 4 ≤ l.length) : Calls Tryz.prog 48 #[v] w fun e w' => e = .returned (.int .u32 (deN (l.take 4) : Nat)) ∧ ∃ n, w' = w.drewN n := by
  obtain ⟨a, c, rfl, hq⟩ := h
  obtain ⟨g, o, rfl, hc⟩ := hq (by rintro rfl; simp at hl)
  obtain ⟨x0, x1, x2, x3, r, rfl⟩ : ∃ x0 x1 x2 x3 r, l = x0 :: x1 :: x2 :: x3 :: r := by
    match l, hl with
    | x0 :: x1 :: x2 :: x3 :: r, _ => exact ⟨x0, x1, x2, x3, r, rfl⟩
  have c0 := hc 0 _ rfl
  have c1 := hc 1 _ rfl
  have c2 := hc 2 _ rfl
  have c3 := hc 3 _ rfl
  rw [Nat.add_zero] at c0
  have i3 : (3 : Int) < (x0 :: x1 :: x2 :: x3 :: r).length := by simp only [List.length_cons] at *; omega
  obtain ⟨m, hm⟩ : ∃ m, (x0 :: x1 :: x2 :: x3 :: r).length = m := ⟨_, rfl⟩
  rw [hm] at i3 hl ⊢
  have j0 : (0 : Int) < m := by omega
  have j1 : (1 : Int) < m := by omega
  have j2 : (2 : Int) < m := by omega
  clear hc hq hm
  go_enter Tryz.func48, Tryz.ntmps48
  go_wp2
  go_quiet (fail)
  go_wp2
  go_ret
  exact ⟨ret_i (num4 x0 x1 x2 x3), _, rfl⟩
/-- A frame's sum. -/
def sealN (at' : Nat) (kind : Nat) (l : List UInt8) : Nat := crc (le4 (at' % 4294967296) ++ (le4 (at' / 4294967296) ++ (le4 (l.length % 4294967296) ++ (UInt8.ofNat kind :: l))))
theorem digits_r (n : Int) (h0 : 0 ≤ n) (h : n < 4294967296) : Calls Tryz.prog 58 #[.int .u32 n] w fun e w' => ∃ g, e = .returned (.slice (some ⟨g, 0, none⟩) 4 4) ∧ w.heap.size ≤ g ∧ Row w' g 5 4 (bytesV (le4 n.toNat)) ∧ Only (fun _ => False) w w' := by
  obtain ⟨m, rfl⟩ := Int.eq_ofNat_of_zero_le h0
  refine (digits_c m (by omega)).mono ?_
  rintro e w' ⟨rfl, rfl⟩
  exact ⟨_, rfl, Nat.le_refl _, Row.new w _ _, (Only.refl _ w).alloc _⟩
theorem Row.src4 {g : Nat} {l : List UInt8} (h : Row w g 5 4 (bytesV l)) (hl : l.length = 4) : Src w (.slice (some ⟨g, 0, none⟩) 4 4) l := by
  have := h.src
  rw [hl] at this; exact this
@[simp] theorem length_le4 (n : Nat) : (le4 n).length = 4 := rfl
set_option maxRecDepth 100000 in
set_option maxHeartbeats 1600000 in
theorem seal_c (at' : Nat) (h : at' ≤ 18446744073709551615) (kind : Nat) (hk : kind < 256) (v : Value) (l : List UInt8) (hs : Src w v l) (hl : l.length ≤ 1000000) :
    Calls Tryz.prog 49 #[.int .u64 at', .int .i64 kind, v] w fun e w' => e = .returned (.int .u32 (sealN at' kind l : Nat)) ∧ Only (fun _ => False) w w' := by
  obtain ⟨a, c, rfl⟩ := hs.len
  have HS := hid hs
  clear hs
  go_enter Tryz.func49, Tryz.ntmps49
  go_wp2_with fail
  refine (digits_r _ (by omega) (by omega)).mono ?_
  rintro e w1 ⟨g1, rfl, hg1, hr1, ho1⟩
  have Hr1 := hid hr1; have Ho1 := hid ho1
  clear hr1 ho1
  go_wp2_with fail
  refine (digits_r _ (by omega) (by omega)).mono ?_
  rintro e w2 ⟨g2, rfl, hg2, hr2, ho2⟩
  have Hr2 := hid hr2; have Ho2 := hid ho2
  clear hr2 ho2
  go_wp2_with fail
  refine (digits_r _ (by omega) (by omega)).mono ?_
  rintro e w3 ⟨g3, rfl, hg3, hr3, ho3⟩
  have Hr3 := hid hr3; have Ho3 := hid ho3
  clear hr3 ho3
  go_wp2_with fail
  have Ho5 : Hid (Only (fun _ => False) w3 ((w3.alloc (.cells #[.int .u8 kind] 5)).alloc (.cells #[.slice (some ⟨g1, 0, none⟩) 4 4, .slice (some ⟨g2, 0, none⟩) 4 4, .slice (some ⟨g3, 0, none⟩) 4 4, .slice (some ⟨w3.heap.size, 0, none⟩) 1 1, .slice a l.length c] 31))) := hid (((Only.refl _ w3).alloc _).alloc _)
  have hb := blk2w w3 (.cells #[.int .u8 kind] 5) (.cells #[.slice (some ⟨g1, 0, none⟩) 4 4, .slice (some ⟨g2, 0, none⟩) 4 4, .slice (some ⟨g3, 0, none⟩) 4 4, .slice (some ⟨w3.heap.size, 0, none⟩) 1 1, .slice a l.length c] 31)
  have hk1 := blk_alloc (o' := .cells #[.slice (some ⟨g1, 0, none⟩) 4 4, .slice (some ⟨g2, 0, none⟩) 4 4, .slice (some ⟨g3, 0, none⟩) 4 4, .slice (some ⟨w3.heap.size, 0, none⟩) 1 1, .slice a l.length c] 31) (blk_new w3 (.cells #[.int .u8 kind] 5))
  have hP : PartsV ((w3.alloc (.cells #[.int .u8 kind] 5)).alloc (.cells #[.slice (some ⟨g1, 0, none⟩) 4 4, .slice (some ⟨g2, 0, none⟩) 4 4, .slice (some ⟨g3, 0, none⟩) 4 4, .slice (some ⟨w3.heap.size, 0, none⟩) 1 1, .slice a l.length c] 31)) (.slice (some ⟨w3.heap.size + 1, 0, none⟩) 5 5) [le4 (at' % 4294967296), le4 (at' / 4294967296), le4 (l.length % 4294967296), [UInt8.ofNat kind], l] := by
    have e1 : ((at' : Int) % 4294967296).toNat = at' % 4294967296 := by omega
    have e2 : ((at' : Int) / 4294967296).toNat = at' / 4294967296 := by omega
    have e3 : ((l.length : Int)).toNat = l.length % 4294967296 := by omega
    have s1 := ((Hr1.out.only Ho2.out (fun e => e)).only Ho3.out (fun e => e)).only Ho5.out (fun e => e)
    have s2 := (Hr2.out.only Ho3.out (fun e => e)).only Ho5.out (fun e => e)
    have s3 := Hr3.out.only Ho5.out (fun e => e)
    rw [e1] at s1
    rw [e2] at s2
    rw [e3] at s3
    refine ⟨_, _, rfl, (by show 5 ≤ 9223372036854775807; decide), fun i x hi => ?_⟩
    match i with
    | 0 =>
      simp only [List.getElem?_cons_zero, Option.some.injEq] at hi
      subst hi
      exact ⟨by simp, _, 0, _, 4, rfl, cell_blk hb 0, s1.src4 rfl⟩
    | 1 =>
      simp only [List.getElem?_cons_zero, List.getElem?_cons_succ, Option.some.injEq] at hi
      subst hi
      exact ⟨by simp, _, 0, _, 4, rfl, cell_blk hb 1, s2.src4 rfl⟩
    | 2 =>
      simp only [List.getElem?_cons_zero, List.getElem?_cons_succ, Option.some.injEq] at hi
      subst hi
      exact ⟨by simp, _, 0, _, 4, rfl, cell_blk hb 2, s3.src4 rfl⟩
    | 3 =>
      simp only [List.getElem?_cons_zero, List.getElem?_cons_succ, Option.some.injEq] at hi
      subst hi
      refine ⟨by simp, _, 0, _, 1, rfl, cell_blk hb 3, _, _, rfl, fun _ => ⟨_, 0, rfl, fun j u hu => ?_⟩⟩
      match j with
      | 0 =>
        rw [bytesV_get] at hu
        simp only [List.getElem?_cons_zero, Option.map_some, Option.some.injEq, UInt8.toNat_ofNat'] at hu
        subst hu
        rw [cell_blk hk1]
        have : kind % 2 ^ 8 = kind := Nat.mod_eq_of_lt hk
        simp [this]
      | j + 1 => simp [bytesV] at hu
    | 4 =>
      simp only [List.getElem?_cons_zero, List.getElem?_cons_succ, Option.some.injEq] at hi
      subst hi
      exact ⟨by omega, _, 0, _, c, rfl, cell_blk hb 4, HS.out.only ((Ho1.out.trans Ho2.out (fun _ _ e => e)).trans (Ho3.out.trans Ho5.out (fun _ _ e => e)) (fun _ _ e => e)) (fun _ _ _ _ _ e => e)⟩
    | i + 5 => simp at hi
  have HC := hid (crc_c _ _ hP)
  clear hb hk1 hP
  refine HC.out.mono ?_
  rintro e w6 ⟨rfl, rfl⟩
  go_wp2_with fail
  go_ret
  exact ⟨by unfold sealN; rfl, (Ho1.out.trans Ho2.out (fun _ _ e => e)).trans (Ho3.out.trans Ho5.out (fun _ _ e => e)) (fun _ _ e => e)⟩
end
end Go.Proofs.YtfmdngeooelcpaaGreat
namespace Go.Proofs.YtfmdngeooelcpaaGreat
open Go.RowKit

/-- The batches that wait: nil, or a row of the program's own; all that they lie in is among FW. -/
def WaitV (w : World) (v : Value) (ws : List (List UInt8)) (FW : Nat → Prop) : Prop :=
  ∃ ao cap, v = .slice ao ws.length cap ∧ ((ao = none ∧ cap = 0 ∧ ws = []) ∨ ∃ (g : Nat) (vs : List Value), ao = some ⟨g, 0, none⟩ ∧ FW g ∧ Row w g 31 cap vs ∧ vs.length = ws.length ∧
    ∀ (i : Nat) (l : List UInt8), ws[i]? = some l → ∃ pa pc, vs[i]? = some (Value.slice pa l.length pc) ∧ Src w (.slice pa l.length pc) l ∧ (l ≠ [] → ∀ g' o', pa = some ⟨g', o', none⟩ → FW g' ∧ g' ≠ g) ∧ l.length ≤ 2039)
theorem WaitV.only {w w' : World} {v : Value} {ws : List (List UInt8)} {FW F : Nat → Prop} (h : WaitV w v ws FW) (ho : Only F w w') (hF : ∀ k, FW k → ¬ F k) : WaitV w' v ws FW := by
  obtain ⟨ao, cap, rfl, h⟩ := h
  refine ⟨ao, cap, rfl, ?_⟩
  rcases h with h | ⟨g, vs, rfl, hg, hr, hl, hh⟩
  · exact .inl h
  · refine .inr ⟨g, vs, rfl, hg, hr.only ho (hF g hg), hl, fun i l hi => ?_⟩
    obtain ⟨pa, pc, h1, h2, h3, h4⟩ := hh i l hi
    exact ⟨pa, pc, h1, h2.only ho (fun hne g' o' c' e hf => hF g' (h3 hne g' o' (by simp only [Value.slice.injEq] at e; exact e.1)).1 hf), h3, h4⟩
theorem WaitV.nil (w : World) (FW : Nat → Prop) : WaitV w (.slice none 0 0) [] FW := ⟨none, 0, rfl, .inl ⟨rfl, rfl, rfl⟩⟩

/-- A log, plainly: its disk, its ring, its two ends, the batches that wait, whether it failed. -/
structure WM where
  D : DiskM
  R : RingM
  head : Nat
  tail : Nat
  wait : List (List UInt8)
  failed : Bool
def logCells (b r : Nat) (M : WM) (wv : Value) : Array Value := #[.pointer (some ⟨b, 0, none⟩), .pointer (some ⟨r, 0, none⟩), .int .u64 M.head, .int .u64 M.tail, wv, .bool M.failed]
structure LogRep (w : World) (l b r : Nat) (M : WM) (wv : Value) (FR FD FW : Nat → Prop) : Prop where
  blk : w.heap[l]? = some (.cells (logCells b r M wv) 80 (0, 0))
  ring : RingAt w r b M.R FR
  disk : DiskAt w b M.D FD
  wait : WaitV w wv M.wait FW
  rd : ∀ k, FR k → ¬ FD k
  wr : ∀ k, FW k → ¬ FR k
  wd : ∀ k, FW k → ¬ FD k
  lr : ¬ FR l
  ld : ¬ FD l
  lw : ¬ FW l
  wl : ∀ k, FW k → k < w.heap.size
  h0 : M.head ≤ 9223372036854775807
  t0 : M.tail ≤ 9223372036854775807
  w64 : M.wait.length ≤ 64
/-- At block l lies a log; all its blocks are F. -/
def LogAt (w : World) (l b r : Nat) (M : WM) (F : Nat → Prop) : Prop :=
  ∃ wv FR FD FW, LogRep w l b r M wv FR FD FW ∧ ∀ k, F k ↔ k = l ∨ FR k ∨ FD k ∨ FW k
section
variable {w w' : World} {l b r : Nat} {M : WM} {wv : Value} {FR FD FW F G : Nat → Prop}
theorem LogRep.only (h : LogRep w l b r M wv FR FD FW) (ho : Only G w w') (h1 : ¬ G l) (h2 : ∀ k, FR k → ¬ G k) (h3 : ∀ k, FD k → ¬ G k) (h4 : ∀ k, FW k → ¬ G k) : LogRep w' l b r M wv FR FD FW :=
  ⟨blk_only h.blk ho h1, h.ring.only ho h2, h.disk.only ho h3, h.wait.only ho h4, h.rd, h.wr, h.wd, h.lr, h.ld, h.lw, fun k hk => Nat.lt_of_lt_of_le (h.wl k hk) ho.size, h.h0, h.t0, h.w64⟩
theorem LogAt.only (h : LogAt w l b r M F) (ho : Only G w w') (hd : ∀ k, F k → ¬ G k) : LogAt w' l b r M F := by
  obtain ⟨wv, FR, FD, FW, hr, hf⟩ := h
  exact ⟨wv, FR, FD, FW, hr.only ho (hd l ((hf l).2 (.inl rfl))) (fun k hk => hd k ((hf k).2 (.inr (.inl hk)))) (fun k hk => hd k ((hf k).2 (.inr (.inr (.inl hk))))) (fun k hk => hd k ((hf k).2 (.inr (.inr (.inr hk))))), hf⟩
theorem LogAt.same (h : LogAt w l b r M F) (ho : Only (fun _ => False) w w') : LogAt w' l b r M F := h.only ho (fun _ _ e => e)
theorem LogAt.lt (h : LogAt w l b r M F) {k : Nat} (hk : F k) : k < w.heap.size := by
  obtain ⟨wv, FR, FD, FW, hr, hf⟩ := h
  rcases (hf k).1 hk with rfl | e | e | e
  · exact blk_lt hr.blk
  · obtain ⟨rv, hR⟩ := hr.ring; exact hR.lt k e
  · exact hr.disk.lt e
  · exact hr.wl k e
/-- Only cells of the log's own block are others. -/
theorem LogRep.upd (h : LogRep w l b r M wv FR FD FW) (ho : Only (fun k => k = l) w w') (M' : WM) (wv' : Value) (hb : w'.heap[l]? = some (.cells (logCells b r M' wv') 80 (0, 0))) (hR : M'.R = M.R) (hD : M'.D = M.D) (hw : WaitV w' wv' M'.wait FW) (h0 : M'.head ≤ 9223372036854775807) (t0 : M'.tail ≤ 9223372036854775807) (h64 : M'.wait.length ≤ 64) : LogRep w' l b r M' wv' FR FD FW :=
  ⟨hb, by rw [hR]; exact h.ring.only ho (fun k hk e => h.lr (e ▸ hk)), by rw [hD]; exact h.disk.only ho (fun k hk e => h.ld (e ▸ hk)), hw, h.rd, h.wr, h.wd, h.lr, h.ld, h.lw, fun k hk => Nat.lt_of_lt_of_le (h.wl k hk) ho.size, h0, t0, h64⟩

set_option maxRecDepth 100000 in
theorem fail_c (h : LogAt w l b r M F) (c : Int) : Calls Tryz.prog 34 #[.pointer (some ⟨l, 0, none⟩), .int .i64 c] w fun e w' => e = .returned (.int .i64 c) ∧ LogAt w' l b r { M with failed := true } F ∧ Only F w w' := by
  obtain ⟨wv, FR, FD, FW, hr, hf⟩ := h
  have h0 : w.cell? ⟨l, 0, none⟩ = some (.pointer (some ⟨b, 0, none⟩)) := cell_blk hr.blk 0
  have h5 : w.cell? ⟨l, 5, none⟩ = some (.bool M.failed) := cell_blk hr.blk 5
  have hz := frozen_blk hr.blk
  have HR := hid hr; have HF := hid hf
  clear hr hf
  go_enter Tryz.func34, Tryz.ntmps34
  go_wp2
  go_ret
  have ho : Only (fun k => k = l) w (w.setCell ⟨l, 5, none⟩ (.bool true)) := only_set l 5 _
  refine ⟨rfl, ⟨wv, FR, FD, FW, HR.out.upd ho { M with failed := true } wv ?_ rfl rfl (HR.out.wait.only ho (fun k hk e => HR.out.lw (e ▸ hk))) HR.out.h0 HR.out.t0 HR.out.w64, HF.out⟩, ho.mono (fun k _ e => (HF.out k).2 (.inl e))⟩
  have := blk_set HR.out.blk 5 (.bool true)
  simpa [logCells] using this
set_option maxRecDepth 100000 in
end
end Go.Proofs.YtfmdngeooelcpaaGreat
namespace Go.Proofs.YtfmdngeooelcpaaGreat
open Go.RowKit

theorem infoSl : (Tryz.prog.info? 31).map (fun i => (i.zero, i.size, i.bytes)) = some (some (.slice none 0 0), 1, 24) := by kernel_rfl
/-- A slice of slices that is nil, or a row. -/
def RowOr (w : World) (bo : Option Addr) (cap : Nat) (vs : List Value) : Prop := (bo = none ∧ cap = 0 ∧ vs = []) ∨ ∃ g, bo = some ⟨g, 0, none⟩ ∧ Row w g 31 cap vs
theorem RowOr.only {w w' : World} {bo : Option Addr} {cap : Nat} {vs : List Value} (h : RowOr w bo cap vs) (ho : Only (fun _ => False) w w') : RowOr w' bo cap vs := by
  rcases h with h | ⟨g, rfl, hr⟩
  · exact .inl h
  · exact .inr ⟨g, rfl, hr.only ho (fun e => e)⟩
section
variable {ops : Array Oper} {rest : List Oper} {a : Act} {w : World} {o : Oper} {Q : Exit → Act → World → Prop}
theorem wp_addw {K : Act → World → Prop} (s x : Operand) (ho : o.op = .call { callee := .builtin .append, args := #[s, x], argTypes := #[68, 68] })
    (bo : Option Addr) (cap n : Nat) (vs : List Value) (hn : vs.length = n) (hs : a.eval s = .slice bo n cap) (hrow : RowOr w bo cap vs)
    (gx : Nat) (z : Value) (hx : a.eval x = .slice (some ⟨gx, 0, none⟩) 1 1) (hcell : w.cell? ⟨gx, 0, none⟩ = some z) (hz : z.oneCell' = true) (hb : n ≤ 1000000)
    (h : ∀ g' cap' w', Row w' g' 31 cap' (vs ++ [z]) → (bo = some ⟨g', 0, none⟩ ∨ g' = w.heap.size) → Only (fun k => bo = some ⟨k, 0, none⟩) w w' → K (a.put o.dst (.slice (some ⟨g', 0, none⟩) (n + 1) cap')) w') :
    o.wp Tryz.prog a w K Q := by
  subst hn
  obtain ⟨i0, hi, hz0, hz1, hz2⟩ := info_parts infoSl
  have hnews : ∀ j u, ([z] : List Value)[j]? = some u → w.cell? ((⟨gx, 0, none⟩ : Addr).add j) = some u := by
    intro j u hu
    match j with
    | 0 => simp at hu; subst hu; exact hcell
    | j + 1 => simp at hu
  rcases hrow with ⟨rfl, rfl, rfl⟩ | ⟨g, rfl, hrow⟩
  · refine wp_app_nil s x _ ho 31 i0 (.slice none 0 0) 1 24 Tryz.underlying68 hi hz0 hz1 hz2 rfl hs ⟨gx, 0, none⟩ 1 1 hx [z] (by simp) hnews (by omega) (by omega) (by omega) ?_
    intro cap' w' h1 h2 h3
    rw [Nat.mul_one] at h2
    exact h _ cap' w' h2 (.inr rfl) (h3.mono (fun _ _ e => e.elim))
  · refine wp_app s x _ ho 31 i0 (.slice none 0 0) 1 24 Tryz.underlying68 hi hz0 hz1 hz2 rfl g vs.length cap vs hs (by rw [Nat.mul_one]; exact hrow) (by simp) ⟨gx, 0, none⟩ 1 1 hx [z] (by simp) hnews (fun u hu => by obtain rfl := List.mem_singleton.1 hu; exact hz) (by omega) (by omega) ?_
    intro g' cap' w' h1 h2 h3 h4
    rw [Nat.mul_one] at h2
    refine h g' cap' w' h2 (h3.imp (fun e => by rw [e]) id) (h4.mono (fun k _ e => by rw [e]))
end

def WM.submit (M : WM) (s : List UInt8) : WM × Int :=
  if M.failed then (M, 50) else if 2039 < s.length then (M, 2) else if M.wait.length = 64 then (M, 3) else ({ M with wait := M.wait ++ [s] }, 0)
/-- What a step on a log leaves. -/
def LStep (w w' : World) (l b r : Nat) (M : WM) (F : Nat → Prop) : Prop := ∃ F', LogAt w' l b r M F' ∧ Only F w w' ∧ ∀ k, F' k → F k ∨ w.heap.size ≤ k
theorem LogAt.step {w : World} {l b r : Nat} {M : WM} {F : Nat → Prop} (h : LogAt w l b r M F) : LStep w w l b r M F := ⟨F, h, Only.refl _ _, fun _ hk => .inl hk⟩
/-- The elements of the batches that wait. -/
def WEl (w : World) (vs : List Value) (ws : List (List UInt8)) (FW : Nat → Prop) (ao : Option Addr) : Prop :=
  ∀ (i : Nat) (lx : List UInt8), ws[i]? = some lx → ∃ pa pc, vs[i]? = some (Value.slice pa lx.length pc) ∧ Src w (.slice pa lx.length pc) lx ∧ (lx ≠ [] → ∀ g' o', pa = some ⟨g', o', none⟩ → FW g' ∧ ao ≠ some ⟨g', 0, none⟩) ∧ lx.length ≤ 2039
theorem submit_fin {w w1 w2 : World} {l b r cap cap1 cap2 g1 g2 : Nat} {ao : Option Addr} {M : WM} {F FR FD FW : Nat → Prop} {s : List UInt8} {vs : List Value} (hr : LogRep w l b r M (.slice ao M.wait.length cap) FR FD FW) (hf : ∀ k, F k ↔ k = l ∨ FR k ∨ FD k ∨ FW k)
    (hs : s.length ≤ 2039) (h64 : M.wait.length < 64) (hvs : vs.length = M.wait.length) (hel : WEl w vs M.wait FW ao) (hag : ∀ k, ao = some ⟨k, 0, none⟩ → FW k ∧ k < w.heap.size)
    (ho1 : Only (fun _ => False) w w1) (hr1 : Row w1 g1 5 cap1 (bytesV s)) (hg1 : w.heap.size ≤ g1)
    (hr2 : Row w2 g2 31 cap2 (vs ++ [.slice (some ⟨g1, 0, none⟩) s.length cap1])) (hg2 : ao = some ⟨g2, 0, none⟩ ∨ g2 = (w1.alloc (.cells #[.slice (some ⟨g1, 0, none⟩) s.length cap1] 31)).heap.size) (ho2 : Only (fun k => ao = some ⟨k, 0, none⟩) (w1.alloc (.cells #[.slice (some ⟨g1, 0, none⟩) s.length cap1] 31)) w2) :
    LStep w (w2.setCell ⟨l, 4, none⟩ (.slice (some ⟨g2, 0, none⟩) (M.wait.length + 1) cap2)) l b r { M with wait := M.wait ++ [s] } F := by
  have hoa : Only (fun k => ao = some ⟨k, 0, none⟩) w w2 := ((ho1.alloc _).mono (G := fun k => ao = some ⟨k, 0, none⟩) (fun _ _ e => e.elim)).trans ho2 (fun _ _ e => e)
  have ho : Only (fun k => ao = some ⟨k, 0, none⟩ ∨ k = l) w (w2.setCell ⟨l, 4, none⟩ (.slice (some ⟨g2, 0, none⟩) (M.wait.length + 1) cap2)) := (hoa.mono (fun _ _ e => .inl e)).trans (only_set l 4 _) (fun _ _ e => .inr e)
  have hl := blk_lt hr.blk
  have s1 := ho1.size
  have s2 := ho2.size
  have hg1l := hr1.lt
  rw [World.size_alloc] at hg2 s2
  have hg2w : FW g2 ∨ w.heap.size ≤ g2 := by
    rcases hg2 with e | e
    · exact .inl (hag g2 e).1
    · exact .inr (by omega)
  have h12 : g1 ≠ g2 := by
    rcases hg2 with e | e
    · have := (hag g2 e).2; omega
    · omega
  have hwFW : ∀ k, FW k → k ≠ l := fun k hk e => hr.lw (e ▸ hk)
  have hg2l : g2 ≠ l := by
    rcases hg2w with e | e
    · exact hwFW g2 e
    · omega
  have hnew : ∀ k, (FW k ∨ k = g2 ∨ k = g1) → FW k ∨ w.heap.size ≤ k := fun k hk => by
    rcases hk with e | e | e
    · exact .inl e
    · rw [e]; exact hg2w
    · exact .inr (by omega)
  have hlt : ∀ k, FR k ∨ FD k → k < w.heap.size := fun k hk => by
    rcases hk with e | e
    · obtain ⟨rv, hR⟩ := hr.ring; exact hR.lt k e
    · exact hr.disk.lt e
  have hfr : ∀ k, FR k → ¬ (ao = some ⟨k, 0, none⟩ ∨ k = l) := fun k hk e => by
    rcases e with e | e
    · exact hr.wr k (hag k e).1 hk
    · exact hr.lr (e ▸ hk)
  have hfd : ∀ k, FD k → ¬ (ao = some ⟨k, 0, none⟩ ∨ k = l) := fun k hk e => by
    rcases e with e | e
    · exact hr.wd k (hag k e).1 hk
    · exact hr.ld (e ▸ hk)
  have hrow : Row (w2.setCell ⟨l, 4, none⟩ (.slice (some ⟨g2, 0, none⟩) (M.wait.length + 1) cap2)) g2 31 cap2 (vs ++ [.slice (some ⟨g1, 0, none⟩) s.length cap1]) := hr2.setCell_other _ _ hg2l
  have hsz : w.heap.size ≤ (w2.setCell ⟨l, 4, none⟩ (.slice (some ⟨g2, 0, none⟩) (M.wait.length + 1) cap2)).heap.size := ho.size
  refine ⟨fun k => F k ∨ k = g2 ∨ k = g1, ⟨.slice (some ⟨g2, 0, none⟩) (M.wait.length + 1) cap2, FR, FD, fun k => FW k ∨ k = g2 ∨ k = g1, ⟨?_, hr.ring.only ho hfr, hr.disk.only ho hfd, ?_, hr.rd, fun k hk hk2 => ?_, fun k hk hk2 => ?_, hr.lr, hr.ld, fun e => ?_, fun k hk => ?_, hr.h0, hr.t0, by rw [List.length_append]; simp; omega⟩, fun k => ?_⟩, ho.mono (fun k hk e => ?_), fun k hk => ?_⟩
  · have h1 := blk_only hr.blk hoa (fun e => hr.lw (hag l e).1)
    have := blk_set h1 4 (.slice (some ⟨g2, 0, none⟩) (M.wait.length + 1) cap2)
    simpa [logCells] using this
  · refine ⟨_, cap2, by rw [List.length_append]; rfl, .inr ⟨g2, _, rfl, .inr (.inl rfl), hrow, by simp [hvs], fun i lx hi => ?_⟩⟩
    by_cases hil : i < M.wait.length
    · rw [List.getElem?_append_left hil] at hi
      obtain ⟨pa, pc, a1, a2, a3, a4⟩ := hel i lx hi
      refine ⟨pa, pc, by rw [List.getElem?_append_left (by omega)]; exact a1, a2.only ho (fun hne g' o' c' e hx => ?_), fun hne g' o' e => ⟨.inl (a3 hne g' o' e).1, ?_⟩, a4⟩
      · simp only [Value.slice.injEq] at e
        have h3 := a3 hne g' o' e.1
        rcases hx with hx | hx
        · exact h3.2 hx
        · exact hwFW g' h3.1 hx
      · have h3 := a3 hne g' o' e
        rcases hg2 with e2 | e2
        · intro e3
          exact h3.2 (by rw [e3]; exact e2)
        · have := hr.wl g' h3.1; omega
    · have hi2 : i = M.wait.length := by
        have := (List.getElem?_eq_some_iff.1 hi).1
        rw [List.length_append] at this
        simp at this; omega
      subst hi2
      rw [List.getElem?_append_right (Nat.le_refl _), Nat.sub_self] at hi
      simp only [List.getElem?_cons_zero, Option.some.injEq] at hi
      subst hi
      have hg1a : ∀ k, k = g1 → ¬ (ao = some ⟨k, 0, none⟩ ∨ k = l) := fun k hk e => by
        rcases e with e | e
        · have := (hag k e).2; omega
        · omega
      have hr1' : Row (w2.setCell ⟨l, 4, none⟩ (.slice (some ⟨g2, 0, none⟩) (M.wait.length + 1) cap2)) g1 5 cap1 (bytesV s) := by
        refine Row.setCell_other ?_ _ _ (by show g1 ≠ l; omega)
        exact (hr1.alloc _).only ho2 (fun e => hg1a g1 rfl (.inl e))
      refine ⟨some ⟨g1, 0, none⟩, cap1, by rw [List.getElem?_append_right (by omega)]; simp [hvs], hr1'.src, fun _ g' o' e => ?_, hs⟩
      simp only [Option.some.injEq, Addr.mk.injEq, and_true] at e
      exact ⟨.inr (.inr e.1.symm), by rw [← e.1]; exact h12⟩
  · rcases hnew k hk with e | e
    · exact hr.wr k e hk2
    · have := hlt k (.inl hk2); omega
  · rcases hnew k hk with e | e
    · exact hr.wd k e hk2
    · have := hlt k (.inr hk2); omega
  · rcases e with e | e | e
    · exact hr.lw e
    · exact hg2l e.symm
    · omega
  · rcases hk with e | e | e
    · exact Nat.lt_of_lt_of_le (hr.wl k e) hsz
    · rw [e]; exact hrow.lt
    · rw [e]; have := (only_set (w := w2) l 4 (.slice (some ⟨g2, 0, none⟩) (M.wait.length + 1) cap2)).size; omega
  · show (F k ∨ k = g2 ∨ k = g1) ↔ k = l ∨ FR k ∨ FD k ∨ (FW k ∨ k = g2 ∨ k = g1)
    rw [hf]
    constructor
    · rintro ((h | h | h | h) | h | h)
      · exact .inl h
      · exact .inr (.inl h)
      · exact .inr (.inr (.inl h))
      · exact .inr (.inr (.inr (.inl h)))
      · exact .inr (.inr (.inr (.inr (.inl h))))
      · exact .inr (.inr (.inr (.inr (.inr h))))
    · rintro (h | h | h | h | h | h)
      · exact .inl (.inl h)
      · exact .inl (.inr (.inl h))
      · exact .inl (.inr (.inr (.inl h)))
      · exact .inl (.inr (.inr (.inr h)))
      · exact .inr (.inl h)
      · exact .inr (.inr h)
  · rcases e with e | e
    · exact (hf k).2 (.inr (.inr (.inr (hag k e).1)))
    · exact (hf k).2 (.inl e)
  · rcases hk with e | e | e
    · exact .inl e
    · rw [e]
      rcases hg2w with e2 | e2
      · exact .inl ((hf g2).2 (.inr (.inr (.inr e2))))
      · exact .inr e2
    · rw [e]; exact .inr hg1
section
variable {w : World} {l b r : Nat} {M : WM} {F : Nat → Prop}
set_option maxRecDepth 100000 in
set_option maxHeartbeats 1600000 in
theorem submit_c (h : LogAt w l b r M F) (v : Value) (s : List UInt8) (hs : Src w v s) (hsl : s.length ≤ 1000000) :
    Calls Tryz.prog 10 #[.pointer (some ⟨l, 0, none⟩), v] w fun e w' => e = .returned (.int .i64 (M.submit s).2) ∧ LStep w w' l b r (M.submit s).1 F := by
  have HL := hid h
  obtain ⟨wv, FR, FD, FW, hr, hf⟩ := h
  obtain ⟨ao, cap, rfl, hw⟩ := hr.wait
  obtain ⟨pa, pc, rfl⟩ := hs.len
  have h0 : w.cell? ⟨l, 0, none⟩ = some (.pointer (some ⟨b, 0, none⟩)) := cell_blk hr.blk 0
  have h4 : w.cell? ⟨l, 4, none⟩ = some (.slice ao M.wait.length cap) := cell_blk hr.blk 4
  have h5 : w.cell? ⟨l, 5, none⟩ = some (.bool M.failed) := cell_blk hr.blk 5
  have hlw := blk_lt hr.blk
  have HR := hid hr; have HF := hid hf; have HS := hid hs; have HW := hid hw
  clear hr hf hs hw
  cases hfl : M.failed with
  | true =>
    have e1 : M.submit s = (M, 50) := by unfold WM.submit; rw [hfl]; rfl
    have E1 := hid e1
    rw [hfl] at h5
    clear e1 hfl
    go_enter Tryz.func10, Tryz.ntmps10
    go_wp2
    go_ret
    rw [E1.out]
    exact ⟨rfl, HL.out.step⟩
  | false =>
  rw [hfl] at h5
  by_cases hl : 2039 < (s.length : Int)
  · have e1 : M.submit s = (M, 2) := by unfold WM.submit; rw [hfl, if_neg (by simp), if_pos (by omega)]
    have E1 := hid e1
    clear e1 hfl
    go_enter Tryz.func10, Tryz.ntmps10
    go_wp2
    go_ret
    rw [E1.out]
    exact ⟨rfl, HL.out.step⟩
  by_cases h64 : M.wait.length = 64
  · have e1 : M.submit s = (M, 3) := by unfold WM.submit; rw [hfl, if_neg (by simp), if_neg (by omega), if_pos h64]
    have E1 := hid e1
    have hb : ((M.wait.length : Int) == 64) = true := by simp [h64]
    clear e1 hfl h64
    go_enter Tryz.func10, Tryz.ntmps10
    go_wp2
    go_ret
    rw [E1.out]
    exact ⟨rfl, HL.out.step⟩
  have e1 : M.submit s = ({ M with wait := M.wait ++ [s] }, 0) := by unfold WM.submit; rw [hfl, if_neg (by simp), if_neg (by omega), if_neg h64]
  have E1 := hid e1
  have hb : ((M.wait.length : Int) == 64) = false := by rw [beq_eq_false_iff_ne]; omega
  have h64' : M.wait.length < 64 := by have := HR.out.w64; omega
  clear e1 hfl h64
  obtain ⟨vs, hvs, hro, hel⟩ : ∃ vs : List Value, vs.length = M.wait.length ∧ RowOr w ao cap vs ∧ WEl w vs M.wait FW ao := by
    rcases HW.out with ⟨rfl, rfl, e⟩ | ⟨g, vs, rfl, -, hr, hl, hh⟩
    · exact ⟨[], by rw [e]; rfl, .inl ⟨rfl, rfl, rfl⟩, fun i lx hi => by rw [e] at hi; simp at hi⟩
    · refine ⟨vs, hl, .inr ⟨g, rfl, hr⟩, fun i lx hi => ?_⟩
      obtain ⟨pa, pc, a1, a2, a3, a4⟩ := hh i lx hi
      exact ⟨pa, pc, a1, a2, fun hne g' o' e => ⟨(a3 hne g' o' e).1, fun e2 => (a3 hne g' o' e).2 (by simp only [Option.some.injEq, Addr.mk.injEq, and_true] at e2; exact e2.symm)⟩, a4⟩
  have Hel := hid hel
  clear hel
  go_enter Tryz.func10, Tryz.ntmps10
  go_wp2
  have hz := frozen_blk HR.out.blk
  have hlw2 : ¬ w.heap.size = l := by omega
  have hwl2 : ¬ l = w.heap.size := by omega
  have Ho0 : Hid (Only (fun _ => False) w (w.alloc (.cells #[] 5)).drew) := hid ((Only.refl (fun _ => False) w).alloc _).drew
  have HSd : Hid (Src (w.alloc (.cells #[] 5)).drew (.slice pa s.length pc) s) := hid (HS.out.only Ho0.out (fun _ _ _ _ _ e => e))
  have HR0 : Hid (Row (w.alloc (.cells #[] 5)).drew w.heap.size 5 0 (bytesV [])) := hid ⟨[], blk_new w _, rfl⟩
  have Hag : Hid (∀ k, ao = some ⟨k, 0, none⟩ → FW k ∧ k < w.heap.size) := hid (fun k e => by
    rcases HW.out with ⟨rfl, -, -⟩ | ⟨g, vs', rfl, hg, hr, -, -⟩
    · cases e
    · simp only [Option.some.injEq, Addr.mk.injEq, and_true] at e
      subst e
      exact ⟨hg, hr.lt⟩)
  have Hvs := hid hvs; have Hro := hid hro
  clear hvs hro
  go_region_law (first
    | (refine step_of rfl (wp_addb (o := ⟨some 28, _, _, _, _, _⟩) (.tmp 26) (.tmp 27) rfl w.heap.size 0 [] rfl HR0.out pa s pc rfl HSd.out (by simp; omega) ?_); intro g1 cap1 w1 hc1 hr1 hg1 ho1; rw [List.nil_append] at hr1; have Hr1 := hid hr1; have Ho1 : Hid (Only (fun _ => False) w w1) := hid (Ho0.out.trans ho1 (fun k hk e => (by have e' : k = w.heap.size := e; omega))); have hg1' : w.heap.size ≤ g1 := (by rcases hg1 with e | e <;> rw [e] <;> simp); have q1 : w1.cell? ⟨l, 4, none⟩ = some (.slice ao M.wait.length cap) := cell_blk (blk_only HR.out.blk Ho1.out (fun e => e)) 4; have q1' : ∀ ob, (w1.alloc ob).cell? ⟨l, 4, none⟩ = some (.slice ao M.wait.length cap) := (fun ob => cell_blk (blk_alloc (blk_only HR.out.blk Ho1.out (fun e => e))) 4); have Hg1 := hid hg1; clear hc1 hr1 hg1 ho1)
    | (refine step_of rfl (wp_addw (o := ⟨some 30, _, _, _, _, _⟩) (.tmp 25) (.tmp 29) rfl ao cap M.wait.length vs Hvs.out rfl (Hro.out.only (Ho1.out.alloc _)) w1.heap.size (.slice (some ⟨g1, 0, none⟩) s.length cap1) rfl (cell_blk (blk_new w1 _) 0) rfl (by omega) ?_); intro g2 cap2 w2 hr2 hg2 ho2; have Hr2 := hid hr2; have Hg2 := hid hg2; have Ho2 := hid ho2; have Hb2 := hid (blk_only (blk_only HR.out.blk (Ho1.out.alloc _) (fun e => e)) ho2 (fun e => HR.out.lw (Hag.out l e).1)); have q4 : w2.cell? ⟨l, 4, none⟩ = some (.slice ao M.wait.length cap) := cell_blk Hb2.out 4; have q5 := frozen_blk Hb2.out; clear hr2 hg2 ho2))
  all_goals
    go_wp2
    go_ret
    rw [E1.out]
    exact ⟨rfl, submit_fin HR.out HF.out (by omega) h64' Hvs.out Hel.out Hag.out Ho1.out Hr1.out hg1' Hr2.out Hg2.out Ho2.out⟩
end
end Go.Proofs.YtfmdngeooelcpaaGreat
namespace Go.Proofs.YtfmdngeooelcpaaGreat
open Go.RowKit

/-- Where a frame of so many bytes begins behind a place. -/
def placeN (at' n : Nat) : Nat := if roomN at' < 9 + n then at' + roomN at' else at'
def padN (at' n : Nat) : List UInt8 := if roomN at' < 9 + n then zeros (roomN at') else []
/-- A frame's bytes, at its place. -/
def frameN (at' kind : Nat) (s : List UInt8) : List UInt8 := le4 s.length ++ (le4 (sealN at' kind s) ++ (UInt8.ofNat kind :: s))
def WM.laid (M : WM) (kind : Nat) (s : List UInt8) : RingM × DiskM × Int := M.R.append M.head (padN M.R.tail s.length ++ frameN (placeN M.R.tail s.length) kind s) M.D
def WM.lay (M : WM) (kind : Nat) (s : List UInt8) : WM := { M with R := (M.laid kind s).1, D := (M.laid kind s).2.1 }

section
variable {ops : Array Oper} {a : Act} {w : World} {o : Oper} {Q : Exit → Act → World → Prop}
theorem wp_app_grow {P : Program} {K : Act → World → Prop} (s x : Operand) (t : TypeId)
    (ho : o.op = .call { callee := .builtin .append, args := #[s, x], argTypes := #[t, t] })
    (e : TypeId) (i : TypeInfo) (z : Value) (size bytes : Nat) (ht : P.underlying t = some (.slice e)) (hi : P.info? e = some i) (hz : i.zero = some z)
    (hsize : i.size = size) (hby : i.bytes = bytes) (hzs : z.cells.size = size)
    (g n cap : Nat) (xs : List Value) (hs : a.eval s = .slice (some ⟨g, 0, none⟩) n cap) (hrow : Row w g e (cap * size) xs) (hxs : xs.length = n * size)
    (ad : Addr) (m c : Nat) (hx : a.eval x = .slice (some ad) m c) (news : List Value) (hl : news.length = m * size) (hnews : ∀ j u, news[j]? = some u → w.cell? (ad.add j) = some u) (_ : ∀ u ∈ news, u.oneCell' = true)
    (h63 : n + m ≤ 9223372036854775807) (hbytes : (n + m) * bytes ≤ 140737488355328) (hroom : cap < n + m)
    (h : ∀ cap' w', n + m ≤ cap' → Row w' w.heap.size e (cap' * size) (xs ++ news) → Only (fun _ => False) w w' → K (a.put o.dst (.slice (some ⟨w.heap.size, 0, none⟩) (n + m) cap')) w') :
    o.wp P a w K Q := by
  subst hsize
  subst hby
  obtain ⟨pad, hg, hcap⟩ := hrow
  have holds : ∀ j u, xs[j]? = some u → w.cell? ((⟨g, 0, none⟩ : Addr).add j) = some u := Row.news ⟨pad, hg, hcap⟩
  have hr := run_append_grow (P := P) w t o.type e i z ht hi hz ⟨g, 0, none⟩ n cap xs hxs holds ad m c news hl hnews (by omega) (by omega) (growslice_fits (by omega) hbytes)
  unfold Oper.wp execOp
  simp only [ho, resolve, invoke, builtin, Sem.run_bind, Sem.run_pure, Result.andThen_ok, List.map_toArray, List.map_cons, List.map_nil, hs, hx, hr]
  have hge := grownCap_ge w (n + m) cap e
  refine (h _ _ hge ?_ ((Only.refl _ _).drew.alloc _))
  refine ⟨(Builtin.zeroCells z.cells (grownCap w (n + m) cap e - (n + m))).toList, ?_, ?_⟩
  · have := blk_new w.drew (.cells (xs.toArray ++ news.toArray ++ Builtin.zeroCells z.cells (grownCap w (n + m) cap e - (n + m))) e)
    refine this.trans ?_
    congr 2
    apply Array.ext'
    simp
  · simp only [List.length_append, Array.length_toList, size_zeroCells, hzs, hl, hxs, ← Nat.add_mul]
    congr 1
    omega
/-- append at bytes, beyond the row's end: a new row. -/
theorem wp_addb_grow {K : Act → World → Prop} (s x : Operand) (ho : o.op = .call { callee := .builtin .append, args := #[s, x], argTypes := #[31, 31] })
    (g cap : Nat) (l : List UInt8) (hs : a.eval s = .slice (some ⟨g, 0, none⟩) l.length cap) (hrow : Row w g 5 cap (bytesV l))
    (ad : Addr) (m : List UInt8) (c : Nat) (hx : a.eval x = .slice (some ad) m.length c) (hsrc : Src w (.slice (some ad) m.length c) m) (hm : 0 < m.length) (hgr : cap < l.length + m.length) (hb : l.length + m.length ≤ 2000000)
    (h : ∀ g' cap' w', g' = w.heap.size → Row w' g' 5 cap' (bytesV (l ++ m)) → Only (fun _ => False) w w' → K (a.put o.dst (.slice (some ⟨g', 0, none⟩) (l.length + m.length) cap')) w') :
    o.wp Tryz.prog a w K Q := by
  obtain ⟨i0, hi, hz0, hz1, hz2⟩ := info_parts info8
  obtain ⟨ad', e, hc⟩ := hsrc.adds hm
  cases e
  refine wp_app_grow s x 31 ho 5 i0 (.int .u8 0) 1 1 Tryz.underlying31 hi hz0 hz1 hz2 rfl g l.length cap (bytesV l) hs (by rw [Nat.mul_one]; exact hrow) (by simp) ad m.length c hx (bytesV m) (by simp) hc (oneCell_bytesV m) (by omega) (by omega) (by omega) ?_
  intro cap' w' h1 h2 h3
  rw [Nat.mul_one, ← bytesV_append] at h2
  exact h _ cap' w' rfl h2 h3
end
theorem kindB (k : Nat) (h : k < 256) : bytesV [UInt8.ofNat k] = [Value.int .u8 (k : Int)] := by
  have : k % 2 ^ 8 = k := Nat.mod_eq_of_lt h
  simp [bytesV, this]
theorem makeN (n : Nat) (hn : n ≤ 1000000) (W : World) : (Instr.makeSlice 31 (.int .i64 (n : Int)) (.int .i64 (n : Int))).run Tryz.prog W = .ok (.slice (some ⟨W.heap.size, 0, none⟩) n n) (W.alloc (.cells (bytesV (zeros n)).toArray 5)) := by
  rw [← madeCells_zero]
  exact run_make_row' 31 5 (.int .u8 0) 1 Tryz.underlying31 info8 rfl .i64 .i64 n (by omega) (by omega) W
/-- In the middle of lay: the place, what is left free ahead of it, the frame's own block. -/
def LayMid (w wx : World) (T n kind : Nat) (pa : Option Addr) (pc : Nat) (a p : Value) : Prop :=
  a = .int .u64 (placeN T n : Nat) ∧ Only (fun _ => False) w wx ∧ wx.heap[w.heap.size]? = some (.cells #[.int .i64 kind, .slice pa n pc] 53 (0, 0)) ∧ ∃ pb pcc, p = .slice pb (padN T n).length pcc ∧ Src wx p (padN T n) ∧ ∀ g o, pb = some ⟨g, o, none⟩ → w.heap.size ≤ g
theorem wp_bldS1 {P : Program} {w : World} {o : Oper} {a : Act} {Q : Exit → Act → World → Prop} {K : Act → World → Prop} {n : Nat} (t : TypeId) (k : Nat) (x : Operand) (ho : o.op = .buildSlice t n #[(k, x)]) (u : Value) (hx : a.eval x = u) (v : Value) (w' : World) (hr : (Instr.buildSlice t n #[(k, u)]).run P w = .ok v w') (h : K (a.put o.dst v) w') : o.wp P a w K Q := by
  subst hx
  unfold Oper.wp execOp
  simp only [ho, List.map_toArray, List.map_cons, List.map_nil, Sem.run_bind, Sem.run_pure, Result.andThen_ok, hr]
  exact h
theorem bslice_kind (W : World) (k : Nat) : (Instr.buildSlice 31 1 #[(0, .int .u8 (k : Int))]).run Tryz.prog W = .ok (.slice (some ⟨W.heap.size, 0, none⟩) 1 1) (W.alloc (.cells #[.int .u8 (k : Int)] 5)) := by kernel_rfl
theorem frame_flat (p : List UInt8) (A kind : Nat) (s : List UInt8) : [p, le4 s.length ++ le4 (sealN A kind s) ++ [UInt8.ofNat kind], s].flatten = p ++ frameN A kind s := by
  simp [frameN, List.append_assoc]
theorem LogRep.turn2 {w w' : World} {l b r : Nat} {M : WM} {wv : Value} {FR FD FW FR' FD' : Nat → Prop} (h : LogRep w l b r M wv FR FD FW) {R' : RingM} {D' : DiskM} (hR : RingAt w' r b R' FR') (hD : DiskAt w' b D' FD') (hdis : ∀ k, FR' k → ¬ FD' k) (ho : Only (fun k => FR k ∨ FD k) w w')
    (hn1 : ∀ k, FR' k → FR k ∨ w.heap.size ≤ k) (hn2 : ∀ k, FD' k → FD k ∨ w.heap.size ≤ k) : LogRep w' l b r { M with R := R', D := D' } wv FR' FD' FW := by
  have hl := blk_lt h.blk
  have hLn : ¬ (FR l ∨ FD l) := fun e => e.elim h.lr h.ld
  have hWn : ∀ k, FW k → ¬ (FR k ∨ FD k) := fun k hk e => e.elim (h.wr k hk) (h.wd k hk)
  refine ⟨blk_only h.blk ho hLn, hR, hD, h.wait.only ho hWn, hdis, fun k hk hf => ?_, fun k hk hf => ?_, fun e => ?_, fun e => ?_, h.lw, fun k hk => Nat.lt_of_lt_of_le (h.wl k hk) ho.size, h.h0, h.t0, h.w64⟩
  · rcases hn1 k hf with e | e
    · exact h.wr k hk e
    · have := h.wl k hk; omega
  · rcases hn2 k hf with e | e
    · exact h.wd k hk e
    · have := h.wl k hk; omega
  · rcases hn1 l e with e | e
    · exact h.lr e
    · omega
  · rcases hn2 l e with e | e
    · exact h.ld e
    · omega
section
variable {w : World} {l b r : Nat} {M : WM} {wv : Value} {FR FD FW : Nat → Prop}
/-- What lay leaves. -/
def LayPost (w : World) (l b r : Nat) (M : WM) (wv : Value) (FR FD FW : Nat → Prop) (kind : Nat) (s : List UInt8) (e : Ending) (w' : World) : Prop :=
  e = .returned (.tuple #[.int .u64 (placeN M.R.tail s.length : Nat), .int .i64 (M.laid kind s).2.2]) ∧ ∃ FR' FD', LogRep w' l b r (M.lay kind s) wv FR' FD' FW ∧ Only (fun k => FR k ∨ FD k) w w' ∧ (∀ k, FR' k → FR k ∨ w.heap.size ≤ k) ∧ (∀ k, FD' k → FD k ∨ w.heap.size ≤ k)
set_option maxRecDepth 100000 in
set_option maxHeartbeats 3200000 in
theorem lay_c (h : LogRep w l b r M wv FR FD FW) (kind : Nat) (hk : kind < 256) (pa : Option Addr) (pc : Nat) (s : List UInt8) (hs : Src w (.slice pa s.length pc) s) (hsep : s ≠ [] → ∀ g o, pa = some ⟨g, o, none⟩ → ¬ (FR g ∨ FD g)) (hsl : s.length ≤ 2039) (htl : M.R.tail ≤ 4611686018427387904) (hfit : M.R.first + M.R.count ≤ M.D.n) :
    Calls Tryz.prog 33 #[.pointer (some ⟨l, 0, none⟩), .agg #[.int .i64 kind, .slice pa s.length pc]] w (LayPost w l b r M wv FR FD FW kind s) := by
  have hr := h
  have h1 : w.cell? ⟨l, 1, none⟩ = some (.pointer (some ⟨r, 0, none⟩)) := cell_blk hr.blk 1
  have hlw := blk_lt hr.blk
  have HR := hid hr; have HS := hid hs
  have HT : ∀ o, Hid (Calls Tryz.prog 57 #[.pointer (some ⟨r, 0, none⟩)] (w.alloc o) fun e w' => e = .returned (.int .u64 M.R.tail) ∧ w.alloc o = w') := fun o => hid (tail_c (hr.ring.only ((Only.refl (fun _ => False) w).alloc o) (fun _ _ e => e)))
  have HSEP := hid hsep; have HFIT := hid hfit; have HSL0 := hid hsl
  clear hr hs hsep hfit h
  have hrm : roomN M.R.tail ≤ 2048 := by unfold roomN; omega
  have hrm0 : 0 < roomN M.R.tail := by unfold roomN; omega
  obtain ⟨T, hT⟩ : ∃ T, M.R.tail = T := ⟨_, rfl⟩
  obtain ⟨rm, hRm⟩ : ∃ rm, roomN T = rm := ⟨_, rfl⟩
  have HTe := hid hT; have HRme := hid hRm
  have HRm := fun W : World => hid (room_c (w := W) T (by omega))
  rw [hT] at htl HT hrm hrm0
  rw [hRm] at hrm hrm0 HRm
  clear hT hRm
  go_enter Tryz.func33, Tryz.ntmps33
  go_upto_if 22 with (first
      | (go_at_call 57; refine (HT _).out.mono ?_; rintro e w' ⟨rfl, rfl⟩)
      | (go_at_call 46; refine (HRm _).out.mono ?_; rintro e w' ⟨rfl, rfl⟩))
  go_cut [6, 7] from 22 to 28 (fun a p wx => LayMid w wx T s.length kind pa pc a p)
  case first =>
    have hmk := makeN rm (by omega)
    by_cases hfit : (rm : Int) < 9 + (s.length : Int)
    · have hpl : placeN T s.length = T + rm := by unfold placeN; rw [HRme.out, if_pos (by omega)]
      have hpd : padN T s.length = zeros rm := by unfold padN; rw [HRme.out, if_pos (by omega)]
      have Hpl := hid hpl; have Hpd := hid hpd
      clear hpl hpd
      go_wp2_with fail
      go_meet
      case rel =>
        refine ⟨by rw [Hpl.out]; go_num, ((Only.refl _ w).alloc _).alloc _, blk_alloc (blk_new w _), some ⟨w.heap.size + 1, 0, none⟩, rm, by rw [Hpd.out, length_zeros], ?_, fun g o e => ?_⟩
        · rw [Hpd.out]
          have h := (Row.new (w.alloc (.cells #[.int .i64 kind, .slice pa s.length pc] 53)) (bytesV (zeros rm)) 5).src
          simpa using h
        · simp only [Option.some.injEq, Addr.mk.injEq, and_true] at e; omega
    · have hpl : placeN T s.length = T := by unfold placeN; rw [HRme.out, if_neg (by omega)]
      have hpd : padN T s.length = [] := by unfold padN; rw [HRme.out, if_neg (by omega)]
      have Hpl := hid hpl; have Hpd := hid hpd
      clear hpl hpd
      go_wp2_with fail
      go_meet
      case rel =>
        refine ⟨by rw [Hpl.out], (Only.refl _ w).alloc _, blk_new w _, none, 0, by rw [Hpd.out]; rfl, ?_, fun g o e => by cases e⟩
        rw [Hpd.out]
        exact ⟨none, 0, rfl, fun e => absurd rfl e⟩
  case rest =>
    obtain ⟨rfl, hox, hbx, pb, pcc, rfl, hsp, hpb⟩ := hcut
    have HPBL : Hid (padN T s.length ≠ [] → ∀ g o, pb = some ⟨g, o, none⟩ → g < wc.heap.size) := hid (fun hne g o e => by
      obtain ⟨a1, c1, e1, h1⟩ := hsp
      obtain ⟨g2, o2, e2, h2⟩ := h1 hne
      simp only [Value.slice.injEq] at e1
      rw [← e1.1, e] at e2
      simp only [Option.some.injEq, Addr.mk.injEq, and_true] at e2
      obtain ⟨rfl, rfl⟩ := e2
      have hp0 : 0 < (bytesV (padN T s.length)).length := by simpa using List.length_pos_iff.2 hne
      exact World.block_lt_of_cell? _ _ (h2 0 _ (List.getElem?_eq_getElem hp0)))
    obtain ⟨A, hA⟩ : ∃ A, placeN T s.length = A := ⟨_, rfl⟩
    have hAl : A ≤ 4611686018427389952 := by rw [← hA]; unfold placeN; rw [HRme.out]; split <;> omega
    have HA := hid hA
    rw [hA]
    have Hox := hid hox; have Hbx := hid hbx; have Hsp := hid hsp; have Hpb := hid hpb
    have HSc := hid (HS.out.only hox (fun _ _ _ _ _ e => e))
    have y0 : wc.cell? ⟨w.heap.size, 0, none⟩ = some (.int .i64 kind) := cell_blk hbx 0
    have y1 : wc.cell? ⟨w.heap.size, 1, none⟩ = some (.slice pa s.length pc) := cell_blk hbx 1
    have hlc := blk_lt hbx
    clear hA hox hbx hsp hpb
    go_wp2_with fail
    have hwr1 : IntKind.u32.wrap (s.length : Int) = s.length := by rw [IntKind.wrap_u32]; omega
    have hwr2 : IntKind.u8.wrap (kind : Int) = kind := by rw [IntKind.wrap_u8]; omega
    have hsN : sealN A kind s < 4294967296 := crc_lt _
    have Hd : Hid (∀ (W : World) (n : Nat), n < 4294967296 → Calls Tryz.prog 58 #[.int .u32 (n : Int)] W fun e w' => ∃ g, e = .returned (.slice (some ⟨g, 0, none⟩) 4 4) ∧ W.heap.size ≤ g ∧ Row w' g 5 4 (bytesV (le4 n)) ∧ Only (fun _ => False) W w') := hid fun W n hn => by
      have := digits_r (w := W) (n : Int) (by omega) (by omega)
      simpa using this
    have Hsl : Hid (∀ W, Only (fun _ => False) wc W → Calls Tryz.prog 49 #[.int .u64 A, .int .i64 kind, .slice pa s.length pc] W fun e w' => e = .returned (.int .u32 (sealN A kind s : Nat)) ∧ Only (fun _ => False) W w') := hid fun W hW => seal_c A (by omega) kind hk _ s (HSc.out.only hW (fun _ _ _ _ _ e => e)) (by omega)
    have HC0 : Hid (∀ W, Only (fun _ => False) wc W → W.cell? ⟨w.heap.size, 0, none⟩ = some (.int .i64 kind)) := hid fun W hW => cell_blk (blk_only Hbx.out hW (fun e => e)) 0
    have HC1 : Hid (∀ W, Only (fun _ => False) wc W → W.cell? ⟨w.heap.size, 1, none⟩ = some (.slice pa s.length pc)) := hid fun W hW => cell_blk (blk_only Hbx.out hW (fun e => e)) 1
    refine region_pt 17 [] (by kernel_rfl) (by kernel_rfl) (by kernel_rfl) [(29, fun _ v => v = .pointer (some ⟨w.heap.size, 1, none⟩)), (30, fun _ v => v = .slice pa s.length pc), (31, fun _ v => v = .int .i64 (s.length : Nat)), (32, fun _ v => v = .int .u32 (s.length : Nat)), (33, fun W v => ∃ g, v = .slice (some ⟨g, 0, none⟩) 4 4 ∧ wc.heap.size ≤ g ∧ Row W g 5 4 (bytesV (le4 (s.length)))), (34, fun _ v => v = .int .u64 A), (35, fun _ v => v = .pointer (some ⟨w.heap.size, 0, none⟩)), (36, fun _ v => v = .int .i64 kind), (37, fun _ v => v = .pointer (some ⟨w.heap.size, 1, none⟩)), (38, fun _ v => v = .slice pa s.length pc), (39, fun _ v => v = .int .u32 (sealN A kind s : Nat)), (40, fun W v => ∃ g, v = .slice (some ⟨g, 0, none⟩) 4 4 ∧ wc.heap.size ≤ g ∧ Row W g 5 4 (bytesV (le4 (sealN A kind s)))), (41, fun W v => ∃ g cap, v = .slice (some ⟨g, 0, none⟩) 8 cap ∧ wc.heap.size ≤ g ∧ Row W g 5 cap (bytesV (le4 s.length ++ le4 (sealN A kind s)))), (42, fun _ v => v = .pointer (some ⟨w.heap.size, 0, none⟩)), (43, fun _ v => v = .int .i64 kind), (44, fun _ v => v = .int .u8 kind), (45, fun W v => ∃ g, v = .slice (some ⟨g, 0, none⟩) 1 1 ∧ wc.heap.size ≤ g ∧ Row W g 5 1 (bytesV [UInt8.ofNat kind]))] (fun _ W => Only (fun _ => False) wc W) (by show [29, 30, 31, 32, 33, 34, 35, 36, 37, 38, 39, 40, 41, 42, 43, 44, 45].Nodup; decide) (by show ∀ d ∈ [29, 30, 31, 32, 33, 34, 35, 36, 37, 38, 39, 40, 41, 42, 43, 44, 45], d < 62; decide) ((Only.refl _ _).drew) (.inl rfl) ?_ ?_ ?_
    · exact trivial
    · have hstab : PtStabs (Only (fun _ => False)) [(29, fun _ v => v = .pointer (some ⟨w.heap.size, 1, none⟩)), (30, fun _ v => v = .slice pa s.length pc), (31, fun _ v => v = .int .i64 (s.length : Nat)), (32, fun _ v => v = .int .u32 (s.length : Nat)), (33, fun W v => ∃ g, v = .slice (some ⟨g, 0, none⟩) 4 4 ∧ wc.heap.size ≤ g ∧ Row W g 5 4 (bytesV (le4 (s.length)))), (34, fun _ v => v = .int .u64 A), (35, fun _ v => v = .pointer (some ⟨w.heap.size, 0, none⟩)), (36, fun _ v => v = .int .i64 kind), (37, fun _ v => v = .pointer (some ⟨w.heap.size, 1, none⟩)), (38, fun _ v => v = .slice pa s.length pc), (39, fun _ v => v = .int .u32 (sealN A kind s : Nat)), (40, fun W v => ∃ g, v = .slice (some ⟨g, 0, none⟩) 4 4 ∧ wc.heap.size ≤ g ∧ Row W g 5 4 (bytesV (le4 (sealN A kind s)))), (41, fun W v => ∃ g cap, v = .slice (some ⟨g, 0, none⟩) 8 cap ∧ wc.heap.size ≤ g ∧ Row W g 5 cap (bytesV (le4 s.length ++ le4 (sealN A kind s)))), (42, fun _ v => v = .pointer (some ⟨w.heap.size, 0, none⟩)), (43, fun _ v => v = .int .i64 kind), (44, fun _ v => v = .int .u8 kind), (45, fun W v => ∃ g, v = .slice (some ⟨g, 0, none⟩) 1 1 ∧ wc.heap.size ≤ g ∧ Row W g 5 1 (bytesV [UInt8.ofNat kind]))] := ⟨fun _ _ _ _ h => h, fun _ _ _ _ h => h, fun _ _ _ _ h => h, fun _ _ _ _ h => h, fun W W' v hr ⟨g, h1, h2, h3⟩ => ⟨g, h1, h2, h3.only hr (fun e => e)⟩, fun _ _ _ _ h => h, fun _ _ _ _ h => h, fun _ _ _ _ h => h, fun _ _ _ _ h => h, fun _ _ _ _ h => h, fun _ _ _ _ h => h, fun W W' v hr ⟨g, h1, h2, h3⟩ => ⟨g, h1, h2, h3.only hr (fun e => e)⟩, fun W W' v hr ⟨g, cap, h1, h2, h3⟩ => ⟨g, cap, h1, h2, h3.only hr (fun e => e)⟩, fun _ _ _ _ h => h, fun _ _ _ _ h => h, fun _ _ _ _ h => h, fun W W' v hr ⟨g, h1, h2, h3⟩ => ⟨g, h1, h2, h3.only hr (fun e => e)⟩, trivial⟩
      refine PtAllS.cons rfl ⟨rfl, rfl⟩ ?_ (PtAllS.cons rfl ⟨rfl, rfl⟩ ?_ (PtAllS.cons rfl ⟨rfl, rfl⟩ ?_ (PtAllS.cons rfl ⟨rfl, rfl⟩ ?_ (PtAllS.cons rfl ⟨rfl, rfl⟩ ?_ (PtAllS.cons rfl ⟨rfl, rfl⟩ ?_ (PtAllS.cons rfl ⟨rfl, rfl⟩ ?_ (PtAllS.cons rfl ⟨rfl, rfl⟩ ?_ (PtAllS.cons rfl ⟨rfl, rfl⟩ ?_ (PtAllS.cons rfl ⟨rfl, rfl⟩ ?_ (PtAllS.cons rfl ⟨rfl, rfl⟩ ?_ (PtAllS.cons rfl ⟨rfl, rfl⟩ ?_ (PtAllS.cons rfl ⟨rfl, rfl⟩ ?_ (PtAllS.cons rfl ⟨rfl, rfl⟩ ?_ (PtAllS.cons rfl ⟨rfl, rfl⟩ ?_ (PtAllS.cons rfl ⟨rfl, rfl⟩ ?_ (PtAllS.cons rfl ⟨rfl, rfl⟩ ?_ (PtAllS.nil rfl)))))))))))))))))
      · intro L a W K hI hn hd hK
        have e3 : a.eval (.tmp 3) = .pointer (some ⟨w.heap.size, 0, none⟩) := hI.ev 3 (by show ¬ (3 ∈ [29, 30, 31, 32, 33, 34, 35, 36, 37, 38, 39, 40, 41, 42, 43, 44, 45]); decide) rfl
        exact pt_val (v := .pointer (some ⟨w.heap.size, 1, none⟩)) (by unfold execOp; simp only [e3]; kernel_rfl) (hK _ _ hI.j PtKeep.refl rfl)
      · intro L a W K hI hn hd hK
        have e29 : a.eval (.tmp 29) = .pointer (some ⟨w.heap.size, 1, none⟩) := hI.fact 0 29 _ rfl (dep_of hd 0 (by kernel_rfl))
        exact pt_load _ (.tmp 29) rfl ⟨w.heap.size, 1, none⟩ (.slice pa s.length pc) _ e29 (HC1.out _ hI.j) Tryz.underlying31 rfl (hK _ _ hI.j PtKeep.refl rfl)
      · intro L a W K hI hn hd hK
        have e30 : a.eval (.tmp 30) = .slice pa s.length pc := hI.fact 1 30 _ rfl (dep_of hd 1 (by kernel_rfl))
        exact pt_val (v := .int .i64 (s.length : Nat)) (by unfold execOp; simp only [resolve, invoke, builtin, Sem.run_bind, Sem.run_pure, Result.andThen_ok, List.map_toArray, List.map_cons, List.map_nil, e30]; kernel_rfl) (hK _ _ hI.j PtKeep.refl rfl)
      · intro L a W K hI hn hd hK
        have e31 : a.eval (.tmp 31) = .int .i64 (s.length : Nat) := hI.fact 2 31 _ rfl (dep_of hd 2 (by kernel_rfl))
        exact pt_val (v := .int .u32 (s.length : Nat)) (Eq.trans (b := .ok (.value (.int .u32 (IntKind.u32.wrap (s.length : Int)))) _) (by unfold execOp; simp only [e31]; kernel_rfl) (by rw [hwr1])) (hK _ _ hI.j PtKeep.refl rfl)
      · intro L a W K hI hn hd hK
        have e32 : a.eval (.tmp 32) = .int .u32 (s.length : Nat) := hI.fact 3 32 _ rfl (dep_of hd 3 (by kernel_rfl))
        refine wp_callc (f := 58) (args := #[a.eval (.tmp 32)]) (by kernel_rfl) ?_
        rw [e32]
        refine (Hd.out W (s.length) (by omega)).mono ?_
        rintro x W' ⟨g, rfl, hg, hr, ho⟩
        exact ⟨_, rfl, hK _ _ (hI.j.trans ho (fun _ _ e => e.elim)) (hstab.keep ho) ⟨g, rfl, by have := hI.j.size; omega, hr⟩⟩
      · intro L a W K hI hn hd hK
        have e6 : a.eval (.tmp 6) = .int .u64 A := hI.ev 6 (by show ¬ (6 ∈ [29, 30, 31, 32, 33, 34, 35, 36, 37, 38, 39, 40, 41, 42, 43, 44, 45]); decide) rfl
        exact pt_move _ (by first | exact .inl rfl | exact .inr rfl) _ e6 (hK _ _ hI.j PtKeep.refl rfl)
      · intro L a W K hI hn hd hK
        have e3 : a.eval (.tmp 3) = .pointer (some ⟨w.heap.size, 0, none⟩) := hI.ev 3 (by show ¬ (3 ∈ [29, 30, 31, 32, 33, 34, 35, 36, 37, 38, 39, 40, 41, 42, 43, 44, 45]); decide) rfl
        exact pt_val (v := .pointer (some ⟨w.heap.size, 0, none⟩)) (by unfold execOp; simp only [e3]; kernel_rfl) (hK _ _ hI.j PtKeep.refl rfl)
      · intro L a W K hI hn hd hK
        have e35 : a.eval (.tmp 35) = .pointer (some ⟨w.heap.size, 0, none⟩) := hI.fact 6 35 _ rfl (dep_of hd 6 (by kernel_rfl))
        exact pt_load _ (.tmp 35) rfl ⟨w.heap.size, 0, none⟩ (.int .i64 kind) _ e35 (HC0.out _ hI.j) Tryz.underlying3 rfl (hK _ _ hI.j PtKeep.refl rfl)
      · intro L a W K hI hn hd hK
        have e3 : a.eval (.tmp 3) = .pointer (some ⟨w.heap.size, 0, none⟩) := hI.ev 3 (by show ¬ (3 ∈ [29, 30, 31, 32, 33, 34, 35, 36, 37, 38, 39, 40, 41, 42, 43, 44, 45]); decide) rfl
        exact pt_val (v := .pointer (some ⟨w.heap.size, 1, none⟩)) (by unfold execOp; simp only [e3]; kernel_rfl) (hK _ _ hI.j PtKeep.refl rfl)
      · intro L a W K hI hn hd hK
        have e37 : a.eval (.tmp 37) = .pointer (some ⟨w.heap.size, 1, none⟩) := hI.fact 8 37 _ rfl (dep_of hd 8 (by kernel_rfl))
        exact pt_load _ (.tmp 37) rfl ⟨w.heap.size, 1, none⟩ (.slice pa s.length pc) _ e37 (HC1.out _ hI.j) Tryz.underlying31 rfl (hK _ _ hI.j PtKeep.refl rfl)
      · intro L a W K hI hn hd hK
        have e34 : a.eval (.tmp 34) = .int .u64 A := hI.fact 5 34 _ rfl (dep_of hd 5 (by kernel_rfl))
        have e36 : a.eval (.tmp 36) = .int .i64 kind := hI.fact 7 36 _ rfl (dep_of hd 7 (by kernel_rfl))
        have e38 : a.eval (.tmp 38) = .slice pa s.length pc := hI.fact 9 38 _ rfl (dep_of hd 9 (by kernel_rfl))
        refine wp_callc (f := 49) (args := #[a.eval (.tmp 34), a.eval (.tmp 36), a.eval (.tmp 38)]) (by kernel_rfl) ?_
        rw [e34, e36, e38]
        refine (Hsl.out _ hI.j).mono ?_
        rintro x W' ⟨rfl, ho⟩
        exact ⟨_, rfl, hK _ _ (hI.j.trans ho (fun _ _ e => e.elim)) (hstab.keep ho) rfl⟩
      · intro L a W K hI hn hd hK
        have e39 : a.eval (.tmp 39) = .int .u32 (sealN A kind s : Nat) := hI.fact 10 39 _ rfl (dep_of hd 10 (by kernel_rfl))
        refine wp_callc (f := 58) (args := #[a.eval (.tmp 39)]) (by kernel_rfl) ?_
        rw [e39]
        refine (Hd.out W (sealN A kind s) (by omega)).mono ?_
        rintro x W' ⟨g, rfl, hg, hr, ho⟩
        exact ⟨_, rfl, hK _ _ (hI.j.trans ho (fun _ _ e => e.elim)) (hstab.keep ho) ⟨g, rfl, by have := hI.j.size; omega, hr⟩⟩
      · intro L a W K hI hn hd hK
        have f33 := hI.fact 4 33 _ rfl (dep_of hd 4 (by kernel_rfl))
        have f40 := hI.fact 11 40 _ rfl (dep_of hd 11 (by kernel_rfl))
        obtain ⟨g33, e33, l33, r33⟩ := f33
        obtain ⟨g40, e40, l40, r40⟩ := f40
        refine wp_addb_grow (.tmp 33) (.tmp 40) rfl g33 4 (le4 s.length) e33 r33 ⟨g40, 0, none⟩ (le4 (sealN A kind s)) 4 e40 (r40.src4 rfl) (by simp) (by simp) (by simp) ?_
        intro g' cap' w' hg hr ho
        exact hK _ _ (hI.j.trans ho (fun _ _ e => e.elim)) (hstab.keep ho) ⟨g', cap', rfl, by have := hI.j.size; omega, hr⟩
      · intro L a W K hI hn hd hK
        have e3 : a.eval (.tmp 3) = .pointer (some ⟨w.heap.size, 0, none⟩) := hI.ev 3 (by show ¬ (3 ∈ [29, 30, 31, 32, 33, 34, 35, 36, 37, 38, 39, 40, 41, 42, 43, 44, 45]); decide) rfl
        exact pt_val (v := .pointer (some ⟨w.heap.size, 0, none⟩)) (by unfold execOp; simp only [e3]; kernel_rfl) (hK _ _ hI.j PtKeep.refl rfl)
      · intro L a W K hI hn hd hK
        have e42 : a.eval (.tmp 42) = .pointer (some ⟨w.heap.size, 0, none⟩) := hI.fact 13 42 _ rfl (dep_of hd 13 (by kernel_rfl))
        exact pt_load _ (.tmp 42) rfl ⟨w.heap.size, 0, none⟩ (.int .i64 kind) _ e42 (HC0.out _ hI.j) Tryz.underlying3 rfl (hK _ _ hI.j PtKeep.refl rfl)
      · intro L a W K hI hn hd hK
        have e43 : a.eval (.tmp 43) = .int .i64 kind := hI.fact 14 43 _ rfl (dep_of hd 14 (by kernel_rfl))
        exact pt_val (v := .int .u8 kind) (Eq.trans (b := .ok (.value (.int .u8 (IntKind.u8.wrap (kind : Int)))) _) (by unfold execOp; simp only [e43]; kernel_rfl) (by rw [hwr2])) (hK _ _ hI.j PtKeep.refl rfl)
      · intro L a W K hI hn hd hK
        have e44 : a.eval (.tmp 44) = .int .u8 kind := hI.fact 15 44 _ rfl (dep_of hd 15 (by kernel_rfl))
        have ho := only_new W (.cells #[.int .u8 (kind : Int)] 5)
        refine wp_bldS1 31 0 (.tmp 44) rfl (.int .u8 (kind : Int)) e44 _ _ (bslice_kind W kind) ?_
        exact hK _ _ (hI.j.trans ho (fun _ _ e => e.elim)) (hstab.keep ho) ⟨_, rfl, hI.j.size, by rw [kindB kind hk]; exact Row.new W [.int .u8 (kind : Int)] _⟩
    · intro L a w7 hal hj hfs
      dsimp only [PtAll] at hfs
      obtain ⟨f29, f30, f31, f32, f33, f34, f35, f36, f37, f38, f39, f40, f41, f42, f43, f44, f45, -⟩ := hfs
      obtain ⟨g33, f33, l33, r33⟩ := f33
      obtain ⟨g40, f40, l40, r40⟩ := f40
      obtain ⟨g41, cap41, f41, l41, r41⟩ := f41
      obtain ⟨g45, f45, l45, r45⟩ := f45
      have hA := hal.turned
      simp only [List.map_cons, List.map_nil, Act.turned, f29, f30, f31, f32, f33, f34, f35, f36, f37, f38, f39, f40, f41, f42, f43, f44, f45] at hA
      simp only [Act.put, List.setIfInBounds_toArray, List.set_cons_zero, List.set_cons_succ] at hA
      clear hal f29 f30 f31 f32 f33 f34 f35 f36 f37 f38 f39 f40 f41 f42 f43 f44 f45
      subst hA
      change wpList _ _ _ [_, _] _ _
      have HJ7 := hid hj
      have R41 := hid r41; have R45 := hid r45
      have L41 := hid l41
      clear hj r41 r45 r33 r40 l33 l40
      go_wp2_with ((guard_target =~ wpList _ _ _ (⟨some 46, _, _, _, _, _⟩ :: _) _ _); refine wpList_addb (o := ⟨some 46, _, _, _, _, _⟩) rfl (.tmp 41) (.tmp 45) rfl g41 cap41 (le4 s.length ++ le4 (sealN A kind s)) rfl R41.out (some ⟨g45, 0, none⟩) [UInt8.ofNat kind] 1 rfl R45.out.src (by simp) ?_; intro g46 cap46 w8 hc46 hr46 hg46 ho46; rw [show (le4 s.length ++ le4 (sealN A kind s)).length + [UInt8.ofNat kind].length = 9 from rfl]; have HR46 := hid hr46; have HG46 := hid hg46; have HO46 := hid ho46; clear hc46 hr46 hg46 ho46)
      have hO8 : Only (fun _ => False) w w8 := (Hox.out.trans HJ7.out (fun _ _ e => e)).trans HO46.out (fun k hk e => by have e' : k = g41 := e; have := L41.out; have := Hox.out.size; omega)
      have HO8 := hid hO8
      have HC8 : Hid (Only (fun k => k = g41) wc w8) := hid ((HJ7.out.mono (fun _ _ e => e.elim)).trans HO46.out (fun _ _ e => e))
      have hlw8 : l < w8.heap.size := Nat.lt_of_lt_of_le hlw hO8.size
      have hw41 : w.heap.size ≠ g41 := by have := L41.out; omega
      have HL1 : Hid (∀ W, Only (fun _ => False) w8 W → W.cell? ⟨l, 1, none⟩ = some (.pointer (some ⟨r, 0, none⟩))) := hid fun W hW => cell_blk (blk_only HR.out.blk (hO8.trans hW (fun _ _ e => e)) (fun e => e)) 1
      have HL2 : Hid (∀ W, Only (fun _ => False) w8 W → W.cell? ⟨l, 2, none⟩ = some (.int .u64 M.head)) := hid fun W hW => cell_blk (blk_only HR.out.blk (hO8.trans hW (fun _ _ e => e)) (fun e => e)) 2
      have HF1 : Hid (∀ W, Only (fun _ => False) w8 W → W.cell? ⟨w.heap.size, 1, none⟩ = some (.slice pa s.length pc)) := hid fun W hW => cell_blk (blk_only (blk_only Hbx.out HC8.out hw41) hW (fun e => e)) 1
      have hG46 : w.heap.size ≤ g46 := by have h1 := L41.out; have h2 := HJ7.out.size; have h3 := Hox.out.size; rcases HG46.out with e | e <;> omega
      have q1 := HL1.out w8 (Only.refl _ _)
      clear hO8
      go_upto_region 8 with fail
      refine wp_region_noPanic ?_
      refine region_pt 14 [0] (by kernel_rfl) (by kernel_rfl) (by kernel_rfl) [(47, fun _ v => v = .int .u64 A), (48, fun _ v => v = .pointer (some ⟨l, 0, none⟩)), (49, fun _ v => v = .pointer (some ⟨l, 0, none⟩)), (50, fun _ v => v = .pointer (some ⟨l, 1, none⟩)), (51, fun _ v => v = .pointer (some ⟨r, 0, none⟩)), (52, fun _ v => v = .pointer (some ⟨l, 0, none⟩)), (53, fun _ v => v = .pointer (some ⟨l, 0, none⟩)), (54, fun _ v => v = .pointer (some ⟨l, 2, none⟩)), (55, fun _ v => v = .int .u64 M.head), (56, fun _ v => v = .slice pb (padN T s.length).length pcc), (57, fun _ v => v = .slice (some ⟨g46, 0, none⟩) 9 cap46), (58, fun _ v => v = .pointer (some ⟨w.heap.size, 1, none⟩)), (59, fun _ v => v = .slice pa s.length pc), (60, fun W v => ∃ g, v = .slice (some ⟨g, 0, none⟩) 3 3 ∧ w8.heap.size ≤ g ∧ W.heap[g]? = some (.cells #[.slice pb (padN T s.length).length pcc, .slice (some ⟨g46, 0, none⟩) 9 cap46, .slice pa s.length pc] 31 (0, 0)))] (fun _ W => Only (fun _ => False) w8 W) (by show [47, 48, 49, 50, 51, 52, 53, 54, 55, 56, 57, 58, 59, 60].Nodup; decide) (by show ∀ d ∈ [47, 48, 49, 50, 51, 52, 53, 54, 55, 56, 57, 58, 59, 60], d < 62; decide) ((Only.refl _ _).drew) (.inr (fun _ _ _ _ _ h => h)) ?_ ?_ ?_
      · refine ⟨?_, trivial⟩
        · refine ⟨_, _, _, _, rfl, rfl, rfl, fun _ _ h => h, fun L a W hI hd => ?_⟩
          have e6 : a.eval (.tmp 6) = .int .u64 A := hI.ev 6 (by show ¬ (6 ∈ [47, 48, 49, 50, 51, 52, 53, 54, 55, 56, 57, 58, 59, 60]); decide) rfl
          exact ⟨.int .u64 A, fun W => pt_mv _ _ (by first | exact .inl rfl | exact .inr rfl) _ e6, fun W => rfl⟩
      · have hstab : PtStabs (Only (fun _ => False)) [(47, fun _ v => v = .int .u64 A), (48, fun _ v => v = .pointer (some ⟨l, 0, none⟩)), (49, fun _ v => v = .pointer (some ⟨l, 0, none⟩)), (50, fun _ v => v = .pointer (some ⟨l, 1, none⟩)), (51, fun _ v => v = .pointer (some ⟨r, 0, none⟩)), (52, fun _ v => v = .pointer (some ⟨l, 0, none⟩)), (53, fun _ v => v = .pointer (some ⟨l, 0, none⟩)), (54, fun _ v => v = .pointer (some ⟨l, 2, none⟩)), (55, fun _ v => v = .int .u64 M.head), (56, fun _ v => v = .slice pb (padN T s.length).length pcc), (57, fun _ v => v = .slice (some ⟨g46, 0, none⟩) 9 cap46), (58, fun _ v => v = .pointer (some ⟨w.heap.size, 1, none⟩)), (59, fun _ v => v = .slice pa s.length pc), (60, fun W v => ∃ g, v = .slice (some ⟨g, 0, none⟩) 3 3 ∧ w8.heap.size ≤ g ∧ W.heap[g]? = some (.cells #[.slice pb (padN T s.length).length pcc, .slice (some ⟨g46, 0, none⟩) 9 cap46, .slice pa s.length pc] 31 (0, 0)))] := ⟨fun _ _ _ _ h => h, fun _ _ _ _ h => h, fun _ _ _ _ h => h, fun _ _ _ _ h => h, fun _ _ _ _ h => h, fun _ _ _ _ h => h, fun _ _ _ _ h => h, fun _ _ _ _ h => h, fun _ _ _ _ h => h, fun _ _ _ _ h => h, fun _ _ _ _ h => h, fun _ _ _ _ h => h, fun _ _ _ _ h => h, fun W W' v hr ⟨g, h1, h2, h3⟩ => ⟨g, h1, h2, blk_only h3 hr (fun e => e)⟩, trivial⟩
        refine PtAllS.cons rfl ⟨rfl, rfl⟩ ?_ (PtAllS.cons rfl ⟨rfl, rfl⟩ ?_ (PtAllS.cons rfl ⟨rfl, rfl⟩ ?_ (PtAllS.cons rfl ⟨rfl, rfl⟩ ?_ (PtAllS.cons rfl ⟨rfl, rfl⟩ ?_ (PtAllS.cons rfl ⟨rfl, rfl⟩ ?_ (PtAllS.cons rfl ⟨rfl, rfl⟩ ?_ (PtAllS.cons rfl ⟨rfl, rfl⟩ ?_ (PtAllS.cons rfl ⟨rfl, rfl⟩ ?_ (PtAllS.cons rfl ⟨rfl, rfl⟩ ?_ (PtAllS.cons rfl ⟨rfl, rfl⟩ ?_ (PtAllS.cons rfl ⟨rfl, rfl⟩ ?_ (PtAllS.cons rfl ⟨rfl, rfl⟩ ?_ (PtAllS.cons rfl ⟨rfl, rfl⟩ ?_ (PtAllS.nil rfl))))))))))))))
        · intro L a W K hI hn hd hK
          have e6 : a.eval (.tmp 6) = .int .u64 A := hI.ev 6 (by show ¬ (6 ∈ [47, 48, 49, 50, 51, 52, 53, 54, 55, 56, 57, 58, 59, 60]); decide) rfl
          exact pt_move _ (by first | exact .inl rfl | exact .inr rfl) _ e6 (hK _ _ hI.j PtKeep.refl rfl)
        · intro L a W K hI hn hd hK
          have e0 : a.eval (.tmp 0) = .pointer (some ⟨l, 0, none⟩) := hI.ev 0 (by show ¬ (0 ∈ [47, 48, 49, 50, 51, 52, 53, 54, 55, 56, 57, 58, 59, 60]); decide) rfl
          exact pt_move _ (by first | exact .inl rfl | exact .inr rfl) _ e0 (hK _ _ hI.j PtKeep.refl rfl)
        · intro L a W K hI hn hd hK
          have e48 : a.eval (.tmp 48) = .pointer (some ⟨l, 0, none⟩) := hI.fact 1 48 _ rfl (dep_of hd 1 (by kernel_rfl))
          exact pt_val (v := .pointer (some ⟨l, 0, none⟩)) (by unfold execOp; simp only [e48]; kernel_rfl) (hK _ _ hI.j PtKeep.refl rfl)
        · intro L a W K hI hn hd hK
          have e49 : a.eval (.tmp 49) = .pointer (some ⟨l, 0, none⟩) := hI.fact 2 49 _ rfl (dep_of hd 2 (by kernel_rfl))
          exact pt_val (v := .pointer (some ⟨l, 1, none⟩)) (by unfold execOp; simp only [e49]; kernel_rfl) (hK _ _ hI.j PtKeep.refl rfl)
        · intro L a W K hI hn hd hK
          have e50 : a.eval (.tmp 50) = .pointer (some ⟨l, 1, none⟩) := hI.fact 3 50 _ rfl (dep_of hd 3 (by kernel_rfl))
          exact pt_load _ (.tmp 50) rfl ⟨l, 1, none⟩ (.pointer (some ⟨r, 0, none⟩)) _ e50 (HL1.out _ hI.j) Tryz.underlying78 rfl (hK _ _ hI.j PtKeep.refl rfl)
        · intro L a W K hI hn hd hK
          have e0 : a.eval (.tmp 0) = .pointer (some ⟨l, 0, none⟩) := hI.ev 0 (by show ¬ (0 ∈ [47, 48, 49, 50, 51, 52, 53, 54, 55, 56, 57, 58, 59, 60]); decide) rfl
          exact pt_move _ (by first | exact .inl rfl | exact .inr rfl) _ e0 (hK _ _ hI.j PtKeep.refl rfl)
        · intro L a W K hI hn hd hK
          have e52 : a.eval (.tmp 52) = .pointer (some ⟨l, 0, none⟩) := hI.fact 5 52 _ rfl (dep_of hd 5 (by kernel_rfl))
          exact pt_val (v := .pointer (some ⟨l, 0, none⟩)) (by unfold execOp; simp only [e52]; kernel_rfl) (hK _ _ hI.j PtKeep.refl rfl)
        · intro L a W K hI hn hd hK
          have e53 : a.eval (.tmp 53) = .pointer (some ⟨l, 0, none⟩) := hI.fact 6 53 _ rfl (dep_of hd 6 (by kernel_rfl))
          exact pt_val (v := .pointer (some ⟨l, 2, none⟩)) (by unfold execOp; simp only [e53]; kernel_rfl) (hK _ _ hI.j PtKeep.refl rfl)
        · intro L a W K hI hn hd hK
          have e54 : a.eval (.tmp 54) = .pointer (some ⟨l, 2, none⟩) := hI.fact 7 54 _ rfl (dep_of hd 7 (by kernel_rfl))
          exact pt_load _ (.tmp 54) rfl ⟨l, 2, none⟩ (.int .u64 M.head) _ e54 (HL2.out _ hI.j) Tryz.underlying72 rfl (hK _ _ hI.j PtKeep.refl rfl)
        · intro L a W K hI hn hd hK
          have e7 : a.eval (.tmp 7) = .slice pb (padN T s.length).length pcc := hI.ev 7 (by show ¬ (7 ∈ [47, 48, 49, 50, 51, 52, 53, 54, 55, 56, 57, 58, 59, 60]); decide) rfl
          exact pt_move _ (by first | exact .inl rfl | exact .inr rfl) _ e7 (hK _ _ hI.j PtKeep.refl rfl)
        · intro L a W K hI hn hd hK
          have e9 : a.eval (.tmp 9) = .slice (some ⟨g46, 0, none⟩) 9 cap46 := hI.ev 9 (by show ¬ (9 ∈ [47, 48, 49, 50, 51, 52, 53, 54, 55, 56, 57, 58, 59, 60]); decide) rfl
          exact pt_move _ (by first | exact .inl rfl | exact .inr rfl) _ e9 (hK _ _ hI.j PtKeep.refl rfl)
        · intro L a W K hI hn hd hK
          have e3 : a.eval (.tmp 3) = .pointer (some ⟨w.heap.size, 0, none⟩) := hI.ev 3 (by show ¬ (3 ∈ [47, 48, 49, 50, 51, 52, 53, 54, 55, 56, 57, 58, 59, 60]); decide) rfl
          exact pt_val (v := .pointer (some ⟨w.heap.size, 1, none⟩)) (by unfold execOp; simp only [e3]; kernel_rfl) (hK _ _ hI.j PtKeep.refl rfl)
        · intro L a W K hI hn hd hK
          have e58 : a.eval (.tmp 58) = .pointer (some ⟨w.heap.size, 1, none⟩) := hI.fact 11 58 _ rfl (dep_of hd 11 (by kernel_rfl))
          exact pt_load _ (.tmp 58) rfl ⟨w.heap.size, 1, none⟩ (.slice pa s.length pc) _ e58 (HF1.out _ hI.j) Tryz.underlying31 rfl (hK _ _ hI.j PtKeep.refl rfl)
        · intro L a W K hI hn hd hK
          have e56 : a.eval (.tmp 56) = .slice pb (padN T s.length).length pcc := hI.fact 9 56 _ rfl (dep_of hd 9 (by kernel_rfl))
          have e57 : a.eval (.tmp 57) = .slice (some ⟨g46, 0, none⟩) 9 cap46 := hI.fact 10 57 _ rfl (dep_of hd 10 (by kernel_rfl))
          have e59 : a.eval (.tmp 59) = .slice pa s.length pc := hI.fact 12 59 _ rfl (dep_of hd 12 (by kernel_rfl))
          have ho := only_new W (.cells #[.slice pb (padN T s.length).length pcc, .slice (some ⟨g46, 0, none⟩) 9 cap46, .slice pa s.length pc] 31)
          exact wp_value (w' := W.alloc (.cells #[.slice pb (padN T s.length).length pcc, .slice (some ⟨g46, 0, none⟩) 9 cap46, .slice pa s.length pc] 31)) (v := .slice (some ⟨W.heap.size, 0, none⟩) 3 3) (by unfold execOp; simp only [e56, e57, e59, List.map_toArray, List.map_cons, List.map_nil]; kernel_rfl) (hK _ _ (hI.j.trans ho (fun _ _ e => e.elim)) (hstab.keep ho) ⟨W.heap.size, rfl, hI.j.size, blk_new W _⟩)
      · intro L a w9 hal hj hfs
        dsimp only [PtAll] at hfs
        obtain ⟨f47, f48, f49, f50, f51, f52, f53, f54, f55, f56, f57, f58, f59, f60, -⟩ := hfs
        obtain ⟨g60, f60, l60, b60⟩ := f60
        have hA := hal.turned
        simp only [List.map_cons, List.map_nil, Act.turned, f47, f48, f49, f50, f51, f52, f53, f54, f55, f56, f57, f58, f59, f60] at hA
        simp only [Act.put, List.setIfInBounds_toArray, List.set_cons_zero, List.set_cons_succ] at hA
        clear hal f47 f48 f49 f50 f51 f52 f53 f54 f55 f56 f57 f58 f59 f60
        subst hA
        change wpList _ _ _ [_, _, _] _ _
        have HJ9 := hid hj
        have HB60 := hid b60
        have L60 := hid l60
        have HO9 : Hid (Only (fun _ => False) w w9) := hid (HO8.out.trans hj (fun _ _ e => e))
        have hz9 := HO9.out.size
        clear hj b60 l60
        have HP : Hid (PartsAt w9 (.slice (some ⟨g60, 0, none⟩) 3 3) [padN T s.length, le4 s.length ++ le4 (sealN A kind s) ++ [UInt8.ofNat kind], s] (fun k => FR k ∨ FD k)) := hid (by
          have hold : ∀ k, FR k ∨ FD k → k < w.heap.size := fun k hk => by
            rcases hk with hk | hk
            · obtain ⟨rv, hR⟩ := HR.out.ring; exact hR.lt k hk
            · exact HR.out.disk.lt hk
          have h60 : ¬ (FR g60 ∨ FD g60) := fun e => by have := hold g60 e; have := L60.out; have := HO8.out.size; omega
          have hpl : (padN T s.length).length ≤ 2048 := by unfold padN; split <;> simp [zeros, roomN]
          have hP1 := Hsp.out.only (HC8.out.trans (HJ9.out.mono (G := fun k => k = g41) (fun _ _ e => e.elim)) (fun _ _ e => e)) (fun hne g o c e hg => by
            have hg' : g = g41 := hg
            simp only [Value.slice.injEq] at e
            have h1 := HPBL.out hne g o e.1
            have := L41.out; omega)
          have hP3 := HS.out.same HO9.out
          have hP2 := (HR46.out.only HJ9.out (fun e => e)).src
          refine ⟨_, _, rfl, (by show 3 ≤ 9223372036854775807; decide), fun i x hi => ?_⟩
          match i with
          | 0 =>
            simp only [List.getElem?_cons_zero, Option.some.injEq] at hi
            subst hi
            exact ⟨g60, 0, pb, pcc, rfl, h60, cell_blk HB60.out 0, hP1, fun _ g' o' e hf => by have := Hpb.out g' o' e; have := hold g' hf; omega, by omega⟩
          | 1 =>
            simp only [List.getElem?_cons_zero, List.getElem?_cons_succ, Option.some.injEq] at hi
            subst hi
            exact ⟨g60, 0, some ⟨g46, 0, none⟩, cap46, rfl, h60, cell_blk HB60.out 1, by simpa using hP2, fun _ g' o' e hf => by simp only [Option.some.injEq, Addr.mk.injEq, and_true] at e; have := hold g' hf; omega, by simp⟩
          | 2 =>
            simp only [List.getElem?_cons_zero, List.getElem?_cons_succ, Option.some.injEq] at hi
            subst hi
            exact ⟨g60, 0, pa, pc, rfl, h60, cell_blk HB60.out 2, hP3, HSEP.out, by omega⟩
          | i + 3 => simp at hi)
        have HLD : Hid (M.R.append M.head [padN T s.length, le4 s.length ++ le4 (sealN A kind s) ++ [UInt8.ofNat kind], s].flatten M.D = M.laid kind s) := hid (by rw [frame_flat]; unfold WM.laid; rw [HTe.out, HA.out])
        have hfl : [padN T s.length, le4 s.length ++ le4 (sealN A kind s) ++ [UInt8.ofNat kind], s].flatten.length ≤ 5000 := by
          have hpl : (padN T s.length).length ≤ 2048 := by unfold padN; split <;> simp [zeros, roomN]
          rw [frame_flat]; simp [frameN]; omega
        have hne : [padN T s.length, le4 s.length ++ le4 (sealN A kind s) ++ [UInt8.ofNat kind], s].flatten ≠ [] := by rw [frame_flat]; simp [frameN, le4]
        have HR9 := hid (HR.out.ring.only HO9.out (fun _ _ e => e)); have HD9 := hid (HR.out.disk.only HO9.out (fun _ _ e => e))
        have hhd := HR.out.h0
        have HAPP : Hid (Calls Tryz.prog 59 #[.pointer (some ⟨r, 0, none⟩), .int .u64 M.head, .slice (some ⟨g60, 0, none⟩) 3 3] w9 (RAppPost w9 r b (M.laid kind s) FR FD)) := hid (by
          by_cases hft : M.R.left M.head < [padN T s.length, le4 s.length ++ le4 (sealN A kind s) ++ [UInt8.ofNat kind], s].flatten.length
          · refine (append_no (D := M.D) HR9.out _ _ _ HP.out M.head (by omega) (.inl hft)).mono ?_
            rintro e w' ⟨rfl, e1, e2, rfl⟩
            rw [HLD.out] at e1 e2 ⊢
            exact ⟨rfl, FR, FD, by rw [e1]; exact HR9.out, by rw [e2]; exact HD9.out, HR.out.rd, Only.refl _ _, fun _ hk => .inl hk, fun _ hk => .inl hk⟩
          · rw [← HLD.out]
            exact append_go HR9.out HD9.out HR.out.rd HFIT.out _ _ HP.out M.head (by omega) hne (by omega) (by have := HTe.out; omega))
        clear hfl hne
        go_wp2_with fail
        refine HAPP.out.mono ?_
        rintro e w10 ⟨rfl, FR', FD', hr', hd', hdis, ho10, hn1, hn2⟩
        have HLR : Hid (LogRep w10 l b r (M.lay kind s) wv FR' FD' FW) := hid ((HR.out.only HO9.out (fun e => e) (fun _ _ e => e) (fun _ _ e => e) (fun _ _ e => e)).turn2 hr' hd' hdis ho10 hn1 hn2)
        have HO10 : Hid (Only (fun k => FR k ∨ FD k) w w10) := hid ((HO9.out.mono (fun _ _ e => e.elim)).trans ho10 (fun _ _ e => e))
        have HN1 : Hid (∀ k, FR' k → FR k ∨ w.heap.size ≤ k) := hid fun k hk => (hn1 k hk).imp id (fun h => by omega)
        have HN2 : Hid (∀ k, FD' k → FD k ∨ w.heap.size ≤ k) := hid fun k hk => (hn2 k hk).imp id (fun h => by omega)
        clear hr' hd' hdis ho10 hn1 hn2 HAPP
        go_wp2_with fail
        refine NoPanic.normal ?_
        go_wp2_with fail
        go_ret2
        exact ⟨by rw [HTe.out, HA.out]; rfl, FR', FD', HLR.out, HO10.out, HN1.out, HN2.out⟩
end
end Go.Proofs.YtfmdngeooelcpaaGreat
namespace Go.Proofs.YtfmdngeooelcpaaGreat
open Go.RowKit

theorem DiskAt.drop {w : World} {b : Nat} {D : DiskM} {F : Nat → Prop} (h : DiskAt w b D F) {gs : Nat} {cs : Array Value} {fr : Nat × Nat} (hb : w.heap[gs]? = some (.cells cs 75 fr)) : DiskAt w b D (fun k => F k ∧ k ≠ gs) := by
  obtain ⟨g, cap, ms, sg, sc, pe, clock, ρ, hr, h1, h2⟩ := h
  have hrow : ∀ {k : Nat} {T : TypeId} {c : Nat} {vs : List Value}, Row w k T c vs → T ≠ 75 → k ≠ gs := fun ⟨pad, hp, _⟩ hT e => by
    subst e
    rw [hb] at hp
    simp only [Option.some.injEq, Obj.cells.injEq] at hp
    exact hT hp.2.1.symm
  have nb : b ≠ gs := fun e => by
    have := hr.blk
    rw [e, hb] at this
    simp only [Option.some.injEq, Obj.cells.injEq] at this
    exact absurd this.2.1 (by decide)
  have ng : g ≠ gs := hrow hr.arr (by decide)
  have nm : ms ≠ gs := fun e => by
    have := hr.map.blk
    rw [e, hb] at this
    simp at this
  refine ⟨g, cap, ms, sg, sc, pe, clock, fun k => if k = gs then .non else ρ k, ⟨hr.blk, hr.arr, hr.sec, hr.map, fun p hp => ?_, hr.all, hr.n0, hr.fu, ?_, ?_, ?_, fun i hi => ?_⟩, fun k hk => ?_, fun k hk => h2 k hk.1⟩
  · obtain ⟨a1, a2, a3, a4, a5⟩ := hr.pen p hp
    exact ⟨a1, a2, a3, by show (if p.g = gs then _ else _) = _; rw [if_neg (hrow a2 (by decide))]; exact a4, a5⟩
  · show (if b = gs then _ else _) = _
    rw [if_neg nb]; exact hr.rb
  · show (if g = gs then _ else _) = _
    rw [if_neg ng]; exact hr.rg
  · show (if ms = gs then _ else _) = _
    rw [if_neg nm]; exact hr.rm
  · show (if sg i = gs then _ else _) = _
    rw [if_neg (hrow (hr.sec i hi).1 (by decide))]; exact hr.rs i hi
  · by_cases e : k = gs
    · exact absurd (by show (if k = gs then Role.non else ρ k) = _; rw [if_pos e]) hk
    · refine ⟨h1 k fun h => hk ?_, e⟩
      show (if k = gs then Role.non else ρ k) = _
      rw [if_neg e]; exact h
def WM.settle (M : WM) (h : Nat) : WM × Int :=
  if M.D.flush.2 ≠ 0 then ({ M with D := M.D.flush.1, failed := true }, M.D.flush.2)
  else if (putR M.D.flush.1 0 [h, M.R.tail]).2.2 ≠ 0 then ({ M with D := (putR M.D.flush.1 0 [h, M.R.tail]).1, failed := true }, (putR M.D.flush.1 0 [h, M.R.tail]).2.2)
  else ({ M with D := (putR M.D.flush.1 0 [h, M.R.tail]).1, head := h, tail := M.R.tail }, 0)
section
variable {w w' : World} {l b r : Nat} {M : WM} {wv : Value} {FR FD FW FD' F : Nat → Prop}
theorem LogRep.turn (h : LogRep w l b r M wv FR FD FW) {D' : DiskM} (hd : DiskAt w' b D' FD') (ho : Only FD w w') (hn : ∀ k, FD' k → FD k ∨ w.heap.size ≤ k) : LogRep w' l b r { M with D := D' } wv FR FD' FW := by
  have hl := blk_lt h.blk
  have hR : ∀ k, FR k → k < w.heap.size := fun k hk => by obtain ⟨rv, hR⟩ := h.ring; exact hR.lt k hk
  refine ⟨blk_only h.blk ho h.ld, h.ring.only ho h.rd, hd, h.wait.only ho h.wd, fun k hk hf => ?_, h.wr, fun k hk hf => ?_, h.lr, fun e => ?_, h.lw, fun k hk => Nat.lt_of_lt_of_le (h.wl k hk) ho.size, h.h0, h.t0, h.w64⟩
  · rcases hn k hf with e | e
    · exact h.rd k hk e
    · have := hR k hk; omega
  · rcases hn k hf with e | e
    · exact h.wd k hk e
    · have := h.wl k hk; omega
  · rcases hn l e with e | e
    · exact h.ld e
    · omega
set_option maxRecDepth 100000 in
set_option maxHeartbeats 3200000 in
theorem settle_no (h : LogAt w l b r M F) (hd : Nat) (hno : M.D.flush.2 ≠ 0) :
    Calls Tryz.prog 35 #[.pointer (some ⟨l, 0, none⟩), .int .u64 hd] w fun e w' => e = .returned (.int .i64 (M.settle hd).2) ∧ LStep w w' l b r (M.settle hd).1 F := by
  have e1 : M.settle hd = ({ M with D := M.D.flush.1, failed := true }, M.D.flush.2) := by unfold WM.settle; rw [if_pos hno]
  have E1 := hid e1
  obtain ⟨wv, FR, FD, FW, hr, hf⟩ := h
  have h0 : w.cell? ⟨l, 0, none⟩ = some (.pointer (some ⟨b, 0, none⟩)) := cell_blk hr.blk 0
  have HR := hid hr; have HF := hid hf
  have HFl := hid (flush_c hr.disk)
  obtain ⟨c, hc⟩ : ∃ c, M.D.flush.2 = c := ⟨_, rfl⟩
  have Hc := hid hc
  rw [hc] at HFl hno
  have hb : (c == 0) = false := by rw [beq_eq_false_iff_ne]; exact hno
  clear hr hf e1 hc hno
  go_enter Tryz.func35, Tryz.ntmps35
  go_wp2_with fail
  refine HFl.out.mono ?_
  rintro e w1 ⟨rfl, hd1, ho1⟩
  have hr1 := HR.out.turn hd1 ho1 (fun k hk => .inl hk)
  have HLo : Hid (LogAt w1 l b r { M with D := M.D.flush.1 } F) := hid ⟨wv, FR, FD, FW, hr1, HF.out⟩
  have Ho1 := hid ho1
  clear hd1 ho1 hr1
  go_wp2_with fail
  refine (fail_c HLo.out c).mono ?_
  rintro e w2 ⟨rfl, hl2, ho2⟩
  have Hl2 := hid hl2; have Ho2 := hid ho2
  clear hl2 ho2
  go_wp2_with fail
  go_ret
  rw [E1.out]
  refine ⟨ret_i Hc.out.symm, F, Hl2.out, (Ho1.out.mono (G := F) (fun k _ e => (HF.out k).2 (.inr (.inr (.inl e))))).trans Ho2.out (fun _ _ e => e), fun k hk => .inl hk⟩
set_option maxRecDepth 100000 in
set_option maxHeartbeats 3200000 in
theorem settle_go (h : LogAt w l b r M F) (hN : Nat) (hh : hN ≤ 9223372036854775807) (hyes : M.D.flush.2 = 0) (htl : M.R.tail ≤ 9223372036854775807) :
    Calls Tryz.prog 35 #[.pointer (some ⟨l, 0, none⟩), .int .u64 hN] w fun e w' => e = .returned (.int .i64 (M.settle hN).2) ∧ LStep w w' l b r (M.settle hN).1 F := by
  obtain ⟨wv, FR, FD, FW, hr, hf⟩ := h
  have h0 : w.cell? ⟨l, 0, none⟩ = some (.pointer (some ⟨b, 0, none⟩)) := cell_blk hr.blk 0
  have HR := hid hr; have HF := hid hf
  have HFl := hid (flush_c hr.disk)
  rw [hyes] at HFl
  have Hyes := hid hyes
  clear hr hf hyes
  go_enter Tryz.func35, Tryz.ntmps35
  go_wp2_with fail
  refine HFl.out.mono ?_
  rintro e w1 ⟨rfl, hd1, ho1⟩
  have HR1 := hid (HR.out.turn hd1 ho1 (fun k hk => .inl hk))
  have Ho1 := hid ho1
  clear hd1 ho1 h0 HFl
  obtain ⟨T, hT⟩ : ∃ T, M.R.tail = T := ⟨_, rfl⟩
  have HT := hid hT
  rw [hT] at htl
  obtain ⟨D1, hD1⟩ : ∃ D1, M.D.flush.1 = D1 := ⟨_, rfl⟩
  have HD1 := hid hD1
  rw [hD1] at HR1
  have HTl : Hid (∀ W : World, Only FD w1 W → Calls Tryz.prog 57 #[.pointer (some ⟨r, 0, none⟩)] W fun e w' => e = .returned (.int .u64 T) ∧ Only (fun _ => False) W w') := hid (fun W ho => by
    rw [← hT]
    refine (tail_c (HR1.out.ring.only ho HR1.out.rd)).mono ?_
    rintro e w' ⟨rfl, rfl⟩
    exact ⟨rfl, Only.refl _ _⟩)
  clear hT hD1
  obtain ⟨P, hP⟩ : ∃ P, putR D1 0 [hN, T] = P := ⟨_, rfl⟩
  have HP := hid hP
  have HPut : Hid (∀ W : World, Only (fun _ => False) w1 W → ∀ v, SrcV W v (nat64 [hN, T]) → Calls Tryz.prog 61 #[.pointer (some ⟨b, 0, none⟩), .int .i64 0, v] W fun e w' => e = .returned (.tuple #[.agg P.2.1.V, .int .i64 P.2.2]) ∧ DStep W w' b P.1 FD) := hid (fun W ho v hv => by
    rw [← hP]
    exact put_c (HR1.out.disk.only ho (fun _ _ e => e)) 0 (by decide) v [hN, T] hv (by show 2 ≤ 9223372036854775807; decide) (fun x hx => by rcases List.mem_cons.1 hx with rfl | hx; omega; (obtain rfl := List.mem_singleton.1 hx; omega)))
  clear hP
  obtain ⟨D2, mk, c⟩ := P
  obtain ⟨MV, hMV⟩ : ∃ x, mk.V = x := ⟨_, rfl⟩
  have HMs : Hid (MV.size = MarkM.zero.V.size) := hid (by rw [← hMV]; rfl)
  have HMi : Hid ((Tryz.prog.info? 75).map (·.size) = some MV.size) := hid (by rw [← hMV]; exact info_mark)
  have HM1 : Hid (MV.all (·.oneCell') = true) := hid (by rw [← hMV]; exact V_one _)
  simp only [hMV] at HPut
  have HC0 : Hid (∀ W, Only FD w1 W → W.cell? ⟨l, 0, none⟩ = some (.pointer (some ⟨b, 0, none⟩))) := hid fun W hW => cell_blk (blk_only HR1.out.blk hW HR1.out.ld) 0
  have HC1 : Hid (∀ W, Only FD w1 W → W.cell? ⟨l, 1, none⟩ = some (.pointer (some ⟨r, 0, none⟩))) := hid fun W hW => cell_blk (blk_only HR1.out.blk hW HR1.out.ld) 1
  have HFD : Hid (∀ k, FD k → k < w1.heap.size) := hid fun k hk => HR1.out.disk.lt hk
  have z0 := HC0.out w1 (Only.refl _ _)
  clear hMV
  go_upto_region 4 with fail
  refine wp_region_noPanic ?_
  refine region_pt 16 [14] (by kernel_rfl) (by kernel_rfl) (by kernel_rfl) [(19, fun _ v => v = .pointer (some ⟨l, 0, none⟩)), (20, fun _ v => v = .pointer (some ⟨l, 0, none⟩)), (21, fun _ v => v = .pointer (some ⟨l, 0, none⟩)), (22, fun _ v => v = .pointer (some ⟨b, 0, none⟩)), (23, fun _ v => v = .int .u64 hN), (24, fun _ v => v = .pointer (some ⟨l, 0, none⟩)), (25, fun _ v => v = .pointer (some ⟨l, 0, none⟩)), (26, fun _ v => v = .pointer (some ⟨l, 1, none⟩)), (27, fun _ v => v = .pointer (some ⟨r, 0, none⟩)), (28, fun _ v => v = .int .u64 T), (29, fun W v => ∃ g, v = .slice (some ⟨g, 0, none⟩) 2 2 ∧ w1.heap.size ≤ g ∧ W.heap[g]? = some (.cells #[.int .u64 hN, .int .u64 T] 72 (0, 0))), (30, fun W v => v = .tuple #[.agg MV, .int .i64 c] ∧ ∃ F2, DiskAt W b D2 F2 ∧ ∀ k, F2 k → FD k ∨ w1.heap.size ≤ k), (18, fun _ v => v = .tuple #[.agg MV, .int .i64 c]), (31, fun _ v => v = .agg MV), (32, fun _ v => v = .int .i64 c), (6, fun W v => ∃ gs, v = .pointer (some ⟨gs, 0, none⟩) ∧ w1.heap.size ≤ gs ∧ W.heap[gs]? = some (.cells MarkM.zero.V 75 (0, 0)))] (fun L W => (L 11 = false → Only (fun _ => False) w1 W) ∧ Only FD w1 W) (by show [19, 20, 21, 22, 23, 24, 25, 26, 27, 28, 29, 30, 18, 31, 32, 6].Nodup; decide) (by show ∀ d ∈ [19, 20, 21, 22, 23, 24, 25, 26, 27, 28, 29, 30, 18, 31, 32, 6], d < 50; decide) ⟨fun _ => (Only.refl _ _).drew, (Only.refl _ _).drew⟩ (.inr (fun _ _ _ _ _ h => h)) ?_ ?_ ?_
  · refine ⟨?_, trivial⟩
    · refine ⟨_, _, _, _, rfl, rfl, rfl, fun _ _ h => h, fun L a W hI hd => ?_⟩
      have e18 : a.eval (.tmp 18) = .tuple #[.agg MV, .int .i64 c] := hI.fact 12 18 _ rfl (dep_of hd 12 (by kernel_rfl))
      exact ⟨.int .i64 c, fun W => by unfold execOp; simp only [e18]; kernel_rfl, fun W => rfl⟩
  · have hstab : PtStabs (Only (fun _ => False)) [(19, fun _ v => v = .pointer (some ⟨l, 0, none⟩)), (20, fun _ v => v = .pointer (some ⟨l, 0, none⟩)), (21, fun _ v => v = .pointer (some ⟨l, 0, none⟩)), (22, fun _ v => v = .pointer (some ⟨b, 0, none⟩)), (23, fun _ v => v = .int .u64 hN), (24, fun _ v => v = .pointer (some ⟨l, 0, none⟩)), (25, fun _ v => v = .pointer (some ⟨l, 0, none⟩)), (26, fun _ v => v = .pointer (some ⟨l, 1, none⟩)), (27, fun _ v => v = .pointer (some ⟨r, 0, none⟩)), (28, fun _ v => v = .int .u64 T), (29, fun W v => ∃ g, v = .slice (some ⟨g, 0, none⟩) 2 2 ∧ w1.heap.size ≤ g ∧ W.heap[g]? = some (.cells #[.int .u64 hN, .int .u64 T] 72 (0, 0))), (30, fun W v => v = .tuple #[.agg MV, .int .i64 c] ∧ ∃ F2, DiskAt W b D2 F2 ∧ ∀ k, F2 k → FD k ∨ w1.heap.size ≤ k), (18, fun _ v => v = .tuple #[.agg MV, .int .i64 c]), (31, fun _ v => v = .agg MV), (32, fun _ v => v = .int .i64 c), (6, fun W v => ∃ gs, v = .pointer (some ⟨gs, 0, none⟩) ∧ w1.heap.size ≤ gs ∧ W.heap[gs]? = some (.cells MarkM.zero.V 75 (0, 0)))] := ⟨fun _ _ _ _ h => h, fun _ _ _ _ h => h, fun _ _ _ _ h => h, fun _ _ _ _ h => h, fun _ _ _ _ h => h, fun _ _ _ _ h => h, fun _ _ _ _ h => h, fun _ _ _ _ h => h, fun _ _ _ _ h => h, fun _ _ _ _ h => h, fun W W' v hr ⟨g, h1, h2, h3⟩ => ⟨g, h1, h2, blk_only h3 hr (fun e => e)⟩, fun W W' v hr ⟨h1, F2, h2, h3⟩ => ⟨h1, F2, h2.only hr (fun _ _ e => e), h3⟩, fun _ _ _ _ h => h, fun _ _ _ _ h => h, fun _ _ _ _ h => h, fun W W' v hr ⟨gs, h1, h2, h3⟩ => ⟨gs, h1, h2, blk_only h3 hr (fun e => e)⟩, trivial⟩
    refine PtAllS.cons rfl ⟨rfl, rfl⟩ ?_ (PtAllS.cons rfl ⟨rfl, rfl⟩ ?_ (PtAllS.cons rfl ⟨rfl, rfl⟩ ?_ (PtAllS.cons rfl ⟨rfl, rfl⟩ ?_ (PtAllS.cons rfl ⟨rfl, rfl⟩ ?_ (PtAllS.cons rfl ⟨rfl, rfl⟩ ?_ (PtAllS.cons rfl ⟨rfl, rfl⟩ ?_ (PtAllS.cons rfl ⟨rfl, rfl⟩ ?_ (PtAllS.cons rfl ⟨rfl, rfl⟩ ?_ (PtAllS.cons rfl ⟨rfl, rfl⟩ ?_ (PtAllS.cons rfl ⟨rfl, rfl⟩ ?_ (PtAllS.cons rfl ⟨rfl, rfl⟩ ?_ (PtAllS.cons rfl ⟨rfl, rfl⟩ ?_ (PtAllS.cons rfl ⟨rfl, rfl⟩ ?_ (PtAllS.cons rfl ⟨rfl, rfl⟩ ?_ (PtAllS.cons rfl ⟨rfl, rfl⟩ ?_ (PtAllS.nil rfl))))))))))))))))
    · intro L a W K hI hn hd hK
      have e0 : a.eval (.tmp 0) = .pointer (some ⟨l, 0, none⟩) := hI.ev 0 (by show ¬ (0 ∈ [19, 20, 21, 22, 23, 24, 25, 26, 27, 28, 29, 30, 18, 31, 32, 6]); decide) rfl
      exact pt_move _ (by first | exact .inl rfl | exact .inr rfl) _ e0 (hK _ _ ⟨fun h => hI.j.1 (by simpa using h), hI.j.2⟩ PtKeep.refl rfl)
    · intro L a W K hI hn hd hK
      have e19 : a.eval (.tmp 19) = .pointer (some ⟨l, 0, none⟩) := hI.fact 0 19 _ rfl (dep_of hd 0 (by kernel_rfl))
      exact pt_val (v := .pointer (some ⟨l, 0, none⟩)) (by unfold execOp; simp only [e19]; kernel_rfl) (hK _ _ ⟨fun h => hI.j.1 (by simpa using h), hI.j.2⟩ PtKeep.refl rfl)
    · intro L a W K hI hn hd hK
      have e20 : a.eval (.tmp 20) = .pointer (some ⟨l, 0, none⟩) := hI.fact 1 20 _ rfl (dep_of hd 1 (by kernel_rfl))
      exact pt_val (v := .pointer (some ⟨l, 0, none⟩)) (by unfold execOp; simp only [e20]; kernel_rfl) (hK _ _ ⟨fun h => hI.j.1 (by simpa using h), hI.j.2⟩ PtKeep.refl rfl)
    · intro L a W K hI hn hd hK
      have e21 : a.eval (.tmp 21) = .pointer (some ⟨l, 0, none⟩) := hI.fact 2 21 _ rfl (dep_of hd 2 (by kernel_rfl))
      exact pt_load _ (.tmp 21) rfl ⟨l, 0, none⟩ (.pointer (some ⟨b, 0, none⟩)) _ e21 (HC0.out _ hI.j.2) Tryz.underlying23 rfl (hK _ _ ⟨fun h => hI.j.1 (by simpa using h), hI.j.2⟩ PtKeep.refl rfl)
    · intro L a W K hI hn hd hK
      have e1 : a.eval (.tmp 1) = .int .u64 hN := hI.ev 1 (by show ¬ (1 ∈ [19, 20, 21, 22, 23, 24, 25, 26, 27, 28, 29, 30, 18, 31, 32, 6]); decide) rfl
      exact pt_move _ (by first | exact .inl rfl | exact .inr rfl) _ e1 (hK _ _ ⟨fun h => hI.j.1 (by simpa using h), hI.j.2⟩ PtKeep.refl rfl)
    · intro L a W K hI hn hd hK
      have e0 : a.eval (.tmp 0) = .pointer (some ⟨l, 0, none⟩) := hI.ev 0 (by show ¬ (0 ∈ [19, 20, 21, 22, 23, 24, 25, 26, 27, 28, 29, 30, 18, 31, 32, 6]); decide) rfl
      exact pt_move _ (by first | exact .inl rfl | exact .inr rfl) _ e0 (hK _ _ ⟨fun h => hI.j.1 (by simpa using h), hI.j.2⟩ PtKeep.refl rfl)
    · intro L a W K hI hn hd hK
      have e24 : a.eval (.tmp 24) = .pointer (some ⟨l, 0, none⟩) := hI.fact 5 24 _ rfl (dep_of hd 5 (by kernel_rfl))
      exact pt_val (v := .pointer (some ⟨l, 0, none⟩)) (by unfold execOp; simp only [e24]; kernel_rfl) (hK _ _ ⟨fun h => hI.j.1 (by simpa using h), hI.j.2⟩ PtKeep.refl rfl)
    · intro L a W K hI hn hd hK
      have e25 : a.eval (.tmp 25) = .pointer (some ⟨l, 0, none⟩) := hI.fact 6 25 _ rfl (dep_of hd 6 (by kernel_rfl))
      exact pt_val (v := .pointer (some ⟨l, 1, none⟩)) (by unfold execOp; simp only [e25]; kernel_rfl) (hK _ _ ⟨fun h => hI.j.1 (by simpa using h), hI.j.2⟩ PtKeep.refl rfl)
    · intro L a W K hI hn hd hK
      have e26 : a.eval (.tmp 26) = .pointer (some ⟨l, 1, none⟩) := hI.fact 7 26 _ rfl (dep_of hd 7 (by kernel_rfl))
      exact pt_load _ (.tmp 26) rfl ⟨l, 1, none⟩ (.pointer (some ⟨r, 0, none⟩)) _ e26 (HC1.out _ hI.j.2) Tryz.underlying78 rfl (hK _ _ ⟨fun h => hI.j.1 (by simpa using h), hI.j.2⟩ PtKeep.refl rfl)
    · intro L a W K hI hn hd hK
      have e27 : a.eval (.tmp 27) = .pointer (some ⟨r, 0, none⟩) := hI.fact 8 27 _ rfl (dep_of hd 8 (by kernel_rfl))
      refine wp_callc (f := 57) (args := #[a.eval (.tmp 27)]) (by kernel_rfl) ?_
      rw [e27]
      refine (HTl.out _ hI.j.2).mono ?_
      rintro x W' ⟨rfl, ho⟩
      exact ⟨_, rfl, hK _ _ ⟨fun h => (hI.j.1 (by simpa using h)).trans ho (fun _ _ e => e.elim), hI.j.2.trans ho (fun _ _ e => e.elim)⟩ (hstab.keep ho) rfl⟩
    · intro L a W K hI hn hd hK
      have e23 : a.eval (.tmp 23) = .int .u64 hN := hI.fact 4 23 _ rfl (dep_of hd 4 (by kernel_rfl))
      have e28 : a.eval (.tmp 28) = .int .u64 T := hI.fact 9 28 _ rfl (dep_of hd 9 (by kernel_rfl))
      have ho := only_new W (.cells #[.int .u64 hN, .int .u64 T] 72)
      exact wp_value (w' := W.alloc (.cells #[.int .u64 hN, .int .u64 T] 72)) (v := .slice (some ⟨W.heap.size, 0, none⟩) 2 2) (by unfold execOp; simp only [e23, e28, List.map_toArray, List.map_cons, List.map_nil]; kernel_rfl) (hK _ _ ⟨fun h => (hI.j.1 (by simpa using h)).trans ho (fun _ _ e => e), hI.j.2.trans ho (fun _ _ e => e.elim)⟩ (hstab.keep ho) ⟨W.heap.size, rfl, hI.j.2.size, blk_new W _⟩)
    · intro L a W K hI hn hd hK
      have e22 : a.eval (.tmp 22) = .pointer (some ⟨b, 0, none⟩) := hI.fact 3 22 _ rfl (dep_of hd 3 (by kernel_rfl))
      have f29 := hI.fact 10 29 _ rfl (dep_of hd 10 (by kernel_rfl))
      obtain ⟨g29, e29, l29, b29⟩ := f29
      have hW := hI.j.1 hn
      refine wp_callc (f := 61) (args := #[a.eval (.tmp 22), .int .i64 0, a.eval (.tmp 29)]) (by kernel_rfl) ?_
      rw [e22, e29]
      refine (HPut.out W hW _ ⟨_, _, rfl, fun _ => ⟨g29, 0, rfl, fun i u hu => by rw [Nat.zero_add]; refine (cell_blk b29 i).trans ?_; simpa [nat64] using hu⟩⟩).mono ?_
      rintro x W' ⟨rfl, F2, hd2, ho, hn2⟩
      exact ⟨_, rfl, hK _ _ ⟨fun h => by simp at h, hI.j.2.trans ho (fun _ _ e => e)⟩ (PtStab.keep (R := Only FD) ⟨fun _ _ _ _ _ h => h, fun _ _ _ _ _ h => h, fun _ _ _ _ _ h => h, fun _ _ _ _ _ h => h, fun _ _ _ _ _ h => h, fun _ _ _ _ _ h => h, fun _ _ _ _ _ h => h, fun _ _ _ _ _ h => h, fun _ _ _ _ _ h => h, fun _ _ _ _ _ h => h, fun _ W W' v hr ⟨g, h1, h2, h3⟩ => ⟨g, h1, h2, blk_only h3 hr (fun e => by have := HFD.out g e; omega)⟩, fun h => absurd rfl h, fun _ _ _ _ _ h => h, fun _ _ _ _ _ h => h, fun _ _ _ _ _ h => h, fun _ W W' v hr ⟨gs, h1, h2, h3⟩ => ⟨gs, h1, h2, blk_only h3 hr (fun e => by have := HFD.out gs e; omega)⟩, trivial⟩ ho) ⟨rfl, F2, hd2, fun k hk => (hn2 k hk).imp id (fun h => by have := hI.j.2.size; omega)⟩⟩
    · intro L a W K hI hn hd hK
      have f30 := hI.fact 11 30 _ rfl (dep_of hd 11 (by kernel_rfl))
      exact pt_move _ (by first | exact .inl rfl | exact .inr rfl) _ f30.1 (hK _ _ ⟨fun h => hI.j.1 (by simpa using h), hI.j.2⟩ PtKeep.refl rfl)
    · intro L a W K hI hn hd hK
      have e18 : a.eval (.tmp 18) = .tuple #[.agg MV, .int .i64 c] := hI.fact 12 18 _ rfl (dep_of hd 12 (by kernel_rfl))
      exact pt_val (v := .agg MV) (by unfold execOp; simp only [e18]; kernel_rfl) (hK _ _ ⟨fun h => hI.j.1 (by simpa using h), hI.j.2⟩ PtKeep.refl rfl)
    · intro L a W K hI hn hd hK
      have e18 : a.eval (.tmp 18) = .tuple #[.agg MV, .int .i64 c] := hI.fact 12 18 _ rfl (dep_of hd 12 (by kernel_rfl))
      exact pt_val (v := .int .i64 c) (by unfold execOp; simp only [e18]; kernel_rfl) (hK _ _ ⟨fun h => hI.j.1 (by simpa using h), hI.j.2⟩ PtKeep.refl rfl)
    · intro L a W K hI hn hd hK
      have ho := only_new W (.cells MarkM.zero.V 75)
      exact wp_value (w' := W.alloc (.cells MarkM.zero.V 75)) (v := .pointer (some ⟨W.heap.size, 0, none⟩)) (by kernel_rfl) (hK _ _ ⟨fun h => (hI.j.1 (by simpa using h)).trans ho (fun _ _ e => e), hI.j.2.trans ho (fun _ _ e => e.elim)⟩ (hstab.keep ho) ⟨W.heap.size, rfl, hI.j.2.size, blk_new W _⟩)
  · intro L a w3 hal hj hfs
    dsimp only [PtAll] at hfs
    obtain ⟨f19, f20, f21, f22, f23, f24, f25, f26, f27, f28, f29, f30, f18, f31, f32, f6, -⟩ := hfs
    obtain ⟨g29, f29, l29, b29⟩ := f29
    obtain ⟨f30, F2, hd2, hn2⟩ := f30
    obtain ⟨gs, f6, l6, b6⟩ := f6
    have hA := hal.turned
    simp only [List.map_cons, List.map_nil, Act.turned, f19, f20, f21, f22, f23, f24, f25, f26, f27, f28, f29, f30, f18, f31, f32, f6] at hA
    simp only [Act.put, List.setIfInBounds_toArray, List.set_cons_zero, List.set_cons_succ] at hA
    clear hal f19 f20 f21 f22 f23 f24 f25 f26 f27 f28 f29 f30 f18 f31 f32 f6
    subst hA
    change wpList _ _ _ [_, _] _ _
    have HJ := hid hj.2
    have hd2 := hd2.drop b6
    have hn2 : ∀ k, F2 k ∧ k ≠ gs → FD k ∨ w1.heap.size ≤ k := fun k hk => hn2 k hk.1
    have HGS := hid b6
    have L6 := hid l6
    have HR3 : Hid (LogRep w3 l b r { M with D := D2 } wv FR (fun k => F2 k ∧ k ≠ gs) FW) := hid (by
      have h1 := HR1.out.turn (D' := D2) hd2 hj.2 hn2
      exact h1)
    have HN2 := hid hn2
    clear hj b6 l6 hd2 hn2 b29 l29
    go_wp2_with ((guard_target =~ wpList _ _ _ (⟨none, .store 75 (.tmp 6) _, _, _, _, _⟩ :: _) _ _); refine wpList_store_all rfl 75 (.tmp 6) (.tmp 31) rfl gs MV rfl rfl MarkM.zero.V 75 HGS.out HMs.out HMi.out HM1.out ?_; intro w4 hb4 ho4 hs4; have HO4 := hid ho4; clear hb4 ho4 hs4)
    refine NoPanic.normal ?_
    have hgsF : ∀ k, k < w1.heap.size → ¬ k = gs := fun k hk e => by have := L6.out; omega
    have HO14 : Hid (Only FD w1 w4) := hid (HJ.out.trans HO4.out (fun k hk e => by have e' : k = gs := e; exact (hgsF k hk e').elim))
    have HR4 : Hid (LogRep w4 l b r { M with D := D2 } wv FR (fun k => F2 k ∧ k ≠ gs) FW) := hid (by
      have hl1 := blk_lt HR1.out.blk
      refine HR3.out.only HO4.out (hgsF l hl1) (fun k hk => hgsF k ?_) (fun k hk e => hk.2 e) (fun k hk => hgsF k (HR1.out.wl k hk))
      obtain ⟨rv, hR⟩ := HR1.out.ring; exact hR.lt k hk)
    have HP2 : Hid (putR M.D.flush.1 0 [hN, M.R.tail] = (D2, mk, c)) := hid (by rw [HD1.out, HT.out]; exact HP.out)
    have hlw4 := blk_lt HR4.out.blk
    have r0 : w4.cell? ⟨l, 0, none⟩ = some (.pointer (some ⟨b, 0, none⟩)) := cell_blk HR4.out.blk 0
    have HO4' : Hid (Only F w w4) := hid ((Ho1.out.mono (G := F) (fun k _ e => (HF.out k).2 (.inr (.inr (.inl e))))).trans (HO14.out.mono (G := F) (fun k _ e => (HF.out k).2 (.inr (.inr (.inl e))))) (fun _ _ e => e))
    have HN4 : Hid (∀ k, F2 k ∧ k ≠ gs → F k ∨ w.heap.size ≤ k) := hid fun k hk => by
      rcases HN2.out k hk with e | e
      · exact .inl ((HF.out k).2 (.inr (.inr (.inl e))))
      · exact .inr (by have := Ho1.out.size; omega)
    clear hgsF hn2
    by_cases hc0 : c = 0
    · subst hc0
      have E1 : Hid (M.settle hN = ({ M with D := D2, head := hN, tail := M.R.tail }, 0)) := hid (by unfold WM.settle; rw [if_neg (by simp [Hyes.out]), if_neg (by rw [HP2.out]; simp), HP2.out])
      have r1 : w4.cell? ⟨l, 1, none⟩ = some (.pointer (some ⟨r, 0, none⟩)) := cell_blk HR4.out.blk 1
      have r2 : w4.cell? ⟨l, 2, none⟩ = some (.int .u64 M.head) := cell_blk HR4.out.blk 2
      have r3 : w4.cell? ⟨l, 3, none⟩ = some (.int .u64 M.tail) := cell_blk HR4.out.blk 3
      have hz := frozen_blk HR4.out.blk
      have HTc : Hid (Calls Tryz.prog 57 #[.pointer (some ⟨r, 0, none⟩)] w4 fun e w' => e = .returned (.int .u64 T) ∧ w4 = w') := hid (by rw [← HT.out]; exact tail_c HR4.out.ring)
      go_wp2_with fail
      refine HTc.out.mono ?_
      rintro e w5 ⟨rfl, rfl⟩
      go_wp2_with fail
      go_ret
      rw [E1.out]
      have ho2 : Only (fun k => k = l) w4 ((w4.setCell ⟨l, 2, none⟩ (.int .u64 hN)).setCell ⟨l, 3, none⟩ (.int .u64 T)) := (only_set l 2 _).trans (only_set l 3 _) (fun _ _ e => e)
      refine ⟨rfl, fun k => k = l ∨ FR k ∨ (F2 k ∧ k ≠ gs) ∨ FW k, ⟨wv, FR, _, FW, HR4.out.upd ho2 { M with D := D2, head := hN, tail := M.R.tail } wv ?_ rfl rfl (HR4.out.wait.only ho2 (fun k hk e => HR4.out.lw (e ▸ hk))) hh (by show M.R.tail ≤ _; rw [HT.out]; exact htl) HR4.out.w64, fun k => Iff.rfl⟩, HO4'.out.trans ho2 (fun k hk e => (HF.out k).2 (.inl e)), fun k hk => ?_⟩
      · have := blk_set (blk_set HR4.out.blk 2 (.int .u64 hN)) 3 (.int .u64 T)
        rw [← HT.out] at this ⊢
        simpa [logCells] using this
      · rcases hk with e | e | e | e
        · exact .inl ((HF.out k).2 (.inl e))
        · exact .inl ((HF.out k).2 (.inr (.inl e)))
        · exact HN4.out k e
        · exact .inl ((HF.out k).2 (.inr (.inr (.inr e))))
    · have E1 : Hid (M.settle hN = ({ M with D := D2, failed := true }, c)) := hid (by unfold WM.settle; rw [if_neg (by simp [Hyes.out]), if_pos (by rw [HP2.out]; exact hc0), HP2.out])
      have hcb : (c != 0) = true := by simpa using hc0
      have HLG : Hid (LogAt w4 l b r { M with D := D2 } (fun k => k = l ∨ FR k ∨ (F2 k ∧ k ≠ gs) ∨ FW k)) := hid ⟨wv, FR, _, FW, HR4.out, fun k => Iff.rfl⟩
      clear hc0
      go_wp2_with fail
      refine (fail_c HLG.out c).mono ?_
      rintro e w5 ⟨rfl, hl5, ho5⟩
      have HL5 := hid hl5; have HO5 := hid ho5
      clear hl5 ho5
      go_wp2_with fail
      go_ret
      rw [E1.out]
      refine ⟨rfl, _, HL5.out, HO4'.out.trans HO5.out (fun k hk e => ?_), fun k hk => ?_⟩
      · rcases e with e | e | e | e
        · exact (HF.out k).2 (.inl e)
        · exact (HF.out k).2 (.inr (.inl e))
        · rcases HN4.out k e with g | g
          · exact g
          · omega
        · exact (HF.out k).2 (.inr (.inr (.inr e)))
      · rcases hk with e | e | e | e
        · exact .inl ((HF.out k).2 (.inl e))
        · exact .inl ((HF.out k).2 (.inr (.inl e)))
        · exact HN4.out k e
        · exact .inl ((HF.out k).2 (.inr (.inr (.inr e))))
theorem settle_c (h : LogAt w l b r M F) (hN : Nat) (hh : hN ≤ 9223372036854775807) (htl : M.R.tail ≤ 9223372036854775807) :
    Calls Tryz.prog 35 #[.pointer (some ⟨l, 0, none⟩), .int .u64 hN] w fun e w' => e = .returned (.int .i64 (M.settle hN).2) ∧ LStep w w' l b r (M.settle hN).1 F := by
  by_cases hyes : M.D.flush.2 = 0
  · exact settle_go h hN hh hyes htl
  · exact settle_no h hN hyes
end
end Go.Proofs.YtfmdngeooelcpaaGreat
namespace Go.Proofs.YtfmdngeooelcpaaGreat
open Go.RowKit

theorem ringRun_n (R : RingM) : ∀ (f a : Nat) (all : List UInt8) (D : DiskM), (ringRun R f a all D).1.n = D.n
  | 0, _, _, _ => rfl
  | f + 1, a, all, D => by
    rw [ringRun]
    split
    · rfl
    · split
      · exact write_n _ _ _
      · split
        · exact write_n _ _ _
        · rw [ringRun_n R f]; exact write_n _ _ _
theorem append_keeps (R : RingM) (head : Nat) (s : List UInt8) (D : DiskM) : (R.append head s D).1.first = R.first ∧ (R.append head s D).1.count = R.count ∧ (R.append head s D).2.1.n = D.n ∧ R.tail ≤ (R.append head s D).1.tail ∧ (R.append head s D).1.tail ≤ R.tail + s.length := by
  unfold RingM.append
  split
  · exact ⟨rfl, rfl, rfl, Nat.le_refl _, Nat.le_add_right _ _⟩
  · split
    · exact ⟨rfl, rfl, rfl, Nat.le_refl _, Nat.le_add_right _ _⟩
    · dsimp only
      split
      · exact ⟨rfl, rfl, ringRun_n _ _ _ _ _, Nat.le_add_right _ _, Nat.le_refl _⟩
      · exact ⟨rfl, rfl, ringRun_n _ _ _ _ _, Nat.le_refl _, Nat.le_add_right _ _⟩
theorem frame_len (A kind : Nat) (s : List UInt8) : (frameN A kind s).length = 9 + s.length := by simp [frameN]; omega
theorem pad_len (a n : Nat) : (padN a n).length ≤ 2048 := by unfold padN; split <;> simp [zeros, roomN]
/-- A frame that was laid, or not: what stays. -/
theorem lay_keeps (M : WM) (kind : Nat) (s : List UInt8) (hs : s.length ≤ 2039) : (M.lay kind s).R.first = M.R.first ∧ (M.lay kind s).R.count = M.R.count ∧ (M.lay kind s).D.n = M.D.n ∧ (M.lay kind s).R.tail ≤ M.R.tail + 4096 ∧ M.R.tail ≤ (M.lay kind s).R.tail ∧ (M.lay kind s).head = M.head ∧ (M.lay kind s).tail = M.tail ∧ (M.lay kind s).wait = M.wait ∧ (M.lay kind s).failed = M.failed := by
  obtain ⟨h1, h2, h3, h4, h5⟩ := append_keeps M.R M.head (padN M.R.tail s.length ++ frameN (placeN M.R.tail s.length) kind s) M.D
  rw [List.length_append, frame_len] at h5
  have := pad_len M.R.tail s.length
  exact ⟨h1, h2, h3, Nat.le_trans h5 (by omega), h4, rfl, rfl, rfl, rfl⟩
/-- Frames that are laid one behind the other, up to the first that isn't: how many were, and the error. -/
def WM.lays (M : WM) : List (Nat × List UInt8) → WM × Nat × Int
  | [] => (M, 0, 0)
  | (k, s) :: fs => if (M.laid k s).2.2 ≠ 0 then (M.lay k s, 0, (M.laid k s).2.2) else (((M.lay k s).lays fs).1, ((M.lay k s).lays fs).2.1 + 1, ((M.lay k s).lays fs).2.2)
theorem lays_app : ∀ (a b : List (Nat × List UInt8)) (M M' : WM), M.lays a = (M', a.length, 0) → M.lays (a ++ b) = ((M'.lays b).1, a.length + (M'.lays b).2.1, (M'.lays b).2.2)
  | [], b, M, M', h => by
    simp only [WM.lays, Prod.mk.injEq] at h
    rw [List.nil_append, ← h.1]; simp
  | (k, s) :: a, b, M, M', h => by
    rw [WM.lays] at h
    rw [List.cons_append, WM.lays]
    split at h
    · rename_i hn
      simp only [Prod.mk.injEq] at h
      exact absurd h.2.2 hn
    · rename_i hn
      rw [if_neg hn]
      simp only [Prod.mk.injEq, List.length_cons] at h
      have ih := lays_app a b (M.lay k s) M' (by rw [← h.1]; refine Prod.ext rfl (Prod.ext ?_ h.2.2); simpa using h.2.1)
      rw [ih]
      simp only [List.length_cons, Prod.mk.injEq, true_and, and_true]
      omega
theorem lays_snoc {fs : List (Nat × List UInt8)} {M M' : WM} (h : M.lays fs = (M', fs.length, 0)) {k : Nat} {s : List UInt8} (h0 : (M'.laid k s).2.2 = 0) : M.lays (fs ++ [(k, s)]) = (M'.lay k s, (fs ++ [(k, s)]).length, 0) := by
  rw [lays_app _ _ _ _ h, WM.lays, if_neg (by simp [h0]), WM.lays]
  simp
theorem lays_stop {fs r : List (Nat × List UInt8)} {M M' : WM} (h : M.lays fs = (M', fs.length, 0)) {k : Nat} {s : List UInt8} (h0 : (M'.laid k s).2.2 ≠ 0) : M.lays (fs ++ (k, s) :: r) = (M'.lay k s, fs.length, (M'.laid k s).2.2) := by
  rw [lays_app _ _ _ _ h, WM.lays, if_pos h0]
  simp
/-- The batches that wait are committed. -/
def WM.commit (M : WM) : WM × Nat × Int :=
  if M.failed then (M, 0, 50)
  else if (M.lays (M.wait.map fun s => (1, s))).2.2 ≠ 0 ∧ (M.lays (M.wait.map fun s => (1, s))).2.2 ≠ 3 then ({ (M.lays (M.wait.map fun s => (1, s))).1 with failed := true }, 0, (M.lays (M.wait.map fun s => (1, s))).2.2)
  else if (M.lays (M.wait.map fun s => (1, s))).2.1 = 0 then ((M.lays (M.wait.map fun s => (1, s))).1, 0, (M.lays (M.wait.map fun s => (1, s))).2.2)
  else if ((M.lays (M.wait.map fun s => (1, s))).1.settle (M.lays (M.wait.map fun s => (1, s))).1.head).2 ≠ 0 then (((M.lays (M.wait.map fun s => (1, s))).1.settle (M.lays (M.wait.map fun s => (1, s))).1.head).1, 0, ((M.lays (M.wait.map fun s => (1, s))).1.settle (M.lays (M.wait.map fun s => (1, s))).1.head).2)
  else ({ ((M.lays (M.wait.map fun s => (1, s))).1.settle (M.lays (M.wait.map fun s => (1, s))).1.head).1 with wait := M.wait.drop (M.lays (M.wait.map fun s => (1, s))).2.1 }, (M.lays (M.wait.map fun s => (1, s))).2.1, (M.lays (M.wait.map fun s => (1, s))).2.2)
/-- The log's parts, from world w on. -/
structure LG (w w' : World) (l b r : Nat) (M M' : WM) (wv : Value) (FR FD FW FR' FD' : Nat → Prop) : Prop where
  rep : LogRep w' l b r M' wv FR' FD' FW
  only : Only (fun k => FR k ∨ FD k) w w'
  n1 : ∀ k, FR' k → FR k ∨ w.heap.size ≤ k
  n2 : ∀ k, FD' k → FD k ∨ w.heap.size ≤ k
  c1 : M'.R.first = M.R.first ∧ M'.R.count = M.R.count ∧ M'.D.n = M.D.n
  c2 : M'.head = M.head ∧ M'.tail = M.tail ∧ M'.wait = M.wait ∧ M'.failed = M.failed
section
variable {w w' : World} {l b r : Nat} {M M' : WM} {wv : Value} {FR FD FW FR' FD' F : Nat → Prop}
theorem LG.refl (h : LogRep w l b r M wv FR FD FW) : LG w w l b r M M wv FR FD FW FR FD := ⟨h, Only.refl _ _, fun _ e => .inl e, fun _ e => .inl e, ⟨rfl, rfl, rfl⟩, rfl, rfl, rfl, rfl⟩
theorem LG.same (h : LG w w' l b r M M' wv FR FD FW FR' FD') {w2 : World} (ho : Only (fun _ => False) w' w2) : LG w w2 l b r M M' wv FR FD FW FR' FD' :=
  ⟨h.rep.only ho (fun e => e) (fun _ _ e => e) (fun _ _ e => e) (fun _ _ e => e), h.only.trans ho (fun _ _ e => e.elim), h.n1, h.n2, h.c1, h.c2⟩
theorem LG.lay (h : LG w w' l b r M M' wv FR FD FW FR' FD') {w2 : World} {kind : Nat} {s : List UInt8} (hs : s.length ≤ 2039) {e : Ending} (hp : LayPost w' l b r M' wv FR' FD' FW kind s e w2) : ∃ FR2 FD2, LG w w2 l b r M (M'.lay kind s) wv FR FD FW FR2 FD2 := by
  obtain ⟨-, FR2, FD2, h1, h2, h3, h4⟩ := hp
  obtain ⟨k1, k2, k3, -, -, k6, k7, k8, k9⟩ := lay_keeps M' kind s hs
  have hz := h.only.size
  have up : ∀ k, FR' k ∨ FD' k → k < w.heap.size → FR k ∨ FD k := fun k hk hl => by
    rcases hk with hk | hk
    · rcases h.n1 k hk with e | e
      · exact .inl e
      · omega
    · rcases h.n2 k hk with e | e
      · exact .inr e
      · omega
  refine ⟨FR2, FD2, h1, h.only.trans h2 (fun k hl hk => up k hk hl), fun k hk => ?_, fun k hk => ?_, ⟨k1.trans h.c1.1, k2.trans h.c1.2.1, k3.trans h.c1.2.2⟩, k6.trans h.c2.1, k7.trans h.c2.2.1, k8.trans h.c2.2.2.1, k9.trans h.c2.2.2.2⟩
  · rcases h3 k hk with e | e
    · exact h.n1 k e
    · exact .inr (by omega)
  · rcases h4 k hk with e | e
    · exact h.n2 k e
    · exact .inr (by omega)
/-- Seen from outside. -/
theorem LG.at (h : LG w w' l b r M M' wv FR FD FW FR' FD') (hf : ∀ k, F k ↔ k = l ∨ FR k ∨ FD k ∨ FW k) : LogAt w' l b r M' (fun k => k = l ∨ FR' k ∨ FD' k ∨ FW k) ∧ Only F w w' ∧ ∀ k, (k = l ∨ FR' k ∨ FD' k ∨ FW k) → F k ∨ w.heap.size ≤ k :=
  ⟨⟨wv, FR', FD', FW, h.rep, fun k => Iff.rfl⟩, h.only.mono (fun k _ e => (hf k).2 (e.elim (fun e => .inr (.inl e)) (fun e => .inr (.inr (.inl e))))), fun k hk => by
    rcases hk with e | e | e | e
    · exact .inl ((hf k).2 (.inl e))
    · exact (h.n1 k e).imp (fun e => (hf k).2 (.inr (.inl e))) id
    · exact (h.n2 k e).imp (fun e => (hf k).2 (.inr (.inr (.inl e)))) id
    · exact .inl ((hf k).2 (.inr (.inr (.inr e))))⟩
theorem LStep.trans {w1 w2 : World} {M2 : WM} {F F1 : Nat → Prop} (h1 : Only F w w1) (hF : ∀ k, F1 k → F k ∨ w.heap.size ≤ k) (h : LStep w1 w2 l b r M2 F1) : LStep w w2 l b r M2 F := by
  obtain ⟨F2, a1, a2, a3⟩ := h
  have hz := h1.size
  refine ⟨F2, a1, h1.trans a2 (fun k hl hk => (hF k hk).resolve_right (by omega)), fun k hk => ?_⟩
  rcases a3 k hk with e | e
  · exact hF k e
  · exact .inr (by omega)
end
noncomputable def cmB (id : Nat) : Code := ((Tryz.f11.body).bind (blkOf id)).getD .skip
theorem lit67 (v : Nat → Value) : ((List.range 67).map v).toArray = #[v 0, v 1, v 2, v 3, v 4, v 5, v 6, v 7, v 8, v 9, v 10, v 11, v 12, v 13, v 14, v 15, v 16, v 17, v 18, v 19, v 20, v 21, v 22, v 23, v 24, v 25, v 26, v 27, v 28, v 29, v 30, v 31, v 32, v 33, v 34, v 35, v 36, v 37, v 38, v 39, v 40, v 41, v 42, v 43, v 44, v 45, v 46, v 47, v 48, v 49, v 50, v 51, v 52, v 53, v 54, v 55, v 56, v 57, v 58, v 59, v 60, v 61, v 62, v 63, v 64, v 65, v 66] := by kernel_rfl
section
variable {w w1 : World} {l b r : Nat} {M : WM} {FR FD FW : Nat → Prop} {Q : Exit → Act → World → Prop}
set_option maxRecDepth 100000 in
set_option maxHeartbeats 3200000 in
theorem cm0 {a : Act} {ao : Option Addr} {cap : Nat} (h : LogRep w l b r M (.slice ao M.wait.length cap) FR FD FW) (hfit : M.R.first + M.R.count ≤ M.D.n) (htl : M.R.tail ≤ 4611686018427000000)
    (hL : Lv 67 a [(0, .pointer (some ⟨l, 0, none⟩)), (4, .int .i64 0), (5, .int .i64 0), (18, .slice ao M.wait.length cap), (19, .int .i64 M.wait.length), (20, .int .i64 0)])
    (hR : ∀ a' w' M' n (e : Int) (FR' FD' : Nat → Prop), Lv 67 a' [(2, .int .i64 0), (3, .int .i64 e)] → M.lays (M.wait.map fun s => (1, s)) = (M', n, e) → e ≠ 0 → e ≠ 3 → LogAt w' l b r { M' with failed := true } (fun k => k = l ∨ FR' k ∨ FD' k ∨ FW k) → Only (fun k => k = l ∨ FR k ∨ FD k ∨ FW k) w w' → (∀ k, FR' k → FR k ∨ w.heap.size ≤ k) → (∀ k, FD' k → FD k ∨ w.heap.size ≤ k) → Q .ret a' w')
    (hQ : ∀ a' w' M' n (e : Int) (FR' FD' : Nat → Prop), Lv 67 a' [(0, .pointer (some ⟨l, 0, none⟩)), (4, .int .i64 (n : Nat)), (5, .int .i64 e)] → M.lays (M.wait.map fun s => (1, s)) = (M', n, e) → (e = 0 ∨ e = 3) → n ≤ M.wait.length → LG w w' l b r M M' (.slice ao M.wait.length cap) FR FD FW FR' FD' → M'.R.tail ≤ M.R.tail + 4096 * 65 → Q .normal a' w') :
    (cmB 0).wp Tryz.prog Q a w := by
  refine Code.wp_mono NoPanic.imp ?_
  conv => arg 2; whnf
  refine wp_block (wp_loop (fun a' w' => ∃ (j : Nat) (M' : WM) (FR' FD' : Nat → Prop), j ≤ M.wait.length ∧ Lv 67 a' [(0, .pointer (some ⟨l, 0, none⟩)), (4, .int .i64 (j : Nat)), (5, .int .i64 0), (18, .slice ao M.wait.length cap), (19, .int .i64 M.wait.length), (20, .int .i64 (j : Nat))] ∧ LG w w' l b r M M' (.slice ao M.wait.length cap) FR FD FW FR' FD' ∧ M.lays ((M.wait.take j).map fun s => (1, s)) = (M', ((M.wait.take j).map fun s => ((1 : Nat), s)).length, 0) ∧ M'.R.tail ≤ M.R.tail + 4096 * j)
    (fun a' _ => M.wait.length - (intOf (a'.tmps.getD 20 undef)).toNat) ⟨0, M, FR, FD, Nat.zero_le _, hL, LG.refl h, rfl, Nat.le_refl _⟩ ?_)
  clear hL
  rintro a' w' ⟨j, M', FR', FD', hj, hI, hlg, hly, ht⟩
  obtain ⟨v, rfl, hv⟩ := act_fn hI
  rw [lit67] at hI ⊢
  obtain ⟨g0, g4, g5, g18, g19, g20, -⟩ := hI
  change v 0 = _ at g0
  change v 4 = _ at g4
  change v 5 = _ at g5
  change v 18 = _ at g18
  change v 19 = _ at g19
  change v 20 = _ at g20
  rw [g0, g4, g5, g18, g19, g20]
  clear g0 g4 g5 g18 g19 g20 hv
  have HQ := hid hQ; have HR := hid hR; have HLG := hid hlg; have HLY := hid hly
  have h64 := h.w64
  clear hQ hR hly h
  by_cases hjl : j < M.wait.length
  · have hji : (j : Int) < M.wait.length := by omega
    obtain ⟨s, hs⟩ : ∃ t, M.wait[j]? = some t := ⟨_, List.getElem?_eq_getElem hjl⟩
    obtain ⟨g, pa, pc, rfl, hc7, hsrc, hsep, hsl⟩ : ∃ g pa pc, ao = some ⟨g, 0, none⟩ ∧ w'.cell? ⟨g, j, none⟩ = some (.slice pa s.length pc) ∧ Src w' (.slice pa s.length pc) s ∧ (s ≠ [] → ∀ g' o', pa = some ⟨g', o', none⟩ → ¬ (FR' g' ∨ FD' g')) ∧ s.length ≤ 2039 := by
      obtain ⟨ao2, cap2, e1, e2⟩ := hlg.rep.wait
      simp only [Value.slice.injEq] at e1
      obtain ⟨rfl, hel, rfl⟩ := e1
      rw [hlg.c2.2.2.1] at e2
      rcases e2 with ⟨-, -, e⟩ | ⟨g, vs, rfl, hg, hr, hl, hh⟩
      · rw [e] at hs; simp at hs
      · obtain ⟨pa, pc, h1, h2, h3, h4⟩ := hh j s hs
        refine ⟨g, pa, pc, rfl, ?_, h2, fun hne g' o' e => fun hx => ?_, h4⟩
        · rw [hr.cell j (by rw [hl]; exact hjl)]; exact h1
        · have := (h3 hne g' o' e).1
          exact hx.elim (hlg.rep.wr g' this) (hlg.rep.wd g' this)
    have HS := hid hs
    have HLAY : Hid (Calls Tryz.prog 33 #[.pointer (some ⟨l, 0, none⟩), .agg #[.int .i64 1, .slice pa s.length pc]] w' (LayPost w' l b r M' (.slice (some ⟨g, 0, none⟩) M.wait.length cap) FR' FD' FW 1 s)) := hid (lay_c hlg.rep 1 (by decide) pa pc s hsrc hsep hsl (by omega) (by rw [hlg.c1.1, hlg.c1.2.1, hlg.c1.2.2]; exact hfit))
    have HSL := hid hsl
    clear hsrc hsep hlg hs
    go_wp2_with fail
    refine HLAY.out.mono ?_
    rintro x w2 hp
    obtain ⟨FR2, FD2, hlg2⟩ := HLG.out.lay HSL.out hp
    obtain ⟨rfl, -⟩ := hp
    have HLG2 := hid hlg2
    obtain ⟨er, her⟩ : ∃ e, (M'.laid 1 s).2.2 = e := ⟨_, rfl⟩
    rw [her]
    have HER := hid her
    obtain ⟨at', hat⟩ : ∃ e, placeN M'.R.tail s.length = e := ⟨_, rfl⟩
    rw [hat]
    clear her hat hlg2 hc7
    have HTK : Hid (M.wait.map (fun s => ((1 : Nat), s)) = (M.wait.take j).map (fun s => ((1 : Nat), s)) ++ (1, s) :: (M.wait.drop (j + 1)).map (fun s => ((1 : Nat), s))) := hid (by
      have hs := List.getElem?_eq_some_iff.1 HS.out
      obtain ⟨h1, h2⟩ := hs
      conv => lhs; rw [← List.take_append_drop j M.wait, List.drop_eq_getElem_cons h1, h2, List.map_append, List.map_cons])
    have HTK2 : Hid ((M.wait.take (j + 1)).map (fun s => ((1 : Nat), s)) = (M.wait.take j).map (fun s => ((1 : Nat), s)) ++ [(1, s)]) := hid (by rw [List.take_add_one, HS.out, List.map_append]; rfl)
    have HLEN : Hid (((M.wait.take j).map (fun s => ((1 : Nat), s))).length = j) := hid (by rw [List.length_map, List.length_take]; omega)
    by_cases h0 : er = 0
    · subst h0
      go_wp2_with fail
      refine ⟨⟨j + 1, _, FR2, FD2, by omega, ⟨rfl, by show Value.int .i64 _ = _; go_num, rfl, rfl, rfl, by show Value.int .i64 _ = _; go_num, rfl, rfl⟩, HLG2.out, ?_, ?_⟩, by simp [intOf]; omega⟩
      · rw [HTK2.out]; exact lays_snoc HLY.out HER.out
      · have := (lay_keeps M' 1 s HSL.out).2.2.2.1
        omega
    have hz0 : (er != 0) = true := by simpa using h0
    have hST := lays_stop (r := (M.wait.drop (j + 1)).map (fun s => ((1 : Nat), s))) HLY.out (by rw [HER.out]; exact h0)
    rw [← HTK.out, HLEN.out, HER.out] at hST
    have HST := hid hST
    clear hST
    have hkt := (lay_keeps M' 1 s HSL.out).2.2.2.1
    by_cases h3 : er = 3
    · subst h3
      have hb3 : ((3 : Int) == 3) = true := rfl
      go_wp2_with fail
      exact HQ.out _ _ _ _ _ _ _ ⟨rfl, rfl, rfl, rfl, rfl⟩ HST.out (.inr rfl) (by omega) HLG2.out (by omega)
    · have hb3 : (er == 3) = false := by simpa using h3
      obtain ⟨h1, h2, h3'⟩ := HLG2.out.at (F := fun k => k = l ∨ FR k ∨ FD k ∨ FW k) (fun k => Iff.rfl)
      have HAT := hid h1; have HON := hid h2; have HNW := hid h3'
      have HE0 := hid h0; have HE3 := hid h3
      clear h0 h3 h1 h2 h3'
      go_wp2_with fail
      refine (fail_c HAT.out er).mono ?_
      rintro x w3 ⟨rfl, hl3, ho3⟩
      have HL3 := hid hl3
      have HO3 : Hid (Only (fun k => k = l ∨ FR k ∨ FD k ∨ FW k) w w3) := hid (HON.out.trans ho3 (fun k hk e => (HNW.out k e).resolve_right (by omega)))
      clear hl3 ho3
      go_wp2_with fail
      exact HR.out _ _ _ _ _ _ _ ⟨rfl, rfl, rfl, rfl⟩ HST.out HE0.out HE3.out HL3.out HO3.out HLG2.out.n1 HLG2.out.n2
  · obtain rfl : j = M.wait.length := by omega
    rw [List.take_length] at HLY
    have HLEN : Hid ((M.wait.map (fun s => ((1 : Nat), s))).length = M.wait.length) := hid (List.length_map _)
    rw [HLEN.out] at HLY
    clear hlg
    go_wp2_with fail
    exact HQ.out _ _ _ _ _ _ _ ⟨rfl, rfl, rfl, rfl, rfl⟩ HLY.out (.inl rfl) (Nat.le_refl _) HLG.out (by omega)
theorem elW : Elem Tryz.prog 68 31 1 24 := .mk Tryz.underlying68 (z := .slice none 0 0) (by kernel_rfl) rfl
theorem settle_keeps (M : WM) (h : Nat) : (M.settle h).1.wait = M.wait ∧ (M.settle h).1.R = M.R := by
  unfold WM.settle
  split
  · exact ⟨rfl, rfl⟩
  · split <;> exact ⟨rfl, rfl⟩
theorem LogRep.rewait {w w4 : World} {l b r : Nat} {M : WM} {wv : Value} {FR FD FW : Nat → Prop} (h : LogRep w l b r M wv FR FD FW) (ho : Only (fun _ => False) w w4) {ao : Option Addr} {cp n : Nat} {vs : List Value} {ws : List (List UInt8)} (hg : Gr w4 31 1 ao n cp vs) (hao : ∀ g, ao = some ⟨g, 0, none⟩ → w.heap.size ≤ g) (hn : n = ws.length) (h64 : ws.length ≤ 64)
    (hel : ∀ (i : Nat) (x : List UInt8), ws[i]? = some x → ∃ pa pc, vs[i]? = some (Value.slice pa x.length pc) ∧ Src w (.slice pa x.length pc) x ∧ (x ≠ [] → ∀ g' o', pa = some ⟨g', o', none⟩ → FW g') ∧ x.length ≤ 2039) :
    LogRep (w4.setCell ⟨l, 4, none⟩ (.slice ao n cp)) l b r { M with wait := ws } (.slice ao n cp) FR FD (fun k => FW k ∨ ao = some ⟨k, 0, none⟩) := by
  subst hn
  have hl := blk_lt h.blk
  have ho5 : Only (fun k => k = l) w (w4.setCell ⟨l, 4, none⟩ (.slice ao ws.length cp)) := (ho.mono (fun _ _ e => e.elim)).trans (only_set l 4 _) (fun _ _ e => e)
  have hR : ∀ k, FR k → k < w.heap.size := fun k hk => by obtain ⟨rv, hR⟩ := h.ring; exact hR.lt k hk
  have hnl : ∀ g, ao = some ⟨g, 0, none⟩ → g ≠ l := fun g e => by have := hao g e; omega
  refine ⟨?_, h.ring.only ho5 (fun k hk e => h.lr (e ▸ hk)), h.disk.only ho5 (fun k hk e => h.ld (e ▸ hk)), ?_, h.rd, fun k hk hf => ?_, fun k hk hf => ?_, h.lr, h.ld, fun e => ?_, fun k hk => ?_, h.h0, h.t0, h64⟩
  · have := blk_set (blk_only h.blk ho (fun e => e)) 4 (.slice ao ws.length cp)
    simpa [logCells] using this
  · refine ⟨ao, cp, rfl, ?_⟩
    rcases hg.2.2 with ⟨rfl, rfl⟩ | ⟨g, rfl, hr⟩
    · exact .inl ⟨rfl, rfl, List.eq_nil_of_length_eq_zero (by have h1 : ws.length ≤ 0 := hg.2.1; show ws.length = 0; omega)⟩
    · refine .inr ⟨g, vs, rfl, .inr rfl, (by rw [Nat.mul_one] at hr; exact hr.setCell_other _ _ (hnl g rfl)), by have h1 := hg.1; rw [Nat.mul_one] at h1; exact h1, fun i x hi => ?_⟩
      obtain ⟨pa, pc, h1, h2, h3, h4⟩ := hel i x hi
      refine ⟨pa, pc, h1, h2.only ho5 (fun hne g' o' c' e hx => ?_), fun hne g' o' e => ⟨.inl (h3 hne g' o' e), fun hx => ?_⟩, h4⟩
      · simp only [Value.slice.injEq] at e
        have e2 : g' = l := hx
        exact h.lw (e2 ▸ h3 hne g' o' e.1)
      · have := h.wl g' (h3 hne g' o' e)
        have := hao g rfl
        omega
  · rcases hk with hk | hk
    · exact h.wr k hk hf
    · have := hao k hk; have := hR k hf; omega
  · rcases hk with hk | hk
    · exact h.wd k hk hf
    · have := hao k hk; have := h.disk.lt hf; omega
  · rcases e with e | e
    · exact h.lw e
    · exact hnl l e rfl
  · have hz := ho5.size
    rcases hk with hk | hk
    · have := h.wl k hk; omega
    · have := hg.lt hk
      have h2 : (w4.setCell ⟨l, 4, none⟩ (.slice ao ws.length cp)).heap.size = w4.heap.size := (only_set (w := w4) l 4 (.slice ao ws.length cp)).size |> fun _ => by simp
      omega
set_option maxRecDepth 100000 in
set_option maxHeartbeats 3200000 in
theorem commit_c {F : Nat → Prop} (h : LogAt w l b r M F) (hfit : M.R.first + M.R.count ≤ M.D.n) (htl : M.R.tail ≤ 4611686018427000000) :
    Calls Tryz.prog 11 #[.pointer (some ⟨l, 0, none⟩)] w fun e w' => e = .returned (.tuple #[.int .i64 (M.commit.2.1 : Nat), .int .i64 M.commit.2.2]) ∧ LStep w w' l b r M.commit.1 F := by
  have HL := hid h
  obtain ⟨wv, FR, FD, FW, hr, hf⟩ := h
  obtain ⟨ao, cap, rfl, -⟩ := hr.wait
  have h0 : w.cell? ⟨l, 0, none⟩ = some (.pointer (some ⟨b, 0, none⟩)) := cell_blk hr.blk 0
  have h4 : w.cell? ⟨l, 4, none⟩ = some (.slice ao M.wait.length cap) := cell_blk hr.blk 4
  have h5 : w.cell? ⟨l, 5, none⟩ = some (.bool M.failed) := cell_blk hr.blk 5
  have HR := hid hr; have HF := hid hf; have HFIT := hid hfit
  have h64 := hr.w64
  clear hr hf hfit
  cases hfl : M.failed with
  | true =>
    have E1 : Hid (M.commit = (M, 0, 50)) := hid (by unfold WM.commit; rw [hfl]; rfl)
    rw [hfl] at h5
    clear hfl
    go_enter Tryz.func11, Tryz.ntmps11
    go_wp2_with fail
    go_ret2
    rw [E1.out]
    exact ⟨rfl, HL.out.step⟩
  | false =>
  have HFL := hid hfl
  rw [hfl] at h5
  clear hfl
  go_enter Tryz.func11, Tryz.ntmps11
  go_upto_block 0 with fail
  refine cm0 (a := _) (ao := ao) (cap := cap) HR.out HFIT.out htl ⟨rfl, rfl, rfl, rfl, rfl, rfl, rfl, rfl⟩ ?_ ?_
  · intro a' w' M' n e FR' FD' hI hly he0 he3 hl1 ho1 hn1 hn2
    have E1 : Hid (M.commit = ({ M' with failed := true }, 0, e)) := hid (by unfold WM.commit; rw [HFL.out, if_neg (by simp), hly, if_pos ⟨he0, he3⟩])
    obtain ⟨u, rfl, -⟩ := act_fn hI
    rw [lit67] at hI ⊢
    obtain ⟨g2, g3, -⟩ := hI
    change u 2 = _ at g2
    change u 3 = _ at g3
    rw [g2, g3]
    go_wp2_with fail
    go_ret2
    rw [E1.out]
    refine ⟨rfl, _, hl1, ho1.mono (fun k _ e => (HF.out k).2 e), fun k hk => ?_⟩
    rcases hk with e | e | e | e
    · exact .inl ((HF.out k).2 (.inl e))
    · exact (hn1 k e).imp (fun e => (HF.out k).2 (.inr (.inl e))) id
    · exact (hn2 k e).imp (fun e => (HF.out k).2 (.inr (.inr (.inl e)))) id
    · exact .inl ((HF.out k).2 (.inr (.inr (.inr e))))
  intro a1 w1 M' n e FR' FD' hI hly he hnl hlg ht1
  obtain ⟨u, rfl, hu⟩ := act_fn hI
  rw [lit67] at hI ⊢
  obtain ⟨g0, g4, g5, -⟩ := hI
  change u 0 = _ at g0
  change u 4 = _ at g4
  change u 5 = _ at g5
  rw [g0, g4, g5]
  clear g0 g4 g5 hu
  have HLY := hid hly; have HLG := hid hlg; have HE := hid he
  have HNE : Hid (¬ (e ≠ 0 ∧ e ≠ 3)) := hid fun h => he.elim h.1 h.2
  have HAT := hid (hlg.at HF.out)
  clear hly hlg he h0 h4 h5
  by_cases hn0 : n = 0
  · subst hn0
    have E1 : Hid (M.commit = (M', 0, e)) := hid (by unfold WM.commit; rw [HFL.out, if_neg (by simp), HLY.out, if_neg HNE.out, if_pos rfl])
    go_wp2_with fail
    go_ret2
    rw [E1.out]
    exact ⟨rfl, _, HAT.out.1, HAT.out.2.1, HAT.out.2.2⟩
  have hnb : ((n : Int) == 0) = false := by rw [beq_eq_false_iff_ne]; omega
  have q0 : w1.cell? ⟨l, 0, none⟩ = some (.pointer (some ⟨b, 0, none⟩)) := cell_blk HLG.out.rep.blk 0
  have q2 : w1.cell? ⟨l, 2, none⟩ = some (.int .u64 M'.head) := cell_blk HLG.out.rep.blk 2
  have HST := hid (settle_c HAT.out.1 M'.head HLG.out.rep.h0 (by omega))
  obtain ⟨sq, hsq⟩ : ∃ x, M'.settle M'.head = x := ⟨_, rfl⟩
  have HKP := hid (settle_keeps M' M'.head)
  rw [hsq] at HST HKP
  have HSQ := hid hsq
  obtain ⟨M2, c⟩ := sq
  clear hsq
  go_wp2_with fail
  refine HST.out.mono ?_
  rintro x w2 ⟨rfl, hls⟩
  have hls2 := hls.trans HAT.out.2.1 HAT.out.2.2
  by_cases hc0 : c = 0
  rotate_left
  · have hcb : (c != 0) = true := by simpa using hc0
    have HLS := hid hls2
    have E1 : Hid (M.commit = (M2, 0, c)) := hid (by unfold WM.commit; rw [HFL.out, if_neg (by simp), HLY.out]; dsimp only; rw [if_neg HNE.out, if_neg hn0, HSQ.out, if_pos hc0])
    clear hls hls2 hc0 hn0
    go_wp2_with fail
    go_ret2
    rw [E1.out]
    exact ⟨rfl, HLS.out⟩
  subst hc0
  have E1 : Hid (M.commit = ({ M2 with wait := M.wait.drop n }, n, e)) := hid (by unfold WM.commit; rw [HFL.out, if_neg (by simp), HLY.out]; dsimp only; rw [if_neg HNE.out, if_neg hn0, HSQ.out, if_neg (by simp)])
  obtain ⟨F2, ⟨wv2, FR2, FD2, FW2, hr2, hf2⟩, ho2, hn2⟩ := hls2
  have hwt : M2.wait = M.wait := HKP.out.1.trans HLG.out.c2.2.2.1
  obtain ⟨ao2, cap2, rfl, hw2⟩ := hr2.wait
  have HR2 := hid hr2; have HF2 := hid hf2; have HO2 := hid ho2; have HN2 := hid hn2; have HWT := hid hwt
  have p0 : w2.cell? ⟨l, 0, none⟩ = some (.pointer (some ⟨b, 0, none⟩)) := cell_blk hr2.blk 0
  have p4 : w2.cell? ⟨l, 4, none⟩ = some (.slice ao2 M2.wait.length cap2) := cell_blk hr2.blk 4
  have hz := frozen_blk hr2.blk
  have hl2 := blk_lt hr2.blk
  rw [hwt] at p4 hw2
  obtain ⟨vs, hsg, hel⟩ : ∃ vs : List Value, (vs.length = M.wait.length ∧ M.wait.length ≤ cap2 ∧ ∀ i u, vs[i]? = some u → ∃ g, ao2 = some ⟨g, 0, none⟩ ∧ w2.cell? ⟨g, i, none⟩ = some u) ∧ ∀ (i : Nat) (x : List UInt8), M.wait[i]? = some x → ∃ pa pc, vs[i]? = some (Value.slice pa x.length pc) ∧ Src w2 (.slice pa x.length pc) x ∧ (x ≠ [] → ∀ g' o', pa = some ⟨g', o', none⟩ → FW2 g') ∧ x.length ≤ 2039 := by
    rcases hw2 with ⟨-, -, e⟩ | ⟨g, vs, rfl, hg, hrw, hvl, hh⟩
    · exact ⟨[], ⟨by rw [e]; rfl, by rw [e]; exact Nat.zero_le _, by simp⟩, fun i x hi => by rw [e] at hi; simp at hi⟩
    · refine ⟨vs, ⟨hvl, by obtain ⟨pad, -, hc⟩ := hrw; omega, fun i u hu => ⟨g, rfl, ?_⟩⟩, fun i x hi => ?_⟩
      · rw [hrw.cell i (by rcases Nat.lt_or_ge i vs.length with h | h; exact h; rw [List.getElem?_eq_none h] at hu; cases hu)]; exact hu
      · obtain ⟨pa, pc, h1, h2, h3, h4⟩ := hh i x hi
        exact ⟨pa, pc, h1, h2, fun hne g' o' e => (h3 hne g' o' e).1, h4⟩
  have HSG := hid hsg; have HEL := hid hel
  clear hls hr2 hf2 ho2 hn2 hwt hw2 hsg hel HST hn0 q0 q2
  have HGE : Hid (Gr (w2.alloc (.cells #[] 31)) 31 1 (some ⟨w2.heap.size, 0, none⟩) 0 0 []) := hid ⟨rfl, Nat.le_refl _, .inr ⟨_, rfl, [], blk_new w2 _, rfl⟩⟩
  have hcp := HSG.out.2.1
  have HFIN : Hid (∀ (ao3 : Option Addr) (cp3 m : Nat) (w3 : World), Gr w3 31 1 ao3 m cp3 (vs.drop n) → (ao3 = some ⟨w2.heap.size, 0, none⟩ ∨ ao3 = some ⟨(w2.alloc (.cells #[] 31)).heap.size, 0, none⟩) → Only (fun k => some (⟨w2.heap.size, 0, none⟩ : Addr) = some ⟨k, 0, none⟩) (w2.alloc (.cells #[] 31)) w3 → m = M.wait.length - n → LStep w (w3.setCell ⟨l, 4, none⟩ (.slice ao3 m cp3)) l b r { M2 with wait := M.wait.drop n } F) := hid fun ao3 cp3 m w3 hg3 ha3 ho3 hm => by
    have hao : ∀ g, ao3 = some ⟨g, 0, none⟩ → w2.heap.size ≤ g := fun g e => by
      rcases ha3 with e2 | e2
      · rw [e] at e2; simp only [Option.some.injEq, Addr.mk.injEq, and_true] at e2; omega
      · rw [e] at e2; simp only [Option.some.injEq, Addr.mk.injEq, and_true, World.size_alloc] at e2; omega
    have ho : Only (fun _ => False) w2 w3 := (only_new w2 _).trans ho3 (fun k hk e => by simp only [Option.some.injEq, Addr.mk.injEq, and_true] at e; omega)
    have hrep := HR2.out.rewait (ws := M.wait.drop n) ho hg3 hao (by rw [hm, List.length_drop]) (by rw [List.length_drop]; omega) (fun i x hi => by
      rw [List.getElem?_drop] at hi
      obtain ⟨pa, pc, h1, h2⟩ := HEL.out _ x hi
      exact ⟨pa, pc, by rw [List.getElem?_drop]; exact h1, h2⟩)
    have ho4 : Only (fun k => k = l) w2 (w3.setCell ⟨l, 4, none⟩ (.slice ao3 m cp3)) := (ho.mono (fun _ _ e => e.elim)).trans (only_set l 4 _) (fun _ _ e => e)
    refine ⟨_, ⟨_, FR2, FD2, _, hrep, fun k => Iff.rfl⟩, HO2.out.trans ho4 (fun k hk e => (HF.out k).2 (.inl e)), fun k hk => ?_⟩
    rcases hk with e | e | e | e | e
    · exact HN2.out k ((HF2.out k).2 (.inl e))
    · exact HN2.out k ((HF2.out k).2 (.inr (.inl e)))
    · exact HN2.out k ((HF2.out k).2 (.inr (.inr (.inl e))))
    · exact HN2.out k ((HF2.out k).2 (.inr (.inr (.inr e))))
    · exact .inr (by have := hao k e; have := HO2.out.size; omega)
  have HB3 : Hid (∀ w3, Only (fun k => some (⟨w2.heap.size, 0, none⟩ : Addr) = some ⟨k, 0, none⟩) (w2.alloc (.cells #[] 31)) w3 → w3.heap[l]? = some (.cells (logCells b r M2 (.slice ao2 M2.wait.length cap2)) 80 (0, 0))) := hid fun w3 h3 => blk_only (blk_only HR2.out.blk (only_new w2 _) (fun e => e)) h3 (fun e => by simp only [Option.some.injEq, Addr.mk.injEq, and_true] at e; omega)
  by_cases hnn : n = M.wait.length
  · subst hnn
    have HD0 : Hid (vs.drop M.wait.length = []) := hid (by rw [← HSG.out.1, List.drop_length])
    rw [HD0.out] at HFIN
    go_wp2_with ((guard_target =~ wpList _ _ _ (⟨some 62, _, _, _, _, _⟩ :: _) _ _); refine wpList_gr (o := ⟨some 62, _, _, _, _, _⟩) rfl elW (.tmp 55) (.tmp 61) rfl HGE.out rfl _ 0 _ rfl [] ⟨rfl, fun h => absurd h (Nat.lt_irrefl 0), by simp⟩ (by omega) (by omega) ?_; intro ao3 cp3 w3 hg3 ha3 ho3; have HG3 := hid hg3; have HA3 := hid ha3; have HO3 := hid ho3; have hb3 := HB3.out _ ho3; have c34 : w3.cell? ⟨l, 4, none⟩ = some (.slice ao2 M2.wait.length cap2) := cell_blk hb3 4; have z34 := frozen_blk hb3; clear hg3 ha3 ho3 hb3)
    all_goals (go_ret2; rw [E1.out]; exact ⟨rfl, HFIN.out _ _ _ _ HG3.out HA3.out HO3.out (by omega)⟩)
  · have hcn : ¬ cap2 = n := by omega
    have hlt : n < M.wait.length := by omega
    have HSRC : Hid (SrcG (w2.alloc (.cells #[] 31)) (Option.map (fun x => x.add n) ao2) (M.wait.length - n) 1 (vs.drop n)) := hid (by
      refine ⟨by rw [List.length_drop, HSG.out.1, Nat.mul_one], fun _ => ?_, fun u hu => ?_⟩
      · obtain ⟨u, hu⟩ : ∃ u, vs[n]? = some u := ⟨_, List.getElem?_eq_getElem (by rw [HSG.out.1]; exact hlt)⟩
        obtain ⟨g, e, -⟩ := HSG.out.2.2 n u hu
        refine ⟨_, by rw [e]; rfl, fun j u hj => ?_⟩
        rw [List.getElem?_drop] at hj
        obtain ⟨g2, e2, hc⟩ := HSG.out.2.2 _ u hj
        rw [e] at e2
        simp only [Option.some.injEq, Addr.mk.injEq, and_true] at e2
        subst e2
        show World.cell? _ ((Addr.add ⟨g, 0, none⟩ n).add j) = _
        rw [addr_add, addr_add, Nat.zero_add]
        exact (World.cell?_of_block ((only_new w2 _).block g (World.block_lt_of_cell? _ _ hc) (fun e => e))).trans hc
      · obtain ⟨i, hi⟩ := List.mem_iff_getElem?.1 hu
        rw [List.getElem?_drop] at hi
        rcases Nat.lt_or_ge (n + i) M.wait.length with h | h
        · obtain ⟨pa, pc, h1, -⟩ := HEL.out (n + i) _ (List.getElem?_eq_getElem h)
          rw [hi] at h1
          obtain rfl := Option.some.inj h1
          rfl
        · rw [List.getElem?_eq_none (by rw [HSG.out.1]; exact h)] at hi; cases hi)
    go_wp2_with ((guard_target =~ wpList _ _ _ (⟨some 62, _, _, _, _, _⟩ :: _) _ _); refine wpList_gr (o := ⟨some 62, _, _, _, _, _⟩) rfl elW (.tmp 55) (.tmp 61) rfl HGE.out rfl _ (M.wait.length - n) _ rfl (vs.drop n) HSRC.out (by omega) (by omega) ?_; intro ao3 cp3 w3 hg3 ha3 ho3; have HG3 := hid hg3; have HA3 := hid ha3; have HO3 := hid ho3; have hb3 := HB3.out _ ho3; have c34 : w3.cell? ⟨l, 4, none⟩ = some (.slice ao2 M2.wait.length cap2) := cell_blk hb3 4; have z34 := frozen_blk hb3; clear hg3 ha3 ho3 hb3)
    go_ret2
    rw [E1.out]
    exact ⟨rfl, HFIN.out _ _ _ _ (by have := HG3.out; rwa [Nat.zero_add, List.nil_append] at this) HA3.out HO3.out rfl⟩
end
end Go.Proofs.YtfmdngeooelcpaaGreat
namespace Go.Proofs.YtfmdngeooelcpaaGreat
open Go.RowKit

def costK : Nat → Nat → Nat → Nat
  | 0, _, _ => 0
  | f + 1, a, n => (padN a (min n 2039)).length + 9 + min n 2039 + (if n ≤ 2039 then 0 else costK f (placeN a (min n 2039) + 9 + min n 2039) (n - 2039))
/-- How many bytes a checkpoint takes. -/
def costN (a n : Nat) : Nat := costK (n + 1) a n
def cutK : Nat → List UInt8 → List (Nat × List UInt8)
  | 0, b => [(3, b)]
  | f + 1, b => if b.length ≤ 2039 then [(3, b)] else (2, b.take 2039) :: cutK f (b.drop 2039)
/-- A checkpoint's parts. -/
def cutL (b : List UInt8) : List (Nat × List UInt8) := cutK b.length b
theorem cutK_fuel : ∀ (f g : Nat) (b : List UInt8), b.length ≤ f → b.length ≤ g → cutK f b = cutK g b
  | 0, 0, b, _, _ => rfl
  | 0, g + 1, b, h, _ => by rw [cutK, cutK, if_pos (by omega)]
  | f + 1, 0, b, _, h => by rw [cutK, cutK, if_pos (by omega)]
  | f + 1, g + 1, b, h1, h2 => by
    rw [cutK, cutK]
    split
    · rfl
    · rw [cutK_fuel f g _ (by rw [List.length_drop]; omega) (by rw [List.length_drop]; omega)]
theorem cutL_small {b : List UInt8} (h : b.length ≤ 2039) : cutL b = [(3, b)] := by
  unfold cutL
  cases hb : b.length with
  | zero => rfl
  | succ n => rw [cutK, if_pos h]
theorem cutL_big {b : List UInt8} (h : ¬ b.length ≤ 2039) : cutL b = (2, b.take 2039) :: cutL (b.drop 2039) := by
  have hb : b.length = (b.length - 1) + 1 := by omega
  unfold cutL
  rw [hb, cutK, if_neg h, cutK_fuel (b.length - 1) (b.drop 2039).length _ (by rw [List.length_drop]; omega) (Nat.le_refl _)]
theorem place_pad (a n : Nat) : placeN a n = a + (padN a n).length := by unfold placeN padN; split <;> simp [zeros]
def WM.checkpoint (M : WM) (b : List UInt8) : WM × Int :=
  if M.failed then (M, 50)
  else if M.wait ≠ [] then (M, 7)
  else if M.R.left M.head < costN M.R.tail b.length then (M, 3)
  else if (M.lays (cutL b)).2.2 ≠ 0 then ({ (M.lays (cutL b)).1 with failed := true }, (M.lays (cutL b)).2.2)
  else (M.lays (cutL b)).1.settle (placeN M.R.tail (min b.length 2039))
section
variable {w : World} {Q : Exit → Act → World → Prop}
set_option maxRecDepth 100000 in
set_option maxHeartbeats 1600000 in
end
theorem Src.dropN {w : World} {g o pc n c : Nat} {r : List UInt8} (h : Src w (.slice (some ⟨g, o, none⟩) r.length pc) r) (hn : n < r.length) : Src w (.slice (some ⟨g, o + n, none⟩) (r.length - n) c) (r.drop n) := by
  obtain ⟨a, c, e, h2⟩ := h
  simp only [Value.slice.injEq, true_and] at e
  obtain ⟨rfl, rfl⟩ := e
  refine ⟨_, _, by rw [List.length_drop], fun _ => ?_⟩
  obtain ⟨g, o, e, hc⟩ := h2 (fun e => by rw [e] at hn; simp at hn)
  simp only [Option.some.injEq, Addr.mk.injEq, and_true] at e
  obtain ⟨rfl, rfl⟩ := e
  refine ⟨_, _, rfl, fun i u hu => ?_⟩
  rw [Nat.add_assoc]
  refine hc (n + i) u ?_
  rw [bytesV_get] at hu ⊢
  rwa [List.getElem?_drop] at hu
section
variable {w : World} {l b r : Nat} {M : WM} {wv : Value} {FR FD FW : Nat → Prop} {Q : Exit → Act → World → Prop}
/-- Between two parts of a checkpoint. -/
def CPInv (w : World) (l b r : Nat) (M : WM) (wv : Value) (FR FD FW : Nat → Prop) (s0 : List UInt8) (a' : Act) (w' : World) : Prop := ∃ (dl : List (Nat × List UInt8)) (s : List UInt8) (fst : Bool) (pa : Option Addr) (pc hd : Nat) (M' : WM) (FR' FD' : Nat → Prop), Lv 71 a' [(0, .pointer (some ⟨l, 0, none⟩)), (1, .slice pa s.length pc), (5, .int .u64 (hd : Nat)), (6, .bool fst)] ∧ LG w w' l b r M M' wv FR FD FW FR' FD' ∧ M.lays dl = (M', dl.length, 0) ∧ (dl ++ if fst = true ∨ s ≠ [] then cutL s else []) = cutL s0 ∧ (fst = true → dl = [] ∧ s = s0) ∧ (fst = false → hd = placeN M.R.tail (min s0.length 2039)) ∧ Src w' (.slice pa s.length pc) s ∧ (s ≠ [] → s.length ≤ pc) ∧ s.length ≤ s0.length ∧ (s ≠ [] → ∀ g o, pa = some ⟨g, o, none⟩ → g < w.heap.size ∧ ¬ (FR g ∨ FD g)) ∧ M'.R.tail + 4096 * s.length ≤ M.R.tail + 4096 * (s0.length + 1)
theorem CPInv.mk {w w' : World} {l b r : Nat} {M : WM} {wv : Value} {FR FD FW : Nat → Prop} {s0 : List UInt8} {a' : Act} {pa : Option Addr} {pc n hd : Nat} {M' : WM} {FR' FD' : Nat → Prop} (dl : List (Nat × List UInt8)) (s : List UInt8) (hI : Lv 71 a' [(0, .pointer (some ⟨l, 0, none⟩)), (1, .slice pa n pc), (5, .int .u64 (hd : Nat)), (6, .bool false)]) (hn : n = s.length) (h1 : LG w w' l b r M M' wv FR FD FW FR' FD') (h2 : M.lays dl = (M', dl.length, 0)) (h3 : (dl ++ if s ≠ [] then cutL s else []) = cutL s0) (h4 : hd = placeN M.R.tail (min s0.length 2039)) (h5 : s ≠ [] → Src w' (.slice pa s.length pc) s) (h6 : s ≠ [] → s.length ≤ pc) (h7 : s.length ≤ s0.length) (h8 : s ≠ [] → ∀ g o, pa = some ⟨g, o, none⟩ → g < w.heap.size ∧ ¬ (FR g ∨ FD g)) (h9 : M'.R.tail + 4096 * s.length ≤ M.R.tail + 4096 * (s0.length + 1)) : CPInv w l b r M wv FR FD FW s0 a' w' := by
  subst hn
  refine ⟨dl, s, false, pa, pc, hd, M', FR', FD', hI, h1, h2, ?_, fun e => Bool.noConfusion e, fun _ => h4, ?_, h6, h7, h8, h9⟩
  · rw [← h3]
    by_cases h : s = []
    · rw [if_neg (by simp [h]), if_neg (by simp [h])]
    · rw [if_pos (.inr h), if_pos h]
  · by_cases h : s = []
    · subst h; exact ⟨_, _, rfl, fun e => absurd rfl e⟩
    · exact h5 h
set_option maxRecDepth 100000 in
set_option maxHeartbeats 3200000 in
end
end Go.Proofs.YtfmdngeooelcpaaGreat
