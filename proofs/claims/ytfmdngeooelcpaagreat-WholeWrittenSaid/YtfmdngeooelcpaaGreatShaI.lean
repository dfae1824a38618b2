/- sum.begin, sum.state.bytes. sum.Hash.Add, on a Hash that has no bytes yet. sum.Hash.Sum, sum.Of, sum.Link. sum.Of, sum.Link. -/
import Derived.Test.YtfmdngeooelcpaaGreatShaE
namespace Go.Proofs.YtfmdngeooelcpaaGreat
open Go.RowKit

theorem info32 : (Tryz.prog.info? 40).map (·.size) = some 32 := by kernel_rfl
/-- The bytes of so many numbers, the rest nought. -/
def byA (s : ST) (n : Nat) : Array Value := ((List.range 32).map fun i => if i < 4 * n then (bytesV s.bytes).getD i (.int .u8 0) else .int .u8 0).toArray
theorem byA_set (s : ST) {n : Nat} (h : n < 8) : ((((byA s n).setIfInBounds (4 * n) (.int .u8 ((UInt8.ofNat (s.l.getD n 0 / 16777216)).toNat : Nat))).setIfInBounds (4 * n + 1) (.int .u8 ((UInt8.ofNat (s.l.getD n 0 / 65536)).toNat : Nat))).setIfInBounds (4 * n + 2) (.int .u8 ((UInt8.ofNat (s.l.getD n 0 / 256)).toNat : Nat))).setIfInBounds (4 * n + 3) (.int .u8 ((UInt8.ofNat (s.l.getD n 0)).toNat : Nat)) = byA s (n + 1) := by
  rcases j8 h with rfl | rfl | rfl | rfl | rfl | rfl | rfl | rfl <;> rfl
theorem byA_8 (s : ST) : byA s 8 = (bytesV s.bytes).toArray := rfl
theorem byA_0 (s t : ST) : byA s 0 = byA t 0 := rfl
theorem byA_cell (s : ST) {n i : Nat} (h : i < 32) : ∃ u, (byA s n)[i]? = some u := ⟨_, Array.getElem?_eq_getElem (by unfold byA; simp; omega)⟩
theorem bytesV_one' (l : List UInt8) : ((bytesV l).toArray).all (·.oneCell') = true := by
  rw [Array.all_eq_true']
  intro v hv
  exact oneCell_bytesV l v (by simpa using hv)
theorem run_index8 {cs : Array Value} {i x : Nat} {w : World} (hi : i < 8) (hv : cs[i]? = some (u32V x)) :
    (Instr.index 165 (.agg cs) (.int .i64 i)).run Tryz.prog w = .ok (.int .u32 (x : Nat)) w := by
  have hs : (sizeOf 121).run Tryz.prog w = .ok 1 w := by kernel_rfl
  simp [Instr.index, run_underlying Tryz.underlying165, asIntOf, hi, go_sem, hs, hv, u32V]
section
variable {w : World}
set_option maxRecDepth 100000 in
theorem begin_c : Calls Tryz.prog 95 #[] w fun e w' => e = .returned (stV st0) ∧ Only (fun _ => False) w w' := by
  go_enter Tryz.func95, Tryz.ntmps95
  go_wp2_with fail
  refine bodyPost_ret (results_cell_row rfl _ _ w.heap.size 165 (stA st0) (0, 0) _ rfl (blk_new w (.cells (stA st0) 165)) Tryz.underlying165 rfl infoS8) rfl ⟨rfl, only_new w _⟩
set_option maxRecDepth 100000 in
set_option maxHeartbeats 3200000 in
theorem sbytes_c {s : ST} (hs : s.Ok) : Calls Tryz.prog 97 #[stV s] w fun e w' => e = .returned (.agg (bytesV s.bytes).toArray) ∧ Only (fun _ => False) w w' := by
  obtain ⟨S, hS⟩ : ∃ S, stA s = S := ⟨_, rfl⟩
  have hSg : ∀ j, j < 8 → S[j]? = some (u32V (s.l.getD j 0)) := fun j hj => by rw [← hS]; exact stA_get s hj
  have hSi : (Tryz.prog.info? 165).map (·.size) = some S.size := by rw [infoS8, ← hS]; rfl
  have hst : stV s = .agg S := by unfold stV; rw [hS]
  rw [hst]
  have HSG := hid hSg; have HSI := hid hSi; have HOK := hid hs
  have HX0 := hid (blk_new w (.cells S 165))
  clear hSg hSi hst hS hs
  go_enter Tryz.func97, Tryz.ntmps97
  go_upto_region 2 with fail
  obtain ⟨wk, hwk⟩ : ∃ wk, ((w.alloc (.cells S 165)).alloc (.cells (byA s 0) 40)).alloc (.cells (byA s 0) 40) = wk := ⟨_, rfl⟩
  change Code.wp _ _ _ _ (((w.alloc (.cells S 165)).alloc (.cells (byA s 0) 40)).alloc (.cells (byA s 0) 40))
  have h0 : wk.heap[w.heap.size]? = some (.cells S 165 (0, 0)) := by rw [← hwk]; exact blk_alloc (blk_alloc HX0.out)
  have h1 : wk.heap[w.heap.size + 1]? = some (.cells (byA s 0) 40 (0, 0)) := by rw [← hwk]; have := blk_new (w.alloc (.cells S 165)) (.cells (byA s 0) 40); rw [World.size_alloc] at this; exact blk_alloc this
  have h2 : wk.heap[w.heap.size + 1 + 1]? = some (.cells (byA s 0) 40 (0, 0)) := by rw [← hwk]; have := blk_new ((w.alloc (.cells S 165)).alloc (.cells (byA s 0) 40)) (.cells (byA s 0) 40); rw [World.size_alloc, World.size_alloc] at this; exact this
  have ho : Only (fun _ => False) w wk := by rw [← hwk]; exact ((only_new _ _).trans (only_new _ _) (fun _ _ e => e)).trans (only_new _ _) (fun _ _ e => e)
  rw [hwk]
  have H0 := hid h0; have H1 := hid h1; have H2 := hid h2; have HO := hid ho
  clear h0 h1 h2 ho hwk HX0
  go_wp2_with ((guard_target =~ wpList _ _ _ (⟨some 6, _, _, _, _, _⟩ :: _) _ _); refine wpList_load_row rfl 165 (.tmp 1) rfl w.heap.size rfl 165 S (0, 0) _ H0.out Tryz.underlying165 rfl HSI.out ?_)
  go_loopw [7] (fun i wr => ∃ n : Nat, i = .int .i64 n ∧ n ≤ 8 ∧ wr.heap[w.heap.size + 1 + 1]? = some (.cells (byA s n) 40 (0, 0)) ∧ Only (fun k => k = w.heap.size + 1 + 1) wk wr) (fun i _ => 8 - (intOf i).toNat)
  case atStart => exact ⟨0, rfl, Nat.zero_le _, H2.out, Only.refl _ _⟩
  case round =>
    obtain ⟨n, rfl, hn, hb, ho⟩ := hrel
    by_cases hnl : n < 8
    · have hni : (n : Int) < 8 := by omega
      have hix := run_index8 (w := wr) hnl (HSG.out n hnl)
      have hset := byA_set s hnl
      have hxl := HOK.out.get hnl
      obtain ⟨x, hx⟩ : ∃ x, s.l.getD n 0 = x := ⟨_, rfl⟩
      rw [hx] at hix hset hxl
      have k0 : IntKind.u8.wrap ((x : Int) / 16777216) = ((UInt8.ofNat (x / 16777216)).toNat : Int) := by rw [IntKind.wrap_u8]; simp
      have k1 : IntKind.u8.wrap ((x : Int) / 65536) = ((UInt8.ofNat (x / 65536)).toNat : Int) := by rw [IntKind.wrap_u8]; simp
      have k2 : IntKind.u8.wrap ((x : Int) / 256) = ((UInt8.ofNat (x / 256)).toNat : Int) := by rw [IntKind.wrap_u8]; simp
      have k3 : IntKind.u8.wrap (x : Int) = ((UInt8.ofNat x).toNat : Int) := by rw [IntKind.wrap_u8]; simp
      obtain ⟨q0, e0⟩ : ∃ y, (UInt8.ofNat (x / 16777216)).toNat = y := ⟨_, rfl⟩
      obtain ⟨q1, e1⟩ : ∃ y, (UInt8.ofNat (x / 65536)).toNat = y := ⟨_, rfl⟩
      obtain ⟨q2, e2⟩ : ∃ y, (UInt8.ofNat (x / 256)).toNat = y := ⟨_, rfl⟩
      obtain ⟨q3, e3⟩ : ∃ y, (UInt8.ofNat x).toNat = y := ⟨_, rfl⟩
      rw [e0] at k0 hset
      rw [e1] at k1 hset
      rw [e2] at k2 hset
      rw [e3] at k3 hset
      obtain ⟨u0, d0⟩ := byA_cell s (n := n) (i := 4 * n) (by omega)
      obtain ⟨u1, d1⟩ := byA_cell s (n := n) (i := 4 * n + 1) (by omega)
      obtain ⟨u2, d2⟩ := byA_cell s (n := n) (i := 4 * n + 2) (by omega)
      obtain ⟨u3, d3⟩ := byA_cell s (n := n) (i := 4 * n + 3) (by omega)
      have c0 : wr.cell? ⟨w.heap.size + 1 + 1, 4 * n, none⟩ = some u0 := by rw [cell_blk hb]; exact d0
      have c1 : wr.cell? ⟨w.heap.size + 1 + 1, 4 * n + 1, none⟩ = some u1 := by rw [cell_blk hb]; exact d1
      have c2 : wr.cell? ⟨w.heap.size + 1 + 1, 4 * n + 2, none⟩ = some u2 := by rw [cell_blk hb]; exact d2
      have c3 : wr.cell? ⟨w.heap.size + 1 + 1, 4 * n + 3, none⟩ = some u3 := by rw [cell_blk hb]; exact d3
      have t0 : (4 * (n : Int)).toNat = 4 * n := by omega
      have t1 : (4 * (n : Int) + 1).toNat = 4 * n + 1 := by omega
      have t2 : (4 * (n : Int) + 2).toNat = 4 * n + 2 := by omega
      have t3 : (4 * (n : Int) + 3).toNat = 4 * n + 3 := by omega
      have z1 : ∀ i, wr.frozen? ⟨w.heap.size + 1 + 1, i, none⟩ = false := frozen_blk hb
      have b1 := blk_lt hb
      have HSET := hid hset; have HB := hid hb; have HOW := hid ho
      clear hset hb ho hx e0 e1 e2 e3 d0 d1 d2 d3
      go_wp2_with fail
      go_roundw
      case rel =>
        have hs := blk_set (blk_set (blk_set (blk_set HB.out (4 * n) (.int .u8 q0)) (4 * n + 1) (.int .u8 q1)) (4 * n + 2) (.int .u8 q2)) (4 * n + 3) (.int .u8 q3)
        rw [HSET.out] at hs
        exact ⟨n + 1, by go_num, by omega, hs, HOW.out.trans ((((only_set _ _ _).trans (only_set _ _ _) (fun _ _ e => e)).trans (only_set _ _ _) (fun _ _ e => e)).trans (only_set _ _ _) (fun _ _ e => e)) (fun _ _ e => e)⟩
      case measure => simp [intOf]; omega
    · obtain rfl : n = 8 := by omega
      rw [byA_8] at hb
      have HB := hid hb
      have HR := hid (blk_only H1.out ho (by show ¬ w.heap.size + 1 = w.heap.size + 1 + 1; omega))
      have HOW := hid (HO.out.trans ho (fun i hi e => by have e' : i = w.heap.size + 1 + 1 := e; omega))
      have hsz : ((bytesV s.bytes).toArray).size = (byA s 0).size := by simp [bytes_len, byA]
      have hinf : (Tryz.prog.info? 40).map (·.size) = some ((bytesV s.bytes).toArray).size := by rw [info32]; simp [bytes_len]
      have hone := bytesV_one' s.bytes
      obtain ⟨A, hA⟩ : ∃ x, (bytesV s.bytes).toArray = x := ⟨_, rfl⟩
      obtain ⟨Z, hZ⟩ : ∃ x, byA s 0 = x := ⟨_, rfl⟩
      rw [hA] at HB hsz hinf hone
      rw [hZ] at HR hsz
      have HA := hid hA; have HSZ := hid hsz; have HINF := hid hinf; have HONE := hid hone
      clear hb ho hsz hinf hone hA hZ
      go_wp2_with (first
        | ((guard_target =~ wpList _ _ _ (⟨some 38, _, _, _, _, _⟩ :: _) _ _); refine wpList_load_row rfl 40 (.tmp 3) rfl (w.heap.size + 1 + 1) rfl 40 A (0, 0) _ HB.out Tryz.underlying40 rfl HINF.out ?_)
        | ((guard_target =~ wpList _ _ _ (⟨none, .store _ _ _, _, _, _, _⟩ :: _) _ _); refine wpList_store_all rfl 40 (.tmp 2) (.tmp 38) rfl (w.heap.size + 1) A rfl rfl Z 40 HR.out HSZ.out HINF.out HONE.out ?_; intro w9 hb9 ho9 hs9; have HB9 := hid hb9; have HO9 := hid ho9; clear hb9 ho9 hs9))
      refine bodyPost_ret (results_cell_row rfl _ _ (w.heap.size + 1) 40 A (0, 0) _ rfl HB9.out Tryz.underlying40 rfl HINF.out) rfl ⟨by rw [HA.out], HOW.out.trans HO9.out (fun i hi e => by have e' : i = w.heap.size + 1 := e; omega)⟩
end
end Go.Proofs.YtfmdngeooelcpaaGreat
namespace Go.Proofs.YtfmdngeooelcpaaGreat
open Go.RowKit

/-- A slice of slices of bytes. -/
def PartsS (w : World) (v : Value) (ps : List (List UInt8)) : Prop :=
  ∃ a c, v = .slice a ps.length c ∧ ∀ i l, ps[i]? = some l → ∃ g o pa pc, a = some ⟨g, o, none⟩ ∧ w.cell? ⟨g, o + i, none⟩ = some (.slice pa l.length pc) ∧ Src w (.slice pa l.length pc) l
def hashA (s : ST) (any : Bool) (rest : Value) (n : Nat) : Array Value := #[u32V s.a, u32V s.b, u32V s.c, u32V s.d, u32V s.e, u32V s.f, u32V s.g, u32V s.h, .bool any, rest, .int .u64 (n : Int)]
def stZ : ST := ⟨0, 0, 0, 0, 0, 0, 0, 0⟩
theorem hash_set8 (a0 a1 a2 a3 a4 a5 a6 a7 b0 b1 b2 b3 b4 b5 b6 b7 : Nat) (any : Bool) (r : Value) (n : Nat) : (((((((((hashA ⟨a0, a1, a2, a3, a4, a5, a6, a7⟩ any r n).setIfInBounds 0 (.int .u32 (b0 : Nat))).setIfInBounds 1 (.int .u32 (b1 : Nat))).setIfInBounds 2 (.int .u32 (b2 : Nat))).setIfInBounds 3 (.int .u32 (b3 : Nat))).setIfInBounds 4 (.int .u32 (b4 : Nat))).setIfInBounds 5 (.int .u32 (b5 : Nat))).setIfInBounds 6 (.int .u32 (b6 : Nat))).setIfInBounds 7 (.int .u32 (b7 : Nat))) = hashA ⟨b0, b1, b2, b3, b4, b5, b6, b7⟩ any r n := by simp [hashA, u32V]
/-- A Hash that has these bytes, of which so many blocks are summed. -/
structure HashAt (w : World) (hb : Nat) (B : List UInt8) (p : Nat) (ao : Option Addr) (cp : Nat) : Prop where
  blk : w.heap[hb]? = some (.cells (hashA (blks st0 B p) true (.slice ao (B.length - 64 * p) cp) B.length) 167 (0, 0))
  row : Gr w 5 1 ao (B.length - 64 * p) cp (bytesV (B.drop (64 * p)))
  le : 64 * p ≤ B.length
theorem HashAt.only {w w' : World} {hb : Nat} {B : List UInt8} {p : Nat} {ao : Option Addr} {cp : Nat} (h : HashAt w hb B p ao cp) (ho : Only (fun _ => False) w w') : HashAt w' hb B p ao cp :=
  ⟨blk_only h.blk ho (fun e => e), h.row.only ho (fun _ _ e => e), h.le⟩
/-- How many bytes wait. -/
def restV : Option Value → Nat
  | some (.slice _ n _) => n
  | _ => 0
def restO : Option Obj → Nat
  | some (.cells arr _ _) => restV arr[9]?
  | _ => 0
def restN (w : World) (hb : Nat) : Nat := restO w.heap[hb]?
theorem HashAt.rest {w : World} {hb : Nat} {B : List UInt8} {p : Nat} {ao : Option Addr} {cp : Nat} (h : HashAt w hb B p ao cp) : restN w hb = B.length - 64 * p := by
  unfold restN; rw [h.blk]; rfl
theorem Src.lt2 {W : World} {v : Value} {l : List UInt8} (h : Src W v l) (hne : l ≠ []) {g o c : Nat} (e : v = .slice (some ⟨g, o, none⟩) l.length c) : g < W.heap.size := by
  obtain ⟨a, c', e', hs⟩ := h
  obtain ⟨g', o', ha, hc⟩ := hs hne
  rw [e, ha] at e'
  simp only [Value.slice.injEq, Option.some.injEq, Addr.mk.injEq] at e'
  obtain ⟨⟨rfl, rfl, -⟩, -, -⟩ := e'
  obtain ⟨x, xs, rfl⟩ := List.exists_cons_of_ne_nil hne
  exact World.block_lt_of_cell? _ _ (hc 0 (.int .u8 (x.toNat : Nat)) (by simp [bytesV]))
theorem Src.sg2 {w : World} {a : Option Addr} {n c : Nat} {l : List UInt8} (h : Src w (.slice a n c) l) : SrcG w a n 1 (bytesV l) := by
  obtain ⟨a', c', e, hs⟩ := h.g
  simp only [Value.slice.injEq] at e
  obtain ⟨rfl, rfl, rfl⟩ := e
  exact hs
theorem Src.take2 {w : World} {ao : Option Addr} {n cap : Nat} {l : List UInt8} (h : Src w (.slice ao n cap) l) (c c' : Nat) (hc : c ≤ l.length) : Src w (.slice ao c c') (l.take c) := by
  obtain ⟨a, cp, e, hs⟩ := h
  simp only [Value.slice.injEq] at e
  obtain ⟨rfl, rfl, rfl⟩ := e
  refine ⟨_, c', by rw [List.length_take, Nat.min_eq_left hc], fun hne => ?_⟩
  have hl : l ≠ [] := by rintro rfl; simp at hne
  obtain ⟨g, o, rfl, hcl⟩ := hs hl
  refine ⟨g, o, rfl, fun i u hu => hcl i u ?_⟩
  rw [bytesV_get] at hu ⊢
  by_cases hi : i < c
  · rw [List.getElem?_take_of_lt hi] at hu; exact hu
  · rw [List.getElem?_eq_none (by rw [List.length_take]; omega)] at hu; cases hu
section
variable {w0 w : World}
set_option maxRecDepth 100000 in
set_option maxHeartbeats 6400000 in
theorem hadd_c {v : Value} {ps : List (List UInt8)} {hb : Nat} (hP : PartsS w0 v ps) (hl : ps.flatten.length ≤ 900000000) (hpl : ps.length ≤ 1000000) (ho : Only (fun _ => False) w0 w) (hh : w0.heap.size ≤ hb) (hz : w.heap[hb]? = some (.cells (hashA stZ false (.slice none 0 0) 0) 167 (0, 0))) :
    Calls Tryz.prog 85 #[.pointer (some ⟨hb, 0, none⟩), v] w fun e w' => e = .returned (.tuple #[]) ∧ ∃ ao cp, HashAt w' hb ps.flatten (ps.flatten.length / 64) ao cp ∧ (∀ g, ao = some ⟨g, 0, none⟩ → w0.heap.size ≤ g ∧ g ≠ hb) ∧ Only (fun _ => False) w0 w' := by
  obtain ⟨pa0, pc0, rfl, hparts⟩ := hP
  have HP := hid hparts; have HO := hid ho; have HZ := hid hz
  have c8 : w.cell? ⟨hb, 8, none⟩ = some (.bool false) := cell_blk hz 8
  have lb := blk_lt hz
  clear hparts ho hz
  go_enter Tryz.func85, Tryz.ntmps85
  go_wp2_with fail
  refine begin_c.mono ?_
  rintro e w1 ⟨rfl, ho1⟩
  have HZ1 := hid (blk_only HZ.out ho1 (fun e => e))
  have HO1 := hid (HO.out.trans ho1 (fun _ _ e => e))
  have lb1 := blk_lt HZ1.out
  clear ho1 c8
  go_wp2_with ((guard_target =~ wpList _ _ _ (⟨none, .store _ (.tmp 15) _, _, _, _, _⟩ :: _) _ _); refine wpList_store_in rfl 165 (.tmp 15) (.tmp 13) rfl hb 0 (stA st0) rfl rfl (hashA stZ false (.slice none 0 0) 0) 167 HZ1.out (by decide) infoS8 (stA_one _) ?_; intro w2 hb2 ho2 hs2; have HB2 := hid hb2; have HO2 := hid ho2; have HS2 := hid hs2; have c8 : w2.cell? ⟨hb, 8, none⟩ = some (.bool false) := cell_blk hb2 8; have z2 : ∀ i, w2.frozen? ⟨hb, i, none⟩ = false := frozen_blk hb2; have lb2 := blk_lt hb2; clear hb2 ho2 hs2)
  have H20 : HashAt (w2.setCell ⟨hb, 8, none⟩ (.bool true)) hb [] 0 none 0 := ⟨by
      have := blk_set HB2.out 8 (.bool true)
      rw [show ((lay (hashA stZ false (.slice none 0 0) 0).toList 0 (stA st0).toList).toArray).setIfInBounds 8 (.bool true) = hashA st0 true (.slice none 0 0) 0 from rfl] at this
      exact this, Gr.nil, Nat.le_refl _⟩
  have HH0 := hid H20
  have HOO := hid ((HO1.out.trans HO2.out (fun i hi e => by have e' : i = hb := e; omega)).trans (only_set hb 8 (.bool true)) (fun i hi e => by have e' : i = hb := e; omega))
  clear H20 c8 z2 lb1 lb lb2
  go_loopw [20] (fun i wr => ∃ (k : Nat) (ao : Option Addr) (cp : Nat), i = .int .i64 k ∧ k ≤ ps.length ∧ HashAt wr hb (ps.take k).flatten ((ps.take k).flatten.length / 64) ao cp ∧ (∀ g, ao = some ⟨g, 0, none⟩ → w0.heap.size ≤ g ∧ g ≠ hb) ∧ Only (fun _ => False) w0 wr) (fun i _ => ps.length - (intOf i).toNat)
  case atStart => exact ⟨0, none, 0, rfl, Nat.zero_le _, by rw [List.take_zero]; exact HH0.out, by simp, HOO.out⟩
  case round =>
    obtain ⟨k, ao, cp, rfl, hk, hH, hao, hor⟩ := hrel
    by_cases hkl : k < ps.length
    · have hki : (k : Int) < ps.length := by omega
      obtain ⟨l, hlk⟩ : ∃ l, ps[k]? = some l := ⟨_, List.getElem?_eq_getElem hkl⟩
      obtain ⟨g, o, pa, pc, rfl, hc, hsl⟩ := HP.out k l hlk
      have hcr : wr.cell? ⟨g, o + k, none⟩ = some (.slice pa l.length pc) := (World.cell?_of_block (hor.block g (World.block_lt_of_cell? _ _ hc) (fun e => e))).trans hc
      obtain ⟨B, hB⟩ : ∃ B, (ps.take k).flatten = B := ⟨_, rfl⟩
      have hB1 : (ps.take (k + 1)).flatten = B ++ l := by rw [← hB, List.take_add_one, hlk, List.flatten_append]; simp
      have hBl : (B ++ l).length ≤ 900000000 := by
        rw [← hB1]
        have : ps.flatten = (ps.take (k + 1)).flatten ++ (ps.drop (k + 1)).flatten := by rw [← List.flatten_append, List.take_append_drop]
        rw [this, List.length_append] at hl; omega
      rw [hB] at hH
      rw [List.length_append] at hBl
      have HSO := hid hsl; have HSL := hid (hsl.same hor); have HH := hid hH; have HAO := hid hao; have HOR := hid hor; have HB1 := hid hB1
      have c10 : wr.cell? ⟨hb, 10, none⟩ = some (.int .u64 B.length) := cell_blk hH.blk 10
      have c9 : wr.cell? ⟨hb, 9, none⟩ = some (.slice ao (B.length - 64 * (B.length / 64)) cp) := cell_blk hH.blk 9
      have z1 : ∀ i, wr.frozen? ⟨hb, i, none⟩ = false := frozen_blk hH.blk
      have lb := blk_lt hH.blk
      have s1 : IntKind.u64.wrap (l.length : Int) = (l.length : Int) := by rw [IntKind.wrap_u64]; omega
      obtain ⟨N, hN⟩ : ∃ N, B.length + l.length = N := ⟨_, rfl⟩
      have s2 : IntKind.u64.wrap ((B.length : Int) + (l.length : Int)) = (N : Int) := by rw [IntKind.wrap_u64]; omega
      have s3 : (B.length : Int) + (l.length : Int) = (N : Int) := by omega
      have HN := hid hN
      obtain ⟨r, hr⟩ : ∃ r, B.length - 64 * (B.length / 64) = r := ⟨_, rfl⟩
      rw [hr] at c9
      have hr64 : r < 64 := by omega
      have HRR := hid hr
      clear hlk hc hsl hH hao hor hB hB1 hr hN
      have hgr := HH.out.row
      rw [HRR.out] at hgr
      have hb1 := blk_set HH.out.blk 10 (.int .u64 (N : Int))
      have HGR := hid (hgr.only (only_set hb 10 (.int .u64 (N : Int))) (fun g e h => (HAO.out g e).2 h))
      have HSG := hid ((HSL.out.only (only_set hb 10 (.int .u64 (N : Int))) (fun hne g' o' c' e h => by have h1 := HSO.out.lt2 hne e; have h2 : g' = hb := h; omega)).sg2)
      have HBX := hid hb1
      clear hgr hb1
      go_wp2_with ((guard_target =~ wpList _ _ _ (⟨some 40, _, _, _, _, _⟩ :: _) _ _); refine wpList_gr (o := ⟨some 40, _, _, _, _, _⟩) rfl el8 (.tmp 38) (.tmp 39) rfl HGR.out rfl pa l.length pc rfl (bytesV l) HSG.out (by omega) (by omega) ?_; intro ao9 cp9 w9 hg9 ha9 ho9; have Hg9 := hid hg9; have Ha9 := hid ha9; have Ho9 := hid ho9; have b9 := blk_only HBX.out ho9 (fun e => (HAO.out hb e).2 rfl); have B9 := hid b9; have z9 : ∀ i, w9.frozen? ⟨hb, i, none⟩ = false := frozen_blk b9; have l9 := blk_lt b9; have d9 : w9.cell? ⟨hb, 9, none⟩ = some (.slice ao (B.length - 64 * (B.length / 64)) cp) := cell_blk b9 9; clear hg9 ha9 ho9 b9)
      have hao9 : ∀ g, ao9 = some ⟨g, 0, none⟩ → w0.heap.size ≤ g ∧ g ≠ hb := fun g e => by
        rcases Ha9.out with h | h
        · exact HAO.out g (by rw [← h]; exact e)
        · rw [h] at e
          simp only [Option.some.injEq, Addr.mk.injEq, and_true] at e
          have h1 : wr.heap.size = g := by simpa using e
          have := HOR.out.size
          exact ⟨by omega, by omega⟩
      have hN9 : N = (B ++ l).length := by rw [List.length_append]; exact HN.out.symm
      have hH9 : HashAt (w9.setCell ⟨hb, 9, none⟩ (.slice ao9 (r + l.length) cp9)) hb (B ++ l) (B.length / 64) ao9 cp9 := by
        have hr := HRR.out
        have e1 : r + l.length = (B ++ l).length - 64 * (B.length / 64) := by rw [List.length_append]; omega
        refine ⟨?_, ?_, by rw [List.length_append]; omega⟩
        · have h := blk_set B9.out 9 (.slice ao9 (r + l.length) cp9)
          rw [blks_app _ _ _ _ (by omega), ← e1, ← hN9]
          exact h
        · have h := (Hg9.out.only (only_set hb 9 (.slice ao9 (r + l.length) cp9)) (fun g e h => (hao9 g e).2 h))
          rw [← bytesV_append, ← List.drop_append_of_le_length (by omega)] at h
          exact Eq.subst (motive := fun q => Gr (w9.setCell ⟨hb, 9, none⟩ (.slice ao9 (r + l.length) cp9)) 5 1 ao9 q cp9 (bytesV ((B ++ l).drop (64 * (B.length / 64))))) e1 h
      have hO9 : Only (fun _ => False) w0 (w9.setCell ⟨hb, 9, none⟩ (.slice ao9 (r + l.length) cp9)) := ((HOR.out.trans (only_set hb 10 (.int .u64 (N : Int))) (fun i hi e => by have e' : i = hb := e; omega)).trans Ho9.out (fun i hi e => by have := (HAO.out i e).1; omega)).trans (only_set hb 9 _) (fun i hi e => by have e' : i = hb := e; omega)
      have HA9 := hid hao9; have HH9 := hid hH9; have HO9 := hid hO9
      clear hao9 hH9 hO9 hN9 z9 l9 d9 z1 lb c9 c10 s1 s2 s3 hcr
      obtain ⟨C, hC⟩ : ∃ C, B ++ l = C := ⟨_, rfl⟩
      have hCl : C.length ≤ 900000000 := by rw [← hC, List.length_append]; exact hBl
      rw [hC] at HH9 HB1
      clear hC
      go_loopw [] (fun wy => ∃ (p : Nat) (ao : Option Addr) (cp : Nat), HashAt wy hb C p ao cp ∧ (∀ g, ao = some ⟨g, 0, none⟩ → w0.heap.size ≤ g ∧ g ≠ hb) ∧ Only (fun _ => False) w0 wy) (fun wy => restN wy hb)
      case atStart => exact ⟨_, _, _, HH9.out, HA9.out, HO9.out⟩
      case round =>
        obtain ⟨p, ao, cp, hH, hao, hor⟩ := hrel
        have c9 : wr.cell? ⟨hb, 9, none⟩ = some (.slice ao (C.length - 64 * p) cp) := cell_blk hH.blk 9
        have lb := blk_lt hH.blk
        obtain ⟨r2, hr2⟩ : ∃ r, C.length - 64 * p = r := ⟨_, rfl⟩
        rw [hr2] at c9
        by_cases h64 : (64 : Int) ≤ r2
        · have hgr := hH.row
          rw [hr2] at hgr
          obtain ⟨g, rfl, -⟩ := hgr.cells (by omega)
          obtain ⟨D, hD⟩ : ∃ D, C.drop (64 * p) = D := ⟨_, rfl⟩
          have hDl : D.length = r2 := by rw [← hD, List.length_drop]; exact hr2
          have hnx : blks st0 C (p + 1) = blk (blks st0 C p) (D.take 64) := by rw [blks, hD]
          have hok := blks_ok C st0_ok p
          rw [hD] at hgr
          have hsr := hgr.src.take2 64 cp (by omega)
          have hcv := conv_str (hsr.same (Only.refl (fun _ => False) wr).drew)
          have hcap := hgr.2.1
          have hcp : 64 ≤ cp := by omega
          have hcpI : (64 : Int) ≤ cp := by omega
          have hblk := hH.blk
          rw [hr2] at hblk
          have hbc := fun (wx : World) => block_c (w := wx) hok (D.take 64) (by rw [List.length_take]; omega) (by rw [List.length_take]; omega)
          obtain ⟨⟨a0, a1, a2, a3, a4, a5, a6, a7⟩, hS⟩ : ∃ x, blks st0 C p = x := ⟨_, rfl⟩
          rw [hS] at hblk hbc hnx
          obtain ⟨⟨b0, b1, b2, b3, b4, b5, b6, b7⟩, hS'⟩ : ∃ x, blk ⟨a0, a1, a2, a3, a4, a5, a6, a7⟩ (D.take 64) = x := ⟨_, rfl⟩
          rw [hS'] at hnx
          simp only [hS'] at hbc
          have c0 : wr.cell? ⟨hb, 0, none⟩ = some (.int .u32 a0) := cell_blk hblk 0
          have c1 : wr.cell? ⟨hb, 1, none⟩ = some (.int .u32 a1) := cell_blk hblk 1
          have c2 : wr.cell? ⟨hb, 2, none⟩ = some (.int .u32 a2) := cell_blk hblk 2
          have c3 : wr.cell? ⟨hb, 3, none⟩ = some (.int .u32 a3) := cell_blk hblk 3
          have c4 : wr.cell? ⟨hb, 4, none⟩ = some (.int .u32 a4) := cell_blk hblk 4
          have c5 : wr.cell? ⟨hb, 5, none⟩ = some (.int .u32 a5) := cell_blk hblk 5
          have c6 : wr.cell? ⟨hb, 6, none⟩ = some (.int .u32 a6) := cell_blk hblk 6
          have c7 : wr.cell? ⟨hb, 7, none⟩ = some (.int .u32 a7) := cell_blk hblk 7
          have HBC : Hid (∀ wx : World, Calls Tryz.prog 96 #[.agg #[.int .u32 a0, .int .u32 a1, .int .u32 a2, .int .u32 a3, .int .u32 a4, .int .u32 a5, .int .u32 a6, .int .u32 a7], .string (strOf (D.take 64))] wx fun e w' => e = .returned (.agg #[.int .u32 (b0 : Nat), .int .u32 (b1 : Nat), .int .u32 (b2 : Nat), .int .u32 (b3 : Nat), .int .u32 (b4 : Nat), .int .u32 (b5 : Nat), .int .u32 (b6 : Nat), .int .u32 (b7 : Nat)]) ∧ Only (fun _ => False) wx w') := hid hbc
          have HBK := hid hblk; have HGR := hid hgr; have HNX := hid hnx; have HDL := hid hDl; have HAO2 := hid (hao g rfl); have HOR2 := hid hor; have HDD := hid hD; have HR2 := hid hr2; have HLE := hid hH.le; have HM0 := hid hH.rest
          clear hbc hblk hgr hnx hok hsr hS hS' hDl hao hor hH hD hr2
          go_wp2_with fail
          go_region_law (first
            | (refine step_of rfl (wp_callc (o := ⟨some 60, _, _, _, _, _⟩) (f := 96) (args := #[.agg #[.int .u32 a0, .int .u32 a1, .int .u32 a2, .int .u32 a3, .int .u32 a4, .int .u32 a5, .int .u32 a6, .int .u32 a7], .string (strOf (D.take 64))]) (by kernel_rfl) ?_); refine (HBC.out _).mono ?_; rintro x w5 ⟨rfl, ho5⟩; refine ⟨_, rfl, ?_⟩; have hb5 := blk_only (w := wr.drew) HBK.out ho5 (fun e => e); have HB5 := hid hb5; have HO5 := hid ((Only.refl (fun _ => False) wr).drew.trans ho5 (fun _ _ e => e)); have lb5 := blk_lt hb5; have z5 : ∀ i, w5.frozen? ⟨hb, i, none⟩ = false := frozen_blk hb5; have e0 : w5.cell? ⟨hb, 0, none⟩ = some (.int .u32 a0) := cell_blk hb5 0; have e1 : w5.cell? ⟨hb, 1, none⟩ = some (.int .u32 a1) := cell_blk hb5 1; have e2 : w5.cell? ⟨hb, 2, none⟩ = some (.int .u32 a2) := cell_blk hb5 2; have e3 : w5.cell? ⟨hb, 3, none⟩ = some (.int .u32 a3) := cell_blk hb5 3; have e4 : w5.cell? ⟨hb, 4, none⟩ = some (.int .u32 a4) := cell_blk hb5 4; have e5 : w5.cell? ⟨hb, 5, none⟩ = some (.int .u32 a5) := cell_blk hb5 5; have e6 : w5.cell? ⟨hb, 6, none⟩ = some (.int .u32 a6) := cell_blk hb5 6; have e7 : w5.cell? ⟨hb, 7, none⟩ = some (.int .u32 a7) := cell_blk hb5 7; have e9 : w5.cell? ⟨hb, 9, none⟩ = some (.slice (some ⟨g, 0, none⟩) r2 cp) := cell_blk hb5 9; clear ho5 hb5))
          all_goals
            skip
            obtain ⟨w6, hw6⟩ : ∃ w6, ((((((((w5.setCell ⟨hb, 0, none⟩ (.int .u32 (b0 : Nat))).setCell ⟨hb, 1, none⟩ (.int .u32 (b1 : Nat))).setCell ⟨hb, 2, none⟩ (.int .u32 (b2 : Nat))).setCell ⟨hb, 3, none⟩ (.int .u32 (b3 : Nat))).setCell ⟨hb, 4, none⟩ (.int .u32 (b4 : Nat))).setCell ⟨hb, 5, none⟩ (.int .u32 (b5 : Nat))).setCell ⟨hb, 6, none⟩ (.int .u32 (b6 : Nat))).setCell ⟨hb, 7, none⟩ (.int .u32 (b7 : Nat))) = w6 := ⟨_, rfl⟩
            have h6 := (blk_set (blk_set (blk_set (blk_set (blk_set (blk_set (blk_set (blk_set HB5.out 0 (.int .u32 (b0 : Nat))) 1 (.int .u32 (b1 : Nat))) 2 (.int .u32 (b2 : Nat))) 3 (.int .u32 (b3 : Nat))) 4 (.int .u32 (b4 : Nat))) 5 (.int .u32 (b5 : Nat))) 6 (.int .u32 (b6 : Nat))) 7 (.int .u32 (b7 : Nat)))
            rw [hw6, hash_set8] at h6
            have h6' : w6.heap[hb]? = some (.cells (hashA ⟨b0, b1, b2, b3, b4, b5, b6, b7⟩ true (.slice (some ⟨g, 0, none⟩) r2 cp) C.length) 167 (0, 0)) := h6
            have ho6 : Only (fun k => k = hb) w5 w6 := by rw [← hw6]; exact ((((((((only_set (w := w5) hb 0 (.int .u32 (b0 : Nat))).trans (only_set hb 1 (.int .u32 (b1 : Nat))) (fun _ _ e => e)).trans (only_set hb 2 (.int .u32 (b2 : Nat))) (fun _ _ e => e)).trans (only_set hb 3 (.int .u32 (b3 : Nat))) (fun _ _ e => e)).trans (only_set hb 4 (.int .u32 (b4 : Nat))) (fun _ _ e => e)).trans (only_set hb 5 (.int .u32 (b5 : Nat))) (fun _ _ e => e)).trans (only_set hb 6 (.int .u32 (b6 : Nat))) (fun _ _ e => e)).trans (only_set hb 7 (.int .u32 (b7 : Nat))) (fun _ _ e => e))
            have hgr6 := (HGR.out.only HO5.out (fun _ _ e => e)).only ho6 (fun q e h => HAO2.out.2 (by simp only [Option.some.injEq, Addr.mk.injEq, and_true] at e; rw [e]; exact h))
            have hor6 := (HOR2.out.trans HO5.out (fun _ _ e => e)).trans ho6 (fun i hi e => by have e' : i = hb := e; omega)
            rw [hw6]
            have HB6 := hid h6'; have HGR6 := hid hgr6; have HOR6 := hid hor6
            have HB7 := hid (blk_alloc (o' := .cells #[] 5) h6')
            have hor7 := hor6.trans (only_new w6 (.cells #[] 5)) (fun _ _ e => e)
            have HOR7 := hid hor7
            have hsz6 := hor6.size
            have HGE : Hid (Gr (w6.alloc (.cells #[] 5)) 5 1 (some ⟨w6.heap.size, 0, none⟩) 0 0 []) := hid ⟨rfl, Nat.le_refl _, .inr ⟨_, rfl, [], blk_new w6 _, rfl⟩⟩
            have hgr7 := hgr6.only (only_new w6 (.cells #[] 5)) (fun _ _ e => e)
            have hsrc : ∀ ax : Option Addr, (64 < r2 → ax = some ⟨g, 64, none⟩) → SrcG (w6.alloc (.cells #[] 5)) ax (r2 - 64) 1 (bytesV (D.drop 64)) := fun ax hax => by
              refine ⟨by simp [HDL.out], fun h0 => ⟨_, hax (by omega), fun j u hj => ?_⟩, oneCell_bytesV _⟩
              obtain ⟨g', e', hc⟩ := hgr7.cells (by omega)
              simp only [Option.some.injEq, Addr.mk.injEq, and_true] at e'
              subst e'
              rw [addr_add]
              refine hc (64 + j) u ?_
              rw [bytesV_get] at hj ⊢
              rwa [List.getElem?_drop] at hj
            have HSRC := hid hsrc
            have k9 : (w6.alloc (.cells #[] 5)).cell? ⟨hb, 9, none⟩ = some (.slice (some ⟨g, 0, none⟩) r2 cp) := cell_blk HB7.out 9
            have l7 := blk_lt HB7.out
            have l6 := blk_lt HB6.out
            have hr2l : r2 ≤ 900000000 := by have := HR2.out; omega
            clear h6 h6' ho6 hgr6 hor6 hor7 hgr7 hsrc hw6 e0 e1 e2 e3 e4 e5 e6 e7 e9 z5 lb5 hcv c9 c0 c1 c2 c3 c4 c5 c6 c7
            by_cases hc64 : cp = 64
            · have hr64' : r2 = 64 := by omega
              subst hc64
              subst hr64'
              go_wp2_with ((guard_target =~ wpList _ _ _ (⟨some 70, _, _, _, _, _⟩ :: _) _ _); refine wpList_gr (o := ⟨some 70, _, _, _, _, _⟩) rfl el8 (.tmp 64) (.tmp 69) rfl HGE.out rfl (some ⟨g, 0, none⟩) 0 0 rfl (bytesV (D.drop 64)) (HSRC.out _ (fun h => absurd h (by decide))) (by omega) (by omega) ?_; intro ao9 cp9 w9 hg9 ha9 ho9; rw [Nat.zero_add, List.nil_append] at hg9; have Hg9 := hid hg9; have Ha9 := hid ha9; have Ho9 := hid ho9; have b9 := blk_only HB7.out ho9 (fun e => by simp only [Option.some.injEq, Addr.mk.injEq, and_true] at e; omega); have B9 := hid b9; have z9 : ∀ i, w9.frozen? ⟨hb, i, none⟩ = false := frozen_blk b9; have l9 := blk_lt b9; have d9 : w9.cell? ⟨hb, 9, none⟩ = some (.slice (some ⟨g, 0, none⟩) 64 64) := cell_blk b9 9; clear hg9 ha9 ho9 b9)
              have hao9 : ∀ q, ao9 = some ⟨q, 0, none⟩ → w0.heap.size ≤ q ∧ q ≠ hb := fun q e => by
                rcases Ha9.out with h | h
                · rw [h] at e; simp only [Option.some.injEq, Addr.mk.injEq, and_true] at e; omega
                · rw [h] at e; simp only [Option.some.injEq, Addr.mk.injEq, and_true, World.size_alloc] at e; omega
              have hlen : C.length - 64 * (p + 1) = 0 := by have := HR2.out; omega
              have hH9 : HashAt (w9.setCell ⟨hb, 9, none⟩ (.slice ao9 0 cp9)) hb C (p + 1) ao9 cp9 := by
                refine ⟨?_, ?_, by have := HR2.out; have := HLE.out; omega⟩
                · have h := blk_set B9.out 9 (.slice ao9 0 cp9)
                  rw [HNX.out, hlen]
                  exact h
                · have h := (Hg9.out.only (only_set hb 9 (.slice ao9 0 cp9)) (fun q e h => (hao9 q e).2 h))
                  have e1 : C.drop (64 * (p + 1)) = D.drop 64 := by rw [← HDD.out, List.drop_drop]; congr 1
                  rw [hlen, e1]
                  exact h
              have hO9 : Only (fun _ => False) w0 (w9.setCell ⟨hb, 9, none⟩ (.slice ao9 0 cp9)) := (HOR7.out.trans Ho9.out (fun i hi e => by simp only [Option.some.injEq, Addr.mk.injEq, and_true] at e; omega)).trans (only_set hb 9 _) (fun i hi e => by have e' : i = hb := e; omega)
              have hme := hH9.rest
              have HA9 := hid hao9; have HH9 := hid hH9; have HO9 := hid hO9; have HME := hid hme
              clear hao9 hH9 hO9 hme z9 l9 d9
              go_roundw
              case rel => exact ⟨p + 1, ao9, cp9, HH9.out, HA9.out, HO9.out⟩
              case measure => rw [HME.out, HM0.out]; have := HR2.out; omega
            · have hc64' : 64 < cp := by omega
              go_wp2_with ((guard_target =~ wpList _ _ _ (⟨some 70, _, _, _, _, _⟩ :: _) _ _); refine wpList_gr (o := ⟨some 70, _, _, _, _, _⟩) rfl el8 (.tmp 64) (.tmp 69) rfl HGE.out rfl (some ⟨g, 64, none⟩) (r2 - 64) (cp - 64) rfl (bytesV (D.drop 64)) (HSRC.out _ (fun _ => rfl)) (by omega) (by omega) ?_; intro ao9 cp9 w9 hg9 ha9 ho9; rw [Nat.zero_add, List.nil_append] at hg9; have Hg9 := hid hg9; have Ha9 := hid ha9; have Ho9 := hid ho9; have b9 := blk_only HB7.out ho9 (fun e => by simp only [Option.some.injEq, Addr.mk.injEq, and_true] at e; omega); have B9 := hid b9; have z9 : ∀ i, w9.frozen? ⟨hb, i, none⟩ = false := frozen_blk b9; have l9 := blk_lt b9; have d9 : w9.cell? ⟨hb, 9, none⟩ = some (.slice (some ⟨g, 0, none⟩) r2 cp) := cell_blk b9 9; clear hg9 ha9 ho9 b9)
              have hao9 : ∀ q, ao9 = some ⟨q, 0, none⟩ → w0.heap.size ≤ q ∧ q ≠ hb := fun q e => by
                rcases Ha9.out with h | h
                · rw [h] at e; simp only [Option.some.injEq, Addr.mk.injEq, and_true] at e; omega
                · rw [h] at e; simp only [Option.some.injEq, Addr.mk.injEq, and_true, World.size_alloc] at e; omega
              have hlen : C.length - 64 * (p + 1) = r2 - 64 := by have := HR2.out; omega
              have hH9 : HashAt (w9.setCell ⟨hb, 9, none⟩ (.slice ao9 (r2 - 64) cp9)) hb C (p + 1) ao9 cp9 := by
                refine ⟨?_, ?_, by have := HR2.out; have := HLE.out; omega⟩
                · have h := blk_set B9.out 9 (.slice ao9 (r2 - 64) cp9)
                  rw [HNX.out, hlen]
                  exact h
                · have h := (Hg9.out.only (only_set hb 9 (.slice ao9 (r2 - 64) cp9)) (fun q e h => (hao9 q e).2 h))
                  have e1 : C.drop (64 * (p + 1)) = D.drop 64 := by rw [← HDD.out, List.drop_drop]; congr 1
                  rw [hlen, e1]
                  exact h
              have hO9 : Only (fun _ => False) w0 (w9.setCell ⟨hb, 9, none⟩ (.slice ao9 (r2 - 64) cp9)) := (HOR7.out.trans Ho9.out (fun i hi e => by simp only [Option.some.injEq, Addr.mk.injEq, and_true] at e; omega)).trans (only_set hb 9 _) (fun i hi e => by have e' : i = hb := e; omega)
              have hme := hH9.rest
              have HA9 := hid hao9; have HH9 := hid hH9; have HO9 := hid hO9; have HME := hid hme
              clear hao9 hH9 hO9 hme z9 l9 d9
              go_roundw
              case rel => exact ⟨p + 1, ao9, cp9, HH9.out, HA9.out, HO9.out⟩
              case measure => rw [HME.out, HM0.out]; have := HR2.out; omega
        · have hp : p = C.length / 64 := by have := hH.le; omega
          rw [hp] at hH
          have HH := hid hH; have HA := hid hao; have HO2 := hid hor
          clear hH hao hor
          go_wp2_with fail
          go_roundw
          case rel => exact ⟨k + 1, ao, cp, by go_num, by omega, by rw [HB1.out]; exact HH.out, HA.out, HO2.out⟩
          case measure => simp [intOf]; omega
    · obtain rfl : k = ps.length := by omega
      rw [List.take_length] at hH
      have HH := hid hH; have HA := hid hao; have HO2 := hid hor
      clear hH hao hor
      go_wp2_with fail
      go_end0
      exact ⟨rfl, ao, cp, HH.out, HA.out, HO2.out⟩
end
end Go.Proofs.YtfmdngeooelcpaaGreat
namespace Go.Proofs.YtfmdngeooelcpaaGreat
open Go.RowKit
theorem beN_get (x : Nat) {j : Nat} (h : j < 8) : (beN 8 x)[j]? = some (UInt8.ofNat (x / 2 ^ (56 - 8 * j))) := by
  rcases j8 h with rfl | rfl | rfl | rfl | rfl | rfl | rfl | rfl <;> simp [beN, Nat.div_div_eq_div_mul]
theorem ext_take (l : List UInt8) (n : Nat) : (strOf l).extract 0 n = strOf (l.take n) := by
  apply ByteArray.ext
  simp [strOf, ByteArray.data_extract, List.extract_eq_take_drop]
theorem ext_drop (l : List UInt8) (n m : Nat) (hm : m = l.length) : (strOf l).extract n m = strOf (l.drop n) := by
  subst hm
  apply ByteArray.ext
  simp [strOf, ByteArray.data_extract, List.extract_eq_take_drop]
  exact List.take_of_length_le (by simp)
theorem st_set8 (a0 a1 a2 a3 a4 a5 a6 a7 b0 b1 b2 b3 b4 b5 b6 b7 : Nat) : (((((((((stA ⟨a0, a1, a2, a3, a4, a5, a6, a7⟩).setIfInBounds 0 (.int .u32 (b0 : Nat))).setIfInBounds 1 (.int .u32 (b1 : Nat))).setIfInBounds 2 (.int .u32 (b2 : Nat))).setIfInBounds 3 (.int .u32 (b3 : Nat))).setIfInBounds 4 (.int .u32 (b4 : Nat))).setIfInBounds 5 (.int .u32 (b5 : Nat))).setIfInBounds 6 (.int .u32 (b6 : Nat))).setIfInBounds 7 (.int .u32 (b7 : Nat))) = stA ⟨b0, b1, b2, b3, b4, b5, b6, b7⟩ := by simp [stA, u32V]
def sizeV : Value → Nat
  | .string s => s.size
  | _ => 0
def lenV : Value → Nat
  | .slice _ n _ => n
  | _ => 0
section
variable {w : World}
set_option maxRecDepth 100000 in
set_option maxHeartbeats 6400000 in
theorem hsum_c {hb : Nat} {B : List UInt8} {ao : Option Addr} {cp : Nat} (hH : HashAt w hb B (B.length / 64) ao cp) (hl : B.length ≤ 900000000) :
    Calls Tryz.prog 86 #[.pointer (some ⟨hb, 0, none⟩)] w fun e w' => e = .returned (.agg (bytesV (sha B)).toArray) ∧ Only (fun _ => False) w w' := by
  have HH := hid hH
  have hok := blks_ok B st0_ok (B.length / 64)
  have hblk := hH.blk
  obtain ⟨r, hr⟩ : ∃ r, B.length - 64 * (B.length / 64) = r := ⟨_, rfl⟩
  rw [hr] at hblk
  obtain ⟨⟨a0, a1, a2, a3, a4, a5, a6, a7⟩, hS⟩ : ∃ x, blks st0 B (B.length / 64) = x := ⟨_, rfl⟩
  rw [hS] at hblk hok
  have c0 : w.cell? ⟨hb, 0, none⟩ = some (.int .u32 a0) := cell_blk hblk 0
  have c1 : w.cell? ⟨hb, 1, none⟩ = some (.int .u32 a1) := cell_blk hblk 1
  have c2 : w.cell? ⟨hb, 2, none⟩ = some (.int .u32 a2) := cell_blk hblk 2
  have c3 : w.cell? ⟨hb, 3, none⟩ = some (.int .u32 a3) := cell_blk hblk 3
  have c4 : w.cell? ⟨hb, 4, none⟩ = some (.int .u32 a4) := cell_blk hblk 4
  have c5 : w.cell? ⟨hb, 5, none⟩ = some (.int .u32 a5) := cell_blk hblk 5
  have c6 : w.cell? ⟨hb, 6, none⟩ = some (.int .u32 a6) := cell_blk hblk 6
  have c7 : w.cell? ⟨hb, 7, none⟩ = some (.int .u32 a7) := cell_blk hblk 7
  have c8 : w.cell? ⟨hb, 8, none⟩ = some (.bool true) := cell_blk hblk 8
  have c9 : w.cell? ⟨hb, 9, none⟩ = some (.slice ao r cp) := cell_blk hblk 9
  have c10 : w.cell? ⟨hb, 10, none⟩ = some (.int .u64 B.length) := cell_blk hblk 10
  have lb := blk_lt hblk
  have HBK := hid hblk; have HOK := hid hok; have HS := hid hS; have HR := hid hr
  clear hH hblk hok hS hr
  go_enter Tryz.func86, Tryz.ntmps86
  go_upto_region 4 with fail
  obtain ⟨wk, hwk⟩ : ∃ wk, (w.alloc (.cells (byA st0 0) 40)).alloc (.cells (stA ⟨a0, a1, a2, a3, a4, a5, a6, a7⟩) 165) = wk := ⟨_, rfl⟩
  change Code.wp _ _ _ _ ((w.alloc (.cells (byA st0 0) 40)).alloc (.cells (stA ⟨a0, a1, a2, a3, a4, a5, a6, a7⟩) 165))
  have h1 : wk.heap[w.heap.size]? = some (.cells (byA st0 0) 40 (0, 0)) := by rw [← hwk]; exact blk_alloc (blk_new w _)
  have h2 : wk.heap[w.heap.size + 1]? = some (.cells (stA ⟨a0, a1, a2, a3, a4, a5, a6, a7⟩) 165 (0, 0)) := by rw [← hwk]; have := blk_new (w.alloc (.cells (byA st0 0) 40)) (.cells (stA ⟨a0, a1, a2, a3, a4, a5, a6, a7⟩) 165); rw [World.size_alloc] at this; exact this
  have ho : Only (fun _ => False) w wk := by rw [← hwk]; exact (only_new _ _).trans (only_new _ _) (fun _ _ e => e)
  have hks : w.heap.size + 2 ≤ wk.heap.size := by rw [← hwk]; simp
  rw [hwk]
  have HK := hid (HH.out.only ho)
  have H1 := hid h1; have H2 := hid h2; have HO := hid ho
  have hbk := blk_only HBK.out ho (fun e => e)
  have HBW := hid (blk_alloc (o' := .cells #[] 5) hbk)
  have k9 : (wk.alloc (.cells #[] 5)).cell? ⟨hb, 9, none⟩ = some (.slice ao r cp) := cell_blk HBW.out 9
  have lk := blk_lt HBW.out
  have HGE : Hid (Gr (wk.alloc (.cells #[] 5)) 5 1 (some ⟨wk.heap.size, 0, none⟩) 0 0 []) := hid ⟨rfl, Nat.le_refl _, .inr ⟨_, rfl, [], blk_new wk _, rfl⟩⟩
  obtain ⟨R, hRe⟩ : ∃ R, B.drop (64 * (B.length / 64)) = R := ⟨_, rfl⟩
  have hRl : R.length = r := by rw [← hRe, List.length_drop]; exact HR.out
  have hgrk := HK.out.row.only (only_new wk (.cells #[] 5)) (fun _ _ e => e)
  rw [HR.out, hRe] at hgrk
  have HSR := hid hgrk.src.sg2
  have HRE := hid hRe; have HRL := hid hRl
  have hr64 : r < 64 := by have := HR.out; omega
  clear c0 c1 c2 c3 c4 c5 c6 c7 c8 c9 c10 lb h1 h2 ho hwk hbk hgrk hRe hRl
  go_wp2_with (first
    | ((guard_target =~ wpList _ _ _ (⟨some 22, _, _, _, _, _⟩ :: _) _ _); refine wpList_gr (o := ⟨some 22, _, _, _, _, _⟩) rfl el8 (.tmp 17) (.tmp 21) rfl HGE.out rfl ao r cp rfl (bytesV R) HSR.out (by omega) (by omega) ?_; intro ao9 cp9 w9 hg9 ha9 ho9; rw [Nat.zero_add, List.nil_append] at hg9; have Ha9 := hid ha9; have Ho9 := hid ho9; have Hg9 := hid (hg9.only (only_new w9 (.cells #[.int .u8 128] 5)) (fun _ _ e => e)); have HSX : Hid (SrcG (w9.alloc (.cells #[.int .u8 128] 5)) (some ⟨w9.heap.size, 0, none⟩) 1 1 (bytesV [128])) := hid (SrcG.new (T := 5) (fr := (0, 0)) (blk_new w9 _) (by simp) (oneCell_bytesV _)); clear hg9 ha9 ho9)
    | ((guard_target =~ wpList _ _ _ (⟨some 25, _, _, _, _, _⟩ :: _) _ _); refine wpList_gr (o := ⟨some 25, _, _, _, _, _⟩) rfl el8 (.tmp 23) (.tmp 24) rfl Hg9.out (by first | rfl | exact congrArg (fun q => Value.slice ao9 q cp9) (Nat.zero_add _)) (some ⟨w9.heap.size, 0, none⟩) 1 1 rfl (bytesV [128]) HSX.out (by omega) (by omega) ?_; intro ao8 cp8 w8 hg8 ha8 ho8; rw [← bytesV_append] at hg8; have Hg8 := hid hg8; have Ha8 := hid ha8; have Ho8 := hid ho8; clear hg8 ha8 ho8))
  have hao8 : ∀ g, ao8 = some ⟨g, 0, none⟩ → wk.heap.size ≤ g := fun g e => by
    rcases Ha8.out with h | h
    · rcases Ha9.out with h' | h'
      · rw [h, h'] at e; simp only [Option.some.injEq, Addr.mk.injEq, and_true] at e; omega
      · rw [h, h'] at e; simp only [Option.some.injEq, Addr.mk.injEq, and_true, World.size_alloc] at e; omega
    · rw [h] at e; simp only [Option.some.injEq, Addr.mk.injEq, and_true, World.size_alloc] at e
      have := Ho9.out.size; simp only [World.size_alloc] at this; omega
  have hO8 : Only (fun _ => False) wk w8 := (((only_new wk _).trans Ho9.out (fun i hi e => by simp only [Option.some.injEq, Addr.mk.injEq, and_true] at e; omega)).trans (only_new w9 _) (fun _ _ e => e)).trans Ho8.out (fun i hi e => by
    rcases Ha9.out with h' | h'
    · rw [h'] at e; simp only [Option.some.injEq, Addr.mk.injEq, and_true] at e; omega
    · rw [h'] at e; simp only [Option.some.injEq, Addr.mk.injEq, and_true, World.size_alloc] at e; omega)
  have HA8 := hid hao8; have HO8 := hid hO8
  have hrm : B.length % 64 = r := by have := HR.out; omega
  have hpz : padZ B.length = (119 - r) % 64 := by unfold padZ; rw [hrm]
  obtain ⟨Z, hZ⟩ : ∃ Z, padZ B.length = Z := ⟨_, rfl⟩
  rw [hZ] at hpz
  have HZ := hid hZ; have HPZ := hid hpz
  clear hao8 hO8 hrm hZ hpz
  go_loopw [4] (fun s wr => ∃ (z cp : Nat) (ao : Option Addr), s = .slice ao (r + 1 + z) cp ∧ z ≤ Z ∧ Gr wr 5 1 ao (r + 1 + z) cp (bytesV (R ++ [128] ++ List.replicate z 0)) ∧ (∀ g, ao = some ⟨g, 0, none⟩ → wk.heap.size ≤ g) ∧ Only (fun _ => False) wk wr) (fun s _ => r + 1 + Z - lenV s)
  case atStart => exact ⟨0, cp8, ao8, rfl, Nat.zero_le _, by simpa using Hg8.out, HA8.out, HO8.out⟩
  case round =>
    obtain ⟨z, cp, ao, rfl, hz, hgr, hao, hor⟩ := hrel
    have hp := HPZ.out
    by_cases hzz : z = Z
    · subst hzz
      have HGR := hid hgr; have HAO := hid hao; have HOR := hid hor
      obtain ⟨T, hT⟩ : ∃ T, R ++ [128] ++ List.replicate z 0 = T := ⟨_, rfl⟩
      obtain ⟨m, hm⟩ : ∃ m, r + 1 + z = m := ⟨_, rfl⟩
      have hmb : ((m : Int) % 64 != 56) = false := by simp only [bne_eq_false_iff_eq]; omega
      have hml : m ≤ 200 := by omega
      rw [hT, hm] at HGR
      rw [hm]
      have HT := hid hT; have HM := hid hm
      clear hgr hao hor hT hm
      go_wp2_with fail
      go_loopw [5, 4] (fun i s wy => ∃ (j cp : Nat) (ao : Option Addr), j ≤ 8 ∧ i = .int .i64 (56 - 8 * (j : Int)) ∧ s = .slice ao (m + j) cp ∧ Gr wy 5 1 ao (m + j) cp (bytesV (T ++ (beN 8 (8 * B.length)).take j)) ∧ (∀ g, ao = some ⟨g, 0, none⟩ → wk.heap.size ≤ g) ∧ Only (fun _ => False) wk wy) (fun _ s _ => m + 8 - lenV s)
      case atStart => exact ⟨0, cp, ao, by omega, rfl, rfl, by simpa using HGR.out, HAO.out, HOR.out⟩
      case round =>
        obtain ⟨j, cp, ao, hj, rfl, rfl, hgr, hao, hor⟩ := hrel
        by_cases hj8 : j < 8
        · have HKR := hid (HK.out.only hor)
          have c10 : wr.cell? ⟨hb, 10, none⟩ = some (.int .u64 B.length) := cell_blk (HK.out.only hor).blk 10
          have lb := blk_lt (HK.out.only hor).blk
          have i0 : (0 : Int) ≤ 56 - 8 * (j : Int) := by omega
          obtain ⟨q, hq⟩ : ∃ q, (UInt8.ofNat (8 * B.length / 2 ^ (56 - 8 * j))).toNat = q := ⟨_, rfl⟩
          have hv : (B.length : Int) * 8 / 2 ^ (56 - 8 * j) = ((8 * B.length / 2 ^ (56 - 8 * j) : Nat) : Int) := by rw [Int.natCast_ediv, Int.natCast_pow, Int.natCast_mul, Int.mul_comm]; rfl
          have hq1 : IntKind.u8.wrap ((B.length : Int) * 8 / 2 ^ (56 - 8 * j)) = (q : Int) := by rw [hv, IntKind.wrap_u8, ← hq]; simp
          have hq2 : (B.length : Int) * 8 / 2 ^ (56 - 8 * j) % 256 = (q : Int) := by rw [← IntKind.wrap_u8]; exact hq1
          have hgt := beN_get (8 * B.length) hj8
          have htk : (beN 8 (8 * B.length)).take (j + 1) = (beN 8 (8 * B.length)).take j ++ [UInt8.ofNat (8 * B.length / 2 ^ (56 - 8 * j))] := by rw [List.take_add_one, hgt]; rfl
          have HG1 := hid (hgr.only (only_new wr (.cells #[.int .u8 q] 5)) (fun _ _ e => e))
          have HSX1 : Hid (SrcG (wr.alloc (.cells #[.int .u8 q] 5)) (some ⟨wr.heap.size, 0, none⟩) 1 1 (bytesV [UInt8.ofNat (8 * B.length / 2 ^ (56 - 8 * j))])) := hid (SrcG.new (T := 5) (fr := (0, 0)) (by rw [← hq]; exact blk_new wr _) (by simp) (oneCell_bytesV _))
          have HAO := hid hao; have HOR := hid hor; have HTK := hid htk
          have hszr := hor.size
          clear hgr hao hor hv hgt htk hq
          go_wp2_with ((guard_target =~ wpList _ _ _ (⟨some 47, _, _, _, _, _⟩ :: _) _ _); refine wpList_gr (o := ⟨some 47, _, _, _, _, _⟩) rfl el8 (.tmp 37) (.tmp 46) rfl HG1.out rfl (some ⟨wr.heap.size, 0, none⟩) 1 1 rfl _ HSX1.out (by omega) (by omega) ?_; intro ao7 cp7 w7 hg7 ha7 ho7; rw [← bytesV_append] at hg7; have Hg7 := hid hg7; have Ha7 := hid ha7; have Ho7 := hid ho7; clear hg7 ha7 ho7)
          go_roundw
          case rel =>
            refine ⟨j + 1, cp7, ao7, by omega, by go_num, rfl, ?_, fun g e => ?_, (HOR.out.trans (only_new wr _) (fun _ _ e => e)).trans Ho7.out (fun i hi e => by have := HAO.out i e; omega)⟩
            · have h := Hg7.out
              rw [List.append_assoc, ← HTK.out] at h
              exact h
            · rcases Ha7.out with h | h
              · exact HAO.out g (by rw [← h]; exact e)
              · rw [h] at e; simp only [Option.some.injEq, Addr.mk.injEq, and_true, World.size_alloc] at e; omega
          case measure => simp only [lenV]; omega
        · obtain rfl : j = 8 := by omega
          have htl : T ++ (beN 8 (8 * B.length)).take 8 = R ++ tailB B.length := by
            rw [← HT.out, List.take_of_length_le (by rw [beN_len]; exact Nat.le_refl _)]
            unfold tailB
            rw [HZ.out, Nat.mod_eq_of_lt (by omega)]
            simp
          rw [htl] at hgr
          obtain ⟨L, hL⟩ : ∃ L, R ++ tailB B.length = L := ⟨_, rfl⟩
          rw [hL] at hgr
          have hLn : L.length = m + 8 := by have := hgr.1; simpa using this
          have hcv := conv_str (hgr.src)
          have hP : (B ++ tailB B.length).drop (64 * (B.length / 64)) = L := by rw [List.drop_append_of_le_length (by omega), HRE.out, hL]
          have hPl : (B ++ tailB B.length).length = 64 * (B.length / 64) + L.length := by rw [← hP, List.length_drop]; have := HR.out; rw [List.length_append]; omega
          have hSz : blks st0 (B ++ tailB B.length) (B.length / 64) = ⟨a0, a1, a2, a3, a4, a5, a6, a7⟩ := by rw [blks_app _ _ _ _ (by omega)]; exact HS.out
          have hsh : sha B = (blks st0 (B ++ tailB B.length) ((B.length + (tailB B.length).length) / 64)).bytes := rfl
          rw [← List.length_append] at hsh
          have hdv : 64 ∣ (B ++ tailB B.length).length := by rw [List.length_append]; exact pad_lenS _
          obtain ⟨P, hPe⟩ : ∃ P, B ++ tailB B.length = P := ⟨_, rfl⟩
          rw [hPe] at hP hPl hSz hsh hdv
          have H1R := hid (blk_only H1.out hor (fun e => e))
          have H2R := hid (blk_only H2.out hor (fun e => e))
          have HOR := hid (HO.out.trans hor (fun _ _ e => e))
          have HSH := hid hsh; have HSZ := hid hSz; have HPP := hid hP; have HPL := hid hPl; have HDV := hid hdv
          clear hgr hao hor hsh hSz hP hPl hPe htl hdv hL
          obtain ⟨wo, hwo⟩ : ∃ wo, wo = wr := ⟨_, rfl⟩
          subst hwo
          have HCV := hid hcv
          clear hcv
          have hcv := HCV.out
          go_wp2_with fail
          go_loopw [6] (fun s wy => ∃ p, B.length / 64 ≤ p ∧ 64 * p ≤ P.length ∧ s = .string (strOf (P.drop (64 * p))) ∧ wy.heap[w.heap.size + 1]? = some (.cells (stA (blks st0 P p)) 165 (0, 0)) ∧ Only (fun k => k = w.heap.size + 1) wo wy) (fun s _ => sizeV s)
          case atStart => exact ⟨B.length / 64, Nat.le_refl _, by have := HPL.out; omega, by rw [HPP.out], by rw [HSZ.out]; exact H2R.out, Only.refl _ _⟩
          case round =>
            obtain ⟨p, hp0, hpl, rfl, hs, ho⟩ := hrel
            clear hcv
            by_cases hpe : 64 * p < P.length
            · have hp64 : 64 * p + 64 ≤ P.length := by obtain ⟨c, hc⟩ := HDV.out; omega
              have hok := blks_ok P st0_ok p
              have hnx : blks st0 P (p + 1) = blk (blks st0 P p) ((P.drop (64 * p)).take 64) := rfl
              have hdd : P.drop (64 * (p + 1)) = (P.drop (64 * p)).drop 64 := by rw [List.drop_drop]; congr 1
              have hLl : (P.drop (64 * p)).length = P.length - 64 * p := List.length_drop
              obtain ⟨D, hD⟩ : ∃ D, P.drop (64 * p) = D := ⟨_, rfl⟩
              rw [hD] at hnx hdd hLl
              rw [hD]
              have hDl : 64 ≤ D.length := by omega
              have hDm : D.length ≤ 900000200 := by have := HPL.out; have := HR.out; omega
              have hbc := fun (wx : World) => block_c (w := wx) hok (D.take 64) (by rw [List.length_take]; omega) (by rw [List.length_take]; omega)
              obtain ⟨⟨d0, d1, d2, d3, d4, d5, d6, d7⟩, hS'⟩ : ∃ x, blks st0 P p = x := ⟨_, rfl⟩
              rw [hS'] at hs hbc hnx
              obtain ⟨⟨b0, b1, b2, b3, b4, b5, b6, b7⟩, hS2⟩ : ∃ x, blk ⟨d0, d1, d2, d3, d4, d5, d6, d7⟩ (D.take 64) = x := ⟨_, rfl⟩
              rw [hS2] at hnx
              simp only [hS2] at hbc
              have c0 : wr.cell? ⟨w.heap.size + 1, 0, none⟩ = some (.int .u32 d0) := cell_blk hs 0
              have c1 : wr.cell? ⟨w.heap.size + 1, 1, none⟩ = some (.int .u32 d1) := cell_blk hs 1
              have c2 : wr.cell? ⟨w.heap.size + 1, 2, none⟩ = some (.int .u32 d2) := cell_blk hs 2
              have c3 : wr.cell? ⟨w.heap.size + 1, 3, none⟩ = some (.int .u32 d3) := cell_blk hs 3
              have c4 : wr.cell? ⟨w.heap.size + 1, 4, none⟩ = some (.int .u32 d4) := cell_blk hs 4
              have c5 : wr.cell? ⟨w.heap.size + 1, 5, none⟩ = some (.int .u32 d5) := cell_blk hs 5
              have c6 : wr.cell? ⟨w.heap.size + 1, 6, none⟩ = some (.int .u32 d6) := cell_blk hs 6
              have c7 : wr.cell? ⟨w.heap.size + 1, 7, none⟩ = some (.int .u32 d7) := cell_blk hs 7
              have z1 : ∀ i, wr.frozen? ⟨w.heap.size + 1, i, none⟩ = false := frozen_blk hs
              have b1' := blk_lt hs
              have HBC : Hid (∀ wx : World, Calls Tryz.prog 96 #[.agg #[.int .u32 (d0 : Nat), .int .u32 (d1 : Nat), .int .u32 (d2 : Nat), .int .u32 (d3 : Nat), .int .u32 (d4 : Nat), .int .u32 (d5 : Nat), .int .u32 (d6 : Nat), .int .u32 (d7 : Nat)], .string (strOf (D.take 64))] wx fun e w' => e = .returned (.agg #[.int .u32 (b0 : Nat), .int .u32 (b1 : Nat), .int .u32 (b2 : Nat), .int .u32 (b3 : Nat), .int .u32 (b4 : Nat), .int .u32 (b5 : Nat), .int .u32 (b6 : Nat), .int .u32 (b7 : Nat)]) ∧ Only (fun _ => False) wx w') := hid hbc
              have hem : (strOf D).toList.isEmpty = false := by rw [strOf_list]; cases D with
                | nil => simp at hDl
                | cons => rfl
              have hx1 := ext_take D 64
              have hx2 := ext_drop D 64 D.length rfl
              have hsz : (strOf D).size = D.length := rfl
              have hszI : (64 : Int) ≤ (strOf D).size := by omega
              have hDI : (64 : Int) ≤ (D.length : Int) := by omega
              have hszN : 64 ≤ (strOf D).size := hDl
              have HSB := hid hs; have HOW := hid ho; have HNX := hid hnx; have HDD := hid hdd
              have HDL := hid hDl; have HLL := hid hLl
              clear hs ho hnx hdd hS' hS2 hok hbc hD hLl
              go_wp2_with fail
              go_region_law (first
                | (refine step_of rfl (wp_callc (o := ⟨some 57, _, _, _, _, _⟩) (f := 96) (args := #[.agg #[.int .u32 d0, .int .u32 d1, .int .u32 d2, .int .u32 d3, .int .u32 d4, .int .u32 d5, .int .u32 d6, .int .u32 d7], .string (strOf (D.take 64))]) (by kernel_rfl) ?_); refine (HBC.out _).mono ?_; rintro x w5 ⟨rfl, ho5⟩; refine ⟨_, rfl, ?_⟩; have hb5 := blk_only (w := wr.drew) HSB.out ho5 (fun e => e); have HB5 := hid hb5; have HO5 := hid ((Only.refl (fun _ => False) wr).drew.trans ho5 (fun _ _ e => e)); have lb5 := blk_lt hb5; have z5 : ∀ i, w5.frozen? ⟨w.heap.size + 1, i, none⟩ = false := frozen_blk hb5; have e0 : w5.cell? ⟨w.heap.size + 1, 0, none⟩ = some (.int .u32 d0) := cell_blk hb5 0; have e1 : w5.cell? ⟨w.heap.size + 1, 1, none⟩ = some (.int .u32 d1) := cell_blk hb5 1; have e2 : w5.cell? ⟨w.heap.size + 1, 2, none⟩ = some (.int .u32 d2) := cell_blk hb5 2; have e3 : w5.cell? ⟨w.heap.size + 1, 3, none⟩ = some (.int .u32 d3) := cell_blk hb5 3; have e4 : w5.cell? ⟨w.heap.size + 1, 4, none⟩ = some (.int .u32 d4) := cell_blk hb5 4; have e5 : w5.cell? ⟨w.heap.size + 1, 5, none⟩ = some (.int .u32 d5) := cell_blk hb5 5; have e6 : w5.cell? ⟨w.heap.size + 1, 6, none⟩ = some (.int .u32 d6) := cell_blk hb5 6; have e7 : w5.cell? ⟨w.heap.size + 1, 7, none⟩ = some (.int .u32 d7) := cell_blk hb5 7; clear ho5 hb5))
              all_goals
                go_wp2_with fail
                go_roundw
                case rel =>
                  have h6 := (blk_set (blk_set (blk_set (blk_set (blk_set (blk_set (blk_set (blk_set HB5.out 0 (.int .u32 (b0 : Nat))) 1 (.int .u32 (b1 : Nat))) 2 (.int .u32 (b2 : Nat))) 3 (.int .u32 (b3 : Nat))) 4 (.int .u32 (b4 : Nat))) 5 (.int .u32 (b5 : Nat))) 6 (.int .u32 (b6 : Nat))) 7 (.int .u32 (b7 : Nat)))
                  rw [st_set8] at h6
                  have hrr : ∃ p', B.length / 64 ≤ p' ∧ 64 * p' ≤ P.length ∧ Value.string (strOf (D.drop 64)) = .string (strOf (P.drop (64 * p'))) ∧ ((((((((w5.setCell ⟨w.heap.size + 1, 0, none⟩ (.int .u32 (b0 : Nat))).setCell ⟨w.heap.size + 1, 1, none⟩ (.int .u32 (b1 : Nat))).setCell ⟨w.heap.size + 1, 2, none⟩ (.int .u32 (b2 : Nat))).setCell ⟨w.heap.size + 1, 3, none⟩ (.int .u32 (b3 : Nat))).setCell ⟨w.heap.size + 1, 4, none⟩ (.int .u32 (b4 : Nat))).setCell ⟨w.heap.size + 1, 5, none⟩ (.int .u32 (b5 : Nat))).setCell ⟨w.heap.size + 1, 6, none⟩ (.int .u32 (b6 : Nat))).setCell ⟨w.heap.size + 1, 7, none⟩ (.int .u32 (b7 : Nat))).heap[w.heap.size + 1]? = some (.cells (stA (blks st0 P p')) 165 (0, 0)) ∧ Only (fun k => k = w.heap.size + 1) wo ((((((((w5.setCell ⟨w.heap.size + 1, 0, none⟩ (.int .u32 (b0 : Nat))).setCell ⟨w.heap.size + 1, 1, none⟩ (.int .u32 (b1 : Nat))).setCell ⟨w.heap.size + 1, 2, none⟩ (.int .u32 (b2 : Nat))).setCell ⟨w.heap.size + 1, 3, none⟩ (.int .u32 (b3 : Nat))).setCell ⟨w.heap.size + 1, 4, none⟩ (.int .u32 (b4 : Nat))).setCell ⟨w.heap.size + 1, 5, none⟩ (.int .u32 (b5 : Nat))).setCell ⟨w.heap.size + 1, 6, none⟩ (.int .u32 (b6 : Nat))).setCell ⟨w.heap.size + 1, 7, none⟩ (.int .u32 (b7 : Nat))) := ⟨p + 1, by omega, by omega, by rw [HDD.out], by rw [HNX.out]; exact h6, (HOW.out.trans (HO5.out.mono (fun _ _ e => e.elim)) (fun _ _ e => e)).trans ((((((((only_set (w := w5) (w.heap.size + 1) 0 (.int .u32 (b0 : Nat))).trans (only_set (w.heap.size + 1) 1 (.int .u32 (b1 : Nat))) (fun _ _ e => e)).trans (only_set (w.heap.size + 1) 2 (.int .u32 (b2 : Nat))) (fun _ _ e => e)).trans (only_set (w.heap.size + 1) 3 (.int .u32 (b3 : Nat))) (fun _ _ e => e)).trans (only_set (w.heap.size + 1) 4 (.int .u32 (b4 : Nat))) (fun _ _ e => e)).trans (only_set (w.heap.size + 1) 5 (.int .u32 (b5 : Nat))) (fun _ _ e => e)).trans (only_set (w.heap.size + 1) 6 (.int .u32 (b6 : Nat))) (fun _ _ e => e)).trans (only_set (w.heap.size + 1) 7 (.int .u32 (b7 : Nat))) (fun _ _ e => e)) (fun _ _ e => e)⟩
                  first
                    | (iterate 8 (apply Exists.intro)); refine And.intro ?_ rfl; exact hrr
                    | (iterate 7 (apply Exists.intro)); refine And.intro ?_ rfl; exact hrr
                    | (iterate 9 (apply Exists.intro)); refine And.intro ?_ rfl; exact hrr
                    | (iterate 6 (apply Exists.intro)); refine And.intro ?_ rfl; exact hrr
                    | (iterate 10 (apply Exists.intro)); refine And.intro ?_ rfl; exact hrr
                    | (iterate 5 (apply Exists.intro)); refine And.intro ?_ rfl; exact hrr
                    | (iterate 11 (apply Exists.intro)); refine And.intro ?_ rfl; exact hrr
                case measure => first | (show (D.drop 64).length < D.length; rw [List.length_drop]; have := HDL.out; omega) | (show (D.drop 64).length < (P.drop (64 * p)).length; rw [List.length_drop, List.length_drop]; have := HLL.out; have := HDL.out; omega)
            · have hpp : 64 * p = P.length := by omega
              have hfin : p = P.length / 64 := by omega
              have hnil : P.drop (64 * p) = [] := List.drop_eq_nil_of_le (by omega)
              rw [hnil]
              have hok := blks_ok P st0_ok p
              have hby : (blks st0 P p).bytes = sha B := by rw [HSH.out, hfin]
              obtain ⟨V, hV⟩ : ∃ V, blks st0 P p = V := ⟨_, rfl⟩
              rw [hV] at hs hok hby
              have hem : (strOf []).toList.isEmpty = true := by rw [strOf_list]; rfl
              have HSB := hid (sbytes_c (w := wr) hok)
              have hsi : (Tryz.prog.info? 165).map (·.size) = some (stA V).size := infoS8
              have hone := bytesV_one' V.bytes
              have hsz2 : ((bytesV V.bytes).toArray).size = (byA st0 0).size := by simp [bytes_len, byA]
              have hinf : (Tryz.prog.info? 40).map (·.size) = some ((bytesV V.bytes).toArray).size := by rw [info32]; simp [bytes_len]
              obtain ⟨A, hA⟩ : ∃ x, (bytesV V.bytes).toArray = x := ⟨_, rfl⟩
              obtain ⟨SA, hSA⟩ : ∃ x, stA V = x := ⟨_, rfl⟩
              obtain ⟨Z0, hZ0⟩ : ∃ x, byA st0 0 = x := ⟨_, rfl⟩
              have hstv : stV V = .agg SA := by unfold stV; rw [hSA]
              rw [hA] at hone hsz2 hinf HSB
              rw [hstv] at HSB
              rw [hSA] at hs hsi
              rw [hZ0] at H1R hsz2
              have HS3 := hid hs; have HAA := hid (show A = (bytesV (sha B)).toArray by rw [← hA, hby]); have HON := hid hone; have HIN := hid hinf; have HZ2 := hid hsz2; have HSI := hid hsi
              have H1W := hid (blk_only H1R.out ho (by show ¬ w.heap.size = w.heap.size + 1; omega))
              have HOF := hid (HOR.out.trans ho (fun i hi e => by have e' : i = w.heap.size + 1 := e; omega))
              clear hs ho hok hby hV hone hsz2 hinf hA hSA hZ0 hstv hsi hnil
              go_wp2_with ((guard_target =~ wpList _ _ _ (⟨some 58, _, _, _, _, _⟩ :: _) _ _); refine wpList_load_row rfl 165 (.tmp 3) rfl (w.heap.size + 1) rfl 165 SA (0, 0) _ HS3.out Tryz.underlying165 rfl HSI.out ?_)
              refine HSB.out.mono ?_
              rintro x w7 ⟨rfl, ho7⟩
              have H1X := hid (blk_only H1W.out ho7 (fun e => e))
              have HO7 := hid (HOF.out.trans ho7 (fun _ _ e => e))
              clear ho7
              go_wp2_with ((guard_target =~ wpList _ _ _ (⟨none, .store _ _ _, _, _, _, _⟩ :: _) _ _); refine wpList_store_all rfl 40 (.tmp 2) (.tmp 59) rfl w.heap.size A rfl rfl Z0 40 H1X.out HZ2.out HIN.out HON.out ?_; intro w9' hb9 ho9 hs9; have HB9 := hid hb9; have HO9 := hid ho9; clear hb9 ho9 hs9)
              refine bodyPost_ret (results_cell_row rfl _ _ w.heap.size 40 A (0, 0) _ rfl HB9.out Tryz.underlying40 rfl HIN.out) rfl ⟨by rw [HAA.out], HO7.out.trans HO9.out (fun i hi e => by have e' : i = w.heap.size := e; omega)⟩
    · have hzl : z < Z := by omega
      have HGR := hid hgr; have HAO := hid hao; have HOR := hid hor
      obtain ⟨m, hm⟩ : ∃ m, r + 1 + z = m := ⟨_, rfl⟩
      have hmb : ((m : Int) % 64 != 56) = true := by simp only [bne_iff_ne, ne_eq]; omega
      rw [hm] at hgr
      have HG1 := hid (hgr.only (only_new wr (.cells #[.int .u8 0] 5)) (fun _ _ e => e))
      have HSX1 : Hid (SrcG (wr.alloc (.cells #[.int .u8 0] 5)) (some ⟨wr.heap.size, 0, none⟩) 1 1 (bytesV [0])) := hid (SrcG.new (T := 5) (fr := (0, 0)) (blk_new wr _) (by simp) (oneCell_bytesV _))
      have HM := hid hm
      have hszr := hor.size
      have hml : m ≤ 200 := by omega
      rw [hm]
      clear hgr hao hor hm HGR
      go_wp2_with ((guard_target =~ wpList _ _ _ (⟨some 32, _, _, _, _, _⟩ :: _) _ _); refine wpList_gr (o := ⟨some 32, _, _, _, _, _⟩) rfl el8 (.tmp 30) (.tmp 31) rfl HG1.out rfl (some ⟨wr.heap.size, 0, none⟩) 1 1 rfl (bytesV [0]) HSX1.out (by omega) (by omega) ?_; intro ao7 cp7 w7 hg7 ha7 ho7; rw [← bytesV_append] at hg7; have Hg7 := hid hg7; have Ha7 := hid ha7; have Ho7 := hid ho7; clear hg7 ha7 ho7)
      go_roundw
      case rel =>
        refine ⟨z + 1, cp7, ao7, by rw [← HM.out]; rfl, by omega, ?_, fun g e => ?_, (HOR.out.trans (only_new wr _) (fun _ _ e => e)).trans Ho7.out (fun i hi e => by have := HAO.out i e; omega)⟩
        · have h := Hg7.out
          rw [← HM.out, List.append_assoc, ← List.replicate_succ'] at h
          exact h
        · rcases Ha7.out with h | h
          · exact HAO.out g (by rw [← h]; exact e)
          · rw [h] at e; simp only [Option.some.injEq, Addr.mk.injEq, and_true, World.size_alloc] at e; omega
      case measure => simp only [lenV]; have := HM.out; omega
end
end Go.Proofs.YtfmdngeooelcpaaGreat
namespace Go.Proofs.YtfmdngeooelcpaaGreat
open Go.RowKit
theorem PartsS.same {w w' : World} {v : Value} {ps : List (List UInt8)} (h : PartsS w v ps) (ho : Only (fun _ => False) w w') : PartsS w' v ps := by
  obtain ⟨a, c, rfl, h⟩ := h
  refine ⟨a, c, rfl, fun i l hi => ?_⟩
  obtain ⟨g, o, pa, pc, rfl, hc, hs⟩ := h i l hi
  exact ⟨g, o, pa, pc, rfl, (World.cell?_of_block (ho.block g (World.block_lt_of_cell? _ _ hc) (fun e => e))).trans hc, hs.same ho⟩
section
variable {w : World}
set_option maxRecDepth 100000 in
set_option maxHeartbeats 3200000 in
theorem sof_c {v : Value} {ps : List (List UInt8)} (hP : PartsS w v ps) (hl : ps.flatten.length ≤ 900000000) (hpl : ps.length ≤ 1000000) :
    Calls Tryz.prog 62 #[v] w fun e w' => e = .returned (.agg (bytesV (sha ps.flatten)).toArray) ∧ Only (fun _ => False) w w' := by
  have HP := hid hP
  have hone := bytesV_one' (sha ps.flatten)
  have hsz : ((bytesV (sha ps.flatten)).toArray).size = (byA st0 0).size := by simp [sha_len, byA]
  have hinf : (Tryz.prog.info? 40).map (·.size) = some ((bytesV (sha ps.flatten)).toArray).size := by rw [info32]; simp [sha_len]
  obtain ⟨A, hA⟩ : ∃ x, (bytesV (sha ps.flatten)).toArray = x := ⟨_, rfl⟩
  rw [hA] at hone hsz hinf
  have HA := hid hA; have HON := hid hone; have HSZ := hid hsz; have HIN := hid hinf
  clear hA hone hsz hinf hP
  go_enter Tryz.func62, Tryz.ntmps62
  go_upto_region 2 with fail
  obtain ⟨wk, hwk⟩ : ∃ wk, (w.alloc (.cells (byA st0 0) 40)).alloc (.cells (hashA stZ false (.slice none 0 0) 0) 167) = wk := ⟨_, rfl⟩
  change Code.wp _ _ _ _ ((w.alloc (.cells (byA st0 0) 40)).alloc (.cells (hashA stZ false (.slice none 0 0) 0) 167))
  have h1 : wk.heap[w.heap.size]? = some (.cells (byA st0 0) 40 (0, 0)) := by rw [← hwk]; exact blk_alloc (blk_new w _)
  have h2 : wk.heap[w.heap.size + 1]? = some (.cells (hashA stZ false (.slice none 0 0) 0) 167 (0, 0)) := by rw [← hwk]; have := blk_new (w.alloc (.cells (byA st0 0) 40)) (.cells (hashA stZ false (.slice none 0 0) 0) 167); rw [World.size_alloc] at this; exact this
  have ho : Only (fun _ => False) w wk := by rw [← hwk]; exact (only_new _ _).trans (only_new _ _) (fun _ _ e => e)
  rw [hwk]
  have HAD := hid (hadd_c (HP.out.same (only_new w (.cells (byA st0 0) 40))) hl hpl (by rw [← hwk]; exact only_new _ _) (by simp) h2)
  have H1 := hid h1
  have hk : w.heap.size + 2 ≤ wk.heap.size := by rw [← hwk]; simp
  clear hwk h2 h1 ho
  go_wp2_with fail
  refine HAD.out.mono ?_
  rintro x w2 ⟨rfl, ao, cp, hH, hao, ho2⟩
  have HSM := hid (hsum_c hH hl)
  have HB := hid (blk_only (blk_new w (.cells (byA st0 0) 40)) ho2 (fun e => e))
  have HO := hid ((only_new w (.cells (byA st0 0) 40)).trans ho2 (fun _ _ e => e))
  clear hH hao ho2 HAD
  go_wp2_with fail
  refine HSM.out.mono ?_
  rintro x w3 ⟨rfl, ho3⟩
  rw [HA.out]
  have HB3 := hid (blk_only HB.out ho3 (fun e => e))
  have HO3 := hid (HO.out.trans ho3 (fun _ _ e => e))
  clear ho3
  go_wp2_with ((guard_target =~ wpList _ _ _ (⟨none, .store _ _ _, _, _, _, _⟩ :: _) _ _); refine wpList_store_all rfl 40 (.tmp 2) (.tmp 6) rfl w.heap.size A rfl rfl (byA st0 0) 40 HB3.out HSZ.out HIN.out HON.out ?_; intro w9 hb9 ho9 hs9; have HB9 := hid hb9; have HO9 := hid ho9; clear hb9 ho9 hs9)
  refine bodyPost_ret (results_cell_row rfl _ _ w.heap.size 40 A (0, 0) _ rfl HB9.out Tryz.underlying40 rfl HIN.out) rfl ⟨by rw [HA.out], HO3.out.trans HO9.out (fun i hi e => by have e' : i = w.heap.size := e; omega)⟩
set_option maxRecDepth 100000 in
set_option maxHeartbeats 3200000 in
theorem slink_c {s l : List UInt8} {v : Value} (hs : s.length = 32) (hv : Src w v l) (hl : l.length ≤ 800000000) :
    Calls Tryz.prog 36 #[.agg (bytesV s).toArray, v] w fun e w' => e = .returned (.agg (bytesV (sha (s ++ l))).toArray) ∧ Only (fun _ => False) w w' := by
  obtain ⟨va, vc, rfl⟩ := hv.len
  have HV := hid hv
  have hone := bytesV_one' (sha (s ++ l))
  have hsz : ((bytesV (sha (s ++ l))).toArray).size = (byA st0 0).size := by simp [sha_len, byA]
  have hinf : (Tryz.prog.info? 40).map (·.size) = some ((bytesV (sha (s ++ l))).toArray).size := by rw [info32]; simp [sha_len]
  obtain ⟨A, hA⟩ : ∃ x, (bytesV (sha (s ++ l))).toArray = x := ⟨_, rfl⟩
  rw [hA] at hone hsz hinf
  obtain ⟨S, hS⟩ : ∃ x, (bytesV s).toArray = x := ⟨_, rfl⟩
  have hSs : S.size = 32 := by rw [← hS]; simp [hs]
  rw [hS]
  have HA := hid hA; have HON := hid hone; have HSZ := hid hsz; have HIN := hid hinf; have HS := hid hS
  clear hA hone hsz hinf hS hv
  go_enter Tryz.func36, Tryz.ntmps36
  go_upto_region 1 with fail
  obtain ⟨wk, hwk⟩ : ∃ wk, (w.alloc (.cells S 40)).alloc (.cells (byA st0 0) 40) = wk := ⟨_, rfl⟩
  change Code.wp _ _ _ _ ((w.alloc (.cells S 40)).alloc (.cells (byA st0 0) 40))
  have h1 : wk.heap[w.heap.size]? = some (.cells S 40 (0, 0)) := by rw [← hwk]; exact blk_alloc (blk_new w _)
  have h2 : wk.heap[w.heap.size + 1]? = some (.cells (byA st0 0) 40 (0, 0)) := by rw [← hwk]; have := blk_new (w.alloc (.cells S 40)) (.cells (byA st0 0) 40); rw [World.size_alloc] at this; exact this
  have ho : Only (fun _ => False) w wk := by rw [← hwk]; exact (only_new _ _).trans (only_new _ _) (fun _ _ e => e)
  rw [hwk]
  have H2 := hid h2; have HO := hid ho; have H1 := hid h1
  have lk1 := blk_lt h1
  clear hwk h1 h2 ho
  have hn := only_new wk (.cells #[.slice (some ⟨w.heap.size, 0, none⟩) 32 32, .slice va l.length vc] 31)
  have hbn := blk_new wk (.cells #[.slice (some ⟨w.heap.size, 0, none⟩) 32 32, .slice va l.length vc] 31)
  have hb1 := blk_only H1.out hn (fun e => e)
  have hsS : Src (wk.alloc (.cells #[.slice (some ⟨w.heap.size, 0, none⟩) 32 32, .slice va l.length vc] 31)) (.slice (some ⟨w.heap.size, 0, none⟩) 32 32) s := by
    refine ⟨_, 32, by rw [hs], fun _ => ⟨_, 0, rfl, fun i u hu => ?_⟩⟩
    rw [Nat.zero_add, cell_blk hb1, ← HS.out]
    simpa using hu
  have hps : PartsS (wk.alloc (.cells #[.slice (some ⟨w.heap.size, 0, none⟩) 32 32, .slice va l.length vc] 31)) (.slice (some ⟨wk.heap.size, 0, none⟩) 2 2) [s, l] := by
    refine ⟨_, 2, rfl, fun i x hi => ?_⟩
    match i, hi with
    | 0, hi =>
      simp only [List.getElem?_cons_zero, Option.some.injEq] at hi; subst hi
      refine ⟨wk.heap.size, 0, some ⟨w.heap.size, 0, none⟩, 32, rfl, ?_, by rw [hs]; exact hsS⟩
      rw [hs]; exact cell_blk hbn 0
    | 1, hi =>
      simp only [List.getElem?_cons_succ, List.getElem?_cons_zero, Option.some.injEq] at hi; subst hi
      exact ⟨wk.heap.size, 0, va, vc, rfl, cell_blk hbn 1, (HV.out.same HO.out).same hn⟩
    | i + 2, hi => simp at hi
  have hof := sof_c hps (by simp [hs]; omega) (by simp)
  rw [show [s, l].flatten = s ++ l by simp, HA.out] at hof
  have HOF := hid hof
  have H2N := hid (blk_only H2.out hn (fun e => e))
  have HON2 := hid (HO.out.trans hn (fun _ _ e => e))
  clear hn hbn hb1 hsS hps hof
  go_wp2_with fail
  refine HOF.out.mono ?_
  rintro x w3 ⟨rfl, ho3⟩
  have HB3 := hid (blk_only H2N.out ho3 (fun e => e))
  have HO3 := hid (HON2.out.trans ho3 (fun _ _ e => e))
  clear ho3
  go_wp2_with ((guard_target =~ wpList _ _ _ (⟨none, .store _ _ _, _, _, _, _⟩ :: _) _ _); refine wpList_store_all rfl 40 (.tmp 4) (.tmp 8) rfl (w.heap.size + 1) A rfl rfl (byA st0 0) 40 HB3.out HSZ.out HIN.out HON.out ?_; intro w9 hb9 ho9 hs9; have HB9 := hid hb9; have HO9 := hid ho9; clear hb9 ho9 hs9)
  refine bodyPost_ret (results_cell_row rfl _ _ (w.heap.size + 1) 40 A (0, 0) _ rfl HB9.out Tryz.underlying40 rfl HIN.out) rfl ⟨by rw [HA.out], HO3.out.trans HO9.out (fun i hi e => by have e' : i = w.heap.size + 1 := e; omega)⟩
end
end Go.Proofs.YtfmdngeooelcpaaGreat
