/- wal: WalJ WalK WalL WalM WalN WalO in one text (marks that may be torn: TSC) -/
import Derived.Test.YtfmdngeooelcpaaGreatWlA
import Derived.Test.YtfmdngeooelcpaaGreatRig
import Derived.Test.YtfmdngeooelcpaaGreatRuns
import Derived.Test.YtfmdngeooelcpaaGreatTorP
import Derived.Deep.QuietTactic
import Derived.Test.YtfmdngeooelcpaaGreatPt
import Derived.Test.YtfmdngeooelcpaaGreatFreeze
import Derived.Test.YtfmdngeooelcpaaGreatStrB
import Derived.Test.YtfmdngeooelcpaaGreatFuse
namespace Go.Proofs.YtfmdngeooelcpaaGreat
open Go.RowKit

/-- What is read of a text between two places: the frames, or an error's number. -/
def readF (T : List UInt8) (tl : Nat) : Nat → Nat → List (Nat × List UInt8) × Int
  | 0, _ => ([], 0)
  | f + 1, a =>
    if tl ≤ a then ([], 0)
    else if min (roomN a) (tl - a) < 9 then readF T tl f (a + min (roomN a) (tl - a))
    else if deN (((T.drop a).take 9).take 4) = 0 ∧ deN ((((T.drop a).take 9).drop 4).take 4) = 0 ∧ (((T.drop a).take 9).getD 8 0).toNat = 0 then readF T tl f (a + min (roomN a) (tl - a))
    else if min (roomN a) (tl - a) - 9 < deN (((T.drop a).take 9).take 4) ∨ (((T.drop a).take 9).getD 8 0).toNat < 1 ∨ 3 < (((T.drop a).take 9).getD 8 0).toNat then ([], 8)
    else if sealN a (((T.drop a).take 9).getD 8 0).toNat ((T.drop (a + 9)).take (deN (((T.drop a).take 9).take 4))) ≠ deN ((((T.drop a).take 9).drop 4).take 4) then ([], 80)
    else if (readF T tl f (a + 9 + deN (((T.drop a).take 9).take 4))).2 = 0 then (((((T.drop a).take 9).getD 8 0).toNat, (T.drop (a + 9)).take (deN (((T.drop a).take 9).take 4))) :: (readF T tl f (a + 9 + deN (((T.drop a).take 9).take 4))).1, 0)
    else ([], (readF T tl f (a + 9 + deN (((T.drop a).take 9).take 4))).2)
/-- Frames in memory: each has bytes of its own, in blocks from lo on. -/
def FXs (w : World) (lo : Nat) : List (Nat × List UInt8) → List Value → Prop
  | [], xs => xs = []
  | (k, s) :: l, xs => ∃ pa pc ys, xs = .int .i64 (k : Nat) :: .slice pa s.length pc :: ys ∧ BOut w pa pc s lo ∧ FXs w lo l ys
theorem BOut.same {w w' : World} {pa : Option Addr} {pc lo : Nat} {s : List UInt8} (h : BOut w pa pc s lo) {F : Nat → Prop} (ho : Only F w w') (hF : ∀ k, F k → k < lo) : BOut w' pa pc s lo := by
  rcases h with h | ⟨g, e, hl, hr⟩
  · exact .inl h
  · exact .inr ⟨g, e, hl, hr.only ho (fun hx => by have := hF g hx; omega)⟩
theorem BOut.kept {w w' : World} {pa : Option Addr} {pc lo : Nat} {s : List UInt8} (h : BOut w pa pc s lo) (ho : Only (fun _ => False) w w') : BOut w' pa pc s lo := h.same ho (fun _ e => e.elim)
theorem BOut.mono {w : World} {pa : Option Addr} {pc lo lo' : Nat} {s : List UInt8} (h : BOut w pa pc s lo) (hl : lo' ≤ lo) : BOut w pa pc s lo' := by
  rcases h with h | ⟨g, e, h1, hr⟩
  · exact .inl h
  · exact .inr ⟨g, e, by omega, hr⟩
theorem FXs.kept {w w' : World} {lo : Nat} (ho : Only (fun _ => False) w w') : ∀ {l : List (Nat × List UInt8)} {xs : List Value}, FXs w lo l xs → FXs w' lo l xs
  | [], _, h => h
  | _ :: _, _, ⟨pa, pc, ys, e, h1, h2⟩ => ⟨pa, pc, ys, e, h1.kept ho, FXs.kept ho h2⟩
/-- A list of frames' own block is no block of bytes. -/
theorem FXs.turn {w w' : World} {lo : Nat} {q : Nat} {cs : Array Value} {fr : Nat × Nat} (hq : w.heap[q]? = some (.cells cs 53 fr)) (ho : Only (fun k => k = q) w w') : ∀ {l : List (Nat × List UInt8)} {xs : List Value}, FXs w lo l xs → FXs w' lo l xs
  | [], _, h => h
  | _ :: _, _, ⟨pa, pc, ys, e, h1, h2⟩ => ⟨pa, pc, ys, e, by
      rcases h1 with h | ⟨g, e, hl, hr⟩
      · exact .inl h
      · refine .inr ⟨g, e, hl, hr.only ho (fun hx => ?_)⟩
        obtain ⟨pad, hp, -⟩ := hr
        rw [hx, hq] at hp
        simp only [Option.some.injEq, Obj.cells.injEq] at hp
        exact absurd hp.2.1 (by decide), FXs.turn hq ho h2⟩
theorem FXs.snoc {w : World} {lo : Nat} {k : Nat} {s : List UInt8} {pa : Option Addr} {pc : Nat} (hb : BOut w pa pc s lo) : ∀ {l : List (Nat × List UInt8)} {xs : List Value}, FXs w lo l xs → FXs w lo (l ++ [(k, s)]) (xs ++ [.int .i64 (k : Nat), .slice pa s.length pc])
  | [], _, h => by
    have h' : _ = ([] : List Value) := h
    subst h'; exact ⟨pa, pc, [], rfl, hb, rfl⟩
  | _ :: _, _, ⟨pa', pc', ys, e, h1, h2⟩ => ⟨pa', pc', ys ++ _, by rw [e]; rfl, h1, FXs.snoc hb h2⟩
theorem FXs.len {w : World} {lo : Nat} : ∀ {l : List (Nat × List UInt8)} {xs : List Value}, FXs w lo l xs → xs.length = l.length * 2
  | [], _, h => by have h' : _ = ([] : List Value) := h; rw [h']; rfl
  | _ :: l, _, ⟨_, _, ys, e, _, h2⟩ => by rw [e]; simp [FXs.len h2]; omega
theorem elF : Elem Tryz.prog 28 53 2 32 := .mk Tryz.underlying28 (z := .agg #[.int .i64 0, .slice none 0 0]) (by kernel_rfl) rfl
theorem info81 : (Tryz.prog.info? 5).map (·.size) = some 1 := by kernel_rfl
theorem elem8 : Tryz.prog.underlying 31 = some (.slice (Tryz.prog.elem 31)) := by kernel_rfl
theorem run_slice4 (W : World) (g c : Nat) (hc : 4 < c) : (Instr.slice 31 (.slice (some ⟨g, 0, none⟩) 9 c) (some (.int .i64 4)) none none).run Tryz.prog W = .ok (.slice (some ⟨g, 4, none⟩) 5 (c - 4)) W := by
  rw [run_slice_l (ht := elem8) (h0 := by decide) (h1 := by decide)]
  have hs : (sizeOf (Tryz.prog.elem 31)).run Tryz.prog W = .ok 1 W := by kernel_rfl
  rw [hs]
  have : ¬ c = 4 := by omega
  have : ¬ c - 4 = 0 := by omega
  simp [Result.andThen, sliced, Addr.add, *]
theorem run_sliceAt4 (W : World) (g c : Nat) (hc : 4 < c) : (Instr.sliceAt 31 (.slice (some ⟨g, 0, none⟩) 9 c) (some (.int .i64 4)) none none).run Tryz.prog W = .ok (.slice (some ⟨g, 4, none⟩) 5 (c - 4)) W := by
  rw [run_sliceAt_slice (h := elem8)]; exact run_slice4 W g c hc
noncomputable def fmB (id : Nat) : Code := ((Tryz.f22.body).bind (blkOf id)).getD .skip
theorem lit117 (v : Nat → Value) : ((List.range 117).map v).toArray = #[v 0, v 1, v 2, v 3, v 4, v 5, v 6, v 7, v 8, v 9, v 10, v 11, v 12, v 13, v 14, v 15, v 16, v 17, v 18, v 19, v 20, v 21, v 22, v 23, v 24, v 25, v 26, v 27, v 28, v 29, v 30, v 31, v 32, v 33, v 34, v 35, v 36, v 37, v 38, v 39, v 40, v 41, v 42, v 43, v 44, v 45, v 46, v 47, v 48, v 49, v 50, v 51, v 52, v 53, v 54, v 55, v 56, v 57, v 58, v 59, v 60, v 61, v 62, v 63, v 64, v 65, v 66, v 67, v 68, v 69, v 70, v 71, v 72, v 73, v 74, v 75, v 76, v 77, v 78, v 79, v 80, v 81, v 82, v 83, v 84, v 85, v 86, v 87, v 88, v 89, v 90, v 91, v 92, v 93, v 94, v 95, v 96, v 97, v 98, v 99, v 100, v 101, v 102, v 103, v 104, v 105, v 106, v 107, v 108, v 109, v 110, v 111, v 112, v 113, v 114, v 115, v 116] := by kernel_rfl
theorem readF_step {T : List UInt8} {tl f a : Nat} (h : a < tl) : readF T tl (f + 1) a =
    (if min (roomN a) (tl - a) < 9 then readF T tl f (a + min (roomN a) (tl - a))
    else if deN (((T.drop a).take 9).take 4) = 0 ∧ deN ((((T.drop a).take 9).drop 4).take 4) = 0 ∧ (((T.drop a).take 9).getD 8 0).toNat = 0 then readF T tl f (a + min (roomN a) (tl - a))
    else if min (roomN a) (tl - a) - 9 < deN (((T.drop a).take 9).take 4) ∨ (((T.drop a).take 9).getD 8 0).toNat < 1 ∨ 3 < (((T.drop a).take 9).getD 8 0).toNat then ([], 8)
    else if sealN a (((T.drop a).take 9).getD 8 0).toNat ((T.drop (a + 9)).take (deN (((T.drop a).take 9).take 4))) ≠ deN ((((T.drop a).take 9).drop 4).take 4) then ([], 80)
    else if (readF T tl f (a + 9 + deN (((T.drop a).take 9).take 4))).2 = 0 then (((((T.drop a).take 9).getD 8 0).toNat, (T.drop (a + 9)).take (deN (((T.drop a).take 9).take 4))) :: (readF T tl f (a + 9 + deN (((T.drop a).take 9).take 4))).1, 0)
    else ([], (readF T tl f (a + 9 + deN (((T.drop a).take 9).take 4))).2)) := by
  rw [readF, if_neg (by omega)]
theorem readF_bad {T : List UInt8} {tl : Nat} : ∀ (f a : Nat), (readF T tl f a).2 ≠ 0 → (readF T tl f a).1 = []
  | 0, _, _ => rfl
  | f + 1, a, h => by
    rw [readF] at h ⊢
    split
    · rfl
    · rename_i h0
      rw [if_neg h0] at h
      split
      · rename_i h1; rw [if_pos h1] at h; exact readF_bad f _ h
      · rename_i h1
        rw [if_neg h1] at h
        split
        · rename_i h2; rw [if_pos h2] at h; exact readF_bad f _ h
        · rename_i h2
          rw [if_neg h2] at h
          split
          · rfl
          · rename_i h3
            rw [if_neg h3] at h
            split
            · rfl
            · rename_i h4
              rw [if_neg h4] at h
              split
              · rename_i h5; rw [if_pos h5] at h; exact absurd rfl h
              · rfl
/-- What was read so far, and what is left. -/
def upF (fs : List (Nat × List UInt8)) (q : List (Nat × List UInt8) × Int) : List (Nat × List UInt8) × Int := if q.2 = 0 then (fs ++ q.1, 0) else ([], q.2)
theorem upF_bad (fs : List (Nat × List UInt8)) (e : Int) (h : e ≠ 0) : upF fs ([], e) = ([], e) := by unfold upF; rw [if_neg h]
theorem upF_cons (fs : List (Nat × List UInt8)) (x : Nat × List UInt8) (q : List (Nat × List UInt8) × Int) : upF fs (if q.2 = 0 then (x :: q.1, 0) else ([], q.2)) = upF (fs ++ [x]) q := by
  unfold upF
  by_cases h : q.2 = 0
  · rw [if_pos h, if_pos rfl, if_pos h, List.append_assoc]; rfl
  · rw [if_neg h, if_neg h, if_neg h]
section
variable {w : World} {l b r : Nat} {M : WM} {wv : Value} {FR FD FW : Nat → Prop} {T : List UInt8} {Q : Exit → Act → World → Prop}
set_option maxRecDepth 100000 in
set_option maxHeartbeats 6400000 in
theorem fm0 {a : Act} (h : LogRep w l b r M wv FR FD FW) (hS : RS M.D M.R T) (hht : M.head ≤ M.tail) (htl : M.tail ≤ T.length) (hTl : T.length ≤ 4611686018427387904) (hok : ups T.length * 128 - M.head ≤ M.R.size)
    (hL : Lv 117 a [(0, .pointer (some ⟨l, 0, none⟩)), (4, .slice none 0 0), (5, .int .u64 M.head)])
    (hR : ∀ a' w' (e : Int), Lv 117 a' [(2, .slice none 0 0), (3, .int .i64 e)] → readF T M.tail (M.tail + 1) M.head = ([], e) → e ≠ 0 → Only (fun _ => False) w w' → Q .ret a' w')
    (hQ : ∀ a' w' fs ao cap xs, Lv 117 a' [(4, .slice ao fs.length cap)] → readF T M.tail (M.tail + 1) M.head = (fs, 0) → Gr w' 53 2 ao fs.length cap xs → FXs w' w.heap.size fs xs → (∀ q, ao = some ⟨q, 0, none⟩ → w.heap.size ≤ q) → Only (fun _ => False) w w' → Q .normal a' w') :
    (fmB 0).wp Tryz.prog Q a w := by
  refine Code.wp_mono NoPanic.imp ?_
  conv => arg 2; whnf
  refine wp_block (wp_loop (fun a' w' => ∃ (f at' cap : Nat) (fs : List (Nat × List UInt8)) (ao : Option Addr) (xs : List Value), Lv 117 a' [(0, .pointer (some ⟨l, 0, none⟩)), (4, .slice ao fs.length cap), (5, .int .u64 (at' : Nat))] ∧ M.tail < at' + f ∧ M.head ≤ at' ∧ at' ≤ M.tail ∧ fs.length + M.head ≤ at' ∧ Gr w' 53 2 ao fs.length cap xs ∧ FXs w' w.heap.size fs xs ∧ (∀ q, ao = some ⟨q, 0, none⟩ → w.heap.size ≤ q) ∧ Only (fun _ => False) w w' ∧ upF fs (readF T M.tail f at') = readF T M.tail (M.tail + 1) M.head)
    (fun a' _ => M.tail - (intOf (a'.tmps.getD 5 undef)).toNat) ⟨M.tail + 1, M.head, 0, [], none, [], hL, by omega, Nat.le_refl _, hht, by simp, Gr.nil, rfl, by simp, Only.refl _ _, by
      unfold upF; split
      · rename_i h; exact Prod.ext (List.nil_append _) h.symm
      · rename_i h; exact Prod.ext (readF_bad _ _ h).symm rfl⟩ ?_)
  clear hL
  rintro a' w' ⟨f, at', cap, fs, ao, xs, hI, hf, hh0, hat, hfl, hgr, hfx, hao, ho, hup⟩
  obtain ⟨u, rfl, hu⟩ := act_fn hI
  rw [lit117] at hI ⊢
  obtain ⟨g0, g4, g5, -⟩ := hI
  change u 0 = _ at g0
  change u 4 = _ at g4
  change u 5 = _ at g5
  rw [g0, g4, g5]
  clear g0 g4 g5 hu
  have HQ := hid hQ; have HR := hid hR; have HGR := hid hgr; have HFX := hid hfx; have HAO := hid hao; have HO := hid ho; have HUP := hid hup; have HS := hid hS; have HLR := hid h
  have hzz := ho.size
  have htl3 : M.R.tail = T.length := hS.tail
  have hsz : M.R.size ≤ 524288 := by obtain ⟨rv, hR⟩ := h.ring; have := hR.c0; unfold RingM.size; omega
  have hups : T.length ≤ ups T.length * 128 := by unfold ups; omega
  have CC : Hid (∀ W, Only (fun _ => False) w' W → W.cell? ⟨l, 1, none⟩ = some (.pointer (some ⟨r, 0, none⟩)) ∧ W.cell? ⟨l, 3, none⟩ = some (.int .u64 M.tail)) := hid fun W hW => by
    have hb := blk_only HLR.out.blk (HO.out.trans hW (fun _ _ e => e)) (fun e => e)
    exact ⟨cell_blk hb 1, cell_blk hb 3⟩
  obtain ⟨c1, c3⟩ := CC.out w' (Only.refl _ _)
  clear hQ hR hgr hfx hao ho hup h hS
  by_cases hlt : at' < M.tail
  rotate_left
  · obtain rfl : at' = M.tail := by omega
    obtain ⟨f, rfl⟩ : ∃ g, f = g + 1 := ⟨f - 1, by omega⟩
    have hfin := HUP.out
    rw [readF, if_pos (Nat.le_refl _)] at hfin
    have HF : Hid (readF T M.tail (M.tail + 1) M.head = (fs, 0)) := hid (by rw [← hfin]; unfold upF; rw [if_pos rfl, List.append_nil])
    have hll : ¬ (M.tail : Int) < M.tail := by omega
    clear hfin
    go_wp2_with fail
    exact HQ.out _ _ _ _ _ _ ⟨rfl, rfl, rfl⟩ HF.out HGR.out HFX.out HAO.out HO.out
  obtain ⟨f, rfl⟩ : ∃ g, f = g + 1 := ⟨f - 1, by omega⟩
  have hup := HUP.out
  rw [readF_step hlt] at hup
  have HUP2 := hid hup
  clear hup HUP
  have hrm : roomN at' ≤ 2048 ∧ 0 < roomN at' := by unfold roomN; omega
  have HRM : Hid (∀ W : World, Calls Tryz.prog 46 #[.int .u64 at'] W fun x w2 => x = .returned (.int .i64 (roomN at' : Nat)) ∧ Only (fun _ => False) W w2) := hid fun W => (room_c at' (by omega)).mono (fun x w2 ⟨h1, h2⟩ => ⟨h1, by rw [← h2]; exact Only.refl _ _⟩)
  obtain ⟨rm, hrme⟩ : ∃ x, roomN at' = x := ⟨_, rfl⟩
  rw [hrme] at HRM hrm HUP2
  obtain ⟨d, hd⟩ : ∃ x, M.tail - at' = x := ⟨_, rfl⟩
  rw [hd] at HUP2
  obtain ⟨lf, hlf⟩ : ∃ x, min rm d = x := ⟨_, rfl⟩
  rw [hlf] at HUP2
  have hw25 : IntKind.u64.wrap (rm : Int) = rm := by rw [IntKind.wrap_u64]; omega
  have hw31 : IntKind.u64.wrap ((M.tail : Int) - at') = (d : Nat) := by rw [IntKind.wrap_u64]; omega
  have hmin : (if (d : Int) < rm then (d : Int) else rm) = ((lf : Nat) : Int) := by rw [← hlf]; split <;> omega
  clear hrme
  have hji : (at' : Int) < M.tail := by omega
  go_upto_region 4 with fail
  refine region_pt 10 [] (by kernel_rfl) (by kernel_rfl) (by kernel_rfl) [(23, fun _ v => v = .int .u64 (at' : Nat)), (24, fun _ v => v = .int .i64 (rm : Nat)), (25, fun _ v => v = .int .u64 (rm : Nat)), (26, fun _ v => v = .pointer (some ⟨l, 0, none⟩)), (27, fun _ v => v = .pointer (some ⟨l, 0, none⟩)), (28, fun _ v => v = .pointer (some ⟨l, 3, none⟩)), (29, fun _ v => v = .int .u64 M.tail), (30, fun _ v => v = .int .u64 (at' : Nat)), (31, fun _ v => v = .int .u64 (d : Nat)), (32, fun _ v => v = .int .u64 (lf : Nat))] (fun _ W => Only (fun _ => False) w' W) (by show [23, 24, 25, 26, 27, 28, 29, 30, 31, 32].Nodup; decide) (by show ∀ d ∈ [23, 24, 25, 26, 27, 28, 29, 30, 31, 32], d < 117; decide) ((Only.refl _ _).drew) (.inl rfl) ?_ ?_ ?_
  · exact trivial
  · have hstab : PtStabs (Only (fun _ => False)) [(23, fun _ v => v = .int .u64 (at' : Nat)), (24, fun _ v => v = .int .i64 (rm : Nat)), (25, fun _ v => v = .int .u64 (rm : Nat)), (26, fun _ v => v = .pointer (some ⟨l, 0, none⟩)), (27, fun _ v => v = .pointer (some ⟨l, 0, none⟩)), (28, fun _ v => v = .pointer (some ⟨l, 3, none⟩)), (29, fun _ v => v = .int .u64 M.tail), (30, fun _ v => v = .int .u64 (at' : Nat)), (31, fun _ v => v = .int .u64 (d : Nat)), (32, fun _ v => v = .int .u64 (lf : Nat))] := ⟨fun _ _ _ _ h => h, fun _ _ _ _ h => h, fun _ _ _ _ h => h, fun _ _ _ _ h => h, fun _ _ _ _ h => h, fun _ _ _ _ h => h, fun _ _ _ _ h => h, fun _ _ _ _ h => h, fun _ _ _ _ h => h, fun _ _ _ _ h => h, trivial⟩
    refine PtAllS.cons rfl ⟨rfl, rfl⟩ ?_ (PtAllS.cons rfl ⟨rfl, rfl⟩ ?_ (PtAllS.cons rfl ⟨rfl, rfl⟩ ?_ (PtAllS.cons rfl ⟨rfl, rfl⟩ ?_ (PtAllS.cons rfl ⟨rfl, rfl⟩ ?_ (PtAllS.cons rfl ⟨rfl, rfl⟩ ?_ (PtAllS.cons rfl ⟨rfl, rfl⟩ ?_ (PtAllS.cons rfl ⟨rfl, rfl⟩ ?_ (PtAllS.cons rfl ⟨rfl, rfl⟩ ?_ (PtAllS.cons rfl ⟨rfl, rfl⟩ ?_ (PtAllS.nil rfl))))))))))
    · intro L a W K hI hn hd hK
      have e5 : a.eval (.tmp 5) = .int .u64 (at' : Nat) := hI.ev 5 (by show ¬ (5 ∈ [23, 24, 25, 26, 27, 28, 29, 30, 31, 32]); decide) rfl
      exact pt_move _ (by first | exact .inl rfl | exact .inr rfl) _ e5 (hK _ _ hI.j PtKeep.refl rfl)
    · intro L a W K hI hn hd hK
      have e23 : a.eval (.tmp 23) = .int .u64 (at' : Nat) := hI.fact 0 23 _ rfl (dep_of hd 0 (by kernel_rfl))
      refine wp_callc (f := 46) (args := #[a.eval (.tmp 23)]) (by kernel_rfl) ?_
      rw [e23]
      refine ((fun W (_ : Only (fun _ => False) w' W) => HRM.out W) _ hI.j).mono ?_
      rintro x W' ⟨rfl, ho⟩
      exact ⟨_, rfl, hK _ _ (hI.j.trans ho (fun _ _ e => e.elim)) (hstab.keep ho) rfl⟩
    · intro L a W K hI hn hd hK
      have e24 : a.eval (.tmp 24) = .int .i64 (rm : Nat) := hI.fact 1 24 _ rfl (dep_of hd 1 (by kernel_rfl))
      exact pt_val (v := .int .u64 (rm : Nat)) (Eq.trans (b := .ok (.value (.int .u64 (IntKind.u64.wrap (rm : Int)))) _) (by unfold execOp; simp only [e24]; kernel_rfl) (by rw [hw25])) (hK _ _ hI.j PtKeep.refl rfl)
    · intro L a W K hI hn hd hK
      have e0 : a.eval (.tmp 0) = .pointer (some ⟨l, 0, none⟩) := hI.ev 0 (by show ¬ (0 ∈ [23, 24, 25, 26, 27, 28, 29, 30, 31, 32]); decide) rfl
      exact pt_move _ (by first | exact .inl rfl | exact .inr rfl) _ e0 (hK _ _ hI.j PtKeep.refl rfl)
    · intro L a W K hI hn hd hK
      have e26 : a.eval (.tmp 26) = .pointer (some ⟨l, 0, none⟩) := hI.fact 3 26 _ rfl (dep_of hd 3 (by kernel_rfl))
      exact pt_val (v := .pointer (some ⟨l, 0, none⟩)) (by unfold execOp; simp only [e26]; kernel_rfl) (hK _ _ hI.j PtKeep.refl rfl)
    · intro L a W K hI hn hd hK
      have e27 : a.eval (.tmp 27) = .pointer (some ⟨l, 0, none⟩) := hI.fact 4 27 _ rfl (dep_of hd 4 (by kernel_rfl))
      exact pt_val (v := .pointer (some ⟨l, 3, none⟩)) (by unfold execOp; simp only [e27]; kernel_rfl) (hK _ _ hI.j PtKeep.refl rfl)
    · intro L a W K hI hn hd hK
      have e28 : a.eval (.tmp 28) = .pointer (some ⟨l, 3, none⟩) := hI.fact 5 28 _ rfl (dep_of hd 5 (by kernel_rfl))
      exact pt_load _ (.tmp 28) rfl ⟨l, 3, none⟩ (.int .u64 M.tail) _ e28 ((CC.out _ hI.j).2) Tryz.underlying72 rfl (hK _ _ hI.j PtKeep.refl rfl)
    · intro L a W K hI hn hd hK
      have e5 : a.eval (.tmp 5) = .int .u64 (at' : Nat) := hI.ev 5 (by show ¬ (5 ∈ [23, 24, 25, 26, 27, 28, 29, 30, 31, 32]); decide) rfl
      exact pt_move _ (by first | exact .inl rfl | exact .inr rfl) _ e5 (hK _ _ hI.j PtKeep.refl rfl)
    · intro L a W K hI hn hd hK
      have e29 : a.eval (.tmp 29) = .int .u64 M.tail := hI.fact 6 29 _ rfl (dep_of hd 6 (by kernel_rfl))
      have e30 : a.eval (.tmp 30) = .int .u64 (at' : Nat) := hI.fact 7 30 _ rfl (dep_of hd 7 (by kernel_rfl))
      exact pt_val (v := .int .u64 (d : Nat)) (Eq.trans (b := .ok (.value (.int .u64 (IntKind.u64.wrap ((M.tail : Int) - at')))) _) (by unfold execOp; simp only [e29, e30]; kernel_rfl) (by rw [hw31])) (hK _ _ hI.j PtKeep.refl rfl)
    · intro L a W K hI hn hd hK
      have e25 : a.eval (.tmp 25) = .int .u64 (rm : Nat) := hI.fact 2 25 _ rfl (dep_of hd 2 (by kernel_rfl))
      have e31 : a.eval (.tmp 31) = .int .u64 (d : Nat) := hI.fact 8 31 _ rfl (dep_of hd 8 (by kernel_rfl))
      exact pt_val (v := .int .u64 (lf : Nat)) (Eq.trans (b := .ok (.value (.int .u64 (if (d : Int) < rm then (d : Int) else rm))) W) (by unfold execOp; simp only [resolve, invoke, builtin, Sem.run_bind, Sem.run_pure, Result.andThen_ok, List.map_toArray, List.map_cons, List.map_nil, e25, e31, run_min_int2]) (by rw [hmin])) (hK _ _ hI.j PtKeep.refl rfl)
  · intro L a w4 hal hj hfs
    dsimp only [PtAll] at hfs
    obtain ⟨f23, f24, f25, f26, f27, f28, f29, f30, f31, f32, -⟩ := hfs
    have hA := hal.turned
    simp only [List.map_cons, List.map_nil, Act.turned, f23, f24, f25, f26, f27, f28, f29, f30, f31, f32] at hA
    simp only [Act.put, List.setIfInBounds_toArray, List.set_cons_zero, List.set_cons_succ] at hA
    clear hal f23 f24 f25 f26 f27 f28 f29 f30 f31 f32
    subst hA
    change wpList _ _ _ [_] _ _
    have HO4 := hid hj
    clear hj hw25 hw31 hmin
    by_cases hl9 : lf < 9
    · have hl9i : (lf : Int) < 9 := by omega
      have HUP3 := HUP2.out
      rw [if_pos hl9] at HUP3
      have HUP4 := hid HUP3
      clear HUP3 HUP2
      go_wp2_with fail
      exact ⟨⟨f, at' + lf, cap, fs, ao, xs, ⟨rfl, rfl, by show Value.int .u64 _ = _; go_num, rfl, rfl⟩, by omega, by omega, by omega, by omega, HGR.out.only HO4.out (fun _ _ e => e), HFX.out.kept HO4.out, HAO.out, HO.out.trans HO4.out (fun _ _ e => e), HUP4.out⟩, by simp [intOf]; omega⟩
    have HUP3 := HUP2.out
    rw [if_neg hl9] at HUP3
    have hl9i : ¬ (lf : Int) < 9 := by omega
    clear HUP2
    have HUP4 := hid HUP3
    have hd9 : at' + lf ≤ M.tail := by omega
    have htl0 := HLR.out.ring
    have htr : M.R.tail ≤ 4611686018427387904 := by omega
    have RD : Hid (∀ (W : World) (p k : Nat), Only (fun _ => False) w W → p + k ≤ T.length → M.head ≤ p → Calls Tryz.prog 47 #[.pointer (some ⟨r, 0, none⟩), .int .u64 (p : Nat), .int .i64 (k : Nat)] W fun e w' => ∃ bo cap, e = .returned (.tuple #[.slice bo k cap, .int .i64 0]) ∧ BOut w' bo cap ((T.drop p).take k) W.heap.size ∧ Only (fun _ => False) W w') := hid fun W p k hW h1 h2 => rread_ok (HLR.out.ring.only hW (fun _ _ e => e)) (HLR.out.disk.only hW (fun _ _ e => e)) HS.out p k h1 htr (by omega)
    have HO4w := hid (HO.out.trans HO4.out (fun _ _ e => e))
    have RD1 : Hid (Calls Tryz.prog 47 #[.pointer (some ⟨r, 0, none⟩), .int .u64 (at' : Nat), .int .i64 9] w4 fun e w' => ∃ bo cap, e = .returned (.tuple #[.slice bo 9 cap, .int .i64 0]) ∧ BOut w' bo cap ((T.drop at').take 9) w4.heap.size ∧ Only (fun _ => False) w4 w') := hid (RD.out w4 at' 9 HO4w.out (by omega) hh0)
    obtain ⟨c41, c43⟩ := CC.out w4 HO4.out
    have hH : ((T.drop at').take 9).length = 9 := by rw [List.length_take, List.length_drop]; omega
    obtain ⟨H, hHe⟩ : ∃ x, (T.drop at').take 9 = x := ⟨_, rfl⟩
    rw [hHe] at RD1 hH HUP4
    clear HUP3 htl0 c1 c3
    go_wp2_with fail
    refine RD1.out.mono ?_
    rintro x w5 ⟨bo, cp, rfl, hbo, ho5⟩
    obtain ⟨gb, rfl, hgb, hrow⟩ : ∃ g, bo = some ⟨g, 0, none⟩ ∧ w4.heap.size ≤ g ∧ Row w5 g 5 cp (bytesV H) := by
      rcases hbo with ⟨-, -, e⟩ | h
      · rw [e] at hH; simp at hH
      · exact h
    have HROW := hid hrow
    have HO5 := hid (HO4.out.trans ho5 (fun _ _ e => e))
    have hcp : 9 ≤ cp := by obtain ⟨pad, -, hc⟩ := hrow; simp [hH] at hc; omega
    have hn0 : deN (H.take 4) < 4294967296 := by have := deN_lt (H.take 4); rw [List.length_take, hH] at this; exact this
    have hc0 : deN ((H.drop 4).take 4) < 4294967296 := by have := deN_lt ((H.drop 4).take 4); rw [List.length_take, List.length_drop, hH] at this; exact this
    have HSR : Hid (∀ W, Only (fun _ => False) w5 W → Src W (.slice (some ⟨gb, 0, none⟩) 9 cp) H) := hid fun W hW => by have := (HROW.out.only hW (fun e => e)).src; rw [hH] at this; exact this
    have HSR4 : Hid (∀ W, Only (fun _ => False) w5 W → Src W (.slice (some ⟨gb, 4, none⟩) 5 (cp - 4)) (H.drop 4)) := hid fun W hW => by
      have h1 := HSR.out W hW
      have h2 : Src W (.slice (some ⟨gb, 0, none⟩) H.length cp) H := by rw [hH]; exact h1
      have := h2.dropN (n := 4) (c := cp - 4) (by omega)
      rw [hH] at this; exact this
    have HK : Hid (∀ W, Only (fun _ => False) w5 W → W.cell? ⟨gb, 0 + 8 * 1, none⟩ = some (.int .u8 ((H.getD 8 0).toNat : Nat))) := hid fun W hW => by
      obtain ⟨a, c, e, h2⟩ := HSR.out W hW
      simp only [Value.slice.injEq] at e
      obtain ⟨g, o, e2, hcl⟩ := h2 (by rintro rfl; simp at hH)
      rw [← e.1] at e2
      simp only [Option.some.injEq, Addr.mk.injEq, and_true] at e2
      obtain ⟨rfl, rfl⟩ := e2
      refine hcl 8 _ ?_
      rw [bytesV_get, List.getD_eq_getElem?_getD, List.getElem?_eq_getElem (by omega)]; rfl
    have HN0 : Hid (∀ W, Only (fun _ => False) w5 W → Calls Tryz.prog 48 #[.slice (some ⟨gb, 0, none⟩) 9 cp] W fun x w' => x = .returned (.int .u32 (deN (H.take 4) : Nat)) ∧ Only (fun _ => False) W w') := hid fun W hW => (wnumber_c _ H (HSR.out W hW) (by omega)).mono (fun x w' ⟨h1, n, h2⟩ => ⟨h1, by rw [h2]; exact only_drewN _ _⟩)
    have HN1 : Hid (∀ W, Only (fun _ => False) w5 W → Calls Tryz.prog 48 #[.slice (some ⟨gb, 4, none⟩) 5 (cp - 4)] W fun x w' => x = .returned (.int .u32 (deN ((H.drop 4).take 4) : Nat)) ∧ Only (fun _ => False) W w') := hid fun W hW => (wnumber_c _ (H.drop 4) (HSR4.out W hW) (by rw [List.length_drop]; omega)).mono (fun x w' ⟨h1, n, h2⟩ => ⟨h1, by rw [h2]; exact only_drewN _ _⟩)
    obtain ⟨n0, hn0e⟩ : ∃ x, deN (H.take 4) = x := ⟨_, rfl⟩
    obtain ⟨s0, hs0e⟩ : ∃ x, deN ((H.drop 4).take 4) = x := ⟨_, rfl⟩
    obtain ⟨k0, hk0e⟩ : ∃ x, (H.getD 8 0).toNat = x := ⟨_, rfl⟩
    have hk256 : k0 < 256 := by rw [← hk0e]; exact UInt8.toNat_lt _
    rw [hn0e] at HN0 hn0 HUP4
    rw [hs0e] at HN1 hc0 HUP4
    rw [hk0e] at HK HUP4
    have hwn : IntKind.u64.wrap (n0 : Int) = n0 := by rw [IntKind.wrap_u64]; omega
    have hwk : IntKind.i64.wrap (k0 : Int) = k0 := by rw [IntKind.wrap_i64]; omega
    have hc4 : 4 < cp := by omega
    clear hbo hrow ho5 RD1 hn0e hs0e hk0e HSR HSR4 hHe c41 c43
    go_upto_region 10 with fail
    refine region_pt 12 [] (by kernel_rfl) (by kernel_rfl) (by kernel_rfl) [(50, fun _ v => v = .slice (some ⟨gb, 0, none⟩) 9 cp), (51, fun _ v => v = .int .u32 (n0 : Nat)), (52, fun _ v => v = .int .u64 (n0 : Nat)), (53, fun _ v => v = .slice (some ⟨gb, 0, none⟩) 9 cp), (54, fun _ v => v = .slice (some ⟨gb, 4, none⟩) 5 (cp - 4)), (55, fun _ v => v = .int .u32 (s0 : Nat)), (56, fun _ v => v = .slice (some ⟨gb, 0, none⟩) 9 cp), (57, fun _ v => v = .pointer (some ⟨gb, 0 + 8 * 1, none⟩)), (58, fun _ v => v = .int .u8 (k0 : Nat)), (59, fun _ v => v = .int .i64 (k0 : Nat)), (9, fun _ v => v = .int .u64 (n0 : Nat)), (10, fun _ v => v = .int .u32 (s0 : Nat))] (fun _ W => Only (fun _ => False) w5 W) (by show [50, 51, 52, 53, 54, 55, 56, 57, 58, 59, 9, 10].Nodup; decide) (by show ∀ d ∈ [50, 51, 52, 53, 54, 55, 56, 57, 58, 59, 9, 10], d < 117; decide) ((Only.refl _ _).drew) (.inl rfl) ?_ ?_ ?_
    · exact trivial
    · have hstab : PtStabs (Only (fun _ => False)) [(50, fun _ v => v = .slice (some ⟨gb, 0, none⟩) 9 cp), (51, fun _ v => v = .int .u32 (n0 : Nat)), (52, fun _ v => v = .int .u64 (n0 : Nat)), (53, fun _ v => v = .slice (some ⟨gb, 0, none⟩) 9 cp), (54, fun _ v => v = .slice (some ⟨gb, 4, none⟩) 5 (cp - 4)), (55, fun _ v => v = .int .u32 (s0 : Nat)), (56, fun _ v => v = .slice (some ⟨gb, 0, none⟩) 9 cp), (57, fun _ v => v = .pointer (some ⟨gb, 0 + 8 * 1, none⟩)), (58, fun _ v => v = .int .u8 (k0 : Nat)), (59, fun _ v => v = .int .i64 (k0 : Nat)), (9, fun _ v => v = .int .u64 (n0 : Nat)), (10, fun _ v => v = .int .u32 (s0 : Nat))] := ⟨fun _ _ _ _ h => h, fun _ _ _ _ h => h, fun _ _ _ _ h => h, fun _ _ _ _ h => h, fun _ _ _ _ h => h, fun _ _ _ _ h => h, fun _ _ _ _ h => h, fun _ _ _ _ h => h, fun _ _ _ _ h => h, fun _ _ _ _ h => h, fun _ _ _ _ h => h, fun _ _ _ _ h => h, trivial⟩
      refine PtAllS.cons rfl ⟨rfl, rfl⟩ ?_ (PtAllS.cons rfl ⟨rfl, rfl⟩ ?_ (PtAllS.cons rfl ⟨rfl, rfl⟩ ?_ (PtAllS.cons rfl ⟨rfl, rfl⟩ ?_ (PtAllS.cons rfl ⟨rfl, rfl⟩ ?_ (PtAllS.cons rfl ⟨rfl, rfl⟩ ?_ (PtAllS.cons rfl ⟨rfl, rfl⟩ ?_ (PtAllS.cons rfl ⟨rfl, rfl⟩ ?_ (PtAllS.cons rfl ⟨rfl, rfl⟩ ?_ (PtAllS.cons rfl ⟨rfl, rfl⟩ ?_ (PtAllS.cons rfl ⟨rfl, rfl⟩ ?_ (PtAllS.cons rfl ⟨rfl, rfl⟩ ?_ (PtAllS.nil rfl))))))))))))
      · intro L a W K hI hn hd hK
        have e7 : a.eval (.tmp 7) = .slice (some ⟨gb, 0, none⟩) 9 cp := hI.ev 7 (by show ¬ (7 ∈ [50, 51, 52, 53, 54, 55, 56, 57, 58, 59, 9, 10]); decide) rfl
        exact pt_move _ (by first | exact .inl rfl | exact .inr rfl) _ e7 (hK _ _ hI.j PtKeep.refl rfl)
      · intro L a W K hI hn hd hK
        have e50 : a.eval (.tmp 50) = .slice (some ⟨gb, 0, none⟩) 9 cp := hI.fact 0 50 _ rfl (dep_of hd 0 (by kernel_rfl))
        refine wp_callc (f := 48) (args := #[a.eval (.tmp 50)]) (by kernel_rfl) ?_
        rw [e50]
        refine (HN0.out _ hI.j).mono ?_
        rintro x W' ⟨rfl, ho⟩
        exact ⟨_, rfl, hK _ _ (hI.j.trans ho (fun _ _ e => e.elim)) (hstab.keep ho) rfl⟩
      · intro L a W K hI hn hd hK
        have e51 : a.eval (.tmp 51) = .int .u32 (n0 : Nat) := hI.fact 1 51 _ rfl (dep_of hd 1 (by kernel_rfl))
        exact pt_val (v := .int .u64 (n0 : Nat)) (Eq.trans (b := .ok (.value (.int .u64 (IntKind.u64.wrap (n0 : Int)))) W) (by unfold execOp; simp only [e51]; kernel_rfl) (by rw [hwn])) (hK _ _ hI.j PtKeep.refl rfl)
      · intro L a W K hI hn hd hK
        have e7 : a.eval (.tmp 7) = .slice (some ⟨gb, 0, none⟩) 9 cp := hI.ev 7 (by show ¬ (7 ∈ [50, 51, 52, 53, 54, 55, 56, 57, 58, 59, 9, 10]); decide) rfl
        exact pt_move _ (by first | exact .inl rfl | exact .inr rfl) _ e7 (hK _ _ hI.j PtKeep.refl rfl)
      · intro L a W K hI hn hd hK
        have e53 : a.eval (.tmp 53) = .slice (some ⟨gb, 0, none⟩) 9 cp := hI.fact 3 53 _ rfl (dep_of hd 3 (by kernel_rfl))
        exact pt_val (v := .slice (some ⟨gb, 4, none⟩) 5 (cp - 4)) (by unfold execOp; simp only [e53, Sem.run_bind, Sem.run_pure, Option.map_some, Option.map_none]; exact congrArg (fun q => Result.andThen q fun a w2 => Result.ok (Next.value a) w2) (run_sliceAt4 W gb cp hc4)) (hK _ _ hI.j PtKeep.refl rfl)
      · intro L a W K hI hn hd hK
        have e54 : a.eval (.tmp 54) = .slice (some ⟨gb, 4, none⟩) 5 (cp - 4) := hI.fact 4 54 _ rfl (dep_of hd 4 (by kernel_rfl))
        refine wp_callc (f := 48) (args := #[a.eval (.tmp 54)]) (by kernel_rfl) ?_
        rw [e54]
        refine (HN1.out _ hI.j).mono ?_
        rintro x W' ⟨rfl, ho⟩
        exact ⟨_, rfl, hK _ _ (hI.j.trans ho (fun _ _ e => e.elim)) (hstab.keep ho) rfl⟩
      · intro L a W K hI hn hd hK
        have e7 : a.eval (.tmp 7) = .slice (some ⟨gb, 0, none⟩) 9 cp := hI.ev 7 (by show ¬ (7 ∈ [50, 51, 52, 53, 54, 55, 56, 57, 58, 59, 9, 10]); decide) rfl
        exact pt_move _ (by first | exact .inl rfl | exact .inr rfl) _ e7 (hK _ _ hI.j PtKeep.refl rfl)
      · intro L a W K hI hn hd hK
        have e56 : a.eval (.tmp 56) = .slice (some ⟨gb, 0, none⟩) 9 cp := hI.fact 6 56 _ rfl (dep_of hd 6 (by kernel_rfl))
        exact pt_val (v := .pointer (some ⟨gb, 0 + 8 * 1, none⟩)) (ex_idx rfl e56 rfl Tryz.underlying31 info81 (by decide)) (hK _ _ hI.j PtKeep.refl rfl)
      · intro L a W K hI hn hd hK
        have e57 : a.eval (.tmp 57) = .pointer (some ⟨gb, 0 + 8 * 1, none⟩) := hI.fact 7 57 _ rfl (dep_of hd 7 (by kernel_rfl))
        exact pt_load _ (.tmp 57) rfl ⟨gb, 0 + 8 * 1, none⟩ (.int .u8 (k0 : Nat)) _ e57 (HK.out _ hI.j) Tryz.underlying5 rfl (hK _ _ hI.j PtKeep.refl rfl)
      · intro L a W K hI hn hd hK
        have e58 : a.eval (.tmp 58) = .int .u8 (k0 : Nat) := hI.fact 8 58 _ rfl (dep_of hd 8 (by kernel_rfl))
        exact pt_val (v := .int .i64 (k0 : Nat)) (Eq.trans (b := .ok (.value (.int .i64 (IntKind.i64.wrap (k0 : Int)))) W) (by unfold execOp; simp only [e58]; kernel_rfl) (by rw [hwk])) (hK _ _ hI.j PtKeep.refl rfl)
      · intro L a W K hI hn hd hK
        have e52 : a.eval (.tmp 52) = .int .u64 (n0 : Nat) := hI.fact 2 52 _ rfl (dep_of hd 2 (by kernel_rfl))
        exact pt_move _ (by first | exact .inl rfl | exact .inr rfl) _ e52 (hK _ _ hI.j PtKeep.refl rfl)
      · intro L a W K hI hn hd hK
        have e55 : a.eval (.tmp 55) = .int .u32 (s0 : Nat) := hI.fact 5 55 _ rfl (dep_of hd 5 (by kernel_rfl))
        exact pt_move _ (by first | exact .inl rfl | exact .inr rfl) _ e55 (hK _ _ hI.j PtKeep.refl rfl)
    · intro L a w6 hal hj hfs
      dsimp only [PtAll] at hfs
      obtain ⟨f50, f51, f52, f53, f54, f55, f56, f57, f58, f59, f9, f10, -⟩ := hfs
      have hA := hal.turned
      simp only [List.map_cons, List.map_nil, Act.turned, f50, f51, f52, f53, f54, f55, f56, f57, f58, f59, f9, f10] at hA
      simp only [Act.put, List.setIfInBounds_toArray, List.set_cons_zero, List.set_cons_succ] at hA
      clear hal f50 f51 f52 f53 f54 f55 f56 f57 f58 f59 f9 f10
      subst hA
      change wpList _ _ _ [_] _ _
      have HO6 := hid (HO5.out.trans hj (fun _ _ e => e))
      have HO6w := hid (HO.out.trans HO6.out (fun _ _ e => e))
      clear hj hwn hwk HN0 HN1 HK HROW
      obtain ⟨z, hz⟩ : ∃ z : Bool, decide (n0 = 0 ∧ s0 = 0 ∧ k0 = 0) = z := ⟨_, rfl⟩
      go_upto_region 11 with fail
      go_cut [69] from 60 to 69 (fun v wx => v = .bool z ∧ wx = w6)
      case first =>
        by_cases h1 : n0 = 0
        · have b1 : ((n0 : Int) == 0) = true := by simpa using h1
          by_cases h2 : s0 = 0
          · have b2 : ((s0 : Int) == 0) = true := by simpa using h2
            by_cases h3 : k0 = 0
            · have b3 : ((k0 : Int) == 0) = true := by simpa using h3
              have hzt : z = true := by rw [← hz]; simp [h1, h2, h3]
              have HZT := hid hzt
              clear h1 h2 h3 hz hzt
              go_wp2_with fail
              go_meet
              case rel => exact ⟨by rw [HZT.out], rfl⟩
            · have b3 : ((k0 : Int) == 0) = false := by rw [beq_eq_false_iff_ne]; omega
              have hzt : z = false := by rw [← hz]; simp [h3]
              have HZT := hid hzt
              clear h1 h2 h3 hz hzt
              go_wp2_with fail
              go_meet
              case rel => exact ⟨by rw [HZT.out], rfl⟩
          · have b2 : ((s0 : Int) == 0) = false := by rw [beq_eq_false_iff_ne]; omega
            have hzt : z = false := by rw [← hz]; simp [h2]
            have HZT := hid hzt
            clear h1 h2 hz hzt
            go_wp2_with fail
            go_meet
            case rel => exact ⟨by rw [HZT.out], rfl⟩
        · have b1 : ((n0 : Int) == 0) = false := by rw [beq_eq_false_iff_ne]; omega
          have hzt : z = false := by rw [← hz]; simp [h1]
          have HZT := hid hzt
          clear h1 hz hzt
          go_wp2_with fail
          go_meet
          case rel => exact ⟨by rw [HZT.out], rfl⟩
      case rest =>
        obtain ⟨rfl, rfl⟩ := hcut
        have HUP5 := HUP4.out
        by_cases hzz2 : n0 = 0 ∧ s0 = 0 ∧ k0 = 0
        · have hzt : z = true := by rw [← hz]; exact decide_eq_true hzz2
          rw [if_pos hzz2] at HUP5
          have HUP6 := hid HUP5
          subst hzt
          clear HUP5 hzz2 hz
          go_wp2_with fail
          exact ⟨⟨f, at' + lf, cap, fs, ao, xs, ⟨rfl, rfl, by show Value.int .u64 _ = _; go_num, rfl, rfl⟩, by omega, by omega, by omega, by omega, HGR.out.only HO6.out (fun _ _ e => e), HFX.out.kept HO6.out, HAO.out, HO6w.out, HUP6.out⟩, by simp [intOf]; omega⟩
        have hzt : z = false := by rw [← hz]; exact decide_eq_false hzz2
        rw [if_neg hzz2] at HUP5
        have HUP6 := hid HUP5
        subst hzt
        clear HUP5 hzz2 hz HUP4
        obtain ⟨y, hy⟩ : ∃ y : Bool, decide (lf - 9 < n0 ∨ k0 < 1 ∨ 3 < k0) = y := ⟨_, rfl⟩
        have hl9 : 9 ≤ lf := by omega
        obtain ⟨w7, hw7⟩ : ∃ x, wc = x := ⟨_, rfl⟩
        subst hw7
        go_upto_region 13 with fail
        go_cut [84] from 73 to 84 (fun v wx => v = .bool y ∧ wx = wc)
        case first =>
          by_cases h1 : lf - 9 < n0
          · have b1 : (lf : Int) - 9 < n0 := by omega
            have hyt : y = true := by rw [← hy]; exact decide_eq_true (.inl h1)
            have HYT := hid hyt
            clear h1 hy hyt
            go_wp2_with fail
            go_meet
            case rel => exact ⟨by rw [HYT.out], rfl⟩
          · have b1 : ¬ (lf : Int) - 9 < n0 := by omega
            by_cases h2 : k0 < 1
            · have b2 : (k0 : Int) < 1 := by omega
              have hyt : y = true := by rw [← hy]; exact decide_eq_true (.inr (.inl h2))
              have HYT := hid hyt
              clear h1 h2 hy hyt
              go_wp2_with fail
              go_meet
              case rel => exact ⟨by rw [HYT.out], rfl⟩
            · have b2 : ¬ (k0 : Int) < 1 := by omega
              by_cases h3 : 3 < k0
              · have b3 : (3 : Int) < k0 := by omega
                have hyt : y = true := by rw [← hy]; exact decide_eq_true (.inr (.inr h3))
                have HYT := hid hyt
                clear h1 h2 h3 hy hyt
                go_wp2_with fail
                go_meet
                case rel => exact ⟨by rw [HYT.out], rfl⟩
              · have b3 : ¬ (3 : Int) < k0 := by omega
                have hyt : y = false := by rw [← hy]; exact decide_eq_false (fun h => h.elim h1 (fun h => h.elim h2 h3))
                have HYT := hid hyt
                clear h1 h2 h3 hy hyt
                go_wp2_with fail
                go_meet
                case rel => exact ⟨by rw [HYT.out], rfl⟩
        case rest =>
          obtain ⟨rfl, rfl⟩ := hcut
          have HUP7 := HUP6.out
          by_cases hbad : lf - 9 < n0 ∨ k0 < 1 ∨ 3 < k0
          · have hyt : y = true := by rw [← hy]; exact decide_eq_true hbad
            rw [if_pos hbad, upF_bad _ _ (by decide)] at HUP7
            have HUP8 := hid HUP7
            subst hyt
            clear HUP7 hbad hy
            go_wp2_with fail
            exact HR.out _ _ _ ⟨rfl, rfl, rfl, rfl⟩ HUP8.out.symm (by decide) HO6w.out
          have hyt : y = false := by rw [← hy]; exact decide_eq_false hbad
          rw [if_neg hbad] at HUP7
          have hnl : n0 ≤ lf - 9 ∧ 1 ≤ k0 ∧ k0 ≤ 3 := by omega
          subst hyt
          clear hy hbad HUP6
          obtain ⟨c61, c63⟩ := CC.out _ HO6.out
          have RD2 : Hid (Calls Tryz.prog 47 #[.pointer (some ⟨r, 0, none⟩), .int .u64 ((at' : Int) + 9), .int .i64 (n0 : Nat)] wc fun e w' => ∃ bo cap, e = .returned (.tuple #[.slice bo n0 cap, .int .i64 0]) ∧ BOut w' bo cap ((T.drop (at' + 9)).take n0) wc.heap.size ∧ Only (fun _ => False) wc w') := hid (RD.out wc (at' + 9) n0 HO6w.out (by omega) (by omega))
          have hBl : ((T.drop (at' + 9)).take n0).length = n0 := by rw [List.length_take, List.length_drop]; omega
          obtain ⟨B, hB⟩ : ∃ x, (T.drop (at' + 9)).take n0 = x := ⟨_, rfl⟩
          rw [hB] at RD2 hBl HUP7
          have HUP8 := hid HUP7
          clear HUP7 hB
          go_wp2_with fail
          refine RD2.out.mono ?_
          rintro x w7 ⟨bo, cp2, rfl, hbo, ho7⟩
          have HBO := hid hbo
          have HO7 := hid (HO6.out.trans ho7 (fun _ _ e => e))
          have HO7w := hid (HO6w.out.trans ho7 (fun _ _ e => e))
          have hz6 := HO6w.out.size
          have hsrc := hbo.src
          rw [hBl] at hsrc
          have HSE := hid (seal_c (w := w7) at' (by omega) k0 hk256 _ B (by rw [← hBl] at hsrc; exact hsrc) (by omega))
          rw [hBl] at HSE
          obtain ⟨sl, hsl⟩ : ∃ x, sealN at' k0 B = x := ⟨_, rfl⟩
          rw [hsl] at HSE HUP8
          clear hbo ho7 hsrc hsl RD2 c61 c63
          go_wp2_with fail
          refine HSE.out.mono ?_
          rintro x w8 ⟨rfl, ho8⟩
          have HO8 := hid (HO7.out.trans ho8 (fun _ _ e => e))
          have HO8w := hid (HO7w.out.trans ho8 (fun _ _ e => e))
          have HO78 := hid ho8
          clear ho8 HSE
          have HUP9 := HUP8.out
          by_cases hs : sl = s0
          rotate_left
          · have hsb : ((sl : Int) != s0) = true := by simp; omega
            rw [if_pos hs, upF_bad _ _ (by decide)] at HUP9
            have HUP10 := hid HUP9
            clear HUP9 hs HUP8
            go_wp2_with fail
            exact HR.out _ _ _ ⟨rfl, rfl, rfl, rfl⟩ HUP10.out.symm (by decide) HO8w.out
          have hsb : ((sl : Int) != s0) = false := by simp; omega
          rw [if_neg (fun h => h hs), upF_cons] at HUP9
          have HUP10 := hid HUP9
          clear HUP9 hs HUP8
          have HGX : Hid (Gr (w8.alloc (.cells #[.int .i64 (k0 : Nat), .slice bo n0 cp2] 53)) 53 2 ao fs.length cap xs) := hid (HGR.out.only (HO8.out.trans (only_new _ _) (fun _ _ e => e)) (fun _ _ e => e))
          have HFX8 := hid (HFX.out.kept (HO8.out.trans (only_new w8 (.cells #[.int .i64 (k0 : Nat), .slice bo n0 cp2] 53)) (fun _ _ e => e)))
          have HB8 : Hid (BOut (w8.alloc (.cells #[.int .i64 (k0 : Nat), .slice bo n0 cp2] 53)) bo cp2 B w.heap.size) := hid ((HBO.out.kept (HO78.out.trans (only_new _ _) (fun _ _ e => e))).mono hz6)
          have hz8 := HO8w.out.size
          go_wp2_with ((guard_target =~ wpList _ _ _ (⟨some 111, _, _, _, _, _⟩ :: _) _ _); refine wpList_gr (o := ⟨some 111, _, _, _, _, _⟩) rfl elF (.tmp 106) (.tmp 110) rfl HGX.out rfl (some ⟨w8.heap.size, 0, none⟩) 1 1 rfl [.int .i64 (k0 : Nat), .slice bo n0 cp2] (SrcG.new (blk_new w8 _) rfl (by simp [Value.oneCell'])) (by omega) (by omega) ?_; intro ao2 cpx w9 hg9 ha9 ho9; have HG9 := hid hg9; have HA9 := hid ha9; have HO9 := hid ho9; clear hg9 ha9 ho9)
          have HFN : FXs w9 w.heap.size (fs ++ [(k0, B)]) (xs ++ [.int .i64 (k0 : Nat), .slice bo n0 cp2]) := by
            have h1 := FXs.snoc (k := k0) HB8.out HFX8.out
            rw [hBl] at h1
            rcases HGX.out.2.2 with ⟨e, -⟩ | ⟨q, e, pad, hq, -⟩
            · exact h1.kept (HO9.out.mono (fun k hk hx => by rw [e] at hx; cases hx))
            · exact h1.turn hq (HO9.out.mono (fun k hk hx => by rw [e] at hx; simp only [Option.some.injEq, Addr.mk.injEq, and_true] at hx; exact hx.symm))
          refine ⟨⟨f, at' + 9 + n0, cpx, fs ++ [(k0, B)], ao2, _, ⟨rfl, by show Value.slice _ _ _ = _; rw [List.length_append]; rfl, by show Value.int .u64 _ = _; go_num, rfl, rfl⟩, by omega, by omega, by omega, by rw [List.length_append]; simp; omega, by rw [List.length_append]; exact HG9.out, HFN, fun q hq => ?_, ?_, HUP10.out⟩, by simp [intOf]; omega⟩
          · rcases HA9.out with e | e
            · exact HAO.out q (e.symm.trans hq)
            · rw [hq] at e; simp only [Option.some.injEq, Addr.mk.injEq, and_true, World.size_alloc] at e; omega
          · exact (HO8w.out.trans (only_new _ _) (fun _ _ e => e)).trans HO9.out (fun k hk hx => by have := HAO.out k hx; omega)
end
end Go.Proofs.YtfmdngeooelcpaaGreat
namespace Go.Proofs.YtfmdngeooelcpaaGreat
open Go.RowKit
/-- Frames that are handed out: a list of the program's own, in blocks from lo on. -/
def FOut (w : World) (lo : Nat) (fs : List (Nat × List UInt8)) (v : Value) : Prop := ∃ ao cap xs, v = .slice ao fs.length cap ∧ Gr w 53 2 ao fs.length cap xs ∧ FXs w lo fs xs ∧ ∀ q, ao = some ⟨q, 0, none⟩ → lo ≤ q
theorem FOut.nil (w : World) (lo : Nat) : FOut w lo [] (.slice none 0 0) := ⟨none, 0, [], rfl, Gr.nil, rfl, by simp⟩
theorem FOut.kept {w w' : World} {lo : Nat} {fs : List (Nat × List UInt8)} {v : Value} (h : FOut w lo fs v) (ho : Only (fun _ => False) w w') : FOut w' lo fs v := by
  obtain ⟨ao, cap, xs, e, h1, h2, h3⟩ := h
  exact ⟨ao, cap, xs, e, h1.only ho (fun _ _ e => e), h2.kept ho, h3⟩
/-- What is read from a log's beginning to its end. -/
def readA (T : List UInt8) (head tl : Nat) : List (Nat × List UInt8) × Int := readF T tl (tl + 1) head
section
variable {w : World} {l b r : Nat} {M : WM} {wv : Value} {FR FD FW : Nat → Prop} {T : List UInt8}
set_option maxRecDepth 100000 in
theorem frames_c (h : LogRep w l b r M wv FR FD FW) (hS : RS M.D M.R T) (hht : M.head ≤ M.tail) (htl : M.tail ≤ T.length) (hTl : T.length ≤ 4611686018427387904) (hok : ups T.length * 128 - M.head ≤ M.R.size) :
    Calls Tryz.prog 22 #[.pointer (some ⟨l, 0, none⟩)] w fun e w' => ∃ v, e = .returned (.tuple #[v, .int .i64 (readA T M.head M.tail).2]) ∧ FOut w' w.heap.size (readA T M.head M.tail).1 v ∧ Only (fun _ => False) w w' := by
  have h2 : w.cell? ⟨l, 2, none⟩ = some (.int .u64 M.head) := cell_blk h.blk 2
  have h0 : w.cell? ⟨l, 0, none⟩ = some (.pointer (some ⟨b, 0, none⟩)) := cell_blk h.blk 0
  have HR := hid h; have HS := hid hS
  clear h hS
  go_enter Tryz.func22, Tryz.ntmps22
  go_upto_block 0 with fail
  refine fm0 (a := _) HR.out HS.out hht htl hTl hok ⟨rfl, rfl, rfl, rfl, rfl⟩ ?_ ?_
  · intro a' w' e hI hq he ho
    obtain ⟨u, rfl, -⟩ := act_fn hI
    rw [lit117] at hI ⊢
    obtain ⟨g2, g3, -⟩ := hI
    change u 2 = _ at g2
    change u 3 = _ at g3
    rw [g2, g3]
    have hq' : readA T M.head M.tail = ([], e) := hq
    go_wp2_with fail
    go_ret2
    rw [hq']
    exact ⟨_, rfl, FOut.nil _ _, ho⟩
  · intro a' w' fs ao cap xs hI hq hg hx hao ho
    obtain ⟨u, rfl, -⟩ := act_fn hI
    rw [lit117] at hI ⊢
    obtain ⟨g4, -⟩ := hI
    change u 4 = _ at g4
    rw [g4]
    have hq' : readA T M.head M.tail = (fs, 0) := hq
    have HF : Hid (FOut w' w.heap.size fs (.slice ao fs.length cap)) := hid ⟨ao, cap, xs, rfl, hg, hx, hao⟩
    have HO := hid ho
    clear hg hx hao ho hq
    go_wp2_with fail
    go_ret2
    rw [hq']
    exact ⟨_, rfl, HF.out, HO.out⟩
end
section
variable {w : World} {b : Nat} {D : DiskM} {FD : Nat → Prop}
theorem sg_fits {n sg : Nat} (h : ((n : Int) - 2).tdiv 16 = (sg : Nat)) (h2 : 2 ≤ sg) : 2 + sg * 16 ≤ n := by
  rcases Nat.lt_or_ge n 2 with hn | hn
  · obtain rfl | rfl : n = 0 ∨ n = 1 := by omega
    · have : ((0 : Nat) : Int) - 2 = -2 := rfl
      rw [this] at h
      have h3 : Int.tdiv (-2) 16 = 0 := by decide
      omega
    · have : ((1 : Nat) : Int) - 2 = -1 := rfl
      rw [this] at h
      have h3 : Int.tdiv (-1) 16 = 0 := by decide
      omega
  · rw [Int.tdiv_eq_ediv_of_nonneg (by omega)] at h
    omega
/-- What opening a log leaves. -/
def OpenPost (w : World) (b : Nat) (D : DiskM) (FD : Nat → Prop) (sg : Nat) (mk : MarkM) (q : List (Nat × List UInt8) × Int) (e : Ending) (w' : World) : Prop :=
  Only (fun _ => False) w w' ∧ ((q.2 ≠ 0 ∧ e = .returned (.tuple #[.pointer none, .slice none 0 0, .int .i64 q.2])) ∨
    (q.2 = 0 ∧ ∃ v l r lo F', e = .returned (.tuple #[.pointer (some ⟨l, 0, none⟩), v, .int .i64 0]) ∧ LogAt w' l b r ⟨D, RingM.opened D 2 (sg * 16) mk.w1, mk.w0, mk.w1, [], false⟩ F' ∧ w.heap.size ≤ lo ∧ FOut w' lo q.1 v ∧ (∀ k, F' k → k < lo) ∧ ∀ k, F' k → FD k ∨ w.heap.size ≤ k))
set_option maxRecDepth 100000 in
set_option maxHeartbeats 3200000 in
theorem open_yes (h : DiskAt w b D FD) (hd : D.down = false) {sg : Nat} (hsg : ((D.n : Int) - 2).tdiv 16 = (sg : Nat)) (hs2 : 2 ≤ sg) {mk : MarkM} {ec : Int} (hg : getR D 0 = (mk, ec)) (he : ec = 0 ∨ ec = 4) (hm1 : mk.w0 ≤ mk.w1) (hm2 : mk.w1 ≤ 4611686018427387904) {T : List UInt8} (hT : T.length = mk.w1) (hS : RS D (RingM.opened D 2 (sg * 16) mk.w1) T) (hok : ups T.length * 128 - mk.w0 ≤ sg * 2048) :
    Calls Tryz.prog 5 #[.pointer (some ⟨b, 0, none⟩)] w (OpenPost w b D FD sg mk (readA T mk.w0 mk.w1)) := by
  have HD := hid h; have HS := hid hS; have Hd := hid hd
  have HN := h
  have HSg := hid (fun W (hW : Only (fun _ => False) w W) => segments_c (h.only hW (fun _ _ e => e)))
  have HG := hid (get_c h 0 (by decide))
  rw [hg] at HG
  simp only [hsg] at HSg
  have hn16 := sg_fits hsg hs2
  have hn4 : D.n ≤ 4096 := by obtain ⟨gs, cap, ms, sg', sc, pe, clock, ρ, hr, -⟩ := h; exact hr.n0.2
  unfold MarkM.V at HG
  have HSg0 := hid (HSg.out w (Only.refl _ _))
  have hsi : ¬ ((sg : Nat) : Int) < 2 := by omega
  clear h hg hsg HN hS hd
  go_enter Tryz.func5, Tryz.ntmps5
  go_wp2_with fail
  refine HSg0.out.mono ?_
  rintro x w1 ⟨rfl, rfl⟩
  go_wp2_with fail
  refine HG.out.mono ?_
  rintro x w2 ⟨rfl, ho2⟩
  have HO2 := hid ho2
  clear ho2
  have HX2 : Hid (Only (fun _ => False) w ((w2.alloc (.cells #[.int .u64 mk.s, .int .u64 mk.w0, .int .u64 mk.w1, .int .u64 mk.w2, .int .u64 mk.w3, .int .u64 mk.w4, .int .u64 mk.w5] 75)).alloc (.cells #[.pointer (some ⟨b, 0, none⟩), .pointer none, .int .u64 mk.w0, .int .u64 mk.w1, .slice none 0 0, .bool false] 80))) := hid ((HO2.out.trans (only_new w2 _) (fun _ _ e => e)).trans (only_new _ _) (fun _ _ e => e))
  have hb3 := blk_new (w2.alloc (.cells #[.int .u64 mk.s, .int .u64 mk.w0, .int .u64 mk.w1, .int .u64 mk.w2, .int .u64 mk.w3, .int .u64 mk.w4, .int .u64 mk.w5] 75)) (.cells #[.pointer (some ⟨b, 0, none⟩), .pointer none, .int .u64 mk.w0, .int .u64 mk.w1, .slice none 0 0, .bool false] 80)
  obtain ⟨w3, hw3⟩ : ∃ x, (w2.alloc (.cells #[.int .u64 mk.s, .int .u64 mk.w0, .int .u64 mk.w1, .int .u64 mk.w2, .int .u64 mk.w3, .int .u64 mk.w4, .int .u64 mk.w5] 75)).alloc (.cells #[.pointer (some ⟨b, 0, none⟩), .pointer none, .int .u64 mk.w0, .int .u64 mk.w1, .slice none 0 0, .bool false] 80) = x := ⟨_, rfl⟩
  rw [hw3, World.size_alloc] at hb3
  rw [hw3] at HX2
  have HB3 := hid hb3
  have HW3 := hid hw3
  have hz2 := HO2.out.size
  have hl3 := blk_lt hb3
  clear hw3 hb3
  have hmi1 : ¬ (mk.w1 : Int) < mk.w0 := by omega
  have hmi2 : ¬ (4611686018427387904 : Int) < mk.w1 := by omega
  have CL : Hid (∀ W, Only (fun _ => False) w3 W → W.cell? ⟨w2.heap.size + 1, 2, none⟩ = some (.int .u64 mk.w0) ∧ W.cell? ⟨w2.heap.size + 1, 3, none⟩ = some (.int .u64 mk.w1)) := hid fun W hW => ⟨cell_blk (blk_only HB3.out hW (fun e => e)) 2, cell_blk (blk_only HB3.out hW (fun e => e)) 3⟩
  rcases he with rfl | rfl
  all_goals (
    go_upto_region 7 with fail
    rw [HW3.out]
    obtain ⟨z2, z3⟩ := CL.out w3 (Only.refl _ _)
    go_quiet (fail)
    go_upto_region 9 with fail
    have HX3 := hid (HX2.out.trans (only_drewN w3 nq) (fun _ _ e => e))
    have HQ3 := hid (only_drewN w3 nq)
    obtain ⟨w4, hw4⟩ : ∃ x, w3.drewN nq = x := ⟨_, rfl⟩
    rw [hw4] at HX3 HQ3 ⊢
    have CL4 : Hid (∀ W, Only (fun _ => False) w4 W → W.cell? ⟨w2.heap.size + 1, 2, none⟩ = some (.int .u64 mk.w0) ∧ W.cell? ⟨w2.heap.size + 1, 3, none⟩ = some (.int .u64 mk.w1)) := hid fun W hW => CL.out W (HQ3.out.trans hW (fun _ _ e => e))
    have HSg4 : Hid (∀ W, Only (fun _ => False) w4 W → Calls Tryz.prog 19 #[.pointer (some ⟨b, 0, none⟩)] W fun e w' => e = .returned (.int .i64 (sg : Nat)) ∧ Only (fun _ => False) W w') := hid fun W hW => (HSg.out W (HX3.out.trans hW (fun _ _ e => e))).mono (fun e w' ⟨h1, h2⟩ => ⟨h1, by rw [← h2]; exact Only.refl _ _⟩)
    have HOP : Hid (∀ W, Only (fun _ => False) w4 W → Calls Tryz.prog 21 #[.pointer (some ⟨b, 0, none⟩), .int .i64 2, .int .i64 ((sg * 16 : Nat)), .int .u64 mk.w1] W fun e w' => ∃ r F', e = .returned (.tuple #[.pointer (some ⟨r, 0, none⟩), .int .i64 0]) ∧ RingAt w' r b (RingM.opened D 2 (sg * 16) mk.w1) F' ∧ Only (fun _ => False) W w' ∧ (∀ k, F' k → W.heap.size ≤ k)) := hid fun W hW => open_ok (HD.out.only (HX3.out.trans hW (fun _ _ e => e)) (fun _ _ e => e)) 2 (sg * 16) mk.w1 (by omega) hn16 (by omega) Hd.out
    have hwm : IntKind.i64.wrap ((sg : Int) * 16) = ((sg * 16 : Nat) : Int) := by rw [IntKind.wrap_i64]; omega
    have hz4 := HQ3.out.size
    clear hw4
    refine wp_region_noPanic ?_
    refine region_pt 13 [12] (by kernel_rfl) (by kernel_rfl) (by kernel_rfl) [(50, fun _ v => v = .pointer (some ⟨w2.heap.size + 1, 0, none⟩)), (51, fun _ v => v = .pointer (some ⟨b, 0, none⟩)), (52, fun _ v => v = .pointer (some ⟨b, 0, none⟩)), (53, fun _ v => v = .int .i64 (sg : Nat)), (54, fun _ v => v = .int .i64 ((sg * 16 : Nat))), (55, fun _ v => v = .pointer (some ⟨w2.heap.size + 1, 0, none⟩)), (56, fun _ v => v = .pointer (some ⟨w2.heap.size + 1, 0, none⟩)), (57, fun _ v => v = .pointer (some ⟨w2.heap.size + 1, 3, none⟩)), (58, fun _ v => v = .int .u64 mk.w1), (59, fun W v => ∃ r F', v = .tuple #[.pointer (some ⟨r, 0, none⟩), .int .i64 0] ∧ RingAt W r b (RingM.opened D 2 (sg * 16) mk.w1) F' ∧ ∀ k, F' k → w4.heap.size ≤ k), (49, fun W v => ∃ r F', v = .tuple #[.pointer (some ⟨r, 0, none⟩), .int .i64 0] ∧ RingAt W r b (RingM.opened D 2 (sg * 16) mk.w1) F' ∧ ∀ k, F' k → w4.heap.size ≤ k), (60, fun W v => ∃ r F', v = .pointer (some ⟨r, 0, none⟩) ∧ RingAt W r b (RingM.opened D 2 (sg * 16) mk.w1) F' ∧ ∀ k, F' k → w4.heap.size ≤ k), (61, fun _ v => v = .int .i64 0)] (fun _ W => Only (fun _ => False) w4 W) (by show [50, 51, 52, 53, 54, 55, 56, 57, 58, 59, 49, 60, 61].Nodup; decide) (by show ∀ d ∈ [50, 51, 52, 53, 54, 55, 56, 57, 58, 59, 49, 60, 61], d < 77; decide) ((Only.refl _ _).drew) (.inr (fun _ _ _ _ _ h => h)) ?_ ?_ ?_
    · refine ⟨?_, trivial⟩
      · refine ⟨_, _, _, _, rfl, rfl, rfl, fun _ _ h => h, fun L a W hI hd => ?_⟩
        have f49 := hI.fact 10 49 _ rfl (dep_of hd 10 (by kernel_rfl))
        obtain ⟨r, F', h1, h2, h3⟩ := f49
        exact ⟨.int .i64 0, fun W => by unfold execOp; simp only [h1]; kernel_rfl, fun W => rfl⟩
    · have hstab : PtStabs (Only (fun _ => False)) [(50, fun _ v => v = .pointer (some ⟨w2.heap.size + 1, 0, none⟩)), (51, fun _ v => v = .pointer (some ⟨b, 0, none⟩)), (52, fun _ v => v = .pointer (some ⟨b, 0, none⟩)), (53, fun _ v => v = .int .i64 (sg : Nat)), (54, fun _ v => v = .int .i64 ((sg * 16 : Nat))), (55, fun _ v => v = .pointer (some ⟨w2.heap.size + 1, 0, none⟩)), (56, fun _ v => v = .pointer (some ⟨w2.heap.size + 1, 0, none⟩)), (57, fun _ v => v = .pointer (some ⟨w2.heap.size + 1, 3, none⟩)), (58, fun _ v => v = .int .u64 mk.w1), (59, fun W v => ∃ r F', v = .tuple #[.pointer (some ⟨r, 0, none⟩), .int .i64 0] ∧ RingAt W r b (RingM.opened D 2 (sg * 16) mk.w1) F' ∧ ∀ k, F' k → w4.heap.size ≤ k), (49, fun W v => ∃ r F', v = .tuple #[.pointer (some ⟨r, 0, none⟩), .int .i64 0] ∧ RingAt W r b (RingM.opened D 2 (sg * 16) mk.w1) F' ∧ ∀ k, F' k → w4.heap.size ≤ k), (60, fun W v => ∃ r F', v = .pointer (some ⟨r, 0, none⟩) ∧ RingAt W r b (RingM.opened D 2 (sg * 16) mk.w1) F' ∧ ∀ k, F' k → w4.heap.size ≤ k), (61, fun _ v => v = .int .i64 0)] := ⟨fun _ _ _ _ h => h, fun _ _ _ _ h => h, fun _ _ _ _ h => h, fun _ _ _ _ h => h, fun _ _ _ _ h => h, fun _ _ _ _ h => h, fun _ _ _ _ h => h, fun _ _ _ _ h => h, fun _ _ _ _ h => h, fun W W' v hr ⟨r, F', h1, h2, h3⟩ => ⟨r, F', h1, h2.only hr (fun _ _ e => e), h3⟩, fun W W' v hr ⟨r, F', h1, h2, h3⟩ => ⟨r, F', h1, h2.only hr (fun _ _ e => e), h3⟩, fun W W' v hr ⟨r, F', h1, h2, h3⟩ => ⟨r, F', h1, h2.only hr (fun _ _ e => e), h3⟩, fun _ _ _ _ h => h, trivial⟩
      refine PtAllS.cons rfl ⟨rfl, rfl⟩ ?_ (PtAllS.cons rfl ⟨rfl, rfl⟩ ?_ (PtAllS.cons rfl ⟨rfl, rfl⟩ ?_ (PtAllS.cons rfl ⟨rfl, rfl⟩ ?_ (PtAllS.cons rfl ⟨rfl, rfl⟩ ?_ (PtAllS.cons rfl ⟨rfl, rfl⟩ ?_ (PtAllS.cons rfl ⟨rfl, rfl⟩ ?_ (PtAllS.cons rfl ⟨rfl, rfl⟩ ?_ (PtAllS.cons rfl ⟨rfl, rfl⟩ ?_ (PtAllS.cons rfl ⟨rfl, rfl⟩ ?_ (PtAllS.cons rfl ⟨rfl, rfl⟩ ?_ (PtAllS.cons rfl ⟨rfl, rfl⟩ ?_ (PtAllS.cons rfl ⟨rfl, rfl⟩ ?_ (PtAllS.nil rfl)))))))))))))
      · intro L a W K hI hn hd hK
        have e7 : a.eval (.tmp 7) = .pointer (some ⟨w2.heap.size + 1, 0, none⟩) := hI.ev 7 (by show ¬ (7 ∈ [50, 51, 52, 53, 54, 55, 56, 57, 58, 59, 49, 60, 61]); decide) rfl
        exact pt_move _ (by first | exact .inl rfl | exact .inr rfl) _ e7 (hK _ _ hI.j PtKeep.refl rfl)
      · intro L a W K hI hn hd hK
        have e0 : a.eval (.tmp 0) = .pointer (some ⟨b, 0, none⟩) := hI.ev 0 (by show ¬ (0 ∈ [50, 51, 52, 53, 54, 55, 56, 57, 58, 59, 49, 60, 61]); decide) rfl
        exact pt_move _ (by first | exact .inl rfl | exact .inr rfl) _ e0 (hK _ _ hI.j PtKeep.refl rfl)
      · intro L a W K hI hn hd hK
        have e0 : a.eval (.tmp 0) = .pointer (some ⟨b, 0, none⟩) := hI.ev 0 (by show ¬ (0 ∈ [50, 51, 52, 53, 54, 55, 56, 57, 58, 59, 49, 60, 61]); decide) rfl
        exact pt_move _ (by first | exact .inl rfl | exact .inr rfl) _ e0 (hK _ _ hI.j PtKeep.refl rfl)
      · intro L a W K hI hn hd hK
        have e52 : a.eval (.tmp 52) = .pointer (some ⟨b, 0, none⟩) := hI.fact 2 52 _ rfl (dep_of hd 2 (by kernel_rfl))
        refine wp_callc (f := 19) (args := #[a.eval (.tmp 52)]) (by kernel_rfl) ?_
        rw [e52]
        refine (HSg4.out _ hI.j).mono ?_
        rintro x W' ⟨rfl, ho⟩
        exact ⟨_, rfl, hK _ _ (hI.j.trans ho (fun _ _ e => e.elim)) (hstab.keep ho) rfl⟩
      · intro L a W K hI hn hd hK
        have e53 : a.eval (.tmp 53) = .int .i64 (sg : Nat) := hI.fact 3 53 _ rfl (dep_of hd 3 (by kernel_rfl))
        exact pt_val (v := .int .i64 ((sg * 16 : Nat))) (Eq.trans (b := .ok (.value (.int .i64 (IntKind.i64.wrap ((sg : Int) * 16)))) W) (by unfold execOp; simp only [e53]; kernel_rfl) (by rw [hwm])) (hK _ _ hI.j PtKeep.refl rfl)
      · intro L a W K hI hn hd hK
        have e7 : a.eval (.tmp 7) = .pointer (some ⟨w2.heap.size + 1, 0, none⟩) := hI.ev 7 (by show ¬ (7 ∈ [50, 51, 52, 53, 54, 55, 56, 57, 58, 59, 49, 60, 61]); decide) rfl
        exact pt_move _ (by first | exact .inl rfl | exact .inr rfl) _ e7 (hK _ _ hI.j PtKeep.refl rfl)
      · intro L a W K hI hn hd hK
        have e55 : a.eval (.tmp 55) = .pointer (some ⟨w2.heap.size + 1, 0, none⟩) := hI.fact 5 55 _ rfl (dep_of hd 5 (by kernel_rfl))
        exact pt_val (v := .pointer (some ⟨w2.heap.size + 1, 0, none⟩)) (by unfold execOp; simp only [e55]; kernel_rfl) (hK _ _ hI.j PtKeep.refl rfl)
      · intro L a W K hI hn hd hK
        have e56 : a.eval (.tmp 56) = .pointer (some ⟨w2.heap.size + 1, 0, none⟩) := hI.fact 6 56 _ rfl (dep_of hd 6 (by kernel_rfl))
        exact pt_val (v := .pointer (some ⟨w2.heap.size + 1, 3, none⟩)) (by unfold execOp; simp only [e56]; kernel_rfl) (hK _ _ hI.j PtKeep.refl rfl)
      · intro L a W K hI hn hd hK
        have e57 : a.eval (.tmp 57) = .pointer (some ⟨w2.heap.size + 1, 3, none⟩) := hI.fact 7 57 _ rfl (dep_of hd 7 (by kernel_rfl))
        exact pt_load _ (.tmp 57) rfl ⟨w2.heap.size + 1, 3, none⟩ (.int .u64 mk.w1) _ e57 ((CL4.out _ hI.j).2) Tryz.underlying72 rfl (hK _ _ hI.j PtKeep.refl rfl)
      · intro L a W K hI hn hd hK
        have e51 : a.eval (.tmp 51) = .pointer (some ⟨b, 0, none⟩) := hI.fact 1 51 _ rfl (dep_of hd 1 (by kernel_rfl))
        have e54 : a.eval (.tmp 54) = .int .i64 ((sg * 16 : Nat)) := hI.fact 4 54 _ rfl (dep_of hd 4 (by kernel_rfl))
        have e58 : a.eval (.tmp 58) = .int .u64 mk.w1 := hI.fact 8 58 _ rfl (dep_of hd 8 (by kernel_rfl))
        refine wp_callc (f := 21) (args := #[a.eval (.tmp 51), .int .i64 2, a.eval (.tmp 54), a.eval (.tmp 58)]) (by kernel_rfl) ?_
        rw [e51, e54, e58]
        refine (HOP.out W hI.j).mono ?_
        rintro x W' ⟨r, F', rfl, h1, ho, h2⟩
        exact ⟨_, rfl, hK _ _ (hI.j.trans ho (fun _ _ e => e.elim)) (hstab.keep ho) ⟨r, F', rfl, h1, fun k hk => by have := h2 k hk; have := hI.j.size; omega⟩⟩
      · intro L a W K hI hn hd hK
        have f59 := hI.fact 9 59 _ rfl (dep_of hd 9 (by kernel_rfl))
        obtain ⟨r, F', h1, h2, h3⟩ := f59
        exact pt_move _ (by first | exact .inl rfl | exact .inr rfl) _ h1 (hK _ _ hI.j PtKeep.refl ⟨r, F', rfl, h2, h3⟩)
      · intro L a W K hI hn hd hK
        have f49 := hI.fact 10 49 _ rfl (dep_of hd 10 (by kernel_rfl))
        obtain ⟨r, F', h1, h2, h3⟩ := f49
        exact pt_val (v := .pointer (some ⟨r, 0, none⟩)) (by unfold execOp; simp only [h1]; kernel_rfl) (hK _ _ hI.j PtKeep.refl ⟨r, F', rfl, h2, h3⟩)
      · intro L a W K hI hn hd hK
        have f49 := hI.fact 10 49 _ rfl (dep_of hd 10 (by kernel_rfl))
        obtain ⟨r, F', h1, h2, h3⟩ := f49
        exact pt_val (v := .int .i64 0) (by unfold execOp; simp only [h1]; kernel_rfl) (hK _ _ hI.j PtKeep.refl rfl)
    · intro L a w5 hal hj hfs
      dsimp only [PtAll] at hfs
      obtain ⟨f50, f51, f52, f53, f54, f55, f56, f57, f58, f59, f49, f60, f61, -⟩ := hfs
      obtain ⟨rx, Fx, f59, -, -⟩ := f59
      obtain ⟨ry, Fy, f49, -, -⟩ := f49
      obtain ⟨rr, FR, f60, hrg, hfn⟩ := f60
      have hA := hal.turned
      simp only [List.map_cons, List.map_nil, Act.turned, f50, f51, f52, f53, f54, f55, f56, f57, f58, f59, f49, f60, f61] at hA
      simp only [Act.put, List.setIfInBounds_toArray, List.set_cons_zero, List.set_cons_succ] at hA
      clear hal f50 f51 f52 f53 f54 f55 f56 f57 f58 f59 f49 f60 f61
      subst hA
      change wpList _ _ _ [_, _, _, _] _ _
      have HJ := hid hj
      have HRG := hid hrg; have HFN := hid hfn
      have HB5 := hid (blk_only HB3.out (HQ3.out.trans hj (fun _ _ e => e)) (fun e => e))
      have hzj := hj.size
      have c5 : w5.cell? ⟨w2.heap.size + 1, 1, none⟩ = some (.pointer none) := cell_blk HB5.out 1
      have hz5 := frozen_blk HB5.out
      have hl5 := blk_lt HB5.out
      have HO6 : Hid (Only (fun k => k = w2.heap.size + 1) w5 (w5.setCell ⟨w2.heap.size + 1, 1, none⟩ (.pointer (some ⟨rr, 0, none⟩)))) := hid (only_set _ 1 _)
      have HO6w : Hid (Only (fun _ => False) w (w5.setCell ⟨w2.heap.size + 1, 1, none⟩ (.pointer (some ⟨rr, 0, none⟩)))) := hid ((HX3.out.trans HJ.out (fun _ _ e => e)).trans HO6.out (fun k hk e => by have e' : k = w2.heap.size + 1 := e; omega))
      have HREP : Hid (LogRep (w5.setCell ⟨w2.heap.size + 1, 1, none⟩ (.pointer (some ⟨rr, 0, none⟩))) (w2.heap.size + 1) b rr ⟨D, RingM.opened D 2 (sg * 16) mk.w1, mk.w0, mk.w1, [], false⟩ (.slice none 0 0) FR FD (fun _ => False)) := hid (by
        have hFD : ∀ k, FD k → k < w.heap.size := fun k hk => HD.out.lt hk
        have hFR : ∀ k, FR k → w2.heap.size + 1 < k := fun k hk => by have := HFN.out k hk; omega
        refine ⟨?_, HRG.out.only HO6.out (fun k hk e => by have := hFR k hk; have e' : k = w2.heap.size + 1 := e; omega), HD.out.only HO6w.out (fun _ _ e => e), WaitV.nil _ _, fun k hk hf => by have := hFR k hk; have := hFD k hf; omega, fun k hk => hk.elim, fun k hk => hk.elim, fun e => by have := hFR _ e; omega, fun e => by have := hFD _ e; omega, fun e => e.elim, fun k hk => hk.elim, by show mk.w0 ≤ _; omega, by show mk.w1 ≤ _; omega, Nat.zero_le _⟩
        have := blk_set HB5.out 1 (.pointer (some ⟨rr, 0, none⟩))
        simpa [logCells] using this)
      clear hj hrg hfn HB5
      go_wp2_with fail
      refine NoPanic.normal ?_
      have HFR := hid (frames_c HREP.out HS.out hm1 (by show mk.w1 ≤ _; omega) (by omega) (by show ups T.length * 128 - mk.w0 ≤ RingM.size _; unfold RingM.size RingM.opened; simp only; omega))
      have HREP2 := hid HREP.out
      obtain ⟨w6, hw6⟩ : ∃ x, w5.setCell ⟨w2.heap.size + 1, 1, none⟩ (.pointer (some ⟨rr, 0, none⟩)) = x := ⟨_, rfl⟩
      rw [hw6] at HFR HREP2 HO6w HO6 ⊢
      have hz6 : w6.heap.size = w5.heap.size := by rw [← hw6]; simp
      have HFRl : Hid (∀ k, FR k → k < w5.heap.size) := hid fun k hk => by obtain ⟨rv, hR⟩ := HRG.out; exact hR.lt k hk
      clear hw6 HREP
      go_wp2_with fail
      refine HFR.out.mono ?_
      rintro x w7 ⟨vf, rfl, hfo, ho7⟩
      have HFO := hid hfo; have HO7 := hid ho7
      have HO7w := hid (HO6w.out.trans ho7 (fun _ _ e => e))
      obtain ⟨qc, hqc⟩ : ∃ x, readA T mk.w0 mk.w1 = x := ⟨_, rfl⟩
      have HQC := hid hqc
      simp only [hqc] at HFO ⊢
      obtain ⟨qf, qe⟩ := qc
      clear hfo ho7 hqc HFR
      by_cases hq0 : qe = 0
      · subst hq0
        go_wp2_with fail
        go_ret3
        rw [HQC.out]
        refine ⟨HO7w.out, .inr ⟨rfl, vf, w2.heap.size + 1, rr, w6.heap.size, fun k => k = w2.heap.size + 1 ∨ FR k ∨ FD k ∨ False, rfl, ⟨_, FR, FD, _, HREP2.out.only HO7.out (fun e => e) (fun _ _ e => e) (fun _ _ e => e) (fun _ _ e => e), fun k => Iff.rfl⟩, by omega, HFO.out, fun k hk => ?_, fun k hk => ?_⟩⟩
        · rcases hk with e | e | e | e
          · omega
          · have := HFRl.out k e; omega
          · have := HD.out.lt e; omega
          · exact e.elim
        · rcases hk with e | e | e | e
          · exact .inr (by omega)
          · exact .inr (by have := HFN.out k e; omega)
          · exact .inl e
          · exact e.elim
      · have hqb : (qe != 0) = true := by simpa using hq0
        have HQ0 := hid hq0
        clear hq0
        go_wp2_with fail
        go_ret3
        rw [HQC.out]
        exact ⟨HO7w.out, .inl ⟨HQ0.out, rfl⟩⟩)
end
end Go.Proofs.YtfmdngeooelcpaaGreat
namespace Go.Proofs.YtfmdngeooelcpaaGreat
open Go.RowKit

theorem deN_le4 (n : Nat) (h : n < 4294967296) : deN (le4 n) = n := by
  unfold le4
  simp only [deN, UInt8.toNat_ofNat']
  omega
/-- The bytes of frames that are laid one behind the other from a place on. -/
def layT (a : Nat) : List (Nat × List UInt8) → List UInt8
  | [] => []
  | (k, s) :: fs => (padN a s.length ++ frameN (placeN a s.length) k s) ++ layT (placeN a s.length + 9 + s.length) fs
/-- Frames that can be laid. -/
def FOk (fs : List (Nat × List UInt8)) : Prop := ∀ x ∈ fs, 1 ≤ x.1 ∧ x.1 ≤ 3 ∧ x.2.length ≤ 2039
theorem room_pos (a : Nat) : 0 < roomN a ∧ roomN a ≤ 2048 := by unfold roomN; omega
theorem first_len (a k : Nat) (s : List UInt8) : (padN a s.length ++ frameN (placeN a s.length) k s).length = placeN a s.length + 9 + s.length - a := by
  rw [List.length_append, frame_len, place_pad]; omega
theorem place_le (a n : Nat) : a ≤ placeN a n := by rw [place_pad]; omega
theorem place_fits (a n : Nat) (h : n ≤ 2039) : 9 + n ≤ roomN (placeN a n) := by
  unfold placeN
  split
  · unfold roomN at *; omega
  · omega
theorem place_idem (a n : Nat) (h : n ≤ 2039) : placeN (placeN a n) n = placeN a n ∧ padN (placeN a n) n = [] := by
  have h1 := place_fits a n h
  unfold placeN at h1 ⊢
  unfold padN
  exact ⟨if_neg (by omega), if_neg (by omega)⟩
theorem layT_app : ∀ (fs gs : List (Nat × List UInt8)) (a : Nat), layT a (fs ++ gs) = layT a fs ++ layT (a + (layT a fs).length) gs
  | [], gs, a => by simp [layT]
  | (k, s) :: fs, gs, a => by
    rw [List.cons_append, layT, layT, layT_app fs gs, List.append_assoc, List.append_assoc, List.append_assoc, List.append_assoc]
    congr 4
    simp only [List.length_append, frame_len, place_pad]
    omega
theorem layT_place (a k : Nat) (s : List UInt8) (fs : List (Nat × List UInt8)) (h : s.length ≤ 2039) : layT a ((k, s) :: fs) = padN a s.length ++ layT (placeN a s.length) ((k, s) :: fs) := by
  obtain ⟨h1, h2⟩ := place_idem a s.length h
  rw [layT, layT, h1, h2, List.nil_append, List.append_assoc]
theorem drop_of {T A B : List UInt8} {a : Nat} (h : T.drop a = A ++ B) : T.drop (a + A.length) = B := by
  rw [← List.drop_drop, h, List.drop_left]
theorem frame_head (p k : Nat) (s R : List UInt8) (hk : k < 256) (hs : s.length < 4294967296) :
    deN (((frameN p k s ++ R).take 9).take 4) = s.length ∧ deN ((((frameN p k s ++ R).take 9).drop 4).take 4) = sealN p k s ∧ (((frameN p k s ++ R).take 9).getD 8 0).toNat = k := by
  have e : (frameN p k s ++ R).take 9 = le4 s.length ++ (le4 (sealN p k s) ++ [UInt8.ofNat k]) := by
    unfold frameN
    rw [show (9 : Nat) = (le4 s.length ++ (le4 (sealN p k s) ++ [UInt8.ofNat k])).length from rfl]
    rw [show le4 s.length ++ (le4 (sealN p k s) ++ UInt8.ofNat k :: s) ++ R = (le4 s.length ++ (le4 (sealN p k s) ++ [UInt8.ofNat k])) ++ (s ++ R) from by simp]
    exact List.take_left
  rw [e]
  refine ⟨?_, ?_, ?_⟩
  · rw [show (4 : Nat) = (le4 s.length).length from rfl, List.take_left, deN_le4 _ hs]
  · rw [show (le4 s.length ++ (le4 (sealN p k s) ++ [UInt8.ofNat k])).drop 4 = le4 (sealN p k s) ++ [UInt8.ofNat k] from List.drop_left (l₁ := le4 s.length)]
    have hq : sealN p k s < 4294967296 := crc_lt _
    rw [show (4 : Nat) = (le4 (sealN p k s)).length from rfl, List.take_left]
    exact deN_le4 _ hq
  · show (UInt8.ofNat k).toNat = k
    rw [UInt8.toNat_ofNat']
    exact Nat.mod_eq_of_lt hk
theorem zeros_head (n : Nat) (R : List UInt8) (h : 9 ≤ n) : deN (((zeros n ++ R).take 9).take 4) = 0 ∧ deN ((((zeros n ++ R).take 9).drop 4).take 4) = 0 ∧ (((zeros n ++ R).take 9).getD 8 0).toNat = 0 := by
  have e : (zeros n ++ R).take 9 = zeros 9 := by
    rw [List.take_append_of_le_length (by rw [length_zeros]; exact h)]
    unfold zeros
    rw [List.take_replicate, Nat.min_eq_left h]
  rw [e]
  decide
/-- Frames that were laid are read. -/
theorem read_laid {T : List UInt8} : ∀ (fs : List (Nat × List UInt8)) (f a : Nat), FOk fs → T.length < a + f → a ≤ T.length → T.drop a = layT a fs → readF T T.length f a = (fs, 0)
  | [], f, a, _, hf, ha, h => by
    have hl : (T.drop a).length = 0 := by rw [h]; rfl
    rw [List.length_drop] at hl
    obtain ⟨f, rfl⟩ : ∃ g, f = g + 1 := ⟨f - 1, by omega⟩
    rw [readF, if_pos (by omega)]
  | (k, s) :: fs, f, a, hok, hf, ha, h => by
    obtain ⟨hk1, hk3, hsl⟩ := hok (k, s) (List.mem_cons_self ..)
    have hk1 : 1 ≤ k := hk1
    have hk3 : k ≤ 3 := hk3
    have hsl : s.length ≤ 2039 := hsl
    have hok' : FOk fs := fun x hx => hok x (List.mem_cons_of_mem _ hx)
    have hrm := room_pos a
    -- a frame at its place
    have key : ∀ (f a : Nat), T.length < a + f → a ≤ T.length → T.drop a = layT a ((k, s) :: fs) → placeN a s.length = a → padN a s.length = [] → readF T T.length f a = ((k, s) :: fs, 0) := by
      intro f a hf ha h hp hq
      rw [layT, hp, hq, List.nil_append] at h
      have hl := congrArg List.length h
      rw [List.length_drop, List.length_append, frame_len] at hl
      obtain ⟨f, rfl⟩ : ∃ g, f = g + 1 := ⟨f - 1, by omega⟩
      have hft := place_fits a s.length hsl
      rw [hp] at hft
      have hm : 9 + s.length ≤ min (roomN a) (T.length - a) := by omega
      obtain ⟨h1, h2, h3⟩ := frame_head a k s (layT (a + 9 + s.length) fs) (by omega) (by omega)
      have hd9 : T.drop (a + 9) = s ++ layT (a + 9 + s.length) fs := by
        rw [← List.drop_drop, h]
        show (frameN a k s ++ _).drop 9 = _
        rw [show frameN a k s ++ layT (a + 9 + s.length) fs = (le4 s.length ++ (le4 (sealN a k s) ++ [UInt8.ofNat k])) ++ (s ++ layT (a + 9 + s.length) fs) from by simp [frameN]]
        exact List.drop_left (l₁ := le4 s.length ++ (le4 (sealN a k s) ++ [UInt8.ofNat k]))
      have hs9 : (T.drop (a + 9)).take s.length = s := by rw [hd9, List.take_left]
      have hdn : T.drop (a + 9 + s.length) = layT (a + 9 + s.length) fs := by rw [← List.drop_drop, hd9, List.drop_left]
      have ih := read_laid fs f (a + 9 + s.length) hok' (by omega) (by omega) hdn
      rw [readF_step (by omega), h, h1, h2, h3, hs9, ih, if_neg (by omega), if_neg (by omega), if_neg (by omega), if_neg (by simp), if_pos rfl]
    by_cases hft : roomN a < 9 + s.length
    · have hpl : placeN a s.length = a + roomN a := by unfold placeN; rw [if_pos hft]
      have hpd : padN a s.length = zeros (roomN a) := by unfold padN; rw [if_pos hft]
      have h' := h
      rw [layT_place a k s fs hsl, hpl, hpd] at h
      have hl := congrArg List.length h
      rw [List.length_drop, List.length_append, length_zeros] at hl
      obtain ⟨f, rfl⟩ : ∃ g, f = g + 1 := ⟨f - 1, by omega⟩
      have hm : min (roomN a) (T.length - a) = roomN a := by omega
      have hnext := drop_of h
      rw [length_zeros] at hnext
      obtain ⟨i1, i2⟩ := place_idem a s.length hsl
      rw [hpl] at i1 i2
      have hfin := key f (a + roomN a) (by omega) (by omega) hnext i1 i2
      have hlt : a < T.length := by
        have h9 := first_len a k s
        have := congrArg List.length h'
        rw [layT, List.length_drop, List.length_append, h9, hpl] at this
        omega
      rw [readF_step hlt, hm]
      by_cases h9 : roomN a < 9
      · rw [if_pos h9]; exact hfin
      · rw [if_neg h9, h]
        rw [if_pos (zeros_head (roomN a) _ (by omega))]
        exact hfin
    · exact key f a hf ha h (by unfold placeN; rw [if_neg hft]) (by unfold padN; rw [if_neg hft])
end Go.Proofs.YtfmdngeooelcpaaGreat
namespace Go.Proofs.YtfmdngeooelcpaaGreat
open Go.RowKit

theorem burn_cur (D : DiskM) (k : Nat) : D.burn.cur k = D.cur k := by unfold DiskM.burn; split <;> (try split) <;> rfl
theorem write_cur (D : DiskM) (n : Nat) (l : List UInt8) (k : Nat) (h : k ≠ n) : (D.write (n : Int) l).1.cur k = D.cur k := by
  unfold DiskM.write
  split
  · rfl
  · split
    · rfl
    · split
      · rfl
      · split
        · rfl
        · split
          · show DiskM.cur { D.burn.put (n : Int).toNat l with nw := _ } k = _
            rw [← burn_cur D k]
            simp only [Int.toNat_natCast]
            unfold DiskM.cur DiskM.put
            simp [h]
          · exact burn_cur D k
theorem ringRun_cur (R : RingM) : ∀ (f a : Nat) (all : List UInt8) (D : DiskM) (k : Nat), k < R.first → (ringRun R f a all D).1.cur k = D.cur k
  | 0, _, _, _, _, _ => rfl
  | f + 1, a, all, D, k, hk => by
    have hs : k ≠ R.sector a := by unfold RingM.sector; omega
    rw [ringRun]
    split
    · rfl
    · split
      · exact write_cur _ _ _ _ hs
      · split
        · exact write_cur _ _ _ _ hs
        · rw [ringRun_cur R f _ _ _ k hk]; exact write_cur _ _ _ _ hs
theorem append_cur (R : RingM) (head : Nat) (s : List UInt8) (D : DiskM) (k : Nat) (hk : k < R.first) : (R.append head s D).2.1.cur k = D.cur k := by
  unfold RingM.append
  split
  · rfl
  · split
    · rfl
    · dsimp only
      split <;> exact ringRun_cur R _ _ _ _ k hk
theorem RS.cur2 {D D' : DiskM} {R : RingM} {text : List UInt8} (h : RS D R text) (h1 : D'.down = false) (h2 : D'.fuse < 0) (h3 : D'.n = D.n) (h4 : ∀ k, R.first ≤ k → D'.cur k = D.cur k) : RS D' R text := by
  refine ⟨h1, h2, by rw [h3]; exact h.fits, h.c0, h.tail, h.rest, fun i hlo hi k hk hik => ?_⟩
  rw [h4 _ (Nat.le_add_right _ _)]; exact h.holds i hlo hi k hk hik
/-- How many of some frames fit. -/
def laysN (left a : Nat) : List (Nat × List UInt8) → Nat
  | [] => 0
  | (_, s) :: fs => if left < placeN a s.length + 9 + s.length - a then 0 else laysN (left - (placeN a s.length + 9 + s.length - a)) (placeN a s.length + 9 + s.length) fs + 1
theorem laysN_le (left a : Nat) (fs : List (Nat × List UInt8)) : laysN left a fs ≤ fs.length := by
  induction fs generalizing left a with
  | nil => exact Nat.le_refl _
  | cons x fs ih =>
    obtain ⟨k, s⟩ := x
    rw [laysN]
    split
    · exact Nat.zero_le _
    · have := ih (left - (placeN a s.length + 9 + s.length - a)) (placeN a s.length + 9 + s.length)
      rw [List.length_cons]; omega
/-- What a log is but for its ring and disk. -/
def LKeep (M M' : WM) : Prop := M'.head = M.head ∧ M'.tail = M.tail ∧ M'.wait = M.wait ∧ M'.failed = M.failed ∧ M'.R.first = M.R.first ∧ M'.R.count = M.R.count ∧ M'.D.n = M.D.n ∧ ∀ k, k < M.R.first → M'.D.cur k = M.D.cur k
theorem lays_power : ∀ (fs : List (Nat × List UInt8)) (M : WM) (T : List UInt8), RS M.D M.R T → M.head ≤ T.length →
    ∃ M', M.lays fs = (M', laysN (M.R.left M.head) T.length fs, if laysN (M.R.left M.head) T.length fs = fs.length then 0 else 3) ∧ RS M'.D M'.R (T ++ layT T.length (fs.take (laysN (M.R.left M.head) T.length fs))) ∧ LKeep M M'
  | [], M, T, h, hh => ⟨M, rfl, by simp [layT]; exact h, rfl, rfl, rfl, rfl, rfl, rfl, rfl, fun _ _ => rfl⟩
  | (k, s) :: fs, M, T, h, hh => by
    have hl := first_len T.length k s
    have htl := h.tail
    rw [laysN, WM.lays]
    by_cases hft : M.R.left M.head < placeN T.length s.length + 9 + s.length - T.length
    · have hno : M.laid k s = (M.R, M.D, 3) := by
        unfold WM.laid RingM.append
        rw [htl, if_pos (by rw [hl]; exact hft)]
      rw [if_pos hft, if_pos (by rw [hno]; simp)]
      refine ⟨M.lay k s, ?_, ?_, ?_⟩
      · rw [hno, if_neg (by simp)]
      · unfold WM.lay; rw [hno]; simp [layT]; exact h
      · unfold WM.lay; rw [hno]; exact ⟨rfl, rfl, rfl, rfl, rfl, rfl, rfl, fun _ _ => rfl⟩
    · rw [if_neg hft]
      obtain ⟨R', D', e1, e2, e3, e4, e5⟩ := h.append M.head (padN T.length s.length ++ frameN (placeN T.length s.length) k s) (by rw [hl]; omega)
      have hld : M.laid k s = (R', D', 0) := by unfold WM.laid; rw [htl]; exact e1
      have hcur : ∀ j, j < M.R.first → D'.cur j = M.D.cur j := fun j hj => by
        have := append_cur M.R M.head (padN T.length s.length ++ frameN (placeN T.length s.length) k s) M.D j hj
        rw [e1] at this; exact this
      have hlay : M.lay k s = { M with R := R', D := D' } := by unfold WM.lay; rw [hld]
      have hTl : (T ++ (padN T.length s.length ++ frameN (placeN T.length s.length) k s)).length = placeN T.length s.length + 9 + s.length := by
        rw [List.length_append, hl]; have := place_le T.length s.length; omega
      have hleft : R'.left M.head = M.R.left M.head - (placeN T.length s.length + 9 + s.length - T.length) := by
        have h2 := e2.tail
        rw [hTl] at h2
        unfold RingM.left RingM.size
        rw [e4, h2, htl, Nat.min_eq_left hh, Nat.min_eq_left (by have := place_le T.length s.length; omega)]
        have := place_le T.length s.length
        have hd : M.head / 128 * 128 ≤ T.length := by omega
        dsimp only
        omega
      obtain ⟨M', i1, i2, i3⟩ := lays_power fs { M with R := R', D := D' } _ e2 (by rw [hTl]; have := place_le T.length s.length; show M.head ≤ _; omega)
      rw [hTl] at i1 i2
      have hl2 : ({ M with R := R', D := D' } : WM).R.left ({ M with R := R', D := D' } : WM).head = M.R.left M.head - (placeN T.length s.length + 9 + s.length - T.length) := hleft
      rw [hl2] at i1 i2
      refine ⟨M', ?_, ?_, ?_⟩
      · rw [hlay, i1, if_neg (by rw [hld]; simp)]
        simp only [List.length_cons, Nat.add_right_cancel_iff]
      · rw [List.take_succ_cons, layT, ← List.append_assoc]
        exact i2
      · obtain ⟨k1, k2, k3, k4, k5, k6, k7, k8⟩ := i3
        exact ⟨k1, k2, k3, k4, k5.trans e3, k6.trans e4, k7.trans e5, fun j hj => (k8 j (by show j < R'.first; rw [e3]; exact hj)).trans (hcur j hj)⟩
/-- The disk is durable, the log reaches from a place on. -/
theorem settle_power {M : WM} {T : List UInt8} {L : MarkM} {B : Nat} (h : RS M.D M.R T) (hf : 2 ≤ M.R.first) (hs : TSC (fun k => M.D.cur k) L B) (hb : B ≤ 200) {p : Nat} (hp : p ≤ 9223372036854775807) (hT : T.length ≤ 9223372036854775807) :
    ∃ D' m, M.settle p = ({ M with D := D', head := p, tail := M.R.tail }, 0) ∧ RS D' M.R T ∧ TSC (fun k => D'.cur k) m (B + 2) ∧ m.w0 = p ∧ m.w1 = M.R.tail ∧ 0 < m.s ∧ D'.n = M.D.n ∧ ∀ k, D'.pend k = none := by
  have hbn : M.D.burns = true := by have := h.fuse; unfold DiskM.burns; simp; omega
  have hbu : M.D.burn = M.D := by unfold DiskM.burn; rw [if_pos h.fuse]
  have e2 : M.D.flush = ({ M.D.flushed with nf := wrap64 (M.D.nf + 1) }, 0) := by unfold DiskM.flush; rw [h.up, hbn, hbu]; rfl
  obtain ⟨D1, hD1⟩ : ∃ x, ({ M.D.flushed with nf := wrap64 (M.D.nf + 1) } : DiskM) = x := ⟨_, rfl⟩
  have c1 : ∀ k, D1.cur k = M.D.cur k := fun k => by rw [← hD1]; rfl
  have d1 : D1.down = false := by rw [← hD1]; exact h.up
  have f1 : D1.fuse < 0 := by rw [← hD1]; exact h.fuse
  have n1 : D1.n = M.D.n := by rw [← hD1]; rfl
  rw [hD1] at e2
  have hfit := h.fits
  have hc0 := h.c0
  have hs1 : TSC (fun k => D1.cur k) L B := hs.congr (fun k _ => c1 k)
  have htl := h.tail
  obtain ⟨m, q1, q2, q3, q4⟩ := hs1.next d1 (by omega) hb [p, M.R.tail] (by simp) (fun x hx => by
    rcases List.mem_cons.1 hx with e | hx
    · omega
    · rw [List.mem_singleton] at hx; omega)
  obtain ⟨D', g1, g2, g3, g4, g5, g6⟩ := putGo_done (first := 0) m d1 (by omega) (.inl f1)
  have hcur : ∀ k, D'.cur k = if k = m.s % 2 then enc m else D1.cur k := fun k => by
    unfold DiskM.cur
    rw [g5 k]
    have := g6 k
    rw [Nat.zero_add] at this
    exact this
  obtain ⟨L', l1, -, l3⟩ := q4 (fun k => D'.cur k) (fun k _ hk => by show D'.cur k = _; rw [hcur, if_neg hk]) (.inr (.inl (by show D'.cur _ = _; rw [hcur, if_pos rfl])))
  obtain rfl := l3 (by show D'.cur _ = _; rw [hcur, if_pos rfl])
  refine ⟨D', L', ?_, h.cur2 g2 (by rw [g4, if_pos f1]; exact f1) (g3.trans n1) (fun k hk => ?_), l1, by rw [q2]; rfl, by rw [q2]; rfl, q3, g3.trans n1, g5⟩
  · unfold WM.settle
    rw [e2]
    have q1' : putR D1 0 [p, M.R.tail] = (D', L', 0) := q1.trans g1
    dsimp only
    rw [if_neg (by simp), q1']
    rw [if_neg (by simp)]
  · rw [hcur, if_neg (by omega), c1]
end Go.Proofs.YtfmdngeooelcpaaGreat
namespace Go.Proofs.YtfmdngeooelcpaaGreat
open Go.RowKit

/-- A log on a disk with power, at rest: its bytes so far (T0 ahead of its beginning), its frames; N bounds how often something was made durable. -/
structure LP (M : WM) (sg N : Nat) (T0 : List UInt8) (fs : List (Nat × List UInt8)) : Prop where
  rs : RS M.D M.R (T0 ++ layT T0.length fs)
  first : M.R.first = 2
  count : M.R.count = sg * 16
  dn : 2 + sg * 16 ≤ M.D.n
  sgn : ((M.D.n : Int) - 2).tdiv 16 = (sg : Nat)
  s2 : 2 ≤ sg
  hd : M.head = T0.length
  tl : M.tail = (T0 ++ layT T0.length fs).length
  fok : FOk fs
  room : (T0 ++ layT T0.length fs).length ≤ M.head / 128 * 128 + sg * 2048
  nf : M.failed = false
  marks : ∃ L, TSC (fun k => M.D.cur k) L (2 * N) ∧ (L.s = 0 → M.head = 0 ∧ M.tail = 0) ∧ (L.s ≠ 0 → L.w0 = M.head ∧ L.w1 = M.tail)
  pend : ∀ k, M.D.pend k = none
  w39 : ∀ s ∈ M.wait, s.length ≤ 2039
  w64 : M.wait.length ≤ 64
  len : (T0 ++ layT T0.length fs).length ≤ N * 1000000000
section
variable {M : WM} {sg N : Nat} {T0 : List UInt8} {fs : List (Nat × List UInt8)}
theorem LP.left (h : LP M sg N T0 fs) : M.R.left M.head = sg * 2048 - (M.tail - M.head / 128 * 128) := by
  have h1 := h.rs.tail
  have h2 := h.hd
  have h3 := h.tl
  unfold RingM.left RingM.size
  rw [h.count, h1, ← h3, Nat.min_eq_left (by rw [h2, h3, List.length_append]; omega)]
  dsimp only
  omega
theorem LP.new {n : Nat} (hs : 2 ≤ sg) (hn : 2 + sg * 16 ≤ n) (hg : ((n : Int) - 2).tdiv 16 = (sg : Nat)) : LP ⟨DiskM.new n, RingM.opened (DiskM.new n) 2 (sg * 16) 0, 0, 0, [], false⟩ sg 0 [] [] where
  rs := ⟨rfl, by show (-1 : Int) < 0; decide, hn, by show 0 < sg * 16; omega, rfl, rfl, fun i _ hi => absurd hi (Nat.not_lt_zero i)⟩
  first := rfl
  count := rfl
  dn := hn
  sgn := hg
  s2 := hs
  hd := rfl
  tl := rfl
  fok := fun x hx => nomatch hx
  room := Nat.zero_le _
  nf := rfl
  marks := ⟨MarkM.zero, TSC.new, fun _ => ⟨rfl, rfl⟩, fun h => absurd rfl h⟩
  pend := fun _ => rfl
  w39 := fun s hs => nomatch hs
  w64 := Nat.zero_le _
  len := Nat.zero_le _
theorem LP.more (h : LP M sg N T0 fs) {N' : Nat} (hn : N ≤ N') : LP M sg N' T0 fs := { h with
  marks := by obtain ⟨L, h1, h3⟩ := h.marks; exact ⟨L, h1.more (by omega), h3⟩
  len := Nat.le_trans h.len (Nat.mul_le_mul_right _ hn) }
/-- What the plain log answers to a batch. -/
theorem LP.submit (h : LP M sg N T0 fs) (s : List UInt8) : LP (M.submit s).1 sg N T0 fs ∧ (M.submit s).1.D = M.D ∧ (M.submit s).1.R = M.R ∧ (M.submit s).1.head = M.head ∧ (M.submit s).1.tail = M.tail ∧
    (M.submit s).2 = (if 2039 < s.length then 2 else if M.wait.length = 64 then 3 else 0) ∧ (M.submit s).1.wait = (if 2039 < s.length then M.wait else if M.wait.length = 64 then M.wait else M.wait ++ [s]) := by
  unfold WM.submit
  rw [h.nf, if_neg (by simp)]
  by_cases h1 : 2039 < s.length
  · simp only [if_pos h1]; exact ⟨h, by simp⟩
  · simp only [if_neg h1]
    by_cases h2 : M.wait.length = 64
    · simp only [if_pos h2]; exact ⟨h, by simp⟩
    · simp only [if_neg h2]
      refine ⟨{ h with nf := rfl, w39 := ?_, w64 := ?_ }, by simp⟩
      · intro x hx
        rcases List.mem_append.1 hx with hx | hx
        · exact h.w39 x hx
        · rw [List.mem_singleton] at hx; subst hx; omega
      · have := h.w64
        show (M.wait ++ [s]).length ≤ 64
        rw [List.length_append, List.length_singleton]; omega
theorem LP.drop (h : LP M sg N T0 fs) : LP { M with wait := [] } sg N T0 fs := { h with w39 := (fun _ hs => nomatch hs), w64 := Nat.zero_le _ }
theorem layT_fit : ∀ (gs : List (Nat × List UInt8)) (left a : Nat), (layT a (gs.take (laysN left a gs))).length ≤ left
  | [], left, a => Nat.zero_le _
  | (k, s) :: gs, left, a => by
    rw [laysN]
    split
    · exact Nat.zero_le _
    · rename_i h
      rw [List.take_succ_cons, layT, List.length_append, first_len]
      have := layT_fit gs (left - (placeN a s.length + 9 + s.length - a)) (placeN a s.length + 9 + s.length)
      omega
theorem laysN_all : ∀ (gs : List (Nat × List UInt8)) (left a : Nat), (layT a gs).length ≤ left → laysN left a gs = gs.length
  | [], left, a, _ => rfl
  | (k, s) :: gs, left, a, h => by
    rw [layT, List.length_append, first_len] at h
    rw [laysN, if_neg (by omega), laysN_all gs _ _ (by omega), List.length_cons]
/-- Each frame takes at most so much. -/
theorem layT_len : ∀ (gs : List (Nat × List UInt8)) (a : Nat), FOk gs → (layT a gs).length ≤ 4096 * gs.length
  | [], _, _ => Nat.zero_le _
  | (k, s) :: gs, a, h => by
    have h1 : s.length ≤ 2039 := (h (k, s) (List.mem_cons_self ..)).2.2
    have h2 := layT_len gs (placeN a s.length + 9 + s.length) (fun x hx => h x (List.mem_cons_of_mem _ hx))
    have h3 := place_pad a s.length
    have h4 := pad_len a s.length
    rw [layT, List.length_append, first_len, List.length_cons]
    omega
/-- From frames that were laid to a log at rest. -/
theorem LP.settled (h : LP M sg N T0 fs) {M1 : WM} {T0' : List UInt8} {fs' : List (Nat × List UInt8)} (hk : LKeep M M1) (hrs : RS M1.D M1.R (T0' ++ layT T0'.length fs')) (hfok : FOk fs') (hroom : (T0' ++ layT T0'.length fs').length ≤ T0'.length / 128 * 128 + sg * 2048) (hlen : (T0' ++ layT T0'.length fs').length ≤ (N + 1) * 1000000000) (hN : N ≤ 90) :
    ∃ D', M1.settle T0'.length = ({ M1 with D := D', head := T0'.length, tail := (T0' ++ layT T0'.length fs').length }, 0) ∧ LP { M1 with D := D', head := T0'.length, tail := (T0' ++ layT T0'.length fs').length } sg (N + 1) T0' fs' := by
  obtain ⟨k1, k2, k3, k4, k5, k6, k7, k8⟩ := hk
  obtain ⟨L, hs, hz, hl⟩ := h.marks
  have hs1 : TSC (fun k => M1.D.cur k) L (2 * N) := hs.congr (fun k hk => k8 k (by rw [h.first]; exact hk))
  have hT0 : T0'.length ≤ (T0' ++ layT T0'.length fs').length := by rw [List.length_append]; omega
  have h9 : (N + 1) * 1000000000 ≤ 91 * 1000000000 := Nat.mul_le_mul_right _ (by omega)
  obtain ⟨D', m, e1, e2, e3, e4, e5, e6, e7, e8⟩ := settle_power hrs (by rw [k5, h.first]; exact Nat.le_refl _) hs1 (by omega) (p := T0'.length) (by omega) (by omega)
  rw [hrs.tail] at e1 e5
  exact ⟨D', e1, ⟨e2, k5.trans h.first, k6.trans h.count, by show _ ≤ D'.n; rw [e7, k7]; exact h.dn, by show ((D'.n : Int) - 2).tdiv 16 = _; rw [e7, k7]; exact h.sgn, h.s2, rfl, rfl, hfok, hroom, k4.trans h.nf, ⟨m, e3, fun e => by omega, fun _ => ⟨e4, e5⟩⟩, e8, fun s hs => h.w39 s (by rw [← k3]; exact hs), by show M1.wait.length ≤ 64; rw [k3]; exact h.w64, hlen⟩⟩
theorem lays_zero {T : List UInt8} (h : RS M.D M.R T) {gs : List (Nat × List UInt8)} (hz : laysN (M.R.left M.head) T.length gs = 0) : M.lays gs = (M, 0, if gs = [] then 0 else 3) := by
  cases gs with
  | nil => rfl
  | cons x gs =>
    obtain ⟨k, s⟩ := x
    rw [laysN] at hz
    split at hz
    · rename_i hft
      have hno : M.laid k s = (M.R, M.D, 3) := by
        unfold WM.laid RingM.append
        rw [h.tail, if_pos (by rw [first_len]; exact hft)]
      rw [WM.lays, if_pos (by rw [hno]; simp), hno, if_neg (by simp)]
      unfold WM.lay; rw [hno]
    · omega
/-- What is committed. -/
theorem LP.commit (h : LP M sg N T0 fs) (hN : N ≤ 90) : ∃ (n : Nat) (M' : WM), n = laysN (sg * 2048 - (M.tail - M.head / 128 * 128)) M.tail (M.wait.map fun s => (1, s)) ∧ n ≤ M.wait.length ∧ M.commit = (M', n, if n = M.wait.length then 0 else 3) ∧ LP M' sg (N + 1) T0 (fs ++ (M.wait.take n).map fun s => (1, s)) ∧ M'.wait = M.wait.drop n := by
  obtain ⟨M1, e1, e2, e3⟩ := lays_power (M.wait.map fun s => (1, s)) M _ h.rs (by rw [h.hd, List.length_append]; omega)
  rw [h.left] at e1 e2
  rw [← h.tl] at e1 e2
  have hnl := laysN_le (sg * 2048 - (M.tail - M.head / 128 * 128)) M.tail (M.wait.map fun s => (1, s))
  have hft := layT_fit (M.wait.map fun s => (1, s)) (sg * 2048 - (M.tail - M.head / 128 * 128)) M.tail
  obtain ⟨n, hn⟩ : ∃ n, laysN (sg * 2048 - (M.tail - M.head / 128 * 128)) M.tail (M.wait.map fun s => (1, s)) = n := ⟨_, rfl⟩
  rw [hn] at e1 e2 hnl hft
  rw [List.length_map] at hnl e1
  rw [← List.map_take] at e2 hft
  have hok : FOk ((M.wait.take n).map fun s => (1, s)) := fun x hx => by
    obtain ⟨s, hs, rfl⟩ := List.mem_map.1 hx
    exact ⟨Nat.le_refl 1, (by show 1 ≤ 3; decide), h.w39 s (List.mem_of_mem_take hs)⟩
  have hok2 : FOk (fs ++ (M.wait.take n).map fun s => (1, s)) := fun x hx => by
    rcases List.mem_append.1 hx with hx | hx
    · exact h.fok x hx
    · exact hok x hx
  have hT : T0 ++ layT T0.length (fs ++ (M.wait.take n).map fun s => (1, s)) = (T0 ++ layT T0.length fs) ++ layT M.tail ((M.wait.take n).map fun s => (1, s)) := by
    rw [layT_app, ← List.append_assoc, h.tl, List.length_append]
  have hb : M.tail ≤ N * 1000000000 := by rw [h.tl]; exact h.len
  have hl2 := layT_len ((M.wait.take n).map fun s => ((1 : Nat), s)) M.tail hok
  rw [List.length_map, List.length_take] at hl2
  have h64 := h.w64
  have hrm := h.room
  rw [← h.tl] at hrm
  by_cases hn0 : n = 0
  · subst hn0
    have hz := lays_zero h.rs (gs := M.wait.map fun s => (1, s)) (by rw [h.left, ← h.tl]; exact hn)
    refine ⟨0, M, hn.symm, hnl, ?_, by simpa using h.more (Nat.le_succ N), rfl⟩
    unfold WM.commit
    rw [h.nf, if_neg (by simp), hz]
    dsimp only
    rw [if_neg (by split <;> simp), if_pos rfl]
    by_cases hw : M.wait = []
    · rw [hw]; rfl
    · rw [if_neg (by simpa using hw), if_neg (fun e => hw (List.eq_nil_of_length_eq_zero e.symm))]
  · obtain ⟨D', q1, q2⟩ := h.settled e3 (T0' := T0) (fs' := fs ++ (M.wait.take n).map fun s => (1, s)) (by rw [hT]; exact e2) hok2 (by rw [hT, List.length_append, ← h.tl, ← h.hd]; omega) (by rw [hT, List.length_append, ← h.tl]; omega) hN
    refine ⟨n, { M1 with D := D', head := T0.length, tail := (T0 ++ layT T0.length (fs ++ (M.wait.take n).map fun s => (1, s))).length, wait := M.wait.drop n }, hn.symm, hnl, ?_, { q2 with w39 := ?_, w64 := ?_ }, rfl⟩
    rotate_left
    · exact fun s hs => h.w39 s (List.mem_of_mem_drop hs)
    · show (M.wait.drop n).length ≤ 64
      rw [List.length_drop]; omega
    · unfold WM.commit
      rw [h.nf, if_neg (by simp), e1]
      dsimp only
      rw [if_neg (by split <;> simp), if_neg hn0, e3.1, h.hd, q1, if_neg (by simp)]
theorem cut_cost : ∀ (f a : Nat) (b : List UInt8), b.length < f → (layT a (cutL b)).length = costK f a b.length
  | 0, _, _, h => absurd h (Nat.not_lt_zero _)
  | f + 1, a, b, h => by
    rw [costK]
    by_cases hb : b.length ≤ 2039
    · rw [cutL_small hb, layT, layT, List.append_nil, first_len, place_pad, Nat.min_eq_left hb, if_pos hb]; omega
    · have htk : (b.take 2039).length = 2039 := by rw [List.length_take]; omega
      rw [cutL_big hb, layT, List.length_append, first_len, htk, cut_cost f _ (b.drop 2039) (by rw [List.length_drop]; omega), List.length_drop, Nat.min_eq_right (by omega), if_neg hb]
      have := place_pad a 2039
      omega
theorem cut_ok (b : List UInt8) : ∀ n, b.length ≤ n → FOk (cutL b) := by
  intro n
  induction n generalizing b with
  | zero => intro h; rw [cutL_small (by omega)]; intro x hx; rw [List.mem_singleton] at hx; subst hx; exact ⟨(by show 1 ≤ 3; decide), Nat.le_refl 3, (by show b.length ≤ 2039; omega)⟩
  | succ n ih =>
    intro h
    by_cases hb : b.length ≤ 2039
    · rw [cutL_small hb]; intro x hx; rw [List.mem_singleton] at hx; subst hx; exact ⟨(by show 1 ≤ 3; decide), Nat.le_refl 3, hb⟩
    · rw [cutL_big hb]
      intro x hx
      rcases List.mem_cons.1 hx with e | hx
      · subst e; exact ⟨(by show 1 ≤ 2; decide), (by show 2 ≤ 3; decide), (by show (b.take 2039).length ≤ 2039; rw [List.length_take]; omega)⟩
      · exact ih (b.drop 2039) (by rw [List.length_drop]; omega) x hx
theorem cut_first (b : List UInt8) : ∃ k s r, cutL b = (k, s) :: r ∧ s.length = min b.length 2039 := by
  by_cases hb : b.length ≤ 2039
  · exact ⟨3, b, [], cutL_small hb, by omega⟩
  · exact ⟨2, b.take 2039, cutL (b.drop 2039), cutL_big hb, by rw [List.length_take]; omega⟩
/-- A checkpoint. -/
theorem LP.checkpoint (h : LP M sg N T0 fs) (hN : N ≤ 90) {s : List UInt8} (hs : s.length ≤ 100000) :
    if M.wait ≠ [] then M.checkpoint s = (M, 7)
    else if sg * 2048 - (M.tail - M.head / 128 * 128) < costN M.tail s.length then M.checkpoint s = (M, 3)
    else ∃ M', M.checkpoint s = (M', 0) ∧ LP M' sg (N + 1) ((T0 ++ layT T0.length fs) ++ padN M.tail (min s.length 2039)) (cutL s) ∧ M'.wait = [] ∧ M'.head = placeN M.tail (min s.length 2039) ∧ M'.tail = M.tail + costN M.tail s.length := by
  have htl := h.rs.tail
  rw [← h.tl] at htl
  have hcs : (layT M.tail (cutL s)).length = costN M.tail s.length := cut_cost (s.length + 1) M.tail s (Nat.lt_succ_self _)
  split
  · rename_i hw
    unfold WM.checkpoint
    rw [h.nf, if_neg (by simp), if_pos hw]
  · rename_i hw
    split
    · rename_i hc
      unfold WM.checkpoint
      rw [h.nf, if_neg (by simp), if_neg hw, h.left, htl, if_pos hc]
    · rename_i hc
      obtain ⟨M1, e1, e2, e3⟩ := lays_power (cutL s) M _ h.rs (by rw [h.hd, List.length_append]; omega)
      rw [h.left, ← h.tl, laysN_all _ _ _ (by rw [hcs]; omega), if_pos rfl] at e1
      rw [h.left, ← h.tl, laysN_all _ _ _ (by rw [hcs]; omega), List.take_length] at e2
      obtain ⟨k0, s0, r0, hc0, hs0⟩ := cut_first s
      have hpl := place_pad M.tail (min s.length 2039)
      have hpd := pad_len M.tail (min s.length 2039)
      have hT1 : ((T0 ++ layT T0.length fs) ++ padN M.tail (min s.length 2039)).length = placeN M.tail (min s.length 2039) := by rw [List.length_append, ← h.tl, hpl]
      have hT : ((T0 ++ layT T0.length fs) ++ padN M.tail (min s.length 2039)) ++ layT ((T0 ++ layT T0.length fs) ++ padN M.tail (min s.length 2039)).length (cutL s) = (T0 ++ layT T0.length fs) ++ layT M.tail (cutL s) := by
        rw [hT1, hc0, layT_place M.tail k0 s0 r0 (by omega), hs0, List.append_assoc]
      have hrm := h.room
      rw [← h.tl] at hrm
      have hhd : M.head ≤ M.tail := by rw [h.hd, h.tl, List.length_append]; omega
      have hb : M.tail ≤ N * 1000000000 := by rw [h.tl]; exact h.len
      have hcl : costN M.tail s.length ≤ sg * 2048 := by omega
      have hsg : sg * 16 ≤ 4096 ∨ 4096 < sg * 16 := by omega
      have hl4 := layT_len (cutL s) M.tail (cut_ok s _ (Nat.le_refl _))
      have hlen : (cutL s).length ≤ s.length + 1 := by
        have : ∀ n (b : List UInt8), b.length ≤ n → (cutL b).length ≤ b.length + 1 := by
          intro n
          induction n with
          | zero => intro b hb; rw [cutL_small (by omega)]; simp
          | succ n ih =>
            intro b hb
            by_cases h9 : b.length ≤ 2039
            · rw [cutL_small h9]; simp
            · rw [cutL_big h9]
              have := ih (b.drop 2039) (by rw [List.length_drop]; omega)
              rw [List.length_drop] at this
              rw [List.length_cons]; omega
        exact this _ s (Nat.le_refl _)
      obtain ⟨D', q1, q2⟩ := h.settled e3 (T0' := (T0 ++ layT T0.length fs) ++ padN M.tail (min s.length 2039)) (fs' := cutL s) (by rw [hT]; exact e2) (cut_ok s _ (Nat.le_refl _)) (by rw [hT, List.length_append, ← h.tl, hcs, hT1]; omega) (by rw [hT, List.length_append, ← h.tl]; omega) hN
      refine ⟨_, ?_, q2, e3.2.2.1.trans (Classical.not_not.1 hw), hT1, by show List.length _ = _; rw [hT, List.length_append, ← h.tl, hcs]⟩
      unfold WM.checkpoint
      rw [h.nf, if_neg (by simp), if_neg hw, h.left, htl, if_neg hc, e1]
      dsimp only
      rw [if_neg (by simp), ← hT1]
      exact q1
/-- What the log's opening finds. -/
theorem LP.found (h : LP M sg N T0 fs) : ∃ mk ec, getR M.D 0 = (mk, ec) ∧ (ec = 0 ∨ ec = 4) ∧ mk.w0 = M.head ∧ mk.w1 = M.tail ∧ M.head ≤ M.tail ∧ RS M.D (RingM.opened M.D 2 (sg * 16) M.tail) (T0 ++ layT T0.length fs) ∧ ups (T0 ++ layT T0.length fs).length * 128 - M.head ≤ sg * 2048 ∧ readA (T0 ++ layT T0.length fs) M.head M.tail = (fs, 0) := by
  obtain ⟨L, hs, hz, hl⟩ := h.marks
  have hg := hs.get h.rs.up (by have := h.dn; have := h.s2; omega)
  have hhd : M.head ≤ M.tail := by rw [h.hd, h.tl, List.length_append]; omega
  have hop := h.rs.opened
  rw [h.first, h.count, ← h.tl] at hop
  have hrm := h.room
  have hrd : readA (T0 ++ layT T0.length fs) M.head M.tail = (fs, 0) := by
    unfold readA
    rw [h.tl, h.hd]
    exact read_laid fs _ _ h.fok (by omega) (by rw [List.length_append]; omega) List.drop_left
  have hups : ups (T0 ++ layT T0.length fs).length * 128 - M.head ≤ sg * 2048 := by unfold ups; omega
  by_cases h0 : L.s = 0
  · rw [if_pos h0] at hg
    obtain ⟨z1, z2⟩ := hz h0
    exact ⟨MarkM.zero, 4, hg, .inr rfl, z1.symm, z2.symm, hhd, hop, hups, hrd⟩
  · rw [if_neg h0] at hg
    obtain ⟨z1, z2⟩ := hl h0
    exact ⟨_, 0, hg, .inl rfl, z1, z2, hhd, hop, hups, hrd⟩
/-- The log that is opened. -/
theorem LP.anew (h : LP M sg N T0 fs) : LP ⟨M.D, RingM.opened M.D 2 (sg * 16) M.tail, M.head, M.tail, [], false⟩ sg N T0 fs := { h with
  rs := by obtain ⟨-, -, -, -, -, -, -, hr, -⟩ := h.found; exact hr
  first := rfl
  count := rfl
  nf := rfl
  w39 := (fun _ hs => nomatch hs)
  w64 := Nat.zero_le _ }
end
end Go.Proofs.YtfmdngeooelcpaaGreat
namespace Go.Proofs.YtfmdngeooelcpaaGreat
open Go.RowKit
section
variable {w0 w w' : World} {l b r : Nat} {M M' : WM} {F : Nat → Prop} {sg N : Nat} {T0 : List UInt8} {fs : List (Nat × List UInt8)}
theorem LogAt.disk (h : LogAt w l b r M F) : ∃ FD, DiskAt w b M.D FD ∧ ∀ k, FD k → F k := by
  obtain ⟨wv, FR, FD, FW, hr, hf⟩ := h
  exact ⟨FD, hr.disk, fun k hk => (hf k).2 (.inr (.inr (.inl hk)))⟩
/-- A log that is new since w0. -/
structure LgAt (w0 w : World) (l b r : Nat) (M : WM) (F : Nat → Prop) : Prop where
  log : LogAt w l b r M F
  new : ∀ k, F k → w0.heap.size ≤ k
  only : Only (fun _ => False) w0 w
theorem LgAt.same (h : LgAt w0 w l b r M F) (ho : Only (fun _ => False) w w') : LgAt w0 w' l b r M F := ⟨h.log.same ho, h.new, h.only.trans ho (fun _ _ e => e)⟩
theorem LgAt.step (h : LgAt w0 w l b r M F) (hs : LStep w w' l b r M' F) : ∃ F', LgAt w0 w' l b r M' F' := by
  obtain ⟨F', h1, h2, h3⟩ := hs
  have hz := h.only.size
  exact ⟨F', h1, fun k hk => (h3 k hk).elim (h.new k) (fun e => by omega), h.only.trans h2 (fun k hl hk => by have := h.new k hk; omega)⟩
/-- What opening a log with power leaves. -/
def LOpen (w0 w : World) (b : Nat) (M : WM) (sg : Nat) (fs : List (Nat × List UInt8)) (FD : Nat → Prop) (e : Ending) (w' : World) : Prop :=
  ∃ v l r lo F, e = .returned (.tuple #[.pointer (some ⟨l, 0, none⟩), v, .int .i64 0]) ∧ LgAt w0 w' l b r ⟨M.D, RingM.opened M.D 2 (sg * 16) M.tail, M.head, M.tail, [], false⟩ F ∧ w.heap.size ≤ lo ∧ FOut w' lo fs v ∧ (∀ k, F k → k < lo) ∧ (∀ k, F k → FD k ∨ w.heap.size ≤ k) ∧ Only (fun _ => False) w w'
theorem lopen_c {FD : Nat → Prop} (h : DiskAt w b M.D FD) (hn : ∀ k, FD k → w0.heap.size ≤ k) (ho : Only (fun _ => False) w0 w) (hp : LP M sg N T0 fs) (hN : N ≤ 90) :
    Calls Tryz.prog 5 #[.pointer (some ⟨b, 0, none⟩)] w (LOpen w0 w b M sg fs FD) := by
  obtain ⟨mk, ec, h1, h2, h3, h4, h5, h6, h7, h8⟩ := hp.found
  have hz := ho.size
  have htl : M.tail ≤ N * 1000000000 := by rw [hp.tl]; exact hp.len
  have h9 : N * 1000000000 ≤ 90 * 1000000000 := Nat.mul_le_mul_right _ hN
  refine (open_yes h hp.rs.up hp.sgn hp.s2 h1 h2 (by rw [h3, h4]; exact h5) (by rw [h4]; omega) (T := T0 ++ layT T0.length fs) (by rw [h4]; exact hp.tl.symm) (by rw [h4]; exact h6) (by rw [h3]; exact h7)).mono ?_
  rintro e w2 ⟨ho2, hq⟩
  rw [h3, h4, h8] at hq
  rcases hq with ⟨hq, -⟩ | ⟨-, v, l, r, lo, F', he, hl, hlo, hf, hk1, hk2⟩
  · exact absurd rfl hq
  · exact ⟨v, l, r, lo, F', he, ⟨hl, fun k hk => (hk2 k hk).elim (hn k) (fun e => by omega), ho.trans ho2 (fun _ _ e => e)⟩, hlo, hf, hk1, hk2, ho2⟩
theorem FXs.at' {lo : Nat} : ∀ {l : List (Nat × List UInt8)} {xs : List Value}, FXs w lo l xs → ∀ (i k : Nat) (s : List UInt8), l[i]? = some (k, s) → ∃ pa pc, xs[i * 2]? = some (.int .i64 (k : Nat)) ∧ xs[i * 2 + 1]? = some (.slice pa s.length pc) ∧ BOut w pa pc s lo
  | [], _, _, i, k, s, h => by simp at h
  | (k0, s0) :: l, _, ⟨pa, pc, ys, e, h1, h2⟩, 0, k, s, h => by
    simp only [List.getElem?_cons_zero, Option.some.injEq, Prod.mk.injEq] at h
    obtain ⟨rfl, rfl⟩ := h
    exact ⟨pa, pc, by rw [e]; rfl, by rw [e]; rfl, h1⟩
  | (k0, s0) :: l, _, ⟨pa, pc, ys, e, h1, h2⟩, i + 1, k, s, h => by
    rw [List.getElem?_cons_succ] at h
    obtain ⟨pa', pc', a1, a2, a3⟩ := FXs.at' h2 i k s h
    refine ⟨pa', pc', ?_, ?_, a3⟩
    · rw [e, show (i + 1) * 2 = i * 2 + 1 + 1 from by omega, List.getElem?_cons_succ, List.getElem?_cons_succ]; exact a1
    · rw [e, show (i + 1) * 2 + 1 = i * 2 + 1 + 1 + 1 from by omega, List.getElem?_cons_succ, List.getElem?_cons_succ]; exact a2
/-- Frames that are handed out, one by one. -/
theorem FOut.at {lo : Nat} {v : Value} (h : FOut w lo fs v) (h0 : 0 < fs.length) : ∃ q cap, v = .slice (some ⟨q, 0, none⟩) fs.length cap ∧ lo ≤ q ∧ ∀ (i k : Nat) (s : List UInt8), fs[i]? = some (k, s) → ∃ pa pc, w.cell? ⟨q, i * 2, none⟩ = some (.int .i64 (k : Nat)) ∧ w.cell? ⟨q, i * 2 + 1, none⟩ = some (.slice pa s.length pc) ∧ BOut w pa pc s lo := by
  obtain ⟨ao, cap, xs, e, hg, hx, hn⟩ := h
  obtain ⟨q, rfl, hc⟩ := hg.cells h0
  refine ⟨q, cap, e, hn q rfl, fun i k s hi => ?_⟩
  obtain ⟨pa, pc, h1, h2, h3⟩ := hx.at' i k s hi
  exact ⟨pa, pc, hc _ _ h1, hc _ _ h2, h3⟩
end
section
variable {w : World}
end
theorem LP.crashed {M : WM} {sg N : Nat} {T0 : List UInt8} {fs : List (Nat × List UInt8)} (h : LP M sg N T0 fs) (keep : List Int) (tear at' : Int) : LP { M with D := (M.D.crash keep tear at').up } sg N T0 fs := by
  have hc : ∀ k, (M.D.crash keep tear at').up.cur k = M.D.cur k := fun k => by
    show M.D.crashed keep tear at' k = (M.D.pend k).getD (M.D.sure k)
    unfold DiskM.crashed
    rw [h.pend k]; rfl
  exact { h with
    rs := h.rs.cur2 rfl (by show (-1 : Int) < 0; decide) rfl (fun k _ => hc k)
    marks := by obtain ⟨L, h1, h2⟩ := h.marks; exact ⟨L, h1.congr (fun k _ => hc k), h2⟩
    pend := fun _ => rfl }
end Go.Proofs.YtfmdngeooelcpaaGreat
