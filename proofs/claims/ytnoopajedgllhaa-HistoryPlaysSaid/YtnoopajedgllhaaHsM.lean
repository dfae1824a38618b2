/- (*History).Cut. -/
import Derived.Test.YtnoopajedgllhaaHsE
namespace Go.Proofs.Ytnoopajedgllhaa
open Go.RowKit
theorem slice3 {T e : TypeId} (hT : Try.prog.underlying T = some (.slice e)) {sz : Nat} (hs : (Try.prog.info? e).map (·.size) = some sz) (w : World) (lo : Option Addr) (hlo : lo = none ∨ ∃ g, lo = some ⟨g, 0, none⟩) (n cap m : Nat) (hn : n ≤ cap) (hm : m ≤ n) (hc : lo = none → cap = 0) :
    (Instr.sliceAt T (.slice lo n cap) none (some (.int .i64 m)) (some (.int .i64 m))).run Try.prog w = .ok (.slice lo m m) w := by
  obtain ⟨i, hi, hsz⟩ := Option.map_eq_some_iff.1 hs
  rcases hlo with rfl | ⟨g, rfl⟩
  · obtain rfl := hc rfl
    obtain rfl : n = 0 := by omega
    obtain rfl : m = 0 := by omega
    have hso : (sizeOf e).run Try.prog w = .ok sz w := by simp [sizeOf, typeInfo, hi, hsz]
    go_simp
  · have hso : (sizeOf e).run Try.prog w = .ok sz w := by simp [sizeOf, typeInfo, hi, hsz]
    have hmc : m ≤ cap := by omega
    go_simp
theorem elem_E : (Try.prog.info? 44).map (·.size) = some 11 := info_ev
theorem hok_take {es : List EM} (h : HOk es) (n : Nat) : HOk (es.take n) := fun i e hi => by
  have hin : i < n := by
    rcases Nat.lt_or_ge i n with g | g
    · exact g
    · rw [List.getElem?_eq_none (by rw [List.length_take]; omega)] at hi; cases hi
  rw [List.getElem?_take_of_lt hin] at hi
  exact h i e hi
theorem lastT_take1 {t : Int} {es : List EM} {j : Nat} {e : EM} (h : es[j]? = some e) : lastT t (es.take (j + 1)) = if outsideB e.k = true then e.tm else lastT t (es.take j) := by
  rw [List.take_add_one, h]; exact lastT_snoc t (es.take j) e
theorem flat32_take : ∀ (L : List (List UInt8)), (∀ x ∈ L, x.length = 32) → ∀ n, (L.take n).flatMap bytesV = (L.flatMap bytesV).take (n * 32)
  | [], _, n => by simp
  | y :: L, h, 0 => by simp
  | y :: L, h, n + 1 => by
    have hy := h y List.mem_cons_self
    have h1 : (bytesV y).take ((n + 1) * 32) = bytesV y := List.take_of_length_le (by rw [length_bytesV]; omega)
    rw [List.take_succ_cons, List.flatMap_cons, List.flatMap_cons, List.take_append, h1, flat32_take L (fun x hx => h x (List.mem_cons_of_mem _ hx)) n, length_bytesV, hy, show (n + 1) * 32 - 32 = n * 32 from by omega]
/-- A history of which the end was cut off, but for its last tick. -/
theorem HRep.cut {wa wb : World} {hb : Nat} {F : Nat → Prop} {s : List UInt8} {es : List EM} {lo so : Option Addr} {lc sc n : Nat} {xs : List Value} (h : HRep wa hb F s es lo lc xs so sc) (hn : n ≤ es.length) (ho : Only (fun k => k = hb) wa wb)
    (hblk : wb.heap[hb]? = some (.cells (hcells lo n n so n n s (lastT 0 (es.take n))).toArray 88 (0, 0))) : HRep wb hb F s (es.take n) lo n (xs.take (n * 11)) so n := by
  have hl : (es.take n).length = n := by rw [List.length_take]; omega
  refine ⟨by rw [hl]; exact hblk, h.len, by rw [hl]; have := h.n; omega, hok_take h.ok n, ?_, ?_, ?_, h.fb, h.fl, h.fs, fun k hk => Nat.lt_of_lt_of_le (h.lt k hk) ho.size⟩
  · rw [hl]; exact (h.list.cut hn).only ho (fun g hg e => (h.fl g hg).2.1 e)
  · exact (EXs.take h.exs n).only ho (fun k hk e => hk.2.1 e)
  · rw [hl, chainS_take]
    have h1 := (h.sums.cut hn).only ho (fun g hg e => (h.fs g hg).2.1 e)
    have h2 := flat32_take (chainS s es) (chainS_32 s es) n
    rw [h2]; exact h1
section
variable {w : World} {hb : Nat} {F : Nat → Prop} {s : List UInt8} {es : List EM}
set_option maxRecDepth 100000 in
set_option maxHeartbeats 6400000 in
theorem hcut_no (h : HistAt w hb F s es) (n : Int) (hn : n < 0 ∨ (es.length : Int) < n) : Calls Try.prog 28 #[.pointer (some ⟨hb, 0, none⟩), .int .i64 n] w fun x w' => x = .returned (.int .i64 1) ∧ Only (fun _ => False) w w' := by
  obtain ⟨lo, lc, xl, so, sc, h⟩ := h
  have c0 := h.c0
  clear h
  by_cases h0 : n < 0
  · clear hn
    go_enter Try.func28, Try.ntmps28
    go_wp2_with fail
    go_ret
    exact ⟨rfl, Only.refl _ _⟩
  · have h1 : (es.length : Int) < n := by omega
    clear hn
    go_enter Try.func28, Try.ntmps28
    go_wp2_with fail
    go_ret
    exact ⟨rfl, Only.refl _ _⟩
set_option maxRecDepth 100000 in
set_option maxHeartbeats 12800000 in
theorem hcut_c (h : HistAt w hb F s es) (n : Nat) (hn : n ≤ es.length) : Calls Try.prog 28 #[.pointer (some ⟨hb, 0, none⟩), .int .i64 n] w fun x w' => x = .returned (.int .i64 0) ∧ HistAt w' hb F s (es.take n) ∧ Only (fun k => k = hb) w w' := by
  obtain ⟨lo, lc, xl, so, sc, h⟩ := h
  have HH := hid h
  have c0 := h.c0
  have hn4 := h.n
  have h32 := h.len
  have hbk := h.blk
  obtain ⟨N, hN⟩ : ∃ N, es.length = N := ⟨_, rfl⟩
  have hl1 := h.list.le; have hl2 := h.sums.le
  have hlz : lo = none → lc = 0 := fun e => by
    rcases h.list with g | ⟨-, -, g, hg, -⟩
    · rcases g.2.2 with ⟨-, g2⟩ | ⟨q, g2, -⟩
      · exact g2
      · rw [e] at g2; cases g2
    · rw [e] at hg; cases hg
  have hsz0 : so = none → sc = 0 := fun e => by
    rcases h.sums with g | ⟨-, -, g, hg, -⟩
    · rcases g.2.2 with ⟨-, g2⟩ | ⟨q, g2, -⟩
      · exact g2
      · rw [e] at g2; cases g2
    · rw [e] at hg; cases hg
  have hla := h.list.addr; have hsa := h.sums.addr
  rw [hN] at hn hn4 hl1 hl2 hbk c0
  obtain ⟨T0, hT0⟩ : ∃ x, lastT 0 es = x := ⟨_, rfl⟩
  rw [hT0] at hbk
  have HB := hid hbk
  have H32 := hid h32; have HN := hid hN
  have HS1 : Hid (∀ W : World, (Instr.sliceAt 22 (.slice lo N lc) none (some (.int .i64 n)) (some (.int .i64 n))).run Try.prog W = .ok (.slice lo n n) W) := hid fun W => slice3 Try.underlying22 info_ev W lo hla N lc n hl1 hn hlz
  have HS2 : Hid (∀ W : World, (Instr.sliceAt 64 (.slice so N sc) none (some (.int .i64 n)) (some (.int .i64 n))).run Try.prog W = .ok (.slice so n n) W) := hid fun W => slice3 Try.underlying64 info32 W so hsa N sc n hl2 hn hsz0
  have hn0 : ¬ (n : Int) < 0 := by omega
  have hnN : ¬ (N : Int) < n := by omega
  have HC1 : Hid (∀ W, Only (fun _ => False) w W → W.cell? ⟨hb, 0, none⟩ = some (.slice lo N lc) ∧ W.cell? ⟨hb, 1, none⟩ = some (.slice so N sc)) := hid fun W hW => ⟨cell_blk (blk_only HB.out hW (fun e => e)) 0, cell_blk (blk_only HB.out hW (fun e => e)) 1⟩
  clear h h32 hbk hN hla hsa hlz hsz0 hT0 hl1 hl2
  go_enter Try.func28, Try.ntmps28
  go_wp2_with fail
  refine wp_region_noPanic ?_
  refine region_pt 16 [1, 9, 10, 11, 13, 14, 15] (by kernel_rfl) (by kernel_rfl) (by kernel_rfl) [(18, fun _ v => v = .pointer (some ⟨hb, 0, none⟩)), (19, fun _ v => v = .pointer (some ⟨hb, 0, none⟩)), (20, fun _ v => v = .pointer (some ⟨hb, 0, none⟩)), (21, fun _ v => v = .pointer (some ⟨hb, 0, none⟩)), (22, fun _ v => v = .pointer (some ⟨hb, 0, none⟩)), (23, fun _ v => v = .slice lo N lc), (24, fun _ v => v = .int .i64 n), (25, fun _ v => v = .int .i64 n), (26, fun _ v => v = .slice lo n n), (27, fun _ v => v = .pointer (some ⟨hb, 0, none⟩)), (28, fun _ v => v = .pointer (some ⟨hb, 0, none⟩)), (29, fun _ v => v = .pointer (some ⟨hb, 1, none⟩)), (30, fun _ v => v = .slice so N sc), (31, fun _ v => v = .int .i64 n), (32, fun _ v => v = .int .i64 n), (33, fun _ v => v = .slice so n n)] (fun _ W => Only (fun _ => False) w W) (by show [18, 19, 20, 21, 22, 23, 24, 25, 26, 27, 28, 29, 30, 31, 32, 33].Nodup; decide) (by show ∀ d ∈ [18, 19, 20, 21, 22, 23, 24, 25, 26, 27, 28, 29, 30, 31, 32, 33], d < 58; decide) ((Only.refl _ _).drew) (.inr (fun _ _ _ _ _ h => h)) ?_ ?_ ?_
  · refine ⟨?_, ?_, ?_, ?_, ?_, ?_, ?_, trivial⟩
    · refine ⟨_, _, _, _, rfl, rfl, rfl, fun _ _ h => h, fun L a W hI hd => ?_⟩
      have e0 : a.eval (.tmp 0) = .pointer (some ⟨hb, 0, none⟩) := hI.ev 0 (by show ¬ (0 ∈ [18, 19, 20, 21, 22, 23, 24, 25, 26, 27, 28, 29, 30, 31, 32, 33]); decide) rfl
      exact ⟨.pointer (some ⟨hb, 0, none⟩), fun W => pt_mv _ _ (by first | exact .inl rfl | exact .inr rfl) _ e0, fun W => rfl⟩
    · refine ⟨_, _, _, _, rfl, rfl, rfl, fun _ _ h => h, fun L a W hI hd => ?_⟩
      have e0 : a.eval (.tmp 0) = .pointer (some ⟨hb, 0, none⟩) := hI.ev 0 (by show ¬ (0 ∈ [18, 19, 20, 21, 22, 23, 24, 25, 26, 27, 28, 29, 30, 31, 32, 33]); decide) rfl
      exact ⟨.pointer (some ⟨hb, 0, none⟩), fun W => pt_mv _ _ (by first | exact .inl rfl | exact .inr rfl) _ e0, fun W => rfl⟩
    · refine ⟨_, _, _, _, rfl, rfl, rfl, fun _ _ h => h, fun L a W hI hd => ?_⟩
      have e27 : a.eval (.tmp 27) = .pointer (some ⟨hb, 0, none⟩) := hI.fact 9 27 _ rfl (dep_of hd 9 (by kernel_rfl))
      exact ⟨.pointer (some ⟨hb, 0, none⟩), fun W => by unfold execOp; simp only [e27]; kernel_rfl, fun W => rfl⟩
    · refine ⟨_, _, _, _, rfl, rfl, rfl, fun _ _ h => h, fun L a W hI hd => ?_⟩
      have e28 : a.eval (.tmp 28) = .pointer (some ⟨hb, 0, none⟩) := hI.fact 10 28 _ rfl (dep_of hd 10 (by kernel_rfl))
      exact ⟨.pointer (some ⟨hb, 1, none⟩), fun W => by unfold execOp; simp only [e28]; kernel_rfl, fun W => rfl⟩
    · refine ⟨_, _, _, _, rfl, rfl, rfl, fun _ _ h => h, fun L a W hI hd => ?_⟩
      have e1 : a.eval (.tmp 1) = .int .i64 n := hI.ev 1 (by show ¬ (1 ∈ [18, 19, 20, 21, 22, 23, 24, 25, 26, 27, 28, 29, 30, 31, 32, 33]); decide) rfl
      exact ⟨.int .i64 n, fun W => pt_mv _ _ (by first | exact .inl rfl | exact .inr rfl) _ e1, fun W => rfl⟩
    · refine ⟨_, _, _, _, rfl, rfl, rfl, fun _ _ h => h, fun L a W hI hd => ?_⟩
      have e1 : a.eval (.tmp 1) = .int .i64 n := hI.ev 1 (by show ¬ (1 ∈ [18, 19, 20, 21, 22, 23, 24, 25, 26, 27, 28, 29, 30, 31, 32, 33]); decide) rfl
      exact ⟨.int .i64 n, fun W => pt_mv _ _ (by first | exact .inl rfl | exact .inr rfl) _ e1, fun W => rfl⟩
    · refine ⟨_, _, _, _, rfl, rfl, rfl, fun _ _ h => h, fun L a W hI hd => ?_⟩
      have e30 : a.eval (.tmp 30) = .slice so N sc := hI.fact 12 30 _ rfl (dep_of hd 12 (by kernel_rfl))
      have e31 : a.eval (.tmp 31) = .int .i64 n := hI.fact 13 31 _ rfl (dep_of hd 13 (by kernel_rfl))
      have e32 : a.eval (.tmp 32) = .int .i64 n := hI.fact 14 32 _ rfl (dep_of hd 14 (by kernel_rfl))
      exact ⟨.slice so n n, fun W => by unfold execOp; simp only [e30, e31, e32, Option.map_some, Option.map_none, Sem.run_bind, HS2.out, Result.andThen_ok, Sem.run_pure], fun W => rfl⟩
  · have hstab : PtStabs (Only (fun _ => False)) [(18, fun _ v => v = .pointer (some ⟨hb, 0, none⟩)), (19, fun _ v => v = .pointer (some ⟨hb, 0, none⟩)), (20, fun _ v => v = .pointer (some ⟨hb, 0, none⟩)), (21, fun _ v => v = .pointer (some ⟨hb, 0, none⟩)), (22, fun _ v => v = .pointer (some ⟨hb, 0, none⟩)), (23, fun _ v => v = .slice lo N lc), (24, fun _ v => v = .int .i64 n), (25, fun _ v => v = .int .i64 n), (26, fun _ v => v = .slice lo n n), (27, fun _ v => v = .pointer (some ⟨hb, 0, none⟩)), (28, fun _ v => v = .pointer (some ⟨hb, 0, none⟩)), (29, fun _ v => v = .pointer (some ⟨hb, 1, none⟩)), (30, fun _ v => v = .slice so N sc), (31, fun _ v => v = .int .i64 n), (32, fun _ v => v = .int .i64 n), (33, fun _ v => v = .slice so n n)] := ⟨fun _ _ _ _ h => h, fun _ _ _ _ h => h, fun _ _ _ _ h => h, fun _ _ _ _ h => h, fun _ _ _ _ h => h, fun _ _ _ _ h => h, fun _ _ _ _ h => h, fun _ _ _ _ h => h, fun _ _ _ _ h => h, fun _ _ _ _ h => h, fun _ _ _ _ h => h, fun _ _ _ _ h => h, fun _ _ _ _ h => h, fun _ _ _ _ h => h, fun _ _ _ _ h => h, fun _ _ _ _ h => h, trivial⟩
    refine PtAllS.cons rfl ⟨rfl, rfl⟩ ?_ (PtAllS.cons rfl ⟨rfl, rfl⟩ ?_ (PtAllS.cons rfl ⟨rfl, rfl⟩ ?_ (PtAllS.cons rfl ⟨rfl, rfl⟩ ?_ (PtAllS.cons rfl ⟨rfl, rfl⟩ ?_ (PtAllS.cons rfl ⟨rfl, rfl⟩ ?_ (PtAllS.cons rfl ⟨rfl, rfl⟩ ?_ (PtAllS.cons rfl ⟨rfl, rfl⟩ ?_ (PtAllS.cons rfl ⟨rfl, rfl⟩ ?_ (PtAllS.cons rfl ⟨rfl, rfl⟩ ?_ (PtAllS.cons rfl ⟨rfl, rfl⟩ ?_ (PtAllS.cons rfl ⟨rfl, rfl⟩ ?_ (PtAllS.cons rfl ⟨rfl, rfl⟩ ?_ (PtAllS.cons rfl ⟨rfl, rfl⟩ ?_ (PtAllS.cons rfl ⟨rfl, rfl⟩ ?_ (PtAllS.cons rfl ⟨rfl, rfl⟩ ?_ (PtAllS.nil rfl))))))))))))))))
    · intro L a W K hI hn hd hK
      have e0 : a.eval (.tmp 0) = .pointer (some ⟨hb, 0, none⟩) := hI.ev 0 (by show ¬ (0 ∈ [18, 19, 20, 21, 22, 23, 24, 25, 26, 27, 28, 29, 30, 31, 32, 33]); decide) rfl
      exact pt_move _ (by first | exact .inl rfl | exact .inr rfl) _ e0 (hK _ _ hI.j PtKeep.refl rfl)
    · intro L a W K hI hn hd hK
      have e0 : a.eval (.tmp 0) = .pointer (some ⟨hb, 0, none⟩) := hI.ev 0 (by show ¬ (0 ∈ [18, 19, 20, 21, 22, 23, 24, 25, 26, 27, 28, 29, 30, 31, 32, 33]); decide) rfl
      exact pt_move _ (by first | exact .inl rfl | exact .inr rfl) _ e0 (hK _ _ hI.j PtKeep.refl rfl)
    · intro L a W K hI hn hd hK
      have e0 : a.eval (.tmp 0) = .pointer (some ⟨hb, 0, none⟩) := hI.ev 0 (by show ¬ (0 ∈ [18, 19, 20, 21, 22, 23, 24, 25, 26, 27, 28, 29, 30, 31, 32, 33]); decide) rfl
      exact pt_move _ (by first | exact .inl rfl | exact .inr rfl) _ e0 (hK _ _ hI.j PtKeep.refl rfl)
    · intro L a W K hI hn hd hK
      have e20 : a.eval (.tmp 20) = .pointer (some ⟨hb, 0, none⟩) := hI.fact 2 20 _ rfl (dep_of hd 2 (by kernel_rfl))
      exact pt_val (v := .pointer (some ⟨hb, 0, none⟩)) (by unfold execOp; simp only [e20]; kernel_rfl) (hK _ _ hI.j PtKeep.refl rfl)
    · intro L a W K hI hn hd hK
      have e21 : a.eval (.tmp 21) = .pointer (some ⟨hb, 0, none⟩) := hI.fact 3 21 _ rfl (dep_of hd 3 (by kernel_rfl))
      exact pt_val (v := .pointer (some ⟨hb, 0, none⟩)) (by unfold execOp; simp only [e21]; kernel_rfl) (hK _ _ hI.j PtKeep.refl rfl)
    · intro L a W K hI hn hd hK
      have e22 : a.eval (.tmp 22) = .pointer (some ⟨hb, 0, none⟩) := hI.fact 4 22 _ rfl (dep_of hd 4 (by kernel_rfl))
      exact pt_load _ (.tmp 22) rfl ⟨hb, 0, none⟩ (.slice lo N lc) _ e22 ((HC1.out _ hI.j).1) Try.underlying22 rfl (hK _ _ hI.j PtKeep.refl rfl)
    · intro L a W K hI hn hd hK
      have e1 : a.eval (.tmp 1) = .int .i64 n := hI.ev 1 (by show ¬ (1 ∈ [18, 19, 20, 21, 22, 23, 24, 25, 26, 27, 28, 29, 30, 31, 32, 33]); decide) rfl
      exact pt_move _ (by first | exact .inl rfl | exact .inr rfl) _ e1 (hK _ _ hI.j PtKeep.refl rfl)
    · intro L a W K hI hn hd hK
      have e1 : a.eval (.tmp 1) = .int .i64 n := hI.ev 1 (by show ¬ (1 ∈ [18, 19, 20, 21, 22, 23, 24, 25, 26, 27, 28, 29, 30, 31, 32, 33]); decide) rfl
      exact pt_move _ (by first | exact .inl rfl | exact .inr rfl) _ e1 (hK _ _ hI.j PtKeep.refl rfl)
    · intro L a W K hI hn hd hK
      have e23 : a.eval (.tmp 23) = .slice lo N lc := hI.fact 5 23 _ rfl (dep_of hd 5 (by kernel_rfl))
      have e24 : a.eval (.tmp 24) = .int .i64 n := hI.fact 6 24 _ rfl (dep_of hd 6 (by kernel_rfl))
      have e25 : a.eval (.tmp 25) = .int .i64 n := hI.fact 7 25 _ rfl (dep_of hd 7 (by kernel_rfl))
      exact pt_val (v := .slice lo n n) (by unfold execOp; simp only [e23, e24, e25, Option.map_some, Option.map_none, Sem.run_bind, HS1.out, Result.andThen_ok, Sem.run_pure]) (hK _ _ hI.j PtKeep.refl rfl)
    · intro L a W K hI hn hd hK
      have e0 : a.eval (.tmp 0) = .pointer (some ⟨hb, 0, none⟩) := hI.ev 0 (by show ¬ (0 ∈ [18, 19, 20, 21, 22, 23, 24, 25, 26, 27, 28, 29, 30, 31, 32, 33]); decide) rfl
      exact pt_move _ (by first | exact .inl rfl | exact .inr rfl) _ e0 (hK _ _ hI.j PtKeep.refl rfl)
    · intro L a W K hI hn hd hK
      have e27 : a.eval (.tmp 27) = .pointer (some ⟨hb, 0, none⟩) := hI.fact 9 27 _ rfl (dep_of hd 9 (by kernel_rfl))
      exact pt_val (v := .pointer (some ⟨hb, 0, none⟩)) (by unfold execOp; simp only [e27]; kernel_rfl) (hK _ _ hI.j PtKeep.refl rfl)
    · intro L a W K hI hn hd hK
      have e28 : a.eval (.tmp 28) = .pointer (some ⟨hb, 0, none⟩) := hI.fact 10 28 _ rfl (dep_of hd 10 (by kernel_rfl))
      exact pt_val (v := .pointer (some ⟨hb, 1, none⟩)) (by unfold execOp; simp only [e28]; kernel_rfl) (hK _ _ hI.j PtKeep.refl rfl)
    · intro L a W K hI hn hd hK
      have e29 : a.eval (.tmp 29) = .pointer (some ⟨hb, 1, none⟩) := hI.fact 11 29 _ rfl (dep_of hd 11 (by kernel_rfl))
      exact pt_load _ (.tmp 29) rfl ⟨hb, 1, none⟩ (.slice so N sc) _ e29 ((HC1.out _ hI.j).2) Try.underlying64 rfl (hK _ _ hI.j PtKeep.refl rfl)
    · intro L a W K hI hn hd hK
      have e1 : a.eval (.tmp 1) = .int .i64 n := hI.ev 1 (by show ¬ (1 ∈ [18, 19, 20, 21, 22, 23, 24, 25, 26, 27, 28, 29, 30, 31, 32, 33]); decide) rfl
      exact pt_move _ (by first | exact .inl rfl | exact .inr rfl) _ e1 (hK _ _ hI.j PtKeep.refl rfl)
    · intro L a W K hI hn hd hK
      have e1 : a.eval (.tmp 1) = .int .i64 n := hI.ev 1 (by show ¬ (1 ∈ [18, 19, 20, 21, 22, 23, 24, 25, 26, 27, 28, 29, 30, 31, 32, 33]); decide) rfl
      exact pt_move _ (by first | exact .inl rfl | exact .inr rfl) _ e1 (hK _ _ hI.j PtKeep.refl rfl)
    · intro L a W K hI hn hd hK
      have e30 : a.eval (.tmp 30) = .slice so N sc := hI.fact 12 30 _ rfl (dep_of hd 12 (by kernel_rfl))
      have e31 : a.eval (.tmp 31) = .int .i64 n := hI.fact 13 31 _ rfl (dep_of hd 13 (by kernel_rfl))
      have e32 : a.eval (.tmp 32) = .int .i64 n := hI.fact 14 32 _ rfl (dep_of hd 14 (by kernel_rfl))
      exact pt_val (v := .slice so n n) (by unfold execOp; simp only [e30, e31, e32, Option.map_some, Option.map_none, Sem.run_bind, HS2.out, Result.andThen_ok, Sem.run_pure]) (hK _ _ hI.j PtKeep.refl rfl)
  · intro L a W1 hal hj hfs
    dsimp only [PtAll] at hfs
    obtain ⟨f18, f19, f20, f21, f22, f23, f24, f25, f26, f27, f28, f29, f30, f31, f32, f33, -⟩ := hfs
    have hA := hal.turned
    simp only [List.map_cons, List.map_nil, Act.turned, f18, f19, f20, f21, f22, f23, f24, f25, f26, f27, f28, f29, f30, f31, f32, f33] at hA
    simp only [Act.put, List.setIfInBounds_toArray, List.set_cons_zero, List.set_cons_succ] at hA
    clear hal f18 f19 f20 f21 f22 f23 f24 f25 f26 f27 f28 f29 f30 f31 f32 f33
    subst hA
    change wpList _ _ _ [_, _, _, _, _, _] _ _
    have HJ := hid hj
    have HBW := hid (blk_only HB.out hj (fun e => e))
    clear hj
    go_wp2_with (first
      | ((guard_target =~ wpList _ _ _ (⟨none, .store 22 (.tmp 35) _, _, _, _, _⟩ :: _) _ _); refine wpList_store_1 rfl 22 (.tmp 35) (.tmp 26) rfl hb 0 (.slice lo n n) rfl rfl info_es rfl _ 88 HBW.out (by rw [hc_size _ _ _ _ _ _ H32.out]; decide) ?_; intro w2 hb2 ho2 hs2; rw [hc_set0] at hb2; have HB2 := hid hb2; have HO2 := hid ho2; have HS2' := hid hs2; clear hb2 ho2 hs2)
      | ((guard_target =~ wpList _ _ _ (⟨none, .store 64 (.tmp 37) _, _, _, _, _⟩ :: _) _ _); refine wpList_store_1 rfl 64 (.tmp 37) (.tmp 33) rfl hb 1 (.slice so n n) rfl rfl info_ss rfl _ 88 HB2.out (by rw [hc_size _ _ _ _ _ _ H32.out]; decide) ?_; intro w3 hb3 ho3 hs3; rw [hc_set1] at hb3; have HB3 := hid hb3; have HO3 := hid ho3; have HS3 := hid hs3; clear hb3 ho3 hs3))
    refine NoPanic.normal ?_
    go_wp2_with ((guard_target =~ wpList _ _ _ (⟨none, .store 2 (.tmp 40) _, _, _, _, _⟩ :: _) _ _); refine wpList_store_1 rfl 2 (.tmp 40) (.const (.int .i64 0)) rfl hb 34 (.int .i64 0) rfl rfl info_64 rfl _ 88 HB3.out (by rw [hc_size _ _ _ _ _ _ H32.out]; decide) ?_; intro w4 hb4 ho4 hs4; rw [hc_set34 _ _ _ _ _ _ H32.out] at hb4; have c0 : w4.cell? ⟨hb, 0, none⟩ = some (.slice lo n n) := cell_blk hb4 0; have HB4 := hid hb4; have HO4 := hid ho4; have HS4 := hid hs4; clear hb4 ho4 hs4)
    have HOA : Hid (Only (fun k => k = hb) w w4) := hid ((((HJ.out.mono (G := fun k => k = hb) (fun _ _ e => e.elim)).trans HO2.out (fun _ _ e => e)).trans HO3.out (fun _ _ e => e)).trans HO4.out (fun _ _ e => e))
    clear c0
    go_loopw [46] (fun i wr => ∃ j : Nat, i = .int .i64 j ∧ j ≤ n ∧ wr.heap[hb]? = some (.cells (hcells lo n n so n n s (lastT 0 (es.take j))).toArray 88 (0, 0)) ∧ Only (fun k => k = hb) w wr) (fun i _ => n - (intOf i).toNat)
    case atStart => exact ⟨0, rfl, Nat.zero_le _, by rw [List.take_zero]; exact HB4.out, HOA.out⟩
    case round =>
      obtain ⟨j, rfl, hj, hbj, ho⟩ := hrel
      obtain ⟨wy, hwy⟩ : ∃ x, x = wr := ⟨wr, rfl⟩
      subst hwy
      have HBJ := hid hbj; have HO := hid ho
      by_cases hjl : j < n
      · have hji : (j : Int) < n := by omega
        obtain ⟨e, he⟩ : ∃ t, es[j]? = some t := ⟨_, List.getElem?_eq_getElem (by have := HN.out; omega)⟩
        obtain ⟨g, cs, hlo, hcw0, hE⟩ := HH.out.ev he
        have hgb : g ≠ hb := (HH.out.fl g hlo).2.1
        have hcw : ∀ i u, cs[i]? = some u → wy.cell? ⟨g, j * 11 + i, none⟩ = some u := fun i u hu => (World.cell?_of_block (HO.out.block g (World.block_lt_of_cell? _ _ (hcw0 i u hu)) hgb)).trans (hcw0 i u hu)
        have hEw := hE.only ho (fun k hk e => hk.2.1 e)
        obtain ⟨vk, vn, vs, va, vm, vc, rfl, hV⟩ := hEw.form
        have e0 := hcw 0 _ rfl
        rw [Nat.add_zero] at e0
        have e1 := hcw 1 _ rfl
        have e2 := hcw 2 _ rfl
        have e3 := hcw 3 _ rfl
        have e4 := hcw 4 _ rfl
        have e5 := hcw 5 _ rfl
        have e6 := hcw 6 _ rfl
        have e7 := hcw 7 _ rfl
        have e8 := hcw 8 _ rfl
        have e9 := hcw 9 _ rfl
        have e10 := hcw 10 _ rfl
        have ho1 := only_new wy (.cells #[.int .i64 e.id, .int .i64 e.tm, .int .i64 e.k, .int .i64 e.a, .int .i64 e.b, .string (strOf e.name), .string (strOf e.text), .int .i64 vk, .int .i64 vn, .string (strOf vs), .slice va vm vc] 44)
        have HBX := hid (blk_new wy (.cells #[.int .i64 e.id, .int .i64 e.tm, .int .i64 e.k, .int .i64 e.a, .int .i64 e.b, .string (strOf e.name), .string (strOf e.text), .int .i64 vk, .int .i64 vn, .string (strOf vs), .slice va vm vc] 44))
        have HTL := hid (lastT_take1 (t := 0) he)
        have HOT := hid (outside_c (w := wy.alloc (.cells #[.int .i64 e.id, .int .i64 e.tm, .int .i64 e.k, .int .i64 e.a, .int .i64 e.b, .string (strOf e.name), .string (strOf e.text), .int .i64 vk, .int .i64 vn, .string (strOf vs), .slice va vm vc] 44)) (hEw.same ho1))
        have HBK := hid (blk_only hbj ho1 (fun e => e))
        have HO1 := hid ho1
        obtain ⟨T, hT⟩ : ∃ x, lastT 0 (es.take j) = x := ⟨_, rfl⟩
        rw [hT] at HBK HTL
        subst hlo
        have hxb : hb < wy.heap.size := blk_lt hbj
        clear hE hcw hcw0 hEw hV ho1 ho hbj hT he hgb
        obtain ⟨ob, hob⟩ : ∃ x, outsideB e.k = x := ⟨_, rfl⟩
        rw [hob] at HOT HTL
        clear hob
        go_wp2_with ((guard_target =~ wpList _ _ _ (⟨some 50, _, _, _, _, _⟩ :: _) _ _); refine wpList_load_row rfl 44 (.tmp 6) rfl wy.heap.size rfl 44 #[.int .i64 e.id, .int .i64 e.tm, .int .i64 e.k, .int .i64 e.a, .int .i64 e.b, .string (strOf e.name), .string (strOf e.text), .int .i64 vk, .int .i64 vn, .string (strOf vs), .slice va vm vc] (0, 0) _ HBX.out Try.underlying44 rfl info_ev ?_)
        refine HOT.out.mono ?_
        rintro x w6 ⟨rfl, ho6⟩
        have HBK6 := hid (blk_only HBK.out ho6 (fun e => e))
        have hbx6 := blk_only HBX.out ho6 (fun e => e)
        have c1 : w6.cell? ⟨wy.heap.size, 1, none⟩ = some (.int .i64 e.tm) := cell_blk hbx6 1
        have HO6 := hid ho6
        clear ho6 hbx6 e0 e1 e2 e3 e4 e5 e6 e7 e8 e9 e10
        cases ob with
        | true =>
          go_wp2_with ((guard_target =~ wpList _ _ _ (⟨none, .store 2 (.tmp 56) _, _, _, _, _⟩ :: _) _ _); refine wpList_store_1 rfl 2 (.tmp 56) (.tmp 54) rfl hb 34 (.int .i64 e.tm) rfl rfl info_64 rfl _ 88 HBK6.out (by rw [hc_size _ _ _ _ _ _ H32.out]; decide) ?_; intro w7 hb7 ho7 hs7; rw [hc_set34 _ _ _ _ _ _ H32.out] at hb7; have HB7 := hid hb7; have HO7 := hid ho7; clear hb7 ho7 hs7 c1)
          go_roundw
          case rel => exact ⟨j + 1, by go_num, by omega, by rw [HTL.out]; simpa using HB7.out, (HO.out.trans ((HO1.out.trans HO6.out (fun _ _ e => e)).mono (G := fun k => k = hb) (fun _ _ e => e.elim)) (fun _ _ e => e)).trans HO7.out (fun _ _ e => e)⟩
          case measure => simp [intOf]; omega
        | false =>
          go_wp2_with fail
          go_roundw
          case rel => exact ⟨j + 1, by go_num, by omega, by rw [HTL.out]; simpa using HBK6.out, (HO.out.trans ((HO1.out.trans HO6.out (fun _ _ e => e)).mono (G := fun k => k = hb) (fun _ _ e => e.elim)) (fun _ _ e => e))⟩
          case measure => simp [intOf]; omega
      · obtain rfl : j = n := by omega
        have hjl2 : ¬ (j : Int) < j := by omega
        go_wp2_with fail
        go_ret
        exact ⟨rfl, ⟨_, _, _, _, _, HH.out.cut (by rw [HN.out]; exact hn) HO.out HBJ.out⟩, HO.out⟩
end
end Go.Proofs.Ytnoopajedgllhaa
