/- A history in memory; New, Len, Sum, Closed. -/
import Derived.Test.YtnoopajedgllhaaHsA
import Derived.Test.YtnoopajedgllhaaSumV
import Derived.Test.YtnoopajedgllhaaGc
namespace Go.Proofs.Ytnoopajedgllhaa
open Go.RowKit
section
variable {P : Program} {w : World} {ops : Array Oper} {rest : List Oper} {o : Oper} {a : Act} {Q : Exit → Act → World → Prop}
theorem wp_bld {K : Act → World → Prop} (t : TypeId) (k : Nat) (x : Operand) (ho : o.op = .build t #[(k, x)]) (u : Value) (hx : a.eval x = u) (v : Value) (hr : (Instr.build t #[(k, u)]).run P w = .ok v w) (h : K (a.put o.dst v) w) : o.wp P a w K Q := by
  subst hx
  unfold Oper.wp execOp
  simp only [ho, List.map_toArray, List.map_cons, List.map_nil, Sem.run_bind, Sem.run_pure, Result.andThen_ok, hr]
  exact h
theorem wpList_bld (hgd : o.guard = none) (t : TypeId) (k : Nat) (x : Operand) (ho : o.op = .build t #[(k, x)]) (u : Value) (hx : a.eval x = u) (v : Value) (hr : (Instr.build t #[(k, u)]).run P w = .ok v w) (h : wpList P ops Q rest (a.put o.dst v) w) : wpList P ops Q (o :: rest) a w :=
  wpList_plain hgd fun _ hK => wp_bld t k x ho u hx v hr (hK _ _ h)
theorem wp_bldS {K : Act → World → Prop} {n : Nat} (t : TypeId) (k : Nat) (x : Operand) (ho : o.op = .buildSlice t n #[(k, x)]) (u : Value) (hx : a.eval x = u) (v : Value) (w' : World) (hr : (Instr.buildSlice t n #[(k, u)]).run P w = .ok v w') (h : K (a.put o.dst v) w') : o.wp P a w K Q := by
  subst hx
  unfold Oper.wp execOp
  simp only [ho, List.map_toArray, List.map_cons, List.map_nil, Sem.run_bind, Sem.run_pure, Result.andThen_ok, hr]
  exact h
theorem wpList_bldS {n : Nat} (hgd : o.guard = none) (t : TypeId) (k : Nat) (x : Operand) (ho : o.op = .buildSlice t n #[(k, x)]) (u : Value) (hx : a.eval x = u) (v : Value) (w' : World) (hr : (Instr.buildSlice t n #[(k, u)]).run P w = .ok v w') (h : wpList P ops Q rest (a.put o.dst v) w') : wpList P ops Q (o :: rest) a w :=
  wpList_plain hgd fun _ hK => wp_bldS t k x ho u hx v w' hr (hK _ _ h)
end
/-- Cells, one event behind the other. -/
def EXs (w : World) (G : Nat → Prop) : List EM → List Value → Prop
  | [], xs => xs = []
  | t :: ts, xs => ∃ cs ys, xs = cs ++ ys ∧ EAt w G t cs ∧ EXs w G ts ys
section
variable {w w' : World} {G F : Nat → Prop}
theorem EXs.only (ho : Only F w w') (hd : ∀ k, G k → ¬ F k) : ∀ {l : List EM} {xs : List Value}, EXs w G l xs → EXs w' G l xs
  | [], _, h => h
  | _ :: _, _, ⟨cs, ys, e, h1, h2⟩ => ⟨cs, ys, e, h1.only ho hd, EXs.only ho hd h2⟩
theorem EXs.mono {G' : Nat → Prop} (hd : ∀ k, G k → G' k) : ∀ {l : List EM} {xs : List Value}, EXs w G l xs → EXs w G' l xs
  | [], _, h => h
  | _ :: _, _, ⟨cs, ys, e, h1, h2⟩ => ⟨cs, ys, e, h1.mono hd, EXs.mono hd h2⟩
theorem EXs.snoc {t : EM} {cs : List Value} (ht : EAt w G t cs) : ∀ {l : List EM} {xs : List Value}, EXs w G l xs → EXs w G (l ++ [t]) (xs ++ cs)
  | [], _, h => by
    have h' : _ = ([] : List Value) := h
    subst h'
    exact ⟨cs, [], by simp, ht, rfl⟩
  | _ :: _, _, ⟨cs', ys, e, h1, h2⟩ => ⟨cs', ys ++ cs, by rw [e, List.append_assoc], h1, EXs.snoc ht h2⟩
theorem EAt.len11 {e : EM} {cs : List Value} (h : EAt w G e cs) : cs.length = 11 := by obtain ⟨k, n, s, a, m, c, rfl, -⟩ := h.form; rfl
theorem EXs.at' : ∀ {l : List EM} {xs : List Value}, EXs w G l xs → ∀ (i : Nat) (e : EM), l[i]? = some e → ∃ cs, (∀ j u, cs[j]? = some u → xs[i * 11 + j]? = some u) ∧ EAt w G e cs
  | [], _, _, i, e, h => by simp at h
  | t :: ts, _, ⟨cs, ys, rfl, h1, h2⟩, 0, e, h => by
    simp only [List.getElem?_cons_zero, Option.some.injEq] at h
    subst h
    refine ⟨cs, fun j u hj => ?_, h1⟩
    rw [Nat.zero_mul, Nat.zero_add, List.getElem?_append_left (by rcases Nat.lt_or_ge j cs.length with g | g; exact g; rw [List.getElem?_eq_none g] at hj; cases hj)]; exact hj
  | t :: ts, _, ⟨cs, ys, rfl, h1, h2⟩, i + 1, e, h => by
    simp only [List.getElem?_cons_succ] at h
    obtain ⟨ds, h3, h4⟩ := EXs.at' h2 i e h
    refine ⟨ds, fun j u hj => ?_, h4⟩
    have h11 := h1.len11
    rw [List.getElem?_append_right (by omega), h11, show (i + 1) * 11 + j - 11 = i * 11 + j from by omega]
    exact h3 j u hj
theorem EXs.take : ∀ {l : List EM} {xs : List Value}, EXs w G l xs → ∀ n : Nat, EXs w G (l.take n) (xs.take (n * 11))
  | [], _, h, n => by
    have h' : _ = ([] : List Value) := h
    subst h'
    rw [List.take_nil, List.take_nil]; exact h
  | t :: ts, _, h, 0 => by simp [EXs]
  | t :: ts, _, ⟨cs, ys, rfl, h1, h2⟩, n + 1 => by
    have h11 := h1.len11
    refine ⟨cs, ys.take (n * 11), ?_, h1, EXs.take h2 n⟩
    rw [List.take_append, h11, List.take_of_length_le (by omega), show (n + 1) * 11 - 11 = n * 11 from by omega]
/-- The blocks of the events' lists are new, not the events' own, and may be written. -/
def SoftL (w w' : World) (ad : Option Addr) (xs : List Value) : Prop := ∀ q o m c, Value.slice (some ⟨q, o, none⟩) m c ∈ xs → w.heap.size ≤ q ∧ q < w'.heap.size ∧ ad ≠ some ⟨q, 0, none⟩ ∧ ∃ arr T, w'.heap[q]? = some (.cells arr T (0, 0))
theorem soft_only {w w' : World} {F : Nat → Prop} (ho : Only F w w') {q : Nat} (hq : q < w.heap.size) (hF : ¬ F q) (h : ∃ arr T, w.heap[q]? = some (.cells arr T (0, 0))) : ∃ arr T, w'.heap[q]? = some (.cells arr T (0, 0)) := by
  obtain ⟨arr, T, h⟩ := h
  exact ⟨arr, T, by rw [ho.block q hq hF]; exact h⟩
theorem elE : Elem Try.prog 22 44 11 128 := .mk Try.underlying22 (z := .agg #[.int .i64 0, .int .i64 0, .int .i64 0, .int .i64 0, .int .i64 0, .string ⟨#[]⟩, .string ⟨#[]⟩, .int .i64 0, .int .i64 0, .string ⟨#[]⟩, .slice none 0 0]) (by kernel_rfl) rfl
theorem elS : Elem Try.prog 64 29 32 32 := .mk Try.underlying64 (z := .agg (byA st0 0)) (by kernel_rfl) rfl
end

/-- Events of which a history may be. -/
def HOk (es : List EM) : Prop := ∀ (i : Nat) (e : EM), es[i]? = some e → e.id = ((i + 1 : Nat) : Int) ∧ e.Good ∧ e.rg ∧ e.v.cl = e.v ∧ e.v.sz ≤ 1000000
/-- A history's parts, in the blocks F. -/
structure HRep (w : World) (hb : Nat) (F : Nat → Prop) (s : List UInt8) (es : List EM) (lo : Option Addr) (lc : Nat) (xs : List Value) (so : Option Addr) (sc : Nat) : Prop where
  blk : w.heap[hb]? = some (.cells (hcells lo es.length lc so es.length sc s (lastT 0 es)).toArray 88 (0, 0))
  len : s.length = 32
  n : es.length ≤ 4096
  ok : HOk es
  list : Gc w 44 11 lo es.length lc xs
  exs : EXs w (fun k => F k ∧ k ≠ hb ∧ lo ≠ some ⟨k, 0, none⟩ ∧ so ≠ some ⟨k, 0, none⟩) es xs
  sums : Gc w 29 32 so es.length sc ((chainS s es).flatMap bytesV)
  fb : F hb
  fl : ∀ q, lo = some ⟨q, 0, none⟩ → F q ∧ q ≠ hb ∧ so ≠ some ⟨q, 0, none⟩
  fs : ∀ q, so = some ⟨q, 0, none⟩ → F q ∧ q ≠ hb ∧ lo ≠ some ⟨q, 0, none⟩
  lt : ∀ k, F k → k < w.heap.size
def HistAt (w : World) (hb : Nat) (F : Nat → Prop) (s : List UInt8) (es : List EM) : Prop := ∃ lo lc xs so sc, HRep w hb F s es lo lc xs so sc
section
variable {w w' : World} {hb : Nat} {F F' : Nat → Prop} {s : List UInt8} {es : List EM} {lo so : Option Addr} {lc sc : Nat} {xs : List Value}
theorem HRep.only (h : HRep w hb F s es lo lc xs so sc) (ho : Only F' w w') (hd : ∀ k, F k → ¬ F' k) : HRep w' hb F s es lo lc xs so sc where
  blk := blk_only h.blk ho (hd _ h.fb)
  len := h.len
  n := h.n
  ok := h.ok
  list := h.list.only ho fun g hg => hd _ (h.fl g hg).1
  exs := h.exs.only ho fun _ hk => hd _ hk.1
  sums := h.sums.only ho fun g hg => hd _ (h.fs g hg).1
  fb := h.fb
  fl := h.fl
  fs := h.fs
  lt := fun k hk => Nat.lt_of_lt_of_le (h.lt k hk) ho.size
theorem HRep.same (h : HRep w hb F s es lo lc xs so sc) (ho : Only (fun _ => False) w w') : HRep w' hb F s es lo lc xs so sc := h.only ho fun _ _ e => e
theorem HistAt.only (h : HistAt w hb F s es) (ho : Only F' w w') (hd : ∀ k, F k → ¬ F' k) : HistAt w' hb F s es := let ⟨a, b, c, d, e, h⟩ := h; ⟨a, b, c, d, e, h.only ho hd⟩
theorem HistAt.same (h : HistAt w hb F s es) (ho : Only (fun _ => False) w w') : HistAt w' hb F s es := h.only ho fun _ _ e => e
theorem HRep.cell (h : HRep w hb F s es lo lc xs so sc) (j : Nat) {u : Value} (hu : (hcells lo es.length lc so es.length sc s (lastT 0 es))[j]? = some u) : w.cell? ⟨hb, j, none⟩ = some u := by
  rw [cell_blk h.blk]; simpa using hu
theorem HRep.c0 (h : HRep w hb F s es lo lc xs so sc) : w.cell? ⟨hb, 0, none⟩ = some (.slice lo es.length lc) := h.cell 0 rfl
theorem HRep.c1 (h : HRep w hb F s es lo lc xs so sc) : w.cell? ⟨hb, 1, none⟩ = some (.slice so es.length sc) := h.cell 1 rfl
theorem HRep.ct (h : HRep w hb F s es lo lc xs so sc) : w.cell? ⟨hb, 34, none⟩ = some (.int .i64 (lastT 0 es)) := h.cell 34 (by
  have hl := h.len
  unfold hcells
  rw [List.getElem?_append_right (by simp), List.getElem?_append_right (by simp [hl])]
  simp [hl])
theorem HRep.seed (h : HRep w hb F s es lo lc xs so sc) : w.rangeAt hb 2 (bytesV s) := fun j u hj => h.cell (2 + j) (by
  have hjl : j < (bytesV s).length := by
    rcases Nat.lt_or_ge j (bytesV s).length with g | g
    · exact g
    · rw [List.getElem?_eq_none g] at hj; cases hj
  unfold hcells
  rw [List.getElem?_append_right (by simp), List.getElem?_append_left (by simpa using hjl)]
  simpa using hj)
/-- The last sum lies at the end of the sums. -/
theorem chain_cells (s : List UInt8) (es : List EM) (i : Nat) (hi : i < es.length) (j : Nat) (u : Value) (hu : (bytesV (sumS s (es.take (i + 1))))[j]? = some u) : ((chainS s es).flatMap bytesV)[i * 32 + j]? = some u := by
  have h1 := chainS_get s es i hi
  have h32 := chainS_32 s es
  generalize chainS s es = L at h1 h32
  generalize sumS s (es.take (i + 1)) = x at h1 hu
  clear hi
  induction L generalizing i with
  | nil => simp at h1
  | cons y L ih =>
    have hy := h32 y List.mem_cons_self
    cases i with
    | zero =>
      simp only [List.getElem?_cons_zero, Option.some.injEq] at h1
      subst h1
      rw [List.flatMap_cons, Nat.zero_mul, Nat.zero_add, List.getElem?_append_left (by rcases Nat.lt_or_ge j (bytesV y).length with g | g; exact g; rw [List.getElem?_eq_none g] at hu; cases hu)]; exact hu
    | succ i =>
      rw [List.getElem?_cons_succ] at h1
      rw [List.flatMap_cons, List.getElem?_append_right (by simp [hy]; omega), length_bytesV, hy, show (i + 1) * 32 + j - 32 = i * 32 + j from by omega]
      exact ih i (fun x hx => h32 x (List.mem_cons_of_mem _ hx)) h1
theorem HRep.last (h : HRep w hb F s es lo lc xs so sc) (hn : 0 < es.length) : ∃ g, so = some ⟨g, 0, none⟩ ∧ w.rangeAt g ((es.length - 1) * 32) (bytesV (sumS s es)) := by
  obtain ⟨g, hg, hc⟩ := h.sums.cells hn
  refine ⟨g, hg, fun j u hj => hc _ u (chain_cells s es (es.length - 1) (by omega) j u ?_)⟩
  rw [show es.length - 1 + 1 = es.length from by omega, List.take_length]; exact hj
theorem sum_len (h : HRep w hb F s es lo lc xs so sc) : (sumS s es).length = 32 := sumS_len h.len es
end
section
variable {w : World} {hb : Nat} {F : Nat → Prop} {s : List UInt8} {es : List EM}
set_option maxRecDepth 100000 in
theorem hnew_c (hs : s.length = 32) : Calls Try.prog 13 #[.agg (bytesV s).toArray] w fun x w' => ∃ hb, x = .returned (.pointer (some ⟨hb, 0, none⟩)) ∧ HistAt w' hb (fun k => k = hb) s [] ∧ w.heap.size ≤ hb ∧ Only (fun _ => False) w w' := by
  have HB := hid fun w => build_hist w s hs
  obtain ⟨S, hS⟩ : ∃ x, (bytesV s).toArray = x := ⟨_, rfl⟩
  obtain ⟨C, hC⟩ : ∃ x, (hcells none 0 0 none 0 0 s 0).toArray = x := ⟨_, rfl⟩
  have hSs : S.size = 32 := by rw [← hS]; simp [hs]
  have HIS : Hid ((Try.prog.info? 29).map (·.size) = some S.size) := hid (by rw [info32, hSs])
  rw [hC, hS] at HB
  rw [hS]
  have HC := hid hC
  clear hS hC hSs
  have B0 := hid (blk_new w (.cells S 29))
  go_enter Try.func13, Try.ntmps13
  go_wp2_with (first
    | ((guard_target =~ wpList _ _ _ (⟨some 3, _, _, _, _, _⟩ :: _) _ _); refine wpList_load_row rfl 29 (.tmp 1) rfl w.heap.size rfl 29 S (0, 0) _ B0.out Try.underlying29 rfl HIS.out ?_)
    | ((guard_target =~ wpList _ _ _ (⟨some 4, _, _, _, _, _⟩ :: _) _ _); refine wpList_bld rfl 88 2 (.tmp 3) rfl (.agg S) rfl (.agg C) (HB.out _) ?_))
  go_ret
  have hb1 := blk_new (w.alloc (.cells S 29)) (.cells C 88)
  rw [World.size_alloc] at hb1
  refine ⟨w.heap.size + 1, rfl, ⟨none, 0, [], none, 0, by rw [hb1, ← HC.out]; rfl, hs, by simp, fun i e h => by simp at h, Gc.nil, rfl, Gc.nil, rfl, by simp, by simp, fun k hk => by rw [hk]; simp⟩, by omega, (only_new _ _).trans (only_new _ _) (fun _ _ e => e)⟩
set_option maxRecDepth 100000 in
theorem hlen_c (h : HistAt w hb F s es) : Calls Try.prog 29 #[.pointer (some ⟨hb, 0, none⟩)] w fun x w' => x = .returned (.int .i64 es.length) ∧ w' = w := by
  obtain ⟨lo, lc, xs, so, sc, h⟩ := h
  have c0 := h.c0
  clear h
  go_enter Try.func29, Try.ntmps29
  go_wp2_with fail
  go_ret
  exact ⟨rfl, rfl⟩
set_option maxRecDepth 100000 in
theorem hseed_c (h : HistAt w hb F s es) : Calls Try.prog 38 #[.pointer (some ⟨hb, 0, none⟩)] w fun x w' => x = .returned (.agg (bytesV s).toArray) ∧ Only (fun _ => False) w w' := by
  obtain ⟨lo, lc, xs, so, sc, h⟩ := h
  have hl := h.len
  have ho := only_new w (.cells (byA st0 0) 29)
  have HR := hid (h.same ho).seed
  have HB := hid (blk_new w (.cells (byA st0 0) 29))
  have HI : Hid ((Try.prog.info? 29).map (·.size) = some ((bytesV s).toArray).size) := hid (by rw [info32]; simp [hl])
  have HIL : Hid ((Try.prog.info? 29).map (·.size) = some (bytesV s).length) := hid (by rw [info32]; simp [hl])
  have HON := hid (bytesV_one' s)
  have HSZ : Hid (((bytesV s).toArray).size = (byA st0 0).size) := hid (by simp [hl, byA])
  have HO := hid ho
  clear h ho hl
  go_enter Try.func38, Try.ntmps38
  go_wp2_with (first
    | ((guard_target =~ wpList _ _ _ (⟨some 6, _, _, _, _, _⟩ :: _) _ _); refine wpList_load_mid rfl 29 (.tmp 5) rfl hb 2 rfl (bytesV s) _ HR.out Try.underlying29 rfl HIL.out ?_)
    | ((guard_target =~ wpList _ _ _ (⟨none, .store _ _ _, _, _, _, _⟩ :: _) _ _); refine wpList_store_all rfl 29 (.tmp 2) (.tmp 6) rfl w.heap.size (bytesV s).toArray rfl rfl (byA st0 0) 29 HB.out HSZ.out HI.out HON.out ?_; intro w9 hb9 ho9 hs9; have HB9 := hid hb9; have HO9 := hid ho9; clear hb9 ho9 hs9))
  exact bodyPost_ret (results_cell_row rfl _ _ w.heap.size 29 (bytesV s).toArray (0, 0) _ rfl HB9.out Try.underlying29 rfl HI.out) rfl ⟨rfl, HO.out.trans HO9.out (fun i hi e => by have e' : i = w.heap.size := e; omega)⟩
set_option maxRecDepth 100000 in
theorem hsum2_c (h : HistAt w hb F s es) : Calls Try.prog 19 #[.pointer (some ⟨hb, 0, none⟩)] w fun x w' => x = .returned (.agg (bytesV (sumS s es)).toArray) ∧ Only (fun _ => False) w w' := by
  obtain ⟨lo, lc, xs, so, sc, h⟩ := h
  have hl := h.len
  have ho := only_new w (.cells (byA st0 0) 29)
  have h' := h.same ho
  have HB := hid (blk_new w (.cells (byA st0 0) 29))
  have hsl := sumS_len hl es
  have c1 := h.c1
  have hhl := h.lt _ h.fb
  by_cases hn : 0 < es.length
  · obtain ⟨g, rfl, hr⟩ := h'.last hn
    have HR := hid hr
    have HI : Hid ((Try.prog.info? 29).map (·.size) = some ((bytesV (sumS s es)).toArray).size) := hid (by rw [info32]; simp [hsl])
    have HIL : Hid ((Try.prog.info? 29).map (·.size) = some (bytesV (sumS s es)).length) := hid (by rw [info32]; simp [hsl])
    have HON := hid (bytesV_one' (sumS s es))
    have HSZ : Hid (((bytesV (sumS s es)).toArray).size = (byA st0 0).size) := hid (by simp [hsl, byA])
    have HO := hid ho
    have hni : (0 : Int) < es.length := by omega
    have hn4 := h.n
    clear h' ho hl hsl hr h
    go_enter Try.func19, Try.ntmps19
    go_wp2_with (first
      | ((guard_target =~ wpList _ _ _ (⟨some 18, _, _, _, _, _⟩ :: _) _ _); refine wpList_load_mid rfl 29 (.tmp 17) rfl g ((es.length - 1) * 32) rfl (bytesV (sumS s es)) _ HR.out Try.underlying29 rfl HIL.out ?_)
      | ((guard_target =~ wpList _ _ _ (⟨none, .store _ _ _, _, _, _, _⟩ :: _) _ _); refine wpList_store_all rfl 29 (.tmp 2) (.tmp 18) rfl w.heap.size (bytesV (sumS s es)).toArray rfl rfl (byA st0 0) 29 HB.out HSZ.out HI.out HON.out ?_; intro w9 hb9 ho9 hs9; have HB9 := hid hb9; have HO9 := hid ho9; clear hb9 ho9 hs9))
    exact bodyPost_ret (results_cell_row rfl _ _ w.heap.size 29 (bytesV (sumS s es)).toArray (0, 0) _ rfl HB9.out Try.underlying29 rfl HI.out) rfl ⟨rfl, HO.out.trans HO9.out (fun i hi e => by have e' : i = w.heap.size := e; omega)⟩
  · obtain rfl : es = [] := List.eq_nil_of_length_eq_zero (by omega)
    have HR := hid h'.seed
    have HI : Hid ((Try.prog.info? 29).map (·.size) = some ((bytesV s).toArray).size) := hid (by rw [info32]; simp [hl])
    have HIL : Hid ((Try.prog.info? 29).map (·.size) = some (bytesV s).length) := hid (by rw [info32]; simp [hl])
    have HON := hid (bytesV_one' s)
    have HSZ : Hid (((bytesV s).toArray).size = (byA st0 0).size) := hid (by simp [hl, byA])
    have HO := hid ho
    clear h' ho hl hsl h
    go_enter Try.func19, Try.ntmps19
    go_wp2_with (first
      | ((guard_target =~ wpList _ _ _ (⟨some 22, _, _, _, _, _⟩ :: _) _ _); refine wpList_load_mid rfl 29 (.tmp 21) rfl hb 2 rfl (bytesV s) _ HR.out Try.underlying29 rfl HIL.out ?_)
      | ((guard_target =~ wpList _ _ _ (⟨none, .store _ _ _, _, _, _, _⟩ :: _) _ _); refine wpList_store_all rfl 29 (.tmp 2) (.tmp 22) rfl w.heap.size (bytesV s).toArray rfl rfl (byA st0 0) 29 HB.out HSZ.out HI.out HON.out ?_; intro w9 hb9 ho9 hs9; have HB9 := hid hb9; have HO9 := hid ho9; clear hb9 ho9 hs9))
    exact bodyPost_ret (results_cell_row rfl _ _ w.heap.size 29 (bytesV s).toArray (0, 0) _ rfl HB9.out Try.underlying29 rfl HI.out) rfl ⟨rfl, HO.out.trans HO9.out (fun i hi e => by have e' : i = w.heap.size := e; omega)⟩
/-- An event's cells in a history's list. -/
theorem HRep.ev {lo so : Option Addr} {lc sc : Nat} {xs : List Value} (h : HRep w hb F s es lo lc xs so sc) {i : Nat} {e : EM} (hi : es[i]? = some e) : ∃ g cs, lo = some ⟨g, 0, none⟩ ∧ (∀ j u, cs[j]? = some u → w.cell? ⟨g, i * 11 + j, none⟩ = some u) ∧ EAt w (fun k => F k ∧ k ≠ hb ∧ lo ≠ some ⟨k, 0, none⟩ ∧ so ≠ some ⟨k, 0, none⟩) e cs := by
  have hl : i < es.length := by
    rcases Nat.lt_or_ge i es.length with g | g
    · exact g
    · rw [List.getElem?_eq_none g] at hi; cases hi
  obtain ⟨g, hg, hc⟩ := h.list.cells (by omega)
  obtain ⟨cs, h1, h2⟩ := EXs.at' h.exs i e hi
  exact ⟨g, cs, hg, fun j u hj => hc _ _ (h1 j u hj), h2⟩
set_option maxRecDepth 100000 in
theorem hclosed_c (h : HistAt w hb F s es) : Calls Try.prog 30 #[.pointer (some ⟨hb, 0, none⟩)] w fun x w' => x = .returned (.bool (closedL es)) ∧ Only (fun _ => False) w w' := by
  obtain ⟨lo, lc, xs, so, sc, h⟩ := h
  have c0 := h.c0
  by_cases hn : 0 < es.length
  · obtain ⟨e, he⟩ : ∃ t, es[es.length - 1]? = some t := ⟨_, List.getElem?_eq_getElem (by omega)⟩
    obtain ⟨g, cs, rfl, hcw, hE⟩ := h.ev he
    have HC := hid (closes_c hE)
    have HF : Hid (closedL es = closesB e.k) := hid (by unfold closedL; rw [List.getLast?_eq_getElem?, he])
    obtain ⟨vk, vn, vs, va, vm, vc, rfl, hV⟩ := hE.form
    have e0 := hcw 0 _ rfl
    rw [Nat.add_zero] at e0
    have e1 := hcw 1 _ rfl
    have e2 := hcw 2 _ rfl
    have e3 := hcw 3 _ rfl
    have e4 := hcw 4 _ rfl
    have e5 := hcw 5 _ rfl
    have e6 := hcw 6 _ rfl
    have e7 := hcw 7 _ rfl
    have e8 := hcw 8 _ rfl
    have e9 := hcw 9 _ rfl
    have e10 := hcw 10 _ rfl
    have hni : (0 : Int) < es.length := by omega
    have hn4 := h.n
    clear hE hV he hcw h
    go_enter Try.func30, Try.ntmps30
    go_wp2_with fail
    refine HC.out.mono ?_
    rintro x w5 ⟨rfl, ho5⟩
    have HO5 := hid ho5
    clear ho5
    go_wp2_with fail
    go_ret
    exact ⟨by rw [HF.out]; rfl, HO5.out⟩
  · obtain rfl : es = [] := List.eq_nil_of_length_eq_zero (by omega)
    clear h
    go_enter Try.func30, Try.ntmps30
    go_wp2_with fail
    go_ret
    exact ⟨rfl, Only.refl _ _⟩
end
end Go.Proofs.Ytnoopajedgllhaa
