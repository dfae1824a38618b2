/- The last mark of two sectors is had; a mark is put: the parts that are no walk of Put's own. -/
import Derived.Test.YthodcbhejjbhaaaMarkD
namespace Go.Proofs.Ythodcbhejjbhaaa
open Go.RowKit

section
variable {P : Program} {ops : Array Oper} {rest : List Oper} {o : Oper} {a : Act} {Q : Exit → Act → World → Prop} {w : World}
/-- copy into the middle of a block that is known whole. -/
theorem wp_cpy_in {K : Act → World → Prop} (d s : Operand) (dT sT : TypeId)
    (ho : o.op = .call { callee := .builtin .copy, args := #[d, s], argTypes := #[dT, sT] }) (e : TypeId) (hu : P.underlying dT = some (.slice e)) (hsz : (P.info? e).map (·.size) = some 1)
    (g off dLen dCap : Nat) (hd : a.eval d = .slice (some ⟨g, off, none⟩) dLen dCap) (cur : Array Value) (t : TypeId) (hg : w.heap[g]? = some (.cells cur t (0, 0)))
    (sp : Option Addr) (sLen sCap : Nat) (hs : a.eval s = .slice sp sLen sCap) (cs : List Value) (hn : cs.length = min sLen dLen)
    (hsrc : 0 < cs.length → ∃ ad, sp = some ad ∧ ∀ j v, cs[j]? = some v → w.cell? (ad.add j) = some v)
    (hfit : off + cs.length ≤ cur.size) (h1 : ∀ v ∈ cs, v.oneCell' = true)
    (h : ∀ w', w'.heap[g]? = some (.cells (lay cur.toList off cs).toArray t (0, 0)) → Only (fun k => k = g) w w' → w'.heap.size = w.heap.size → K (a.put o.dst (.int .i64 cs.length)) w') :
    o.wp P a w K Q := by
  obtain ⟨i, hi, hi1⟩ := Option.map_eq_some_iff.1 hsz
  have hmin : min sLen dLen = cs.length := hn.symm
  have hmin' : Nat.min sLen dLen = cs.length := hn.symm
  have hfc : (Builtin.firstCells 1 cs.length (.slice sp sLen sCap)).run P w = .ok cs.toArray w := by
    rcases Nat.eq_zero_or_pos cs.length with h0 | h0
    · obtain rfl : cs = [] := List.eq_nil_of_length_eq_zero h0
      cases sp <;> simp [Builtin.firstCells, loadCells, loadCellsFrom]
    · obtain ⟨ad, rfl, hc⟩ := hsrc h0
      exact run_firstCells_some (P := P) w 1 cs.length ad sLen sCap cs (by simp) hc
  have hst := run_storeCells_at (P := P) g off t cs 0 cur w hg (by omega) h1
  have hr : (Builtin.copy_ #[dT, sT] o.type #[.slice (some ⟨g, off, none⟩) dLen dCap, .slice sp sLen sCap]).run P w = .ok (.int .i64 cs.length) (w.setRow g (lay cur.toList off cs).toArray) := by
    simp only [Nat.add_zero] at hst
    simp [Builtin.copy_, run_underlying hu, sizeOf, typeInfo, hi, hi1, Builtin.lenOf, hmin', hfc, hst, goInt, lay]
  unfold Oper.wp execOp
  simp only [ho, resolve, invoke, builtin, Sem.run_bind, Sem.run_pure, Result.andThen_ok, List.map_toArray, List.map_cons, List.map_nil, hd, hs, hr]
  exact h _ (setRow_heap w g cur _ t _ hg) ((Only.refl _ _).setRow _ _ (fun _ => rfl)) (by simp [World.setRow])
theorem wpList_cpy_in (hgd : o.guard = none) (d s : Operand) (dT sT : TypeId)
    (ho : o.op = .call { callee := .builtin .copy, args := #[d, s], argTypes := #[dT, sT] }) (e : TypeId) (hu : P.underlying dT = some (.slice e)) (hsz : (P.info? e).map (·.size) = some 1)
    (g off dLen dCap : Nat) (hd : a.eval d = .slice (some ⟨g, off, none⟩) dLen dCap) (cur : Array Value) (t : TypeId) (hg : w.heap[g]? = some (.cells cur t (0, 0)))
    (sp : Option Addr) (sLen sCap : Nat) (hs : a.eval s = .slice sp sLen sCap) (cs : List Value) (hn : cs.length = min sLen dLen)
    (hsrc : 0 < cs.length → ∃ ad, sp = some ad ∧ ∀ j v, cs[j]? = some v → w.cell? (ad.add j) = some v)
    (hfit : off + cs.length ≤ cur.size) (h1 : ∀ v ∈ cs, v.oneCell' = true)
    (h : ∀ w', w'.heap[g]? = some (.cells (lay cur.toList off cs).toArray t (0, 0)) → Only (fun k => k = g) w w' → w'.heap.size = w.heap.size → wpList P ops Q rest (a.put o.dst (.int .i64 cs.length)) w') :
    wpList P ops Q (o :: rest) a w :=
  wpList_plain hgd fun _ hK => wp_cpy_in d s dT sT ho e hu hsz g off dLen dCap hd cur t hg sp sLen sCap hs cs hn hsrc hfit h1 (fun x0 x1 x2 x3 => hK _ _ (h x0 x1 x2 x3))
end

/-- What two sectors tell: the last mark, the greatest number, the error. -/
def lookR (D : DiskM) (first : Int) : MarkM × Nat × Int :=
  if first < 0 ∨ (D.n : Int) - 1 ≤ first ∨ D.down = true then (MarkM.zero, 0, lookErr D.n first)
  else ((lookK (fun k => D.cur (first.toNat + k)) 2).1, (lookK (fun k => D.cur (first.toNat + k)) 2).2, 0)
def getR (D : DiskM) (first : Int) : MarkM × Int :=
  if (lookR D first).2.2 = 0 then (if (lookR D first).1.s = 0 then (MarkM.zero, 4) else ((lookR D first).1, 0)) else (MarkM.zero, (lookR D first).2.2)

section
variable {w : World} {b : Nat} {D : DiskM} {F : Nat → Prop}
theorem look_c (h : DiskAt w b D F) (first : Int) (hf : first ≤ 9223372036854775807) :
    Calls Try.prog 50 #[.pointer (some ⟨b, 0, none⟩), .int .i64 first] w fun e w' => e = .returned (.tuple #[.agg (lookR D first).1.V, .int .u64 (lookR D first).2.1, .int .i64 (lookR D first).2.2]) ∧ Only (fun _ => False) w w' := by
  unfold lookR
  by_cases hno : first < 0 ∨ (D.n : Int) - 1 ≤ first ∨ D.down = true
  · rw [if_pos hno]; exact look_no h first hf hno
  · rw [if_neg hno]
    obtain ⟨f, rfl⟩ : ∃ f : Nat, first = f := ⟨first.toNat, by omega⟩
    have hd : D.down = false := by cases hd : D.down <;> simp_all
    exact look_ok h hd f (by omega)

set_option maxRecDepth 100000 in
set_option maxHeartbeats 1600000 in
theorem get_c (h : DiskAt w b D F) (first : Int) (hf : first ≤ 9223372036854775807) :
    Calls Try.prog 31 #[.pointer (some ⟨b, 0, none⟩), .int .i64 first] w fun e w' => e = .returned (.tuple #[.agg (getR D first).1.V, .int .i64 (getR D first).2]) ∧ Only (fun _ => False) w w' := by
  have HA : ∀ ob, Hid (DiskAt (w.alloc ob) b D F) := fun ob => hid (h.only ((Only.refl (fun _ => False) w).alloc ob) (fun _ _ e => e))
  clear h
  have HLk := fun ob => hid (look_c (HA ob).out first hf)
  have HG := hid (show getR D first = (if (lookR D first).2.2 = 0 then (if (lookR D first).1.s = 0 then (MarkM.zero, 4) else ((lookR D first).1, 0)) else (MarkM.zero, (lookR D first).2.2)) from rfl)
  obtain ⟨G, hG⟩ : ∃ G, getR D first = G := ⟨_, rfl⟩
  obtain ⟨m, hm⟩ : ∃ m, (lookR D first).1 = m := ⟨_, rfl⟩
  obtain ⟨top, htop⟩ : ∃ top, (lookR D first).2.1 = top := ⟨_, rfl⟩
  obtain ⟨err, herr⟩ : ∃ err, (lookR D first).2.2 = err := ⟨_, rfl⟩
  rw [hG] at HG ⊢
  rw [hm, herr] at HG
  simp only [hm, htop, herr] at HLk
  clear hG hm htop herr
  have HS : ∀ w2 : World, Only (fun _ => False) (w.alloc (.cells MarkM.zero.V 85)) w2 → Hid (w2.heap[w.heap.size]? = some (.cells MarkM.zero.V 85 (0, 0))) := fun w2 ho => hid ((ho.block w.heap.size (by simp) (fun e => e)).trans (blk_new w _))
  by_cases he : err = 0
  · have he1 : (err == 0) = true := by simpa using he
    by_cases hs : m.s = 0
    · have hG := HG.out
      rw [if_pos he, if_pos hs] at hG
      have HG2 := hid hG
      have hs1 : ((m.s : Int) == 0) = true := by rw [hs]; rfl
      clear hG hs he
      go_enter Try.func31, Try.ntmps31
      go_wp2_with (first | (go_at_call 50; refine (HLk _).out.mono ?_; rintro e w2 ⟨rfl, ho2⟩; have Hb2 := HS w2 ho2; have Ho2 := hid ho2; clear ho2) | (refine wpList_store_all rfl 85 (.tmp 6) (.tmp 13) rfl w2.heap.size m.V rfl rfl MarkM.zero.V 85 (blk_new w2 _) rfl info_mark (V_one _) ?_; intro w3 hb3 ho3 hs3; have c0 : w3.cell? ⟨w2.heap.size, 0, none⟩ = some (.int .u64 m.s) := cell_blk hb3 0; have Hb3 := hid hb3; have Hb3' := hid ((ho3.block w.heap.size (blk_lt (blk_alloc Hb2.out)) (by show ¬ w.heap.size = w2.heap.size; have := blk_lt Hb2.out; omega)).trans (blk_alloc Hb2.out)); have Ho3 := hid (Ho2.out.trans (((Only.refl (fun _ => False) w2).alloc _).trans ho3 (fun k hk e => by have e' : k = w2.heap.size := e; omega)) (fun _ _ e => e)); clear hb3 ho3 hs3) | (refine wpList_store_all rfl 85 (.tmp 4) (.tmp 25) rfl w.heap.size MarkM.zero.V rfl rfl MarkM.zero.V 85 Hb3'.out rfl info_mark (V_one _) ?_; intro w4 hb4 ho4 hs4; have Hb4 := hid hb4; have Ho4 := hid ho4; clear hb4 ho4 hs4))
      refine bodyPost_ret (results_cell1 (q := 5) rfl _ _ w.heap.size 85 MarkM.zero.V _ _ rfl Hb4.out Try.underlying85 rfl info_mark) rfl ⟨by rw [HG2.out]; rfl, ?_⟩
      exact (((Only.refl _ w).alloc _).trans Ho3.out (fun _ _ e => e)).trans Ho4.out (fun k hk e => absurd hk (by rw [e]; exact Nat.lt_irrefl _))
    · have hG := HG.out
      rw [if_pos he, if_neg hs] at hG
      have HG2 := hid hG
      have hs1 : ((m.s : Int) == 0) = false := by simpa using hs
      clear hG he
      go_enter Try.func31, Try.ntmps31
      go_wp2_with (first | (go_at_call 50; refine (HLk _).out.mono ?_; rintro e w2 ⟨rfl, ho2⟩; have Hb2 := HS w2 ho2; have Ho2 := hid ho2; clear ho2) | (refine wpList_store_all rfl 85 (.tmp 6) (.tmp 13) rfl w2.heap.size m.V rfl rfl MarkM.zero.V 85 (blk_new w2 _) rfl info_mark (V_one _) ?_; intro w3 hb3 ho3 hs3; have c0 : w3.cell? ⟨w2.heap.size, 0, none⟩ = some (.int .u64 m.s) := cell_blk hb3 0; have Hb3 := hid hb3; have Hb3' := hid ((ho3.block w.heap.size (blk_lt (blk_alloc Hb2.out)) (by show ¬ w.heap.size = w2.heap.size; have := blk_lt Hb2.out; omega)).trans (blk_alloc Hb2.out)); have Ho3 := hid (Ho2.out.trans (((Only.refl (fun _ => False) w2).alloc _).trans ho3 (fun k hk e => by have e' : k = w2.heap.size := e; omega)) (fun _ _ e => e)); clear hb3 ho3 hs3) | (refine wpList_load_row rfl 85 (.tmp 6) rfl w2.heap.size rfl 85 m.V (0, 0) _ Hb3.out Try.underlying85 rfl info_mark ?_) | (refine wpList_store_all rfl 85 (.tmp 4) (.tmp 26) rfl w.heap.size m.V rfl rfl MarkM.zero.V 85 Hb3'.out rfl info_mark (V_one _) ?_; intro w4 hb4 ho4 hs4; have Hb4 := hid hb4; have Ho4 := hid ho4; clear hb4 ho4 hs4))
      refine bodyPost_ret (results_cell1 (q := 5) rfl _ _ w.heap.size 85 m.V _ _ rfl Hb4.out Try.underlying85 rfl info_mark) rfl ⟨by rw [HG2.out]; rfl, ?_⟩
      exact (((Only.refl _ w).alloc _).trans Ho3.out (fun _ _ e => e)).trans Ho4.out (fun k hk e => absurd hk (by rw [e]; exact Nat.lt_irrefl _))
  · have hG := HG.out
    rw [if_neg he] at hG
    have HG2 := hid hG
    have he1 : (err == 0) = false := by simpa using he
    clear hG
    go_enter Try.func31, Try.ntmps31
    go_wp2_with (first | (go_at_call 50; refine (HLk _).out.mono ?_; rintro e w2 ⟨rfl, ho2⟩; have Hb2 := HS w2 ho2; have Ho2 := hid ho2; clear ho2) | (refine wpList_store_all rfl 85 (.tmp 6) (.tmp 13) rfl w2.heap.size m.V rfl rfl MarkM.zero.V 85 (blk_new w2 _) rfl info_mark (V_one _) ?_; intro w3 hb3 ho3 hs3; have Hb3' := hid ((ho3.block w.heap.size (blk_lt (blk_alloc Hb2.out)) (by show ¬ w.heap.size = w2.heap.size; have := blk_lt Hb2.out; omega)).trans (blk_alloc Hb2.out)); have Ho3 := hid (Ho2.out.trans (((Only.refl (fun _ => False) w2).alloc _).trans ho3 (fun k hk e => by have e' : k = w2.heap.size := e; omega)) (fun _ _ e => e)); clear hb3 ho3 hs3) | (refine wpList_store_all rfl 85 (.tmp 4) (.tmp 19) rfl w.heap.size MarkM.zero.V rfl rfl MarkM.zero.V 85 Hb3'.out rfl info_mark (V_one _) ?_; intro w4 hb4 ho4 hs4; have Hb4 := hid hb4; have Ho4 := hid ho4; clear hb4 ho4 hs4))
    refine bodyPost_ret (results_cell1 (q := 5) rfl _ _ w.heap.size 85 MarkM.zero.V _ _ rfl Hb4.out Try.underlying85 rfl info_mark) rfl ⟨by rw [HG2.out]; rfl, ?_⟩
    exact (((Only.refl _ w).alloc _).trans Ho3.out (fun _ _ e => e)).trans Ho4.out (fun k hk e => absurd hk (by rw [e]; exact Nat.lt_irrefl _))
end
end Go.Proofs.Ythodcbhejjbhaaa
