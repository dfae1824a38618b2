/- wire.Reader.Sum; history.Read. -/
import Derived.Test.YtnoopajedgllhaaHsG
import Derived.Test.YtnoopajedgllhaaEvG
import Derived.Test.YtnoopajedgllhaaPg
namespace Go.Proofs.Ytnoopajedgllhaa
open Go.RowKit
section
variable {P : Program} {ops : Array Oper} {rest : List Oper} {o : Oper} {a : Act} {Q : Exit → Act → World → Prop} {w : World}
theorem wp_cpy_in {K : Act → World → Prop} (d s : Operand) (dT sT : TypeId)
    (ho : o.op = .call { callee := .builtin .copy, args := #[d, s], argTypes := #[dT, sT] }) (e : TypeId) (hu : P.underlying dT = some (.slice e)) (hsz : (P.info? e).map (·.size) = some 1)
    (g off dLen dCap : Nat) (hd : a.eval d = .slice (some ⟨g, off, none⟩) dLen dCap) (cur : Array Value) (t : TypeId) (hg : w.heap[g]? = some (.cells cur t (0, 0)))
    (sp : Option Addr) (sLen sCap : Nat) (hs : a.eval s = .slice sp sLen sCap) (cs : List Value) (hn : cs.length = min sLen dLen)
    (hsrc : 0 < cs.length → ∃ ad, sp = some ad ∧ ∀ j v, cs[j]? = some v → w.cell? (ad.add j) = some v)
    (hfit : off + cs.length ≤ cur.size) (h1 : ∀ v ∈ cs, v.oneCell' = true)
    (h : ∀ w', w'.heap[g]? = some (.cells (lay cur.toList off cs).toArray t (0, 0)) → Only (fun k => k = g) w w' → w'.heap.size = w.heap.size → K (a.put o.dst (.int .i64 cs.length)) w') :
    o.wp P a w K Q := by
  obtain ⟨i, hi, hi1⟩ := Option.map_eq_some_iff.1 hsz
  have hmin : min sLen dLen = cs.length := hn.symm
  have hmin' : Nat.min sLen dLen = cs.length := hn.symm
  have hfc : (Builtin.firstCells 1 cs.length (.slice sp sLen sCap)).run P w = .ok cs.toArray w := by
    rcases Nat.eq_zero_or_pos cs.length with h0 | h0
    · obtain rfl : cs = [] := List.eq_nil_of_length_eq_zero h0
      cases sp <;> simp [Builtin.firstCells, loadCells, loadCellsFrom]
    · obtain ⟨ad, rfl, hc⟩ := hsrc h0
      exact run_firstCells_some (P := P) w 1 cs.length ad sLen sCap cs (by simp) hc
  have hst := run_storeCells_at (P := P) g off t cs 0 cur w hg (by omega) h1
  have hr : (Builtin.copy_ #[dT, sT] o.type #[.slice (some ⟨g, off, none⟩) dLen dCap, .slice sp sLen sCap]).run P w = .ok (.int .i64 cs.length) (w.setRow g (lay cur.toList off cs).toArray) := by
    simp only [Nat.add_zero] at hst
    simp [Builtin.copy_, run_underlying hu, sizeOf, typeInfo, hi, hi1, Builtin.lenOf, hmin', hfc, hst, goInt, lay]
  unfold Oper.wp execOp
  simp only [ho, resolve, invoke, builtin, Sem.run_bind, Sem.run_pure, Result.andThen_ok, List.map_toArray, List.map_cons, List.map_nil, hd, hs, hr]
  exact h _ (setRow_heap w g cur _ t _ hg) ((Only.refl _ _).setRow _ _ (fun _ => rfl)) (by simp [World.setRow])
theorem wpList_cpy_in (hgd : o.guard = none) (d s : Operand) (dT sT : TypeId)
    (ho : o.op = .call { callee := .builtin .copy, args := #[d, s], argTypes := #[dT, sT] }) (e : TypeId) (hu : P.underlying dT = some (.slice e)) (hsz : (P.info? e).map (·.size) = some 1)
    (g off dLen dCap : Nat) (hd : a.eval d = .slice (some ⟨g, off, none⟩) dLen dCap) (cur : Array Value) (t : TypeId) (hg : w.heap[g]? = some (.cells cur t (0, 0)))
    (sp : Option Addr) (sLen sCap : Nat) (hs : a.eval s = .slice sp sLen sCap) (cs : List Value) (hn : cs.length = min sLen dLen)
    (hsrc : 0 < cs.length → ∃ ad, sp = some ad ∧ ∀ j v, cs[j]? = some v → w.cell? (ad.add j) = some v)
    (hfit : off + cs.length ≤ cur.size) (h1 : ∀ v ∈ cs, v.oneCell' = true)
    (h : ∀ w', w'.heap[g]? = some (.cells (lay cur.toList off cs).toArray t (0, 0)) → Only (fun k => k = g) w w' → w'.heap.size = w.heap.size → wpList P ops Q rest (a.put o.dst (.int .i64 cs.length)) w') :
    wpList P ops Q (o :: rest) a w :=
  wpList_plain hgd fun _ hK => wp_cpy_in d s dT sT ho e hu hsz g off dLen dCap hd cur t hg sp sLen sCap hs cs hn hsrc hfit h1 (fun x0 x1 x2 x3 => hK _ _ (h x0 x1 x2 x3))
end
/-- Reader.Sum. -/
def RdM.sum (r : RdM) : List UInt8 × RdM := (if (r.take 32).1 = [] then List.replicate 32 0 else (r.take 32).1, (r.take 32).2)
theorem take_len {r : RdM} {n : Nat} : (r.take n).1 = [] ∨ (r.take n).1.length = n := by
  unfold RdM.take
  split
  · exact .inl rfl
  · split
    · exact .inl rfl
    · right; simp only [List.length_take, List.length_drop]; omega
theorem sum_len32 (r : RdM) : r.sum.1.length = 32 := by
  unfold RdM.sum
  simp only
  split
  · simp
  · rcases take_len (r := r) (n := 32) with h | h
    · contradiction
    · exact h
theorem bytesV_zero : (bytesV (List.replicate 32 (0 : UInt8))).toArray = byA st0 0 := by kernel_rfl
section
variable {w : World} {b g : Nat} {r : RdM}
set_option maxRecDepth 100000 in
set_option maxHeartbeats 3200000 in
theorem rsum_c (h : Rd w b g r) : Calls Try.prog 67 #[.pointer (some ⟨b, 0, none⟩)] w fun x w' => x = .returned (.agg (bytesV r.sum.1).toArray) ∧ Rd w' b g r.sum.2 ∧ Only (fun k => k = b) w w' := by
  have hbl : b < w.heap.size ∧ g < w.heap.size := h.lt
  have hz := bytesV_zero
  obtain ⟨ZL, hZ⟩ : ∃ z : Array Value, byA st0 0 = z := ⟨_, rfl⟩
  have hZs : ZL.size = 32 := by rw [← hZ]; rfl
  have ho1 := (only_new w (.cells ZL 29)).trans (only_new _ (.cells ZL 29)) (fun _ _ e => e)
  have hx : ((w.alloc (.cells ZL 29)).alloc (.cells ZL 29)).heap[w.heap.size + 1]? = some (.cells ZL 29 (0, 0)) := by have := blk_new (w.alloc (.cells ZL 29)) (.cells ZL 29); rw [World.size_alloc] at this; exact this
  have hx0 : ((w.alloc (.cells ZL 29)).alloc (.cells ZL 29)).heap[w.heap.size]? = some (.cells ZL 29 (0, 0)) := blk_alloc (blk_new w _)
  have HSL : Hid (∀ W : World, (Instr.sliceAt 29 (.pointer (some ⟨w.heap.size + 1, 0, none⟩)) none none none).run Try.prog W = .ok (.slice (some ⟨w.heap.size + 1, 0, none⟩) 32 32) W) := hid fun W => by kernel_rfl
  obtain ⟨wk, hwk⟩ : ∃ x, (w.alloc (.cells ZL 29)).alloc (.cells ZL 29) = x := ⟨_, rfl⟩
  have hsk : w.heap.size + 2 ≤ wk.heap.size := by rw [← hwk]; simp
  rw [hwk] at ho1 hx hx0
  have HTK : Hid (∀ W, Only (fun _ => False) wk W → Calls Try.prog 81 #[.pointer (some ⟨b, 0, none⟩), .int .i64 32] W fun e w' => ∃ v, e = .returned v ∧ Src w' v (r.take 32).1 ∧ Rd w' b g (r.take 32).2 ∧ Only (fun k => k = b) W w') := hid fun W hW => rtake_c (h.same (ho1.trans hW (fun _ _ e => e))) 32 (by decide)
  have HX := hid hx; have HX0 := hid hx0; have HO1 := hid ho1; have HZ := hid hZ; have HZs := hid hZs
  have HZ2 := hid hz
  have HRS : Hid (r.sum = (if (r.take 32).1 = [] then List.replicate 32 0 else (r.take 32).1, (r.take 32).2)) := hid rfl
  obtain ⟨T, hT⟩ : ∃ T, r.take 32 = T := ⟨_, rfl⟩
  have htl : T.1 = [] ∨ T.1.length = 32 := by rw [← hT]; exact take_len
  rw [hT] at HTK HRS
  have HTL := hid htl
  clear h hz hx hx0 ho1 hZs hT htl
  go_enter Try.func67, Try.ntmps67
  go_wp2_with fail
  change Code.wp _ _ _ _ ((w.alloc (.cells (byA st0 0) 29)).alloc (.cells (byA st0 0) 29))
  rw [hZ, hwk]
  clear hZ hwk
  refine wp_region_noPanic ?_
  refine region_pt 1 [0] (by kernel_rfl) (by kernel_rfl) (by kernel_rfl) [(4, fun _ v => v = .slice (some ⟨w.heap.size + 1, 0, none⟩) 32 32)] (fun _ W => Only (fun _ => False) wk W) (by show [4].Nodup; decide) (by show ∀ d ∈ [4], d < 9; decide) ((Only.refl _ _).drew) (.inr (fun _ _ _ _ _ h => h)) ?_ ?_ ?_
  · refine ⟨?_, trivial⟩
    · refine ⟨_, _, _, _, rfl, rfl, rfl, fun _ _ h => h, fun L a W hI hd => ?_⟩
      have e3 : a.eval (.tmp 3) = .pointer (some ⟨w.heap.size + 1, 0, none⟩) := hI.ev 3 (by show ¬ (3 ∈ [4]); decide) rfl
      exact ⟨.slice (some ⟨w.heap.size + 1, 0, none⟩) 32 32, fun W => by unfold execOp; simp only [e3, Option.map_none, Sem.run_bind, HSL.out, Result.andThen_ok, Sem.run_pure], fun W => rfl⟩
  · have hstab : PtStabs (Only (fun _ => False)) [(4, fun _ v => v = .slice (some ⟨w.heap.size + 1, 0, none⟩) 32 32)] := ⟨fun _ _ _ _ h => h, trivial⟩
    refine PtAllS.cons rfl ⟨rfl, rfl⟩ ?_ (PtAllS.nil rfl)
    · intro L a W K hI hn hd hK
      have e3 : a.eval (.tmp 3) = .pointer (some ⟨w.heap.size + 1, 0, none⟩) := hI.ev 3 (by show ¬ (3 ∈ [4]); decide) rfl
      exact pt_val (v := .slice (some ⟨w.heap.size + 1, 0, none⟩) 32 32) (by unfold execOp; simp only [e3, Option.map_none, Sem.run_bind, HSL.out, Result.andThen_ok, Sem.run_pure]) (hK _ _ hI.j PtKeep.refl rfl)
  · intro L a W2 hal hj hfs
    dsimp only [PtAll] at hfs
    obtain ⟨f4, -⟩ := hfs
    have hA := hal.turned
    simp only [List.map_cons, List.map_nil, Act.turned, f4] at hA
    simp only [Act.put, List.setIfInBounds_toArray, List.set_cons_zero, List.set_cons_succ] at hA
    clear hal f4
    subst hA
    change wpList _ _ _ [_, _, _] _ _
    have HJ := hid hj
    clear hj
    go_wp2_with fail
    refine (HTK.out _ HJ.out).mono ?_
    rintro x w3 ⟨v, rfl, ⟨sa, sc, rfl, hsrc⟩, hr3, ho3⟩
    have HX3 := hid (blk_only (blk_only HX.out HJ.out (fun e => e)) ho3 (fun e => by omega))
    have HX03 := hid (blk_only (blk_only HX0.out HJ.out (fun e => e)) ho3 (fun e => by omega))
    have HO3 := hid ho3; have HR3 := hid hr3; have HSR := hid hsrc
    have hz3 := ho3.size
    have hzj := HJ.out.size
    clear hsrc hr3 ho3
    have HLY : Hid ((lay ZL.toList 0 (bytesV T.1)).toArray = (bytesV r.sum.1).toArray) := hid (by
      rw [HRS.out]
      simp only
      rcases HTL.out with h | h
      · rw [if_pos h, h, HZ2.out, HZ.out]
        simp [lay, bytesV]
      · rw [if_neg (by intro e; rw [e] at h; simp at h)]
        congr 1
        exact lay_all _ _ (by rw [length_bytesV, h, Array.length_toList, HZs.out]))
    have htl2 : T.1.length ≤ 32 := by rcases HTL.out with h | h; rw [h]; simp; omega
    have HS32 := hid (sum_len32 r)
    obtain ⟨SL, hSL⟩ : ∃ x, (bytesV r.sum.1).toArray = x := ⟨_, rfl⟩
    have HSi : Hid ((Try.prog.info? 29).map (·.size) = some SL.size) := hid (by rw [info32, ← hSL]; simp [HS32.out])
    have HS1 : Hid (SL.all (·.oneCell') = true) := hid (by rw [← hSL]; exact bytesV_one' _)
    have HSz : Hid (SL.size = ZL.size) := hid (by rw [← hSL, HZs.out]; simp [HS32.out])
    rw [hSL] at HLY
    have HSL2 := hid hSL
    clear hSL
    go_wp2_with (first
      | ((guard_target =~ wpList _ _ _ (⟨some 7, _, _, _, _, _⟩ :: _) _ _); refine wpList_cpy_in rfl (.tmp 4) (.tmp 6) 72 72 rfl 5 Try.underlying72 info_u8 (w.heap.size + 1) 0 32 32 rfl ZL 29 HX3.out sa T.1.length sc rfl (bytesV T.1) (by rw [length_bytesV]; exact (Nat.min_eq_left htl2).symm) (fun h0 => by obtain ⟨g', o', h1, h2⟩ := HSR.out (by rintro h; rw [h] at h0; simp at h0); exact ⟨_, h1, fun i u hu => by rw [addr_add]; exact h2 i u hu⟩) (by rw [length_bytesV, HZs.out]; omega) (oneCell_bytesV _) ?_; intro w4 hb4 ho4 hs4; rw [HLY.out] at hb4; have HB4 := hid hb4; have HO4 := hid ho4; have HS4 := hid hs4; have HX04 := hid (blk_only HX03.out ho4 (fun e => by omega)); clear hb4 ho4 hs4))
    refine NoPanic.normal ?_
    go_wp2_with (first
      | ((guard_target =~ wpList _ _ _ (⟨some 8, _, _, _, _, _⟩ :: _) _ _); refine wpList_load_row rfl 29 (.tmp 3) rfl (w.heap.size + 1) rfl 29 SL (0, 0) _ HB4.out Try.underlying29 rfl HSi.out ?_)
      | ((guard_target =~ wpList _ _ _ (⟨none, .store 29 (.tmp 2) _, _, _, _, _⟩ :: _) _ _); refine wpList_store_all rfl 29 (.tmp 2) (.tmp 8) rfl w.heap.size SL rfl rfl ZL 29 HX04.out HSz.out HSi.out HS1.out ?_; intro w5 hb5 ho5 hs5; have HB5 := hid hb5; have HO5 := hid ho5; clear hb5 ho5 hs5))
    refine bodyPost_ret (results_cell_row rfl _ _ w.heap.size 29 SL (0, 0) _ rfl HB5.out Try.underlying29 rfl HSi.out) rfl ⟨by rw [HSL2.out], ?_, ?_⟩
    · rw [HRS.out]
      exact (HR3.out.only HO4.out (fun e => by omega) (fun e => by omega)).only HO5.out (fun e => by omega) (fun e => by omega)
    · exact ((((HO1.out.trans HJ.out (fun _ _ e => e)).mono (G := fun k => k = b) (fun _ _ e => e.elim)).trans HO3.out (fun _ _ e => e)).trans HO4.out (fun k hk e => by omega)).trans HO5.out (fun k hk e => by omega)
end
end Go.Proofs.Ytnoopajedgllhaa
