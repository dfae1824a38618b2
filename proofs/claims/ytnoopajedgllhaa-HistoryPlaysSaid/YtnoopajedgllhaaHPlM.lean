/- HistoryPlays' walk: (*History).At, Get; the law's own reckoning of errors; the play. -/
import Derived.Test.YtnoopajedgllhaaHsC
import Derived.Test.YtnoopajedgllhaaHsM
import Derived.Test.YtnoopajedgllhaaRf09C
import Derived.Test.YtnoopajedgllhaaHsE
import Derived.Test.YtnoopajedgllhaaHsT
import Derived.Test.YtnoopajedgllhaaHsL
import Derived.Test.YtnoopajedgllhaaFrm
import Derived.Test.YtnoopajedgllhaaHsK
import Derived.Test.YtnoopajedgllhaaHsF
import Derived.Test.YtnoopajedgllhaaFitsH
import Derived.Test.YtnoopajedgllhaaPt
import Derived.Test.YtnoopajedgllhaaRf09S
import Derived.Test.YtnoopajedgllhaaPg
import Derived.Test.YtnoopajedgllhaaRuns
import Derived.Test.YtnoopajedgllhaaOpenV
import Derived.OpenShut
namespace Go.Proofs.Ytnoopajedgllhaa
open Go.RowKit
section
variable {w : World} {hb : Nat} {F : Nat → Prop} {s : List UInt8} {es : List EM}
set_option maxRecDepth 100000 in
theorem hat_bad (h : HistAt w hb F s es) (n : Int) (hn : n < 0 ∨ (es.length : Int) < n) : Calls Try.prog 35 #[.pointer (some ⟨hb, 0, none⟩), .int .i64 n] w fun x w' => x = .returned (.tuple #[.agg (byA st0 0), .int .i64 1]) ∧ Only (fun _ => False) w w' := by
  obtain ⟨lo, lc, xs, so, sc, h⟩ := h
  have ho := only_new w (.cells (byA st0 0) 29)
  have c1 := h.c1
  have hhl := h.lt _ h.fb
  have B0 := hid (blk_new w (.cells (byA st0 0) 29))
  have HIN : Hid ((Try.prog.info? 29).map (·.size) = some (byA st0 0).size) := hid (by rw [info32]; rfl)
  have HON : Hid ((byA st0 0).all (·.oneCell') = true) := hid (by kernel_rfl)
  have hn4 := h.n
  have HO := hid ho
  clear h ho
  go_enter Try.func35, Try.ntmps35
  rcases Int.lt_or_le n 0 with h0 | h0
  · clear hn
    go_wp2_with ((guard_target =~ wpList _ _ _ (⟨none, .store _ _ _, _, _, _, _⟩ :: _) _ _); refine wpList_store_all rfl 29 (.tmp 4) (.tmp 18) rfl w.heap.size (byA st0 0) rfl rfl (byA st0 0) 29 B0.out rfl HIN.out HON.out ?_; intro w9 hb9 ho9 hs9; have HB9 := hid hb9; have HO9 := hid ho9; clear hb9 ho9 hs9)
    exact bodyPost_ret (results_cell1 rfl _ _ w.heap.size 29 (byA st0 0) (0, 0) _ rfl HB9.out Try.underlying29 rfl HIN.out) rfl ⟨rfl, HO.out.trans HO9.out (fun i hi e => by have e' : i = w.heap.size := e; omega)⟩
  · have hn2 : (es.length : Int) < n := by omega
    have h1 : ¬ n < 0 := by omega
    clear hn
    go_wp2_with ((guard_target =~ wpList _ _ _ (⟨none, .store _ _ _, _, _, _, _⟩ :: _) _ _); refine wpList_store_all rfl 29 (.tmp 4) (.tmp 18) rfl w.heap.size (byA st0 0) rfl rfl (byA st0 0) 29 B0.out rfl HIN.out HON.out ?_; intro w9 hb9 ho9 hs9; have HB9 := hid hb9; have HO9 := hid ho9; clear hb9 ho9 hs9)
    exact bodyPost_ret (results_cell1 rfl _ _ w.heap.size 29 (byA st0 0) (0, 0) _ rfl HB9.out Try.underlying29 rfl HIN.out) rfl ⟨rfl, HO.out.trans HO9.out (fun i hi e => by have e' : i = w.heap.size := e; omega)⟩
set_option maxRecDepth 100000 in
theorem hat_0 (h : HistAt w hb F s es) : Calls Try.prog 35 #[.pointer (some ⟨hb, 0, none⟩), .int .i64 0] w fun x w' => x = .returned (.tuple #[.agg (bytesV s).toArray, .int .i64 0]) ∧ Only (fun _ => False) w w' := by
  obtain ⟨lo, lc, xs, so, sc, h⟩ := h
  have hl := h.len
  have ho := only_new w (.cells (byA st0 0) 29)
  have c1 := h.c1
  have hhl := h.lt _ h.fb
  have B0 := hid (blk_new w (.cells (byA st0 0) 29))
  have HR := hid (h.same ho).seed
  have HI : Hid ((Try.prog.info? 29).map (·.size) = some ((bytesV s).toArray).size) := hid (by rw [info32]; simp [hl])
  have HIL : Hid ((Try.prog.info? 29).map (·.size) = some (bytesV s).length) := hid (by rw [info32]; simp [hl])
  have HON := hid (bytesV_one' s)
  have HSZ : Hid (((bytesV s).toArray).size = (byA st0 0).size) := hid (by simp [hl, byA])
  have hn4 := h.n
  have HO := hid ho
  clear h ho hl
  go_enter Try.func35, Try.ntmps35
  go_wp2_with (first
    | ((guard_target =~ wpList _ _ _ (⟨some 25, _, _, _, _, _⟩ :: _) _ _); refine wpList_load_mid rfl 29 (.tmp 24) rfl hb 2 rfl (bytesV s) _ HR.out Try.underlying29 rfl HIL.out ?_)
    | ((guard_target =~ wpList _ _ _ (⟨none, .store _ _ _, _, _, _, _⟩ :: _) _ _); refine wpList_store_all rfl 29 (.tmp 4) (.tmp 25) rfl w.heap.size (bytesV s).toArray rfl rfl (byA st0 0) 29 B0.out HSZ.out HI.out HON.out ?_; intro w9 hb9 ho9 hs9; have HB9 := hid hb9; have HO9 := hid ho9; clear hb9 ho9 hs9))
  exact bodyPost_ret (results_cell1 rfl _ _ w.heap.size 29 (bytesV s).toArray (0, 0) _ rfl HB9.out Try.underlying29 rfl HI.out) rfl ⟨rfl, HO.out.trans HO9.out (fun i hi e => by have e' : i = w.heap.size := e; omega)⟩
set_option maxRecDepth 100000 in
theorem hat_c (h : HistAt w hb F s es) (i : Nat) (hi : i < es.length) : Calls Try.prog 35 #[.pointer (some ⟨hb, 0, none⟩), .int .i64 (i + 1 : Nat)] w fun x w' => x = .returned (.tuple #[.agg (bytesV (sumS s (es.take (i + 1)))).toArray, .int .i64 0]) ∧ Only (fun _ => False) w w' := by
  obtain ⟨lo, lc, xs, so, sc, h⟩ := h
  have ho := only_new w (.cells (byA st0 0) 29)
  have h' := h.same ho
  have B0 := hid (blk_new w (.cells (byA st0 0) 29))
  have hsl := sumS_len h.len (es.take (i + 1))
  have c1 := h.c1
  have hhl := h.lt _ h.fb
  obtain ⟨g, rfl, hc⟩ := h'.sums.cells (by omega)
  have HR : Hid ((w.alloc (.cells (byA st0 0) 29)).rangeAt g (i * 32) (bytesV (sumS s (es.take (i + 1))))) := hid fun j u hj => hc _ u (chain_cells s es i hi j u hj)
  obtain ⟨C, hC⟩ : ∃ x, sumS s (es.take (i + 1)) = x := ⟨_, rfl⟩
  rw [hC] at HR hsl ⊢
  have HI : Hid ((Try.prog.info? 29).map (·.size) = some ((bytesV C).toArray).size) := hid (by rw [info32]; simp [hsl])
  have HIL : Hid ((Try.prog.info? 29).map (·.size) = some (bytesV C).length) := hid (by rw [info32]; simp [hsl])
  have HON := hid (bytesV_one' C)
  have HSZ : Hid (((bytesV C).toArray).size = (byA st0 0).size) := hid (by simp [hsl, byA])
  have HO := hid ho
  have hn4 := h.n
  have hni : (i : Int) < es.length := by omega
  clear h' ho hsl hc h hC
  go_enter Try.func35, Try.ntmps35
  go_wp2_with (first
    | ((guard_target =~ wpList _ _ _ (⟨some 33, _, _, _, _, _⟩ :: _) _ _); refine wpList_load_mid rfl 29 (.tmp 32) rfl g (i * 32) rfl (bytesV C) _ HR.out Try.underlying29 rfl HIL.out ?_)
    | ((guard_target =~ wpList _ _ _ (⟨none, .store _ _ _, _, _, _, _⟩ :: _) _ _); refine wpList_store_all rfl 29 (.tmp 4) (.tmp 33) rfl w.heap.size (bytesV C).toArray rfl rfl (byA st0 0) 29 B0.out HSZ.out HI.out HON.out ?_; intro w9 hb9 ho9 hs9; have HB9 := hid hb9; have HO9 := hid ho9; clear hb9 ho9 hs9))
  exact bodyPost_ret (results_cell1 rfl _ _ w.heap.size 29 (bytesV C).toArray (0, 0) _ rfl HB9.out Try.underlying29 rfl HI.out) rfl ⟨rfl, HO.out.trans HO9.out (fun i hi e => by have e' : i = w.heap.size := e; omega)⟩
set_option maxRecDepth 100000 in
theorem hget_bad (h : HistAt w hb F s es) (n : Int) (hn : n < 1 ∨ (es.length : Int) < n) : Calls Try.prog 36 #[.pointer (some ⟨hb, 0, none⟩), .int .i64 n] w fun x w' => x = .returned (.tuple #[.agg #[.int .i64 0, .int .i64 0, .int .i64 0, .int .i64 0, .int .i64 0, .string ⟨#[]⟩, .string ⟨#[]⟩, .int .i64 0, .int .i64 0, .string ⟨#[]⟩, .slice none 0 0], .int .i64 4]) ∧ Only (fun _ => False) w w' := by
  obtain ⟨lo, lc, xs, so, sc, h⟩ := h
  have ho := only_new w (.cells #[.int .i64 0, .int .i64 0, .int .i64 0, .int .i64 0, .int .i64 0, .string ⟨#[]⟩, .string ⟨#[]⟩, .int .i64 0, .int .i64 0, .string ⟨#[]⟩, .slice none 0 0] 44)
  have c1 := h.c0
  have hhl := h.lt _ h.fb
  have B0 := hid (blk_new w (.cells #[.int .i64 0, .int .i64 0, .int .i64 0, .int .i64 0, .int .i64 0, .string ⟨#[]⟩, .string ⟨#[]⟩, .int .i64 0, .int .i64 0, .string ⟨#[]⟩, .slice none 0 0] 44))
  have hn4 := h.n
  have HO := hid ho
  clear h ho
  go_enter Try.func36, Try.ntmps36
  rcases Int.lt_or_le n 1 with h0 | h0
  · clear hn
    go_wp2_with fail
    exact bodyPost_ret (results_cell1 rfl _ _ w.heap.size 44 #[.int .i64 0, .int .i64 0, .int .i64 0, .int .i64 0, .int .i64 0, .string ⟨#[]⟩, .string ⟨#[]⟩, .int .i64 0, .int .i64 0, .string ⟨#[]⟩, .slice none 0 0] (0, 0) _ rfl (blk_new w _) Try.underlying44 rfl info_ev) rfl ⟨rfl, HO.out⟩
  · have hn2 : (es.length : Int) < n := by omega
    have h1 : ¬ n < 1 := by omega
    clear hn
    go_wp2_with fail
    exact bodyPost_ret (results_cell1 rfl _ _ w.heap.size 44 #[.int .i64 0, .int .i64 0, .int .i64 0, .int .i64 0, .int .i64 0, .string ⟨#[]⟩, .string ⟨#[]⟩, .int .i64 0, .int .i64 0, .string ⟨#[]⟩, .slice none 0 0] (0, 0) _ rfl (blk_new w _) Try.underlying44 rfl info_ev) rfl ⟨rfl, HO.out⟩
set_option maxRecDepth 100000 in
set_option maxHeartbeats 1600000 in
theorem hget_c (h : HistAt w hb F s es) (i : Nat) (e : EM) (he : es[i]? = some e) : Calls Try.prog 36 #[.pointer (some ⟨hb, 0, none⟩), .int .i64 (i + 1 : Nat)] w fun x w' => ∃ cs, x = .returned (.tuple #[.agg cs.toArray, .int .i64 0]) ∧ EAt w' (fun k => w.heap.size ≤ k ∧ k < w'.heap.size) e cs ∧ Only (fun _ => False) w w' := by
  obtain ⟨lo, lc, xl, so, sc, h⟩ := h
  have hi : i < es.length := by
    rcases Nat.lt_or_ge i es.length with g | g
    · exact g
    · rw [List.getElem?_eq_none g] at he; cases he
  have hok := h.ok i e he
  have c0 := h.c0
  have hn4 := h.n
  have hhl := h.lt hb h.fb
  have H := hid h
  obtain ⟨g, cs, rfl, hcw, hE⟩ := h.ev he
  obtain ⟨vk, vn, vs, va, vm, vc, rfl, hV⟩ := hE.form
  have ho0 := only_new w (.cells #[.int .i64 0, .int .i64 0, .int .i64 0, .int .i64 0, .int .i64 0, .string ⟨#[]⟩, .string ⟨#[]⟩, .int .i64 0, .int .i64 0, .string ⟨#[]⟩, .slice none 0 0] 44)
  have hcx : ∀ i' u, ([.int .i64 e.id, .int .i64 e.tm, .int .i64 e.k, .int .i64 e.a, .int .i64 e.b, .string (strOf e.name), .string (strOf e.text), .int .i64 vk, .int .i64 vn, .string (strOf vs), .slice va vm vc] : List Value)[i']? = some u → (w.alloc (.cells #[.int .i64 0, .int .i64 0, .int .i64 0, .int .i64 0, .int .i64 0, .string ⟨#[]⟩, .string ⟨#[]⟩, .int .i64 0, .int .i64 0, .string ⟨#[]⟩, .slice none 0 0] 44)).cell? ⟨g, i * 11 + i', none⟩ = some u := fun i' u hu => (World.cell?_of_block (ho0.block g (World.block_lt_of_cell? _ _ (hcw i' u hu)) (fun e => e))).trans (hcw i' u hu)
  have e0 := hcx 0 _ rfl
  rw [Nat.add_zero] at e0
  have e1 := hcx 1 _ rfl
  have e2 := hcx 2 _ rfl
  have e3 := hcx 3 _ rfl
  have e4 := hcx 4 _ rfl
  have e5 := hcx 5 _ rfl
  have e6 := hcx 6 _ rfl
  have e7 := hcx 7 _ rfl
  have e8 := hcx 8 _ rfl
  have e9 := hcx 9 _ rfl
  have e10 := hcx 10 _ rfl
  have ho1 := only_new (w.alloc (.cells #[.int .i64 0, .int .i64 0, .int .i64 0, .int .i64 0, .int .i64 0, .string ⟨#[]⟩, .string ⟨#[]⟩, .int .i64 0, .int .i64 0, .string ⟨#[]⟩, .slice none 0 0] 44)) (.cells #[.int .i64 e.id, .int .i64 e.tm, .int .i64 e.k, .int .i64 e.a, .int .i64 e.b, .string (strOf e.name), .string (strOf e.text), .int .i64 vk, .int .i64 vn, .string (strOf vs), .slice va vm vc] 44)
  have hb1 := blk_new (w.alloc (.cells #[.int .i64 0, .int .i64 0, .int .i64 0, .int .i64 0, .int .i64 0, .string ⟨#[]⟩, .string ⟨#[]⟩, .int .i64 0, .int .i64 0, .string ⟨#[]⟩, .slice none 0 0] 44)) (.cells #[.int .i64 e.id, .int .i64 e.tm, .int .i64 e.k, .int .i64 e.a, .int .i64 e.b, .string (strOf e.name), .string (strOf e.text), .int .i64 vk, .int .i64 vn, .string (strOf vs), .slice va vm vc] 44)
  rw [World.size_alloc] at hb1
  have hb0 := blk_alloc (o' := .cells #[.int .i64 e.id, .int .i64 e.tm, .int .i64 e.k, .int .i64 e.a, .int .i64 e.b, .string (strOf e.name), .string (strOf e.text), .int .i64 vk, .int .i64 vn, .string (strOf vs), .slice va vm vc] 44) (blk_new w (.cells #[.int .i64 0, .int .i64 0, .int .i64 0, .int .i64 0, .int .i64 0, .string ⟨#[]⟩, .string ⟨#[]⟩, .int .i64 0, .int .i64 0, .string ⟨#[]⟩, .slice none 0 0] 44))
  obtain ⟨w1, hw1⟩ : ∃ x, (w.alloc (.cells #[.int .i64 0, .int .i64 0, .int .i64 0, .int .i64 0, .int .i64 0, .string ⟨#[]⟩, .string ⟨#[]⟩, .int .i64 0, .int .i64 0, .string ⟨#[]⟩, .slice none 0 0] 44)).alloc (.cells #[.int .i64 e.id, .int .i64 e.tm, .int .i64 e.k, .int .i64 e.a, .int .i64 e.b, .string (strOf e.name), .string (strOf e.text), .int .i64 vk, .int .i64 vn, .string (strOf vs), .slice va vm vc] 44) = x := ⟨_, rfl⟩
  have ho2 := ho0.trans ho1 (fun _ _ e => e)
  rw [hw1] at hb1 hb0 ho2
  have hz1 : w1.heap.size = w.heap.size + 2 := by rw [← hw1]; simp
  have HC := hid (cloneC _ e.v (Nat.le_refl _) w1 _ _ (hV.same ho2) (fun i hi => by have := h.lt i hi.1; omega) hok.2.2.1.2.2.2.2.2.2.2 (by have := hok.2.2.2.2; omega))
  have HCL := hid hok.2.2.2.1
  have HO2 := hid ho2; have HB1 := hid hb1; have HB0 := hid hb0
  have HW1 := hid hw1
  have hni : (i : Int) < es.length := by omega
  have hlw : w.heap.size + 1 < w1.heap.size := by omega
  clear hok hE hcw hcx hV ho1 ho0 ho2 he h hb1 hb0 hw1 hz1
  go_enter Try.func36, Try.ntmps36
  go_upto_region 4 with fail
  rw [HW1.out]
  have c0 : w1.cell? ⟨w.heap.size + 1, 0, none⟩ = some (.int .i64 e.id) := cell_blk HB1.out 0
  have c1 : w1.cell? ⟨w.heap.size + 1, 1, none⟩ = some (.int .i64 e.tm) := cell_blk HB1.out 1
  have c2 : w1.cell? ⟨w.heap.size + 1, 2, none⟩ = some (.int .i64 e.k) := cell_blk HB1.out 2
  have c3 : w1.cell? ⟨w.heap.size + 1, 3, none⟩ = some (.int .i64 e.a) := cell_blk HB1.out 3
  have c4 : w1.cell? ⟨w.heap.size + 1, 4, none⟩ = some (.int .i64 e.b) := cell_blk HB1.out 4
  have c5 : w1.cell? ⟨w.heap.size + 1, 5, none⟩ = some (.string (strOf e.name)) := cell_blk HB1.out 5
  have c6 : w1.cell? ⟨w.heap.size + 1, 6, none⟩ = some (.string (strOf e.text)) := cell_blk HB1.out 6
  have c7 : w1.cell? ⟨w.heap.size + 1, 7, none⟩ = some (.int .i64 vk) := cell_blk HB1.out 7
  have c8 : w1.cell? ⟨w.heap.size + 1, 8, none⟩ = some (.int .i64 vn) := cell_blk HB1.out 8
  have c9 : w1.cell? ⟨w.heap.size + 1, 9, none⟩ = some (.string (strOf vs)) := cell_blk HB1.out 9
  have c10 : w1.cell? ⟨w.heap.size + 1, 10, none⟩ = some (.slice va vm vc) := cell_blk HB1.out 10
  go_wp2_with fail
  refine HC.out.mono ?_
  rintro x w6 ⟨cs6, rfl, hv6, ho6, hsf6⟩
  rw [HCL.out] at hv6
  obtain ⟨uk, un, us, ua, um, uc, rfl⟩ := hv6.form
  have hb6 := blk_only HB1.out ho6 (fun e => e)
  have hb06 := blk_only HB0.out ho6 (fun e => e)
  have hz6 := ho6.size
  clear c0 c1 c2 c3 c4 c5 c6 c7 c8 c9 c10
  have c0 : w6.cell? ⟨w.heap.size + 1, 0, none⟩ = some (.int .i64 e.id) := cell_blk hb6 0
  have c1 : w6.cell? ⟨w.heap.size + 1, 1, none⟩ = some (.int .i64 e.tm) := cell_blk hb6 1
  have c2 : w6.cell? ⟨w.heap.size + 1, 2, none⟩ = some (.int .i64 e.k) := cell_blk hb6 2
  have c3 : w6.cell? ⟨w.heap.size + 1, 3, none⟩ = some (.int .i64 e.a) := cell_blk hb6 3
  have c4 : w6.cell? ⟨w.heap.size + 1, 4, none⟩ = some (.int .i64 e.b) := cell_blk hb6 4
  have c5 : w6.cell? ⟨w.heap.size + 1, 5, none⟩ = some (.string (strOf e.name)) := cell_blk hb6 5
  have c6 : w6.cell? ⟨w.heap.size + 1, 6, none⟩ = some (.string (strOf e.text)) := cell_blk hb6 6
  have c7 : w6.cell? ⟨w.heap.size + 1, 7, none⟩ = some (.int .i64 vk) := cell_blk hb6 7
  have c8 : w6.cell? ⟨w.heap.size + 1, 8, none⟩ = some (.int .i64 vn) := cell_blk hb6 8
  have c9 : w6.cell? ⟨w.heap.size + 1, 9, none⟩ = some (.string (strOf vs)) := cell_blk hb6 9
  have c10 : w6.cell? ⟨w.heap.size + 1, 10, none⟩ = some (.slice va vm vc) := cell_blk hb6 10
  have hlw6 : w.heap.size + 1 < w6.heap.size := by omega
  have z6 : ∀ i, w6.frozen? ⟨w.heap.size + 1, i, none⟩ = false := frozen_blk hb6
  have HB6 := hid hb6; have HV6 := hid hv6; have HO6 := hid ho6; have HB06 := hid hb06
  clear hv6 ho6 hb6 hsf6 hb06
  go_upto_region 5 with ((guard_target =~ wpList _ _ _ (⟨none, .store 42 _ _, _, _, _, _⟩ :: _) _ _); refine wpList_store_in rfl 42 (.tmp 30) (.tmp 29) rfl (w.heap.size + 1) 7 #[.int .i64 uk, .int .i64 un, .string (strOf us), .slice ua um uc] rfl rfl #[.int .i64 e.id, .int .i64 e.tm, .int .i64 e.k, .int .i64 e.a, .int .i64 e.b, .string (strOf e.name), .string (strOf e.text), .int .i64 vk, .int .i64 vn, .string (strOf vs), .slice va vm vc] 44 HB6.out (Nat.le_refl 11) info_val (val_one uk un (strOf us) ua um uc) ?_; intro w8 hb8 ho8 hs8; have hb8 : w8.heap[w.heap.size + 1]? = some (.cells #[.int .i64 e.id, .int .i64 e.tm, .int .i64 e.k, .int .i64 e.a, .int .i64 e.b, .string (strOf e.name), .string (strOf e.text), .int .i64 uk, .int .i64 un, .string (strOf us), .slice ua um uc] 44 (0, 0)) := hb8; clear c0 c1 c2 c3 c4 c5 c6 c7 c8 c9 c10; have c0 : w8.cell? ⟨w.heap.size + 1, 0, none⟩ = some (.int .i64 e.id) := cell_blk hb8 0; have c1 : w8.cell? ⟨w.heap.size + 1, 1, none⟩ = some (.int .i64 e.tm) := cell_blk hb8 1; have c2 : w8.cell? ⟨w.heap.size + 1, 2, none⟩ = some (.int .i64 e.k) := cell_blk hb8 2; have c3 : w8.cell? ⟨w.heap.size + 1, 3, none⟩ = some (.int .i64 e.a) := cell_blk hb8 3; have c4 : w8.cell? ⟨w.heap.size + 1, 4, none⟩ = some (.int .i64 e.b) := cell_blk hb8 4; have c5 : w8.cell? ⟨w.heap.size + 1, 5, none⟩ = some (.string (strOf e.name)) := cell_blk hb8 5; have c6 : w8.cell? ⟨w.heap.size + 1, 6, none⟩ = some (.string (strOf e.text)) := cell_blk hb8 6; have c7 : w8.cell? ⟨w.heap.size + 1, 7, none⟩ = some (.int .i64 uk) := cell_blk hb8 7; have c8 : w8.cell? ⟨w.heap.size + 1, 8, none⟩ = some (.int .i64 un) := cell_blk hb8 8; have c9 : w8.cell? ⟨w.heap.size + 1, 9, none⟩ = some (.string (strOf us)) := cell_blk hb8 9; have c10 : w8.cell? ⟨w.heap.size + 1, 10, none⟩ = some (.slice ua um uc) := cell_blk hb8 10; have hlx : w.heap.size + 1 < w8.heap.size := blk_lt hb8; have HB08 := hid (blk_only HB06.out ho8 (fun e => by omega)); have HB8 := hid hb8; have HO8 := hid ho8; clear hb8 ho8 hs8)
  go_wp2_with ((guard_target =~ wpList _ _ _ (⟨none, .store 44 (.tmp 4) _, _, _, _, _⟩ :: _) _ _); refine wpList_store_all rfl 44 (.tmp 4) (.tmp 31) rfl w.heap.size #[.int .i64 e.id, .int .i64 e.tm, .int .i64 e.k, .int .i64 e.a, .int .i64 e.b, .string (strOf e.name), .string (strOf e.text), .int .i64 uk, .int .i64 un, .string (strOf us), .slice ua um uc] rfl rfl #[.int .i64 0, .int .i64 0, .int .i64 0, .int .i64 0, .int .i64 0, .string ⟨#[]⟩, .string ⟨#[]⟩, .int .i64 0, .int .i64 0, .string ⟨#[]⟩, .slice none 0 0] 44 HB08.out rfl info_ev (by simp [Value.oneCell']) ?_; intro w9 hb9 ho9 hs9; have HB9 := hid hb9; have HO9 := hid ho9; clear hb9 ho9 hs9)
  have hsz8 := HO8.out.size; have hsz9 := HO9.out.size
  refine bodyPost_ret (results_cell1 rfl _ _ w.heap.size 44 #[.int .i64 e.id, .int .i64 e.tm, .int .i64 e.k, .int .i64 e.a, .int .i64 e.b, .string (strOf e.name), .string (strOf e.text), .int .i64 uk, .int .i64 un, .string (strOf us), .slice ua um uc] (0, 0) _ rfl HB9.out Try.underlying44 rfl info_ev) rfl ⟨[.int .i64 e.id, .int .i64 e.tm, .int .i64 e.k, .int .i64 e.a, .int .i64 e.b, .string (strOf e.name), .string (strOf e.text), .int .i64 uk, .int .i64 un, .string (strOf us), .slice ua um uc], rfl, ⟨_, rfl, ?_⟩, ?_⟩
  · exact ((HV6.out.only HO8.out (fun k hk e => by have h1 := hk.1; have e' : k = w.heap.size + 1 := e; omega)).only HO9.out (fun k hk e => by have h1 := hk.1; have e' : k = w.heap.size := e; omega)).mono (fun k hk => ⟨by have := hk.1; omega, by have := hk.2; omega⟩)
  · exact ((HO2.out.trans HO6.out (fun _ _ e => e)).trans HO8.out (fun k hk e => by have e' : k = w.heap.size + 1 := e; omega)).trans HO9.out (fun k hk e => by have e' : k = w.heap.size := e; omega)
end
end Go.Proofs.Ytnoopajedgllhaa
namespace Go.Proofs.Ytnoopajedgllhaa
open Go.RowKit
theorem closedL_take1 {es : List EM} {j : Nat} {e : EM} (h : es[j]? = some e) : closedL (es.take (j + 1)) = closesB e.k := by
  rw [List.take_add_one, h]; exact closedL_snoc _ _
section
variable {w : World} {F G G2 : Nat → Prop} {es : List EM}
set_option maxRecDepth 100000 in
set_option maxHeartbeats 6400000 in
theorem chk18_c {v0 : Value} (hA : EvsV w G2 v0 es) (hAg : ∀ e ∈ es, e.rg) (hn4 : es.length ≤ 1000000) {v : Value} {l : List EM} (hE : EvsV w G v l) (hg : ∀ e ∈ l, e.rg) (hll : l.length ≤ 1000000) :
    Calls Try.prog 31 #[v0, v] w fun x w' => x = .returned (.int .i64 (hchk (closedL es) es.length (lastT 0 es) l)) ∧ Only (fun _ => False) w w' := by
  have Hg := hid hg; have HAg := hid hAg
  obtain ⟨ad, cap, g, o, rfl, hne, hel⟩ := hE
  obtain ⟨ad0, cap0, g0, o0, rfl, hne0, hel0⟩ := hA
  have HNE := hid hne; have HEL := hid hel
  have HNE0 := hid hne0; have HEL0 := hid hel0
  clear hg hne hel hne0 hel0 hAg
  go_enter Try.func31, Try.ntmps31
  go_wp2_with fail
  go_loopw [15, 5, 6] (fun i cc tt wr => ∃ j : Nat, i = .int .i64 j ∧ j ≤ es.length ∧ cc = .bool (closedL (es.take j)) ∧ tt = .int .i64 (lastT 0 (es.take j)) ∧ Only (fun _ => False) w wr) (fun i _ _ _ => es.length - (intOf i).toNat)
  case atStart => exact ⟨0, rfl, Nat.zero_le _, rfl, rfl, Only.refl _ _⟩
  case round =>
    obtain ⟨j, rfl, hj, rfl, rfl, ho⟩ := hrel
    have HO := hid ho
    clear ho
    by_cases hjl : j < es.length
    · have hji : (j : Int) < es.length := by omega
      obtain ⟨e, he⟩ : ∃ t, es[j]? = some t := ⟨_, List.getElem?_eq_getElem hjl⟩
      obtain ⟨rfl, -⟩ := HNE0.out (by rintro rfl; simp at hjl)
      obtain ⟨cs, hcs, hEe⟩ := HEL0.out j e he
      have hcw : ∀ i u, cs[i]? = some u → wr.cell? ⟨g0, o0 + j * 11 + i, none⟩ = some u := fun i u hu =>
        (World.cell?_of_block (HO.out.block g0 (World.block_lt_of_cell? _ _ (hcs i u hu)) (fun e => e))).trans (hcs i u hu)
      have hEw := hEe.same HO.out
      obtain ⟨vk, vn, vs, va, vm, vc, rfl, hV⟩ := hEw.form
      have e0 := hcw 0 _ rfl
      rw [Nat.add_zero] at e0
      have e1 := hcw 1 _ rfl
      have e2 := hcw 2 _ rfl
      have e3 := hcw 3 _ rfl
      have e4 := hcw 4 _ rfl
      have e5 := hcw 5 _ rfl
      have e6 := hcw 6 _ rfl
      have e7 := hcw 7 _ rfl
      have e8 := hcw 8 _ rfl
      have e9 := hcw 9 _ rfl
      have e10 := hcw 10 _ rfl
      have ho2 : Only (fun _ => False) wr (wr.alloc (.cells #[.int .i64 e.id, .int .i64 e.tm, .int .i64 e.k, .int .i64 e.a, .int .i64 e.b, .string (strOf e.name), .string (strOf e.text), .int .i64 vk, .int .i64 vn, .string (strOf vs), .slice va vm vc] 44)) := only_new _ _
      have HBE : Hid ((wr.alloc (.cells #[.int .i64 e.id, .int .i64 e.tm, .int .i64 e.k, .int .i64 e.a, .int .i64 e.b, .string (strOf e.name), .string (strOf e.text), .int .i64 vk, .int .i64 vn, .string (strOf vs), .slice va vm vc] 44)).heap[wr.heap.size]? = some (.cells #[.int .i64 e.id, .int .i64 e.tm, .int .i64 e.k, .int .i64 e.a, .int .i64 e.b, .string (strOf e.name), .string (strOf e.text), .int .i64 vk, .int .i64 vn, .string (strOf vs), .slice va vm vc] 44 (0, 0))) := hid (blk_new wr _)
      have HOU : Hid (∀ W, Only (fun _ => False) (wr.alloc (.cells #[.int .i64 e.id, .int .i64 e.tm, .int .i64 e.k, .int .i64 e.a, .int .i64 e.b, .string (strOf e.name), .string (strOf e.text), .int .i64 vk, .int .i64 vn, .string (strOf vs), .slice va vm vc] 44)) W → Calls Try.prog 51 #[.agg #[.int .i64 e.id, .int .i64 e.tm, .int .i64 e.k, .int .i64 e.a, .int .i64 e.b, .string (strOf e.name), .string (strOf e.text), .int .i64 vk, .int .i64 vn, .string (strOf vs), .slice va vm vc]] W fun x w' => x = .returned (.bool (outsideB e.k)) ∧ Only (fun _ => False) W w') := hid fun W hW => outside_c (hEw.same (ho2.trans hW (fun _ _ e => e)))
      have HCZ : Hid (∀ W, Only (fun _ => False) (wr.alloc (.cells #[.int .i64 e.id, .int .i64 e.tm, .int .i64 e.k, .int .i64 e.a, .int .i64 e.b, .string (strOf e.name), .string (strOf e.text), .int .i64 vk, .int .i64 vn, .string (strOf vs), .slice va vm vc] 44)) W → Calls Try.prog 33 #[.agg #[.int .i64 e.id, .int .i64 e.tm, .int .i64 e.k, .int .i64 e.a, .int .i64 e.b, .string (strOf e.name), .string (strOf e.text), .int .i64 vk, .int .i64 vn, .string (strOf vs), .slice va vm vc]] W fun x w' => x = .returned (.bool (closesB e.k)) ∧ Only (fun _ => False) W w') := hid fun W hW => closes_c (hEw.same (ho2.trans hW (fun _ _ e => e)))
      have HO2 := hid (HO.out.trans ho2 (fun _ _ e => e))
      have HT1 := hid (closedL_take1 he); have HT2 := hid (lastT_take1 (t := 0) he)
      obtain ⟨ob, hob⟩ : ∃ x, outsideB e.k = x := ⟨_, rfl⟩
      obtain ⟨cb, hcb⟩ : ∃ x, closesB e.k = x := ⟨_, rfl⟩
      obtain ⟨lt, hlt⟩ : ∃ x, lastT 0 (es.take j) = x := ⟨_, rfl⟩
      obtain ⟨cl, hcl⟩ : ∃ x, closedL (es.take j) = x := ⟨_, rfl⟩
      rw [hob] at HOU HT2
      rw [hcb] at HCZ HT1
      rw [hlt] at HT2
      rw [hlt, hcl]
      clear hEw hEe hcs hcw hV he ho2 hob hcb hlt hcl
      go_wp2_with fail
      refine (HCZ.out _ (Only.refl _ _)).mono ?_
      rintro x w5 ⟨rfl, ho5⟩
      have HP5 := hid ho5
      have hbE := blk_only HBE.out HP5.out (fun e => e)
      clear ho5
      have c0 : w5.cell? ⟨wr.heap.size, 0, none⟩ = some (.int .i64 e.id) := cell_blk hbE 0
      have c1 : w5.cell? ⟨wr.heap.size, 1, none⟩ = some (.int .i64 e.tm) := cell_blk hbE 1
      have c2 : w5.cell? ⟨wr.heap.size, 2, none⟩ = some (.int .i64 e.k) := cell_blk hbE 2
      have c3 : w5.cell? ⟨wr.heap.size, 3, none⟩ = some (.int .i64 e.a) := cell_blk hbE 3
      have c4 : w5.cell? ⟨wr.heap.size, 4, none⟩ = some (.int .i64 e.b) := cell_blk hbE 4
      have c5 : w5.cell? ⟨wr.heap.size, 5, none⟩ = some (.string (strOf e.name)) := cell_blk hbE 5
      have c6 : w5.cell? ⟨wr.heap.size, 6, none⟩ = some (.string (strOf e.text)) := cell_blk hbE 6
      have c7 : w5.cell? ⟨wr.heap.size, 7, none⟩ = some (.int .i64 vk) := cell_blk hbE 7
      have c8 : w5.cell? ⟨wr.heap.size, 8, none⟩ = some (.int .i64 vn) := cell_blk hbE 8
      have c9 : w5.cell? ⟨wr.heap.size, 9, none⟩ = some (.string (strOf vs)) := cell_blk hbE 9
      have c10 : w5.cell? ⟨wr.heap.size, 10, none⟩ = some (.slice va vm vc) := cell_blk hbE 10
      have hl5 := HP5.out.size
      clear hbE
      go_wp2_with fail
      refine (HOU.out _ HP5.out).mono ?_
      rintro x w6 ⟨rfl, ho6⟩
      have HP6 := hid (HP5.out.trans ho6 (fun _ _ e => e))
      have hbE := blk_only HBE.out HP6.out (fun e => e)
      clear ho6 c0 c1 c2 c3 c4 c5 c6 c7 c8 c9 c10
      have c0 : w6.cell? ⟨wr.heap.size, 0, none⟩ = some (.int .i64 e.id) := cell_blk hbE 0
      have c1 : w6.cell? ⟨wr.heap.size, 1, none⟩ = some (.int .i64 e.tm) := cell_blk hbE 1
      have c2 : w6.cell? ⟨wr.heap.size, 2, none⟩ = some (.int .i64 e.k) := cell_blk hbE 2
      have c3 : w6.cell? ⟨wr.heap.size, 3, none⟩ = some (.int .i64 e.a) := cell_blk hbE 3
      have c4 : w6.cell? ⟨wr.heap.size, 4, none⟩ = some (.int .i64 e.b) := cell_blk hbE 4
      have c5 : w6.cell? ⟨wr.heap.size, 5, none⟩ = some (.string (strOf e.name)) := cell_blk hbE 5
      have c6 : w6.cell? ⟨wr.heap.size, 6, none⟩ = some (.string (strOf e.text)) := cell_blk hbE 6
      have c7 : w6.cell? ⟨wr.heap.size, 7, none⟩ = some (.int .i64 vk) := cell_blk hbE 7
      have c8 : w6.cell? ⟨wr.heap.size, 8, none⟩ = some (.int .i64 vn) := cell_blk hbE 8
      have c9 : w6.cell? ⟨wr.heap.size, 9, none⟩ = some (.string (strOf vs)) := cell_blk hbE 9
      have c10 : w6.cell? ⟨wr.heap.size, 10, none⟩ = some (.slice va vm vc) := cell_blk hbE 10
      have hl6 := HP6.out.size
      clear hbE
      cases ob with
      | true =>
        go_wp2_with fail
        go_roundw
        case rel => exact ⟨j + 1, by go_num, by omega, by rw [HT1.out], by rw [HT2.out]; rfl, HO2.out.trans HP6.out (fun _ _ e => e)⟩
        case measure => simp [intOf]; omega
      | false =>
        go_wp2_with fail
        go_roundw
        case rel => exact ⟨j + 1, by go_num, by omega, by rw [HT1.out], by rw [HT2.out]; rfl, HO2.out.trans HP6.out (fun _ _ e => e)⟩
        case measure => simp [intOf]; omega
    · obtain rfl : j = es.length := by omega
      rw [List.take_length]
      obtain ⟨cl0, hcl0⟩ : ∃ x, closedL es = x := ⟨_, rfl⟩
      obtain ⟨t0, ht0⟩ : ∃ x, lastT 0 es = x := ⟨_, rfl⟩
      obtain ⟨n0, hn0⟩ : ∃ x, es.length = x := ⟨_, rfl⟩
      rw [hn0] at hn4
      rw [hcl0, ht0, hn0]
      have HCL0 := hid hcl0; have HT0 := hid ht0; have HN0 := hid hn0
      have HPX := HO
      clear hcl0 ht0 hn0 hj hjl
      obtain ⟨wq, hwq⟩ : ∃ x, x = wr := ⟨wr, rfl⟩
      subst hwq
      go_wp2_with fail
      go_loopw [30, 9, 5, 6] (fun i nn cc tt wr => ∃ (j n : Nat) (c : Bool) (t : Int), i = .int .i64 j ∧ j ≤ l.length ∧ nn = .int .i64 n ∧ n = n0 + j ∧ cc = .bool c ∧ tt = .int .i64 t ∧ hchk cl0 n0 t0 l = hchk c n t (l.drop j) ∧ Only (fun _ => False) w wr) (fun i _ _ _ _ => l.length - (intOf i).toNat)
      case atStart => exact ⟨0, n0, cl0, t0, rfl, Nat.zero_le _, rfl, rfl, rfl, rfl, rfl, HPX.out⟩
      case round =>
        obtain ⟨j, n, c, t, rfl, hj, rfl, hnj, rfl, rfl, hfj, ho⟩ := hrel
        have HO := hid ho; have HFJ := hid hfj; have HNJ := hid hnj
        have hso := ho.size
        clear hfj ho
        have hn5 : n ≤ 2000000 := by omega
        clear hnj
        by_cases hjl : j < l.length
        · have hji : (j : Int) < l.length := by omega
          obtain ⟨e, he⟩ : ∃ t, l[j]? = some t := ⟨_, List.getElem?_eq_getElem hjl⟩
          obtain ⟨rfl, hGg⟩ := HNE.out (by rintro rfl; simp at hjl)
          obtain ⟨cs, hcs, hEe⟩ := HEL.out j e he
          have hrg := Hg.out e (List.mem_of_getElem? he)
          have HCH : Hid (hchk cl0 n0 t0 l = hchk c n t (e :: l.drop (j + 1))) := hid (by rw [HFJ.out, drop_get he])
          have hcw : ∀ i u, cs[i]? = some u → wr.cell? ⟨g, o + j * 11 + i, none⟩ = some u := fun i u hu =>
            (World.cell?_of_block (HO.out.block g (World.block_lt_of_cell? _ _ (hcs i u hu)) (fun e => e))).trans (hcs i u hu)
          have hEw := hEe.same HO.out
          obtain ⟨vk, vn, vs, va, vm, vc, rfl, hV⟩ := hEw.form
          have e0 := hcw 0 _ rfl
          rw [Nat.add_zero] at e0
          have e1 := hcw 1 _ rfl
          have e2 := hcw 2 _ rfl
          have e3 := hcw 3 _ rfl
          have e4 := hcw 4 _ rfl
          have e5 := hcw 5 _ rfl
          have e6 := hcw 6 _ rfl
          have e7 := hcw 7 _ rfl
          have e8 := hcw 8 _ rfl
          have e9 := hcw 9 _ rfl
          have e10 := hcw 10 _ rfl
          have ho2 : Only (fun _ => False) wr ((wr.alloc (.cells #[.int .i64 e.id, .int .i64 e.tm, .int .i64 e.k, .int .i64 e.a, .int .i64 e.b, .string (strOf e.name), .string (strOf e.text), .int .i64 vk, .int .i64 vn, .string (strOf vs), .slice va vm vc] 44)).alloc (.cells #[.int .i64 (n + 1), .int .i64 e.tm, .int .i64 e.k, .int .i64 e.a, .int .i64 e.b, .string (strOf e.name), .string (strOf e.text), .int .i64 vk, .int .i64 vn, .string (strOf vs), .slice va vm vc] 44)) := (only_new _ _).trans (only_new _ _) (fun _ _ e => e)
          have HBE : Hid (((wr.alloc (.cells #[.int .i64 e.id, .int .i64 e.tm, .int .i64 e.k, .int .i64 e.a, .int .i64 e.b, .string (strOf e.name), .string (strOf e.text), .int .i64 vk, .int .i64 vn, .string (strOf vs), .slice va vm vc] 44)).alloc (.cells #[.int .i64 (n + 1), .int .i64 e.tm, .int .i64 e.k, .int .i64 e.a, .int .i64 e.b, .string (strOf e.name), .string (strOf e.text), .int .i64 vk, .int .i64 vn, .string (strOf vs), .slice va vm vc] 44)).heap[wr.heap.size]? = some (.cells #[.int .i64 e.id, .int .i64 e.tm, .int .i64 e.k, .int .i64 e.a, .int .i64 e.b, .string (strOf e.name), .string (strOf e.text), .int .i64 vk, .int .i64 vn, .string (strOf vs), .slice va vm vc] 44 (0, 0))) := hid (blk_alloc (blk_new wr _))
          have HBX : Hid (((wr.alloc (.cells #[.int .i64 e.id, .int .i64 e.tm, .int .i64 e.k, .int .i64 e.a, .int .i64 e.b, .string (strOf e.name), .string (strOf e.text), .int .i64 vk, .int .i64 vn, .string (strOf vs), .slice va vm vc] 44)).alloc (.cells #[.int .i64 (n + 1), .int .i64 e.tm, .int .i64 e.k, .int .i64 e.a, .int .i64 e.b, .string (strOf e.name), .string (strOf e.text), .int .i64 vk, .int .i64 vn, .string (strOf vs), .slice va vm vc] 44)).heap[wr.heap.size + 1]? = some (.cells #[.int .i64 (n + 1), .int .i64 e.tm, .int .i64 e.k, .int .i64 e.a, .int .i64 e.b, .string (strOf e.name), .string (strOf e.text), .int .i64 vk, .int .i64 vn, .string (strOf vs), .slice va vm vc] 44 (0, 0))) := hid (by have := blk_new (wr.alloc (.cells #[.int .i64 e.id, .int .i64 e.tm, .int .i64 e.k, .int .i64 e.a, .int .i64 e.b, .string (strOf e.name), .string (strOf e.text), .int .i64 vk, .int .i64 vn, .string (strOf vs), .slice va vm vc] 44)) (.cells #[.int .i64 (n + 1), .int .i64 e.tm, .int .i64 e.k, .int .i64 e.a, .int .i64 e.b, .string (strOf e.name), .string (strOf e.text), .int .i64 vk, .int .i64 vn, .string (strOf vs), .slice va vm vc] 44); rw [World.size_alloc] at this; exact this)
          have HEX : Hid (EAt wr G (e.nth n) [.int .i64 (n + 1), .int .i64 e.tm, .int .i64 e.k, .int .i64 e.a, .int .i64 e.b, .string (strOf e.name), .string (strOf e.text), .int .i64 vk, .int .i64 vn, .string (strOf vs), .slice va vm vc]) := hid ⟨[.int .i64 vk, .int .i64 vn, .string (strOf vs), .slice va vm vc], rfl, hV⟩
          have HCK : Hid (∀ W, Only (fun _ => False) ((wr.alloc (.cells #[.int .i64 e.id, .int .i64 e.tm, .int .i64 e.k, .int .i64 e.a, .int .i64 e.b, .string (strOf e.name), .string (strOf e.text), .int .i64 vk, .int .i64 vn, .string (strOf vs), .slice va vm vc] 44)).alloc (.cells #[.int .i64 (n + 1), .int .i64 e.tm, .int .i64 e.k, .int .i64 e.a, .int .i64 e.b, .string (strOf e.name), .string (strOf e.text), .int .i64 vk, .int .i64 vn, .string (strOf vs), .slice va vm vc] 44)) W → Calls Try.prog 20 #[.agg #[.int .i64 (n + 1), .int .i64 e.tm, .int .i64 e.k, .int .i64 e.a, .int .i64 e.b, .string (strOf e.name), .string (strOf e.text), .int .i64 vk, .int .i64 vn, .string (strOf vs), .slice va vm vc]] W fun x w' => x = .returned (.int .i64 (e.nth n).chk) ∧ Only (fun _ => False) W w') := hid fun W hW => r9check_c (cs := [.int .i64 (n + 1), .int .i64 e.tm, .int .i64 e.k, .int .i64 e.a, .int .i64 e.b, .string (strOf e.name), .string (strOf e.text), .int .i64 vk, .int .i64 vn, .string (strOf vs), .slice va vm vc]) (HEX.out.same (ho2.trans hW (fun _ _ e => e))) ⟨⟨by show (_ : Int) ≤ ((n + 1 : Nat) : Int); omega, by show ((n + 1 : Nat) : Int) ≤ _; omega⟩, hrg.2⟩
          have HOU : Hid (∀ W, Only (fun _ => False) ((wr.alloc (.cells #[.int .i64 e.id, .int .i64 e.tm, .int .i64 e.k, .int .i64 e.a, .int .i64 e.b, .string (strOf e.name), .string (strOf e.text), .int .i64 vk, .int .i64 vn, .string (strOf vs), .slice va vm vc] 44)).alloc (.cells #[.int .i64 (n + 1), .int .i64 e.tm, .int .i64 e.k, .int .i64 e.a, .int .i64 e.b, .string (strOf e.name), .string (strOf e.text), .int .i64 vk, .int .i64 vn, .string (strOf vs), .slice va vm vc] 44)) W → Calls Try.prog 51 #[.agg #[.int .i64 e.id, .int .i64 e.tm, .int .i64 e.k, .int .i64 e.a, .int .i64 e.b, .string (strOf e.name), .string (strOf e.text), .int .i64 vk, .int .i64 vn, .string (strOf vs), .slice va vm vc]] W fun x w' => x = .returned (.bool (outsideB e.k)) ∧ Only (fun _ => False) W w') := hid fun W hW => outside_c (hEw.same (ho2.trans hW (fun _ _ e => e)))
          have HCZ : Hid (∀ W, Only (fun _ => False) ((wr.alloc (.cells #[.int .i64 e.id, .int .i64 e.tm, .int .i64 e.k, .int .i64 e.a, .int .i64 e.b, .string (strOf e.name), .string (strOf e.text), .int .i64 vk, .int .i64 vn, .string (strOf vs), .slice va vm vc] 44)).alloc (.cells #[.int .i64 (n + 1), .int .i64 e.tm, .int .i64 e.k, .int .i64 e.a, .int .i64 e.b, .string (strOf e.name), .string (strOf e.text), .int .i64 vk, .int .i64 vn, .string (strOf vs), .slice va vm vc] 44)) W → Calls Try.prog 33 #[.agg #[.int .i64 e.id, .int .i64 e.tm, .int .i64 e.k, .int .i64 e.a, .int .i64 e.b, .string (strOf e.name), .string (strOf e.text), .int .i64 vk, .int .i64 vn, .string (strOf vs), .slice va vm vc]] W fun x w' => x = .returned (.bool (closesB e.k)) ∧ Only (fun _ => False) W w') := hid fun W hW => closes_c (hEw.same (ho2.trans hW (fun _ _ e => e)))
          have HO2 := hid (HO.out.trans ho2 (fun _ _ e => e))
          clear hEw hEe hcs hcw hV hrg he ho2 hGg
          by_cases h1 : 4096 < n + 1
          · have h1i : (4096 : Int) < n + 1 := by omega
            have HR : Hid (hchk cl0 n0 t0 l = 3) := hid (by rw [HCH.out, hchk, if_pos h1])
            go_wp2_with fail
            go_ret
            exact ⟨by rw [HCL0.out, HT0.out, HN0.out, HR.out]; rfl, HO2.out⟩
          have h1i : ¬ (4096 : Int) < n + 1 := by omega
          by_cases h2 : e.id ≠ 0 ∧ e.id ≠ ((n + 1 : Nat) : Int)
          · have HR : Hid (hchk cl0 n0 t0 l = 180) := hid (by rw [HCH.out, hchk, if_neg h1, if_pos h2])
            obtain ⟨h2a, h2b⟩ := h2
            have h2c : (e.id != (n : Int) + 1) = true := by simp; omega
            have h2d : (e.id != 0) = true := by simp; omega
            clear h2b h2a
            go_wp2_with fail
            go_ret
            exact ⟨by rw [HCL0.out, HT0.out, HN0.out, HR.out]; rfl, HO2.out⟩
          have HCH2 : Hid (hchk cl0 n0 t0 l = if (e.nth n).chk ≠ 0 then (e.nth n).chk else if c = true then 181 else if (n = 0 ∧ e.k ≠ 1) ∨ (n ≠ 0 ∧ e.k = 1) then 7 else if outsideB e.k = true ∧ e.tm < t then 1 else hchk (closesB e.k) (n + 1) (if outsideB e.k = true then e.tm else t) (l.drop (j + 1))) := hid (by rw [HCH.out, hchk, if_neg h1, if_neg h2])
          clear HCH
          have h2' : e.id = 0 ∨ e.id = ((n + 1 : Nat) : Int) := by omega
          obtain ⟨ck, hck⟩ : ∃ x, (e.nth n).chk = x := ⟨_, rfl⟩
          obtain ⟨ob, hob⟩ : ∃ x, outsideB e.k = x := ⟨_, rfl⟩
          obtain ⟨cb, hcb⟩ : ∃ x, closesB e.k = x := ⟨_, rfl⟩
          rw [hck] at HCK HCH2
          rw [hob] at HOU HCH2
          rw [hcb] at HCZ HCH2
          clear hck hob hcb
          have hbE := HBE.out
          have hbX := HBX.out
          rcases h2' with h2' | h2'
          · have hq : (e.id != 0) = false := by simp [h2']
            clear h2 h2' hbE hbX
            go_wp2_with fail
            refine (HCK.out _ (Only.refl _ _)).mono ?_
            rintro x w5 ⟨rfl, ho5⟩
            have HP5 := hid (ho5)
            have hbE := blk_only HBE.out HP5.out (fun e => e)
            have hbX := blk_only HBX.out HP5.out (fun e => e)
            have c0 : w5.cell? ⟨wr.heap.size, 0, none⟩ = some (.int .i64 e.id) := cell_blk hbE 0
            have c1 : w5.cell? ⟨wr.heap.size, 1, none⟩ = some (.int .i64 e.tm) := cell_blk hbE 1
            have c2 : w5.cell? ⟨wr.heap.size, 2, none⟩ = some (.int .i64 e.k) := cell_blk hbE 2
            have c3 : w5.cell? ⟨wr.heap.size, 3, none⟩ = some (.int .i64 e.a) := cell_blk hbE 3
            have c4 : w5.cell? ⟨wr.heap.size, 4, none⟩ = some (.int .i64 e.b) := cell_blk hbE 4
            have c5 : w5.cell? ⟨wr.heap.size, 5, none⟩ = some (.string (strOf e.name)) := cell_blk hbE 5
            have c6 : w5.cell? ⟨wr.heap.size, 6, none⟩ = some (.string (strOf e.text)) := cell_blk hbE 6
            have c7 : w5.cell? ⟨wr.heap.size, 7, none⟩ = some (.int .i64 vk) := cell_blk hbE 7
            have c8 : w5.cell? ⟨wr.heap.size, 8, none⟩ = some (.int .i64 vn) := cell_blk hbE 8
            have c9 : w5.cell? ⟨wr.heap.size, 9, none⟩ = some (.string (strOf vs)) := cell_blk hbE 9
            have c10 : w5.cell? ⟨wr.heap.size, 10, none⟩ = some (.slice va vm vc) := cell_blk hbE 10
            have x0 : w5.cell? ⟨(wr.heap.size + 1), 0, none⟩ = some (.int .i64 (n + 1)) := cell_blk hbX 0
            have x1 : w5.cell? ⟨(wr.heap.size + 1), 1, none⟩ = some (.int .i64 e.tm) := cell_blk hbX 1
            have x2 : w5.cell? ⟨(wr.heap.size + 1), 2, none⟩ = some (.int .i64 e.k) := cell_blk hbX 2
            have x3 : w5.cell? ⟨(wr.heap.size + 1), 3, none⟩ = some (.int .i64 e.a) := cell_blk hbX 3
            have x4 : w5.cell? ⟨(wr.heap.size + 1), 4, none⟩ = some (.int .i64 e.b) := cell_blk hbX 4
            have x5 : w5.cell? ⟨(wr.heap.size + 1), 5, none⟩ = some (.string (strOf e.name)) := cell_blk hbX 5
            have x6 : w5.cell? ⟨(wr.heap.size + 1), 6, none⟩ = some (.string (strOf e.text)) := cell_blk hbX 6
            have x7 : w5.cell? ⟨(wr.heap.size + 1), 7, none⟩ = some (.int .i64 vk) := cell_blk hbX 7
            have x8 : w5.cell? ⟨(wr.heap.size + 1), 8, none⟩ = some (.int .i64 vn) := cell_blk hbX 8
            have x9 : w5.cell? ⟨(wr.heap.size + 1), 9, none⟩ = some (.string (strOf vs)) := cell_blk hbX 9
            have x10 : w5.cell? ⟨(wr.heap.size + 1), 10, none⟩ = some (.slice va vm vc) := cell_blk hbX 10
            have hl5 := HP5.out.size
            clear hbE hbX ho5
            by_cases hck : ck ≠ 0
            · have HR : Hid (hchk cl0 n0 t0 l = ck) := hid (by rw [HCH2.out, if_pos hck])
              have hck2 : ¬ ck = 0 := hck
              clear hck
              go_wp2_with fail
              refine (HCK.out _ HP5.out).mono ?_
              rintro x w6 ⟨rfl, ho6⟩
              have HP6 := hid (HP5.out.trans ho6 (fun _ _ e => e))
              clear ho6
              go_wp2_with fail
              go_ret
              exact ⟨by rw [HCL0.out, HT0.out, HN0.out, HR.out]; rfl, HO2.out.trans HP6.out (fun _ _ e => e)⟩
            · obtain rfl : ck = 0 := Decidable.not_not.1 hck
              clear hck
              have HCH3 := hid (show hchk cl0 n0 t0 l = _ from HCH2.out.trans (if_neg (by simp)))
              cases c with
              | true =>
                have HR : Hid (hchk cl0 n0 t0 l = 181) := hid (by rw [HCH3.out, if_pos rfl])
                go_wp2_with fail
                go_ret
                exact ⟨by rw [HCL0.out, HT0.out, HN0.out, HR.out]; rfl, HO2.out.trans HP5.out (fun _ _ e => e)⟩
              | false =>
                have HCH4 := hid (show hchk cl0 n0 t0 l = _ from HCH3.out.trans (if_neg (by simp)))
                by_cases hs : (n = 0 ∧ e.k ≠ 1) ∨ (n ≠ 0 ∧ e.k = 1)
                · have HR : Hid (hchk cl0 n0 t0 l = 7) := hid (by rw [HCH4.out, if_pos hs])
                  rcases hs with ⟨ha, hb⟩ | ⟨ha, hb⟩
                  · have a1 : ((n : Int) + 1 == 1) = true := by simp; omega
                    have a2 : decide ((1 : Int) < (n : Int) + 1) = false := by simp; omega
                    have a3 : decide ((0 : Int) < (n : Int)) = false := by simp; omega
                    have a4 : n ≤ 0 := by omega
                    have b1 : (e.k == 1) = false := by simpa using hb
                    have b2 : (e.k != 1) = true := by simpa using hb
                    clear ha hb
                    go_wp2_with fail
                    go_ret
                    exact ⟨by rw [HCL0.out, HT0.out, HN0.out, HR.out]; rfl, HO2.out.trans HP5.out (fun _ _ e => e)⟩
                  · have a1 : ((n : Int) + 1 == 1) = false := by simp; omega
                    have a2 : decide ((1 : Int) < (n : Int) + 1) = true := by simp; omega
                    have a3 : decide ((0 : Int) < (n : Int)) = true := by simp; omega
                    have a4 : 0 < n := by omega
                    have b1 : (e.k == 1) = true := by simpa using hb
                    have b2 : (e.k != 1) = false := by simpa using hb
                    clear ha hb
                    go_wp2_with fail
                    go_ret
                    exact ⟨by rw [HCL0.out, HT0.out, HN0.out, HR.out]; rfl, HO2.out.trans HP5.out (fun _ _ e => e)⟩
                · have HCH5 := hid (show hchk cl0 n0 t0 l = _ from HCH4.out.trans (if_neg hs))
                  have hb3 : e.k = 1 ↔ n = 0 := ⟨fun h => by omega, fun h => by omega⟩
                  have hor : (n = 0 ∧ e.k = 1) ∨ (n ≠ 0 ∧ e.k ≠ 1) := by omega
                  clear hs hb3
                  rcases hor with ⟨ha, hb⟩ | ⟨ha, hb⟩
                  · have a1 : ((n : Int) + 1 == 1) = true := by simp; omega
                    have a2 : decide ((1 : Int) < (n : Int) + 1) = false := by simp; omega
                    have a3 : decide ((0 : Int) < (n : Int)) = false := by simp; omega
                    have a4 : n ≤ 0 := by omega
                    have b1 : (e.k == 1) = true := by simpa using hb
                    have b2 : (e.k != 1) = false := by simpa using hb
                    clear ha hb
                    go_wp2_with fail
                    refine (HOU.out _ HP5.out).mono ?_
                    rintro x w6 ⟨rfl, ho6⟩
                    have HP6 := hid (HP5.out.trans ho6 (fun _ _ e => e))
                    clear c0 c1 c2 c3 c4 c5 c6 c7 c8 c9 c10 x0 x1 x2 x3 x4 x5 x6 x7 x8 x9 x10
                    have hbE := blk_only HBE.out HP6.out (fun e => e)
                    have hbX := blk_only HBX.out HP6.out (fun e => e)
                    have c0 : w6.cell? ⟨wr.heap.size, 0, none⟩ = some (.int .i64 e.id) := cell_blk hbE 0
                    have c1 : w6.cell? ⟨wr.heap.size, 1, none⟩ = some (.int .i64 e.tm) := cell_blk hbE 1
                    have c2 : w6.cell? ⟨wr.heap.size, 2, none⟩ = some (.int .i64 e.k) := cell_blk hbE 2
                    have c3 : w6.cell? ⟨wr.heap.size, 3, none⟩ = some (.int .i64 e.a) := cell_blk hbE 3
                    have c4 : w6.cell? ⟨wr.heap.size, 4, none⟩ = some (.int .i64 e.b) := cell_blk hbE 4
                    have c5 : w6.cell? ⟨wr.heap.size, 5, none⟩ = some (.string (strOf e.name)) := cell_blk hbE 5
                    have c6 : w6.cell? ⟨wr.heap.size, 6, none⟩ = some (.string (strOf e.text)) := cell_blk hbE 6
                    have c7 : w6.cell? ⟨wr.heap.size, 7, none⟩ = some (.int .i64 vk) := cell_blk hbE 7
                    have c8 : w6.cell? ⟨wr.heap.size, 8, none⟩ = some (.int .i64 vn) := cell_blk hbE 8
                    have c9 : w6.cell? ⟨wr.heap.size, 9, none⟩ = some (.string (strOf vs)) := cell_blk hbE 9
                    have c10 : w6.cell? ⟨wr.heap.size, 10, none⟩ = some (.slice va vm vc) := cell_blk hbE 10
                    have x0 : w6.cell? ⟨(wr.heap.size + 1), 0, none⟩ = some (.int .i64 (n + 1)) := cell_blk hbX 0
                    have x1 : w6.cell? ⟨(wr.heap.size + 1), 1, none⟩ = some (.int .i64 e.tm) := cell_blk hbX 1
                    have x2 : w6.cell? ⟨(wr.heap.size + 1), 2, none⟩ = some (.int .i64 e.k) := cell_blk hbX 2
                    have x3 : w6.cell? ⟨(wr.heap.size + 1), 3, none⟩ = some (.int .i64 e.a) := cell_blk hbX 3
                    have x4 : w6.cell? ⟨(wr.heap.size + 1), 4, none⟩ = some (.int .i64 e.b) := cell_blk hbX 4
                    have x5 : w6.cell? ⟨(wr.heap.size + 1), 5, none⟩ = some (.string (strOf e.name)) := cell_blk hbX 5
                    have x6 : w6.cell? ⟨(wr.heap.size + 1), 6, none⟩ = some (.string (strOf e.text)) := cell_blk hbX 6
                    have x7 : w6.cell? ⟨(wr.heap.size + 1), 7, none⟩ = some (.int .i64 vk) := cell_blk hbX 7
                    have x8 : w6.cell? ⟨(wr.heap.size + 1), 8, none⟩ = some (.int .i64 vn) := cell_blk hbX 8
                    have x9 : w6.cell? ⟨(wr.heap.size + 1), 9, none⟩ = some (.string (strOf vs)) := cell_blk hbX 9
                    have x10 : w6.cell? ⟨(wr.heap.size + 1), 10, none⟩ = some (.slice va vm vc) := cell_blk hbX 10
                    have hl6 := HP6.out.size
                    clear hbE hbX ho6
                    cases ob with
                    | false =>
                      have HR : Hid (hchk cl0 n0 t0 l = hchk cb (n + 1) t (l.drop (j + 1))) := hid (by rw [HCH5.out]; simp)
                      go_wp2_with fail
                      refine (HOU.out _ HP6.out).mono ?_
                      rintro x w7 ⟨rfl, ho7⟩
                      have HP7 := hid (HP6.out.trans ho7 (fun _ _ e => e))
                      clear c0 c1 c2 c3 c4 c5 c6 c7 c8 c9 c10 x0 x1 x2 x3 x4 x5 x6 x7 x8 x9 x10
                      have hbE := blk_only HBE.out HP7.out (fun e => e)
                      have hbX := blk_only HBX.out HP7.out (fun e => e)
                      have c0 : w7.cell? ⟨wr.heap.size, 0, none⟩ = some (.int .i64 e.id) := cell_blk hbE 0
                      have c1 : w7.cell? ⟨wr.heap.size, 1, none⟩ = some (.int .i64 e.tm) := cell_blk hbE 1
                      have c2 : w7.cell? ⟨wr.heap.size, 2, none⟩ = some (.int .i64 e.k) := cell_blk hbE 2
                      have c3 : w7.cell? ⟨wr.heap.size, 3, none⟩ = some (.int .i64 e.a) := cell_blk hbE 3
                      have c4 : w7.cell? ⟨wr.heap.size, 4, none⟩ = some (.int .i64 e.b) := cell_blk hbE 4
                      have c5 : w7.cell? ⟨wr.heap.size, 5, none⟩ = some (.string (strOf e.name)) := cell_blk hbE 5
                      have c6 : w7.cell? ⟨wr.heap.size, 6, none⟩ = some (.string (strOf e.text)) := cell_blk hbE 6
                      have c7 : w7.cell? ⟨wr.heap.size, 7, none⟩ = some (.int .i64 vk) := cell_blk hbE 7
                      have c8 : w7.cell? ⟨wr.heap.size, 8, none⟩ = some (.int .i64 vn) := cell_blk hbE 8
                      have c9 : w7.cell? ⟨wr.heap.size, 9, none⟩ = some (.string (strOf vs)) := cell_blk hbE 9
                      have c10 : w7.cell? ⟨wr.heap.size, 10, none⟩ = some (.slice va vm vc) := cell_blk hbE 10
                      have x0 : w7.cell? ⟨(wr.heap.size + 1), 0, none⟩ = some (.int .i64 (n + 1)) := cell_blk hbX 0
                      have x1 : w7.cell? ⟨(wr.heap.size + 1), 1, none⟩ = some (.int .i64 e.tm) := cell_blk hbX 1
                      have x2 : w7.cell? ⟨(wr.heap.size + 1), 2, none⟩ = some (.int .i64 e.k) := cell_blk hbX 2
                      have x3 : w7.cell? ⟨(wr.heap.size + 1), 3, none⟩ = some (.int .i64 e.a) := cell_blk hbX 3
                      have x4 : w7.cell? ⟨(wr.heap.size + 1), 4, none⟩ = some (.int .i64 e.b) := cell_blk hbX 4
                      have x5 : w7.cell? ⟨(wr.heap.size + 1), 5, none⟩ = some (.string (strOf e.name)) := cell_blk hbX 5
                      have x6 : w7.cell? ⟨(wr.heap.size + 1), 6, none⟩ = some (.string (strOf e.text)) := cell_blk hbX 6
                      have x7 : w7.cell? ⟨(wr.heap.size + 1), 7, none⟩ = some (.int .i64 vk) := cell_blk hbX 7
                      have x8 : w7.cell? ⟨(wr.heap.size + 1), 8, none⟩ = some (.int .i64 vn) := cell_blk hbX 8
                      have x9 : w7.cell? ⟨(wr.heap.size + 1), 9, none⟩ = some (.string (strOf vs)) := cell_blk hbX 9
                      have x10 : w7.cell? ⟨(wr.heap.size + 1), 10, none⟩ = some (.slice va vm vc) := cell_blk hbX 10
                      have hl7 := HP7.out.size
                      clear hbE hbX ho7
                      go_wp2_with fail
                      refine (HCZ.out _ HP7.out).mono ?_
                      rintro x w8 ⟨rfl, ho8⟩
                      have HP8 := hid (HP7.out.trans ho8 (fun _ _ e => e))
                      clear c0 c1 c2 c3 c4 c5 c6 c7 c8 c9 c10 x0 x1 x2 x3 x4 x5 x6 x7 x8 x9 x10
                      have hbE := blk_only HBE.out HP8.out (fun e => e)
                      have hbX := blk_only HBX.out HP8.out (fun e => e)
                      have c0 : w8.cell? ⟨wr.heap.size, 0, none⟩ = some (.int .i64 e.id) := cell_blk hbE 0
                      have c1 : w8.cell? ⟨wr.heap.size, 1, none⟩ = some (.int .i64 e.tm) := cell_blk hbE 1
                      have c2 : w8.cell? ⟨wr.heap.size, 2, none⟩ = some (.int .i64 e.k) := cell_blk hbE 2
                      have c3 : w8.cell? ⟨wr.heap.size, 3, none⟩ = some (.int .i64 e.a) := cell_blk hbE 3
                      have c4 : w8.cell? ⟨wr.heap.size, 4, none⟩ = some (.int .i64 e.b) := cell_blk hbE 4
                      have c5 : w8.cell? ⟨wr.heap.size, 5, none⟩ = some (.string (strOf e.name)) := cell_blk hbE 5
                      have c6 : w8.cell? ⟨wr.heap.size, 6, none⟩ = some (.string (strOf e.text)) := cell_blk hbE 6
                      have c7 : w8.cell? ⟨wr.heap.size, 7, none⟩ = some (.int .i64 vk) := cell_blk hbE 7
                      have c8 : w8.cell? ⟨wr.heap.size, 8, none⟩ = some (.int .i64 vn) := cell_blk hbE 8
                      have c9 : w8.cell? ⟨wr.heap.size, 9, none⟩ = some (.string (strOf vs)) := cell_blk hbE 9
                      have c10 : w8.cell? ⟨wr.heap.size, 10, none⟩ = some (.slice va vm vc) := cell_blk hbE 10
                      have x0 : w8.cell? ⟨(wr.heap.size + 1), 0, none⟩ = some (.int .i64 (n + 1)) := cell_blk hbX 0
                      have x1 : w8.cell? ⟨(wr.heap.size + 1), 1, none⟩ = some (.int .i64 e.tm) := cell_blk hbX 1
                      have x2 : w8.cell? ⟨(wr.heap.size + 1), 2, none⟩ = some (.int .i64 e.k) := cell_blk hbX 2
                      have x3 : w8.cell? ⟨(wr.heap.size + 1), 3, none⟩ = some (.int .i64 e.a) := cell_blk hbX 3
                      have x4 : w8.cell? ⟨(wr.heap.size + 1), 4, none⟩ = some (.int .i64 e.b) := cell_blk hbX 4
                      have x5 : w8.cell? ⟨(wr.heap.size + 1), 5, none⟩ = some (.string (strOf e.name)) := cell_blk hbX 5
                      have x6 : w8.cell? ⟨(wr.heap.size + 1), 6, none⟩ = some (.string (strOf e.text)) := cell_blk hbX 6
                      have x7 : w8.cell? ⟨(wr.heap.size + 1), 7, none⟩ = some (.int .i64 vk) := cell_blk hbX 7
                      have x8 : w8.cell? ⟨(wr.heap.size + 1), 8, none⟩ = some (.int .i64 vn) := cell_blk hbX 8
                      have x9 : w8.cell? ⟨(wr.heap.size + 1), 9, none⟩ = some (.string (strOf vs)) := cell_blk hbX 9
                      have x10 : w8.cell? ⟨(wr.heap.size + 1), 10, none⟩ = some (.slice va vm vc) := cell_blk hbX 10
                      have hl8 := HP8.out.size
                      clear hbE hbX ho8
                      go_wp2_with fail
                      go_roundw
                      case rel => exact ⟨j + 1, n + 1, cb, t, by go_num, by omega, rfl, by have := HNJ.out; omega, rfl, rfl, HR.out, HO2.out.trans HP8.out (fun _ _ e => e)⟩
                      case measure => simp [intOf]; omega
                    | true =>
                      by_cases h6 : e.tm < t
                      · have HR : Hid (hchk cl0 n0 t0 l = 1) := hid (by rw [HCH5.out, if_pos ⟨rfl, h6⟩])
                        go_wp2_with fail
                        go_ret
                        exact ⟨by rw [HCL0.out, HT0.out, HN0.out, HR.out]; rfl, HO2.out.trans HP6.out (fun _ _ e => e)⟩
                      · have HR : Hid (hchk cl0 n0 t0 l = hchk cb (n + 1) e.tm (l.drop (j + 1))) := hid (by rw [HCH5.out, if_neg (fun h => h6 h.2), if_pos rfl])
                        go_wp2_with fail
                        refine (HOU.out _ HP6.out).mono ?_
                        rintro x w7 ⟨rfl, ho7⟩
                        have HP7 := hid (HP6.out.trans ho7 (fun _ _ e => e))
                        clear c0 c1 c2 c3 c4 c5 c6 c7 c8 c9 c10 x0 x1 x2 x3 x4 x5 x6 x7 x8 x9 x10
                        have hbE := blk_only HBE.out HP7.out (fun e => e)
                        have hbX := blk_only HBX.out HP7.out (fun e => e)
                        have c0 : w7.cell? ⟨wr.heap.size, 0, none⟩ = some (.int .i64 e.id) := cell_blk hbE 0
                        have c1 : w7.cell? ⟨wr.heap.size, 1, none⟩ = some (.int .i64 e.tm) := cell_blk hbE 1
                        have c2 : w7.cell? ⟨wr.heap.size, 2, none⟩ = some (.int .i64 e.k) := cell_blk hbE 2
                        have c3 : w7.cell? ⟨wr.heap.size, 3, none⟩ = some (.int .i64 e.a) := cell_blk hbE 3
                        have c4 : w7.cell? ⟨wr.heap.size, 4, none⟩ = some (.int .i64 e.b) := cell_blk hbE 4
                        have c5 : w7.cell? ⟨wr.heap.size, 5, none⟩ = some (.string (strOf e.name)) := cell_blk hbE 5
                        have c6 : w7.cell? ⟨wr.heap.size, 6, none⟩ = some (.string (strOf e.text)) := cell_blk hbE 6
                        have c7 : w7.cell? ⟨wr.heap.size, 7, none⟩ = some (.int .i64 vk) := cell_blk hbE 7
                        have c8 : w7.cell? ⟨wr.heap.size, 8, none⟩ = some (.int .i64 vn) := cell_blk hbE 8
                        have c9 : w7.cell? ⟨wr.heap.size, 9, none⟩ = some (.string (strOf vs)) := cell_blk hbE 9
                        have c10 : w7.cell? ⟨wr.heap.size, 10, none⟩ = some (.slice va vm vc) := cell_blk hbE 10
                        have x0 : w7.cell? ⟨(wr.heap.size + 1), 0, none⟩ = some (.int .i64 (n + 1)) := cell_blk hbX 0
                        have x1 : w7.cell? ⟨(wr.heap.size + 1), 1, none⟩ = some (.int .i64 e.tm) := cell_blk hbX 1
                        have x2 : w7.cell? ⟨(wr.heap.size + 1), 2, none⟩ = some (.int .i64 e.k) := cell_blk hbX 2
                        have x3 : w7.cell? ⟨(wr.heap.size + 1), 3, none⟩ = some (.int .i64 e.a) := cell_blk hbX 3
                        have x4 : w7.cell? ⟨(wr.heap.size + 1), 4, none⟩ = some (.int .i64 e.b) := cell_blk hbX 4
                        have x5 : w7.cell? ⟨(wr.heap.size + 1), 5, none⟩ = some (.string (strOf e.name)) := cell_blk hbX 5
                        have x6 : w7.cell? ⟨(wr.heap.size + 1), 6, none⟩ = some (.string (strOf e.text)) := cell_blk hbX 6
                        have x7 : w7.cell? ⟨(wr.heap.size + 1), 7, none⟩ = some (.int .i64 vk) := cell_blk hbX 7
                        have x8 : w7.cell? ⟨(wr.heap.size + 1), 8, none⟩ = some (.int .i64 vn) := cell_blk hbX 8
                        have x9 : w7.cell? ⟨(wr.heap.size + 1), 9, none⟩ = some (.string (strOf vs)) := cell_blk hbX 9
                        have x10 : w7.cell? ⟨(wr.heap.size + 1), 10, none⟩ = some (.slice va vm vc) := cell_blk hbX 10
                        have hl7 := HP7.out.size
                        clear hbE hbX ho7
                        go_wp2_with fail
                        refine (HCZ.out _ HP7.out).mono ?_
                        rintro x w8 ⟨rfl, ho8⟩
                        have HP8 := hid (HP7.out.trans ho8 (fun _ _ e => e))
                        clear c0 c1 c2 c3 c4 c5 c6 c7 c8 c9 c10 x0 x1 x2 x3 x4 x5 x6 x7 x8 x9 x10
                        have hbE := blk_only HBE.out HP8.out (fun e => e)
                        have hbX := blk_only HBX.out HP8.out (fun e => e)
                        have c0 : w8.cell? ⟨wr.heap.size, 0, none⟩ = some (.int .i64 e.id) := cell_blk hbE 0
                        have c1 : w8.cell? ⟨wr.heap.size, 1, none⟩ = some (.int .i64 e.tm) := cell_blk hbE 1
                        have c2 : w8.cell? ⟨wr.heap.size, 2, none⟩ = some (.int .i64 e.k) := cell_blk hbE 2
                        have c3 : w8.cell? ⟨wr.heap.size, 3, none⟩ = some (.int .i64 e.a) := cell_blk hbE 3
                        have c4 : w8.cell? ⟨wr.heap.size, 4, none⟩ = some (.int .i64 e.b) := cell_blk hbE 4
                        have c5 : w8.cell? ⟨wr.heap.size, 5, none⟩ = some (.string (strOf e.name)) := cell_blk hbE 5
                        have c6 : w8.cell? ⟨wr.heap.size, 6, none⟩ = some (.string (strOf e.text)) := cell_blk hbE 6
                        have c7 : w8.cell? ⟨wr.heap.size, 7, none⟩ = some (.int .i64 vk) := cell_blk hbE 7
                        have c8 : w8.cell? ⟨wr.heap.size, 8, none⟩ = some (.int .i64 vn) := cell_blk hbE 8
                        have c9 : w8.cell? ⟨wr.heap.size, 9, none⟩ = some (.string (strOf vs)) := cell_blk hbE 9
                        have c10 : w8.cell? ⟨wr.heap.size, 10, none⟩ = some (.slice va vm vc) := cell_blk hbE 10
                        have x0 : w8.cell? ⟨(wr.heap.size + 1), 0, none⟩ = some (.int .i64 (n + 1)) := cell_blk hbX 0
                        have x1 : w8.cell? ⟨(wr.heap.size + 1), 1, none⟩ = some (.int .i64 e.tm) := cell_blk hbX 1
                        have x2 : w8.cell? ⟨(wr.heap.size + 1), 2, none⟩ = some (.int .i64 e.k) := cell_blk hbX 2
                        have x3 : w8.cell? ⟨(wr.heap.size + 1), 3, none⟩ = some (.int .i64 e.a) := cell_blk hbX 3
                        have x4 : w8.cell? ⟨(wr.heap.size + 1), 4, none⟩ = some (.int .i64 e.b) := cell_blk hbX 4
                        have x5 : w8.cell? ⟨(wr.heap.size + 1), 5, none⟩ = some (.string (strOf e.name)) := cell_blk hbX 5
                        have x6 : w8.cell? ⟨(wr.heap.size + 1), 6, none⟩ = some (.string (strOf e.text)) := cell_blk hbX 6
                        have x7 : w8.cell? ⟨(wr.heap.size + 1), 7, none⟩ = some (.int .i64 vk) := cell_blk hbX 7
                        have x8 : w8.cell? ⟨(wr.heap.size + 1), 8, none⟩ = some (.int .i64 vn) := cell_blk hbX 8
                        have x9 : w8.cell? ⟨(wr.heap.size + 1), 9, none⟩ = some (.string (strOf vs)) := cell_blk hbX 9
                        have x10 : w8.cell? ⟨(wr.heap.size + 1), 10, none⟩ = some (.slice va vm vc) := cell_blk hbX 10
                        have hl8 := HP8.out.size
                        clear hbE hbX ho8
                        go_wp2_with fail
                        go_roundw
                        case rel => exact ⟨j + 1, n + 1, cb, e.tm, by go_num, by omega, rfl, by have := HNJ.out; omega, rfl, rfl, HR.out, HO2.out.trans HP8.out (fun _ _ e => e)⟩
                        case measure => simp [intOf]; omega
                  · have a1 : ((n : Int) + 1 == 1) = false := by simp; omega
                    have a2 : decide ((1 : Int) < (n : Int) + 1) = true := by simp; omega
                    have a3 : decide ((0 : Int) < (n : Int)) = true := by simp; omega
                    have a4 : 0 < n := by omega
                    have b1 : (e.k == 1) = false := by simpa using hb
                    have b2 : (e.k != 1) = true := by simpa using hb
                    clear ha hb
                    go_wp2_with fail
                    refine (HOU.out _ HP5.out).mono ?_
                    rintro x w6 ⟨rfl, ho6⟩
                    have HP6 := hid (HP5.out.trans ho6 (fun _ _ e => e))
                    clear c0 c1 c2 c3 c4 c5 c6 c7 c8 c9 c10 x0 x1 x2 x3 x4 x5 x6 x7 x8 x9 x10
                    have hbE := blk_only HBE.out HP6.out (fun e => e)
                    have hbX := blk_only HBX.out HP6.out (fun e => e)
                    have c0 : w6.cell? ⟨wr.heap.size, 0, none⟩ = some (.int .i64 e.id) := cell_blk hbE 0
                    have c1 : w6.cell? ⟨wr.heap.size, 1, none⟩ = some (.int .i64 e.tm) := cell_blk hbE 1
                    have c2 : w6.cell? ⟨wr.heap.size, 2, none⟩ = some (.int .i64 e.k) := cell_blk hbE 2
                    have c3 : w6.cell? ⟨wr.heap.size, 3, none⟩ = some (.int .i64 e.a) := cell_blk hbE 3
                    have c4 : w6.cell? ⟨wr.heap.size, 4, none⟩ = some (.int .i64 e.b) := cell_blk hbE 4
                    have c5 : w6.cell? ⟨wr.heap.size, 5, none⟩ = some (.string (strOf e.name)) := cell_blk hbE 5
                    have c6 : w6.cell? ⟨wr.heap.size, 6, none⟩ = some (.string (strOf e.text)) := cell_blk hbE 6
                    have c7 : w6.cell? ⟨wr.heap.size, 7, none⟩ = some (.int .i64 vk) := cell_blk hbE 7
                    have c8 : w6.cell? ⟨wr.heap.size, 8, none⟩ = some (.int .i64 vn) := cell_blk hbE 8
                    have c9 : w6.cell? ⟨wr.heap.size, 9, none⟩ = some (.string (strOf vs)) := cell_blk hbE 9
                    have c10 : w6.cell? ⟨wr.heap.size, 10, none⟩ = some (.slice va vm vc) := cell_blk hbE 10
                    have x0 : w6.cell? ⟨(wr.heap.size + 1), 0, none⟩ = some (.int .i64 (n + 1)) := cell_blk hbX 0
                    have x1 : w6.cell? ⟨(wr.heap.size + 1), 1, none⟩ = some (.int .i64 e.tm) := cell_blk hbX 1
                    have x2 : w6.cell? ⟨(wr.heap.size + 1), 2, none⟩ = some (.int .i64 e.k) := cell_blk hbX 2
                    have x3 : w6.cell? ⟨(wr.heap.size + 1), 3, none⟩ = some (.int .i64 e.a) := cell_blk hbX 3
                    have x4 : w6.cell? ⟨(wr.heap.size + 1), 4, none⟩ = some (.int .i64 e.b) := cell_blk hbX 4
                    have x5 : w6.cell? ⟨(wr.heap.size + 1), 5, none⟩ = some (.string (strOf e.name)) := cell_blk hbX 5
                    have x6 : w6.cell? ⟨(wr.heap.size + 1), 6, none⟩ = some (.string (strOf e.text)) := cell_blk hbX 6
                    have x7 : w6.cell? ⟨(wr.heap.size + 1), 7, none⟩ = some (.int .i64 vk) := cell_blk hbX 7
                    have x8 : w6.cell? ⟨(wr.heap.size + 1), 8, none⟩ = some (.int .i64 vn) := cell_blk hbX 8
                    have x9 : w6.cell? ⟨(wr.heap.size + 1), 9, none⟩ = some (.string (strOf vs)) := cell_blk hbX 9
                    have x10 : w6.cell? ⟨(wr.heap.size + 1), 10, none⟩ = some (.slice va vm vc) := cell_blk hbX 10
                    have hl6 := HP6.out.size
                    clear hbE hbX ho6
                    cases ob with
                    | false =>
                      have HR : Hid (hchk cl0 n0 t0 l = hchk cb (n + 1) t (l.drop (j + 1))) := hid (by rw [HCH5.out]; simp)
                      go_wp2_with fail
                      refine (HOU.out _ HP6.out).mono ?_
                      rintro x w7 ⟨rfl, ho7⟩
                      have HP7 := hid (HP6.out.trans ho7 (fun _ _ e => e))
                      clear c0 c1 c2 c3 c4 c5 c6 c7 c8 c9 c10 x0 x1 x2 x3 x4 x5 x6 x7 x8 x9 x10
                      have hbE := blk_only HBE.out HP7.out (fun e => e)
                      have hbX := blk_only HBX.out HP7.out (fun e => e)
                      have c0 : w7.cell? ⟨wr.heap.size, 0, none⟩ = some (.int .i64 e.id) := cell_blk hbE 0
                      have c1 : w7.cell? ⟨wr.heap.size, 1, none⟩ = some (.int .i64 e.tm) := cell_blk hbE 1
                      have c2 : w7.cell? ⟨wr.heap.size, 2, none⟩ = some (.int .i64 e.k) := cell_blk hbE 2
                      have c3 : w7.cell? ⟨wr.heap.size, 3, none⟩ = some (.int .i64 e.a) := cell_blk hbE 3
                      have c4 : w7.cell? ⟨wr.heap.size, 4, none⟩ = some (.int .i64 e.b) := cell_blk hbE 4
                      have c5 : w7.cell? ⟨wr.heap.size, 5, none⟩ = some (.string (strOf e.name)) := cell_blk hbE 5
                      have c6 : w7.cell? ⟨wr.heap.size, 6, none⟩ = some (.string (strOf e.text)) := cell_blk hbE 6
                      have c7 : w7.cell? ⟨wr.heap.size, 7, none⟩ = some (.int .i64 vk) := cell_blk hbE 7
                      have c8 : w7.cell? ⟨wr.heap.size, 8, none⟩ = some (.int .i64 vn) := cell_blk hbE 8
                      have c9 : w7.cell? ⟨wr.heap.size, 9, none⟩ = some (.string (strOf vs)) := cell_blk hbE 9
                      have c10 : w7.cell? ⟨wr.heap.size, 10, none⟩ = some (.slice va vm vc) := cell_blk hbE 10
                      have x0 : w7.cell? ⟨(wr.heap.size + 1), 0, none⟩ = some (.int .i64 (n + 1)) := cell_blk hbX 0
                      have x1 : w7.cell? ⟨(wr.heap.size + 1), 1, none⟩ = some (.int .i64 e.tm) := cell_blk hbX 1
                      have x2 : w7.cell? ⟨(wr.heap.size + 1), 2, none⟩ = some (.int .i64 e.k) := cell_blk hbX 2
                      have x3 : w7.cell? ⟨(wr.heap.size + 1), 3, none⟩ = some (.int .i64 e.a) := cell_blk hbX 3
                      have x4 : w7.cell? ⟨(wr.heap.size + 1), 4, none⟩ = some (.int .i64 e.b) := cell_blk hbX 4
                      have x5 : w7.cell? ⟨(wr.heap.size + 1), 5, none⟩ = some (.string (strOf e.name)) := cell_blk hbX 5
                      have x6 : w7.cell? ⟨(wr.heap.size + 1), 6, none⟩ = some (.string (strOf e.text)) := cell_blk hbX 6
                      have x7 : w7.cell? ⟨(wr.heap.size + 1), 7, none⟩ = some (.int .i64 vk) := cell_blk hbX 7
                      have x8 : w7.cell? ⟨(wr.heap.size + 1), 8, none⟩ = some (.int .i64 vn) := cell_blk hbX 8
                      have x9 : w7.cell? ⟨(wr.heap.size + 1), 9, none⟩ = some (.string (strOf vs)) := cell_blk hbX 9
                      have x10 : w7.cell? ⟨(wr.heap.size + 1), 10, none⟩ = some (.slice va vm vc) := cell_blk hbX 10
                      have hl7 := HP7.out.size
                      clear hbE hbX ho7
                      go_wp2_with fail
                      refine (HCZ.out _ HP7.out).mono ?_
                      rintro x w8 ⟨rfl, ho8⟩
                      have HP8 := hid (HP7.out.trans ho8 (fun _ _ e => e))
                      clear c0 c1 c2 c3 c4 c5 c6 c7 c8 c9 c10 x0 x1 x2 x3 x4 x5 x6 x7 x8 x9 x10
                      have hbE := blk_only HBE.out HP8.out (fun e => e)
                      have hbX := blk_only HBX.out HP8.out (fun e => e)
                      have c0 : w8.cell? ⟨wr.heap.size, 0, none⟩ = some (.int .i64 e.id) := cell_blk hbE 0
                      have c1 : w8.cell? ⟨wr.heap.size, 1, none⟩ = some (.int .i64 e.tm) := cell_blk hbE 1
                      have c2 : w8.cell? ⟨wr.heap.size, 2, none⟩ = some (.int .i64 e.k) := cell_blk hbE 2
                      have c3 : w8.cell? ⟨wr.heap.size, 3, none⟩ = some (.int .i64 e.a) := cell_blk hbE 3
                      have c4 : w8.cell? ⟨wr.heap.size, 4, none⟩ = some (.int .i64 e.b) := cell_blk hbE 4
                      have c5 : w8.cell? ⟨wr.heap.size, 5, none⟩ = some (.string (strOf e.name)) := cell_blk hbE 5
                      have c6 : w8.cell? ⟨wr.heap.size, 6, none⟩ = some (.string (strOf e.text)) := cell_blk hbE 6
                      have c7 : w8.cell? ⟨wr.heap.size, 7, none⟩ = some (.int .i64 vk) := cell_blk hbE 7
                      have c8 : w8.cell? ⟨wr.heap.size, 8, none⟩ = some (.int .i64 vn) := cell_blk hbE 8
                      have c9 : w8.cell? ⟨wr.heap.size, 9, none⟩ = some (.string (strOf vs)) := cell_blk hbE 9
                      have c10 : w8.cell? ⟨wr.heap.size, 10, none⟩ = some (.slice va vm vc) := cell_blk hbE 10
                      have x0 : w8.cell? ⟨(wr.heap.size + 1), 0, none⟩ = some (.int .i64 (n + 1)) := cell_blk hbX 0
                      have x1 : w8.cell? ⟨(wr.heap.size + 1), 1, none⟩ = some (.int .i64 e.tm) := cell_blk hbX 1
                      have x2 : w8.cell? ⟨(wr.heap.size + 1), 2, none⟩ = some (.int .i64 e.k) := cell_blk hbX 2
                      have x3 : w8.cell? ⟨(wr.heap.size + 1), 3, none⟩ = some (.int .i64 e.a) := cell_blk hbX 3
                      have x4 : w8.cell? ⟨(wr.heap.size + 1), 4, none⟩ = some (.int .i64 e.b) := cell_blk hbX 4
                      have x5 : w8.cell? ⟨(wr.heap.size + 1), 5, none⟩ = some (.string (strOf e.name)) := cell_blk hbX 5
                      have x6 : w8.cell? ⟨(wr.heap.size + 1), 6, none⟩ = some (.string (strOf e.text)) := cell_blk hbX 6
                      have x7 : w8.cell? ⟨(wr.heap.size + 1), 7, none⟩ = some (.int .i64 vk) := cell_blk hbX 7
                      have x8 : w8.cell? ⟨(wr.heap.size + 1), 8, none⟩ = some (.int .i64 vn) := cell_blk hbX 8
                      have x9 : w8.cell? ⟨(wr.heap.size + 1), 9, none⟩ = some (.string (strOf vs)) := cell_blk hbX 9
                      have x10 : w8.cell? ⟨(wr.heap.size + 1), 10, none⟩ = some (.slice va vm vc) := cell_blk hbX 10
                      have hl8 := HP8.out.size
                      clear hbE hbX ho8
                      go_wp2_with fail
                      go_roundw
                      case rel => exact ⟨j + 1, n + 1, cb, t, by go_num, by omega, rfl, by have := HNJ.out; omega, rfl, rfl, HR.out, HO2.out.trans HP8.out (fun _ _ e => e)⟩
                      case measure => simp [intOf]; omega
                    | true =>
                      by_cases h6 : e.tm < t
                      · have HR : Hid (hchk cl0 n0 t0 l = 1) := hid (by rw [HCH5.out, if_pos ⟨rfl, h6⟩])
                        go_wp2_with fail
                        go_ret
                        exact ⟨by rw [HCL0.out, HT0.out, HN0.out, HR.out]; rfl, HO2.out.trans HP6.out (fun _ _ e => e)⟩
                      · have HR : Hid (hchk cl0 n0 t0 l = hchk cb (n + 1) e.tm (l.drop (j + 1))) := hid (by rw [HCH5.out, if_neg (fun h => h6 h.2), if_pos rfl])
                        go_wp2_with fail
                        refine (HOU.out _ HP6.out).mono ?_
                        rintro x w7 ⟨rfl, ho7⟩
                        have HP7 := hid (HP6.out.trans ho7 (fun _ _ e => e))
                        clear c0 c1 c2 c3 c4 c5 c6 c7 c8 c9 c10 x0 x1 x2 x3 x4 x5 x6 x7 x8 x9 x10
                        have hbE := blk_only HBE.out HP7.out (fun e => e)
                        have hbX := blk_only HBX.out HP7.out (fun e => e)
                        have c0 : w7.cell? ⟨wr.heap.size, 0, none⟩ = some (.int .i64 e.id) := cell_blk hbE 0
                        have c1 : w7.cell? ⟨wr.heap.size, 1, none⟩ = some (.int .i64 e.tm) := cell_blk hbE 1
                        have c2 : w7.cell? ⟨wr.heap.size, 2, none⟩ = some (.int .i64 e.k) := cell_blk hbE 2
                        have c3 : w7.cell? ⟨wr.heap.size, 3, none⟩ = some (.int .i64 e.a) := cell_blk hbE 3
                        have c4 : w7.cell? ⟨wr.heap.size, 4, none⟩ = some (.int .i64 e.b) := cell_blk hbE 4
                        have c5 : w7.cell? ⟨wr.heap.size, 5, none⟩ = some (.string (strOf e.name)) := cell_blk hbE 5
                        have c6 : w7.cell? ⟨wr.heap.size, 6, none⟩ = some (.string (strOf e.text)) := cell_blk hbE 6
                        have c7 : w7.cell? ⟨wr.heap.size, 7, none⟩ = some (.int .i64 vk) := cell_blk hbE 7
                        have c8 : w7.cell? ⟨wr.heap.size, 8, none⟩ = some (.int .i64 vn) := cell_blk hbE 8
                        have c9 : w7.cell? ⟨wr.heap.size, 9, none⟩ = some (.string (strOf vs)) := cell_blk hbE 9
                        have c10 : w7.cell? ⟨wr.heap.size, 10, none⟩ = some (.slice va vm vc) := cell_blk hbE 10
                        have x0 : w7.cell? ⟨(wr.heap.size + 1), 0, none⟩ = some (.int .i64 (n + 1)) := cell_blk hbX 0
                        have x1 : w7.cell? ⟨(wr.heap.size + 1), 1, none⟩ = some (.int .i64 e.tm) := cell_blk hbX 1
                        have x2 : w7.cell? ⟨(wr.heap.size + 1), 2, none⟩ = some (.int .i64 e.k) := cell_blk hbX 2
                        have x3 : w7.cell? ⟨(wr.heap.size + 1), 3, none⟩ = some (.int .i64 e.a) := cell_blk hbX 3
                        have x4 : w7.cell? ⟨(wr.heap.size + 1), 4, none⟩ = some (.int .i64 e.b) := cell_blk hbX 4
                        have x5 : w7.cell? ⟨(wr.heap.size + 1), 5, none⟩ = some (.string (strOf e.name)) := cell_blk hbX 5
                        have x6 : w7.cell? ⟨(wr.heap.size + 1), 6, none⟩ = some (.string (strOf e.text)) := cell_blk hbX 6
                        have x7 : w7.cell? ⟨(wr.heap.size + 1), 7, none⟩ = some (.int .i64 vk) := cell_blk hbX 7
                        have x8 : w7.cell? ⟨(wr.heap.size + 1), 8, none⟩ = some (.int .i64 vn) := cell_blk hbX 8
                        have x9 : w7.cell? ⟨(wr.heap.size + 1), 9, none⟩ = some (.string (strOf vs)) := cell_blk hbX 9
                        have x10 : w7.cell? ⟨(wr.heap.size + 1), 10, none⟩ = some (.slice va vm vc) := cell_blk hbX 10
                        have hl7 := HP7.out.size
                        clear hbE hbX ho7
                        go_wp2_with fail
                        refine (HCZ.out _ HP7.out).mono ?_
                        rintro x w8 ⟨rfl, ho8⟩
                        have HP8 := hid (HP7.out.trans ho8 (fun _ _ e => e))
                        clear c0 c1 c2 c3 c4 c5 c6 c7 c8 c9 c10 x0 x1 x2 x3 x4 x5 x6 x7 x8 x9 x10
                        have hbE := blk_only HBE.out HP8.out (fun e => e)
                        have hbX := blk_only HBX.out HP8.out (fun e => e)
                        have c0 : w8.cell? ⟨wr.heap.size, 0, none⟩ = some (.int .i64 e.id) := cell_blk hbE 0
                        have c1 : w8.cell? ⟨wr.heap.size, 1, none⟩ = some (.int .i64 e.tm) := cell_blk hbE 1
                        have c2 : w8.cell? ⟨wr.heap.size, 2, none⟩ = some (.int .i64 e.k) := cell_blk hbE 2
                        have c3 : w8.cell? ⟨wr.heap.size, 3, none⟩ = some (.int .i64 e.a) := cell_blk hbE 3
                        have c4 : w8.cell? ⟨wr.heap.size, 4, none⟩ = some (.int .i64 e.b) := cell_blk hbE 4
                        have c5 : w8.cell? ⟨wr.heap.size, 5, none⟩ = some (.string (strOf e.name)) := cell_blk hbE 5
                        have c6 : w8.cell? ⟨wr.heap.size, 6, none⟩ = some (.string (strOf e.text)) := cell_blk hbE 6
                        have c7 : w8.cell? ⟨wr.heap.size, 7, none⟩ = some (.int .i64 vk) := cell_blk hbE 7
                        have c8 : w8.cell? ⟨wr.heap.size, 8, none⟩ = some (.int .i64 vn) := cell_blk hbE 8
                        have c9 : w8.cell? ⟨wr.heap.size, 9, none⟩ = some (.string (strOf vs)) := cell_blk hbE 9
                        have c10 : w8.cell? ⟨wr.heap.size, 10, none⟩ = some (.slice va vm vc) := cell_blk hbE 10
                        have x0 : w8.cell? ⟨(wr.heap.size + 1), 0, none⟩ = some (.int .i64 (n + 1)) := cell_blk hbX 0
                        have x1 : w8.cell? ⟨(wr.heap.size + 1), 1, none⟩ = some (.int .i64 e.tm) := cell_blk hbX 1
                        have x2 : w8.cell? ⟨(wr.heap.size + 1), 2, none⟩ = some (.int .i64 e.k) := cell_blk hbX 2
                        have x3 : w8.cell? ⟨(wr.heap.size + 1), 3, none⟩ = some (.int .i64 e.a) := cell_blk hbX 3
                        have x4 : w8.cell? ⟨(wr.heap.size + 1), 4, none⟩ = some (.int .i64 e.b) := cell_blk hbX 4
                        have x5 : w8.cell? ⟨(wr.heap.size + 1), 5, none⟩ = some (.string (strOf e.name)) := cell_blk hbX 5
                        have x6 : w8.cell? ⟨(wr.heap.size + 1), 6, none⟩ = some (.string (strOf e.text)) := cell_blk hbX 6
                        have x7 : w8.cell? ⟨(wr.heap.size + 1), 7, none⟩ = some (.int .i64 vk) := cell_blk hbX 7
                        have x8 : w8.cell? ⟨(wr.heap.size + 1), 8, none⟩ = some (.int .i64 vn) := cell_blk hbX 8
                        have x9 : w8.cell? ⟨(wr.heap.size + 1), 9, none⟩ = some (.string (strOf vs)) := cell_blk hbX 9
                        have x10 : w8.cell? ⟨(wr.heap.size + 1), 10, none⟩ = some (.slice va vm vc) := cell_blk hbX 10
                        have hl8 := HP8.out.size
                        clear hbE hbX ho8
                        go_wp2_with fail
                        go_roundw
                        case rel => exact ⟨j + 1, n + 1, cb, e.tm, by go_num, by omega, rfl, by have := HNJ.out; omega, rfl, rfl, HR.out, HO2.out.trans HP8.out (fun _ _ e => e)⟩
                        case measure => simp [intOf]; omega
          · have hq : (e.id != (n : Int) + 1) = false := by simp [h2']
            have hq2 : (e.id != 0) = true := by simp; omega
            clear h2 h2' hbE hbX
            go_wp2_with fail
            refine (HCK.out _ (Only.refl _ _)).mono ?_
            rintro x w5 ⟨rfl, ho5⟩
            have HP5 := hid (ho5)
            have hbE := blk_only HBE.out HP5.out (fun e => e)
            have hbX := blk_only HBX.out HP5.out (fun e => e)
            have c0 : w5.cell? ⟨wr.heap.size, 0, none⟩ = some (.int .i64 e.id) := cell_blk hbE 0
            have c1 : w5.cell? ⟨wr.heap.size, 1, none⟩ = some (.int .i64 e.tm) := cell_blk hbE 1
            have c2 : w5.cell? ⟨wr.heap.size, 2, none⟩ = some (.int .i64 e.k) := cell_blk hbE 2
            have c3 : w5.cell? ⟨wr.heap.size, 3, none⟩ = some (.int .i64 e.a) := cell_blk hbE 3
            have c4 : w5.cell? ⟨wr.heap.size, 4, none⟩ = some (.int .i64 e.b) := cell_blk hbE 4
            have c5 : w5.cell? ⟨wr.heap.size, 5, none⟩ = some (.string (strOf e.name)) := cell_blk hbE 5
            have c6 : w5.cell? ⟨wr.heap.size, 6, none⟩ = some (.string (strOf e.text)) := cell_blk hbE 6
            have c7 : w5.cell? ⟨wr.heap.size, 7, none⟩ = some (.int .i64 vk) := cell_blk hbE 7
            have c8 : w5.cell? ⟨wr.heap.size, 8, none⟩ = some (.int .i64 vn) := cell_blk hbE 8
            have c9 : w5.cell? ⟨wr.heap.size, 9, none⟩ = some (.string (strOf vs)) := cell_blk hbE 9
            have c10 : w5.cell? ⟨wr.heap.size, 10, none⟩ = some (.slice va vm vc) := cell_blk hbE 10
            have x0 : w5.cell? ⟨(wr.heap.size + 1), 0, none⟩ = some (.int .i64 (n + 1)) := cell_blk hbX 0
            have x1 : w5.cell? ⟨(wr.heap.size + 1), 1, none⟩ = some (.int .i64 e.tm) := cell_blk hbX 1
            have x2 : w5.cell? ⟨(wr.heap.size + 1), 2, none⟩ = some (.int .i64 e.k) := cell_blk hbX 2
            have x3 : w5.cell? ⟨(wr.heap.size + 1), 3, none⟩ = some (.int .i64 e.a) := cell_blk hbX 3
            have x4 : w5.cell? ⟨(wr.heap.size + 1), 4, none⟩ = some (.int .i64 e.b) := cell_blk hbX 4
            have x5 : w5.cell? ⟨(wr.heap.size + 1), 5, none⟩ = some (.string (strOf e.name)) := cell_blk hbX 5
            have x6 : w5.cell? ⟨(wr.heap.size + 1), 6, none⟩ = some (.string (strOf e.text)) := cell_blk hbX 6
            have x7 : w5.cell? ⟨(wr.heap.size + 1), 7, none⟩ = some (.int .i64 vk) := cell_blk hbX 7
            have x8 : w5.cell? ⟨(wr.heap.size + 1), 8, none⟩ = some (.int .i64 vn) := cell_blk hbX 8
            have x9 : w5.cell? ⟨(wr.heap.size + 1), 9, none⟩ = some (.string (strOf vs)) := cell_blk hbX 9
            have x10 : w5.cell? ⟨(wr.heap.size + 1), 10, none⟩ = some (.slice va vm vc) := cell_blk hbX 10
            have hl5 := HP5.out.size
            clear hbE hbX ho5
            by_cases hck : ck ≠ 0
            · have HR : Hid (hchk cl0 n0 t0 l = ck) := hid (by rw [HCH2.out, if_pos hck])
              have hck2 : ¬ ck = 0 := hck
              clear hck
              go_wp2_with fail
              refine (HCK.out _ HP5.out).mono ?_
              rintro x w6 ⟨rfl, ho6⟩
              have HP6 := hid (HP5.out.trans ho6 (fun _ _ e => e))
              clear ho6
              go_wp2_with fail
              go_ret
              exact ⟨by rw [HCL0.out, HT0.out, HN0.out, HR.out]; rfl, HO2.out.trans HP6.out (fun _ _ e => e)⟩
            · obtain rfl : ck = 0 := Decidable.not_not.1 hck
              clear hck
              have HCH3 := hid (show hchk cl0 n0 t0 l = _ from HCH2.out.trans (if_neg (by simp)))
              cases c with
              | true =>
                have HR : Hid (hchk cl0 n0 t0 l = 181) := hid (by rw [HCH3.out, if_pos rfl])
                go_wp2_with fail
                go_ret
                exact ⟨by rw [HCL0.out, HT0.out, HN0.out, HR.out]; rfl, HO2.out.trans HP5.out (fun _ _ e => e)⟩
              | false =>
                have HCH4 := hid (show hchk cl0 n0 t0 l = _ from HCH3.out.trans (if_neg (by simp)))
                by_cases hs : (n = 0 ∧ e.k ≠ 1) ∨ (n ≠ 0 ∧ e.k = 1)
                · have HR : Hid (hchk cl0 n0 t0 l = 7) := hid (by rw [HCH4.out, if_pos hs])
                  rcases hs with ⟨ha, hb⟩ | ⟨ha, hb⟩
                  · have a1 : ((n : Int) + 1 == 1) = true := by simp; omega
                    have a2 : decide ((1 : Int) < (n : Int) + 1) = false := by simp; omega
                    have a3 : decide ((0 : Int) < (n : Int)) = false := by simp; omega
                    have a4 : n ≤ 0 := by omega
                    have b1 : (e.k == 1) = false := by simpa using hb
                    have b2 : (e.k != 1) = true := by simpa using hb
                    clear ha hb
                    go_wp2_with fail
                    go_ret
                    exact ⟨by rw [HCL0.out, HT0.out, HN0.out, HR.out]; rfl, HO2.out.trans HP5.out (fun _ _ e => e)⟩
                  · have a1 : ((n : Int) + 1 == 1) = false := by simp; omega
                    have a2 : decide ((1 : Int) < (n : Int) + 1) = true := by simp; omega
                    have a3 : decide ((0 : Int) < (n : Int)) = true := by simp; omega
                    have a4 : 0 < n := by omega
                    have b1 : (e.k == 1) = true := by simpa using hb
                    have b2 : (e.k != 1) = false := by simpa using hb
                    clear ha hb
                    go_wp2_with fail
                    go_ret
                    exact ⟨by rw [HCL0.out, HT0.out, HN0.out, HR.out]; rfl, HO2.out.trans HP5.out (fun _ _ e => e)⟩
                · have HCH5 := hid (show hchk cl0 n0 t0 l = _ from HCH4.out.trans (if_neg hs))
                  have hb3 : e.k = 1 ↔ n = 0 := ⟨fun h => by omega, fun h => by omega⟩
                  have hor : (n = 0 ∧ e.k = 1) ∨ (n ≠ 0 ∧ e.k ≠ 1) := by omega
                  clear hs hb3
                  rcases hor with ⟨ha, hb⟩ | ⟨ha, hb⟩
                  · have a1 : ((n : Int) + 1 == 1) = true := by simp; omega
                    have a2 : decide ((1 : Int) < (n : Int) + 1) = false := by simp; omega
                    have a3 : decide ((0 : Int) < (n : Int)) = false := by simp; omega
                    have a4 : n ≤ 0 := by omega
                    have b1 : (e.k == 1) = true := by simpa using hb
                    have b2 : (e.k != 1) = false := by simpa using hb
                    clear ha hb
                    go_wp2_with fail
                    refine (HOU.out _ HP5.out).mono ?_
                    rintro x w6 ⟨rfl, ho6⟩
                    have HP6 := hid (HP5.out.trans ho6 (fun _ _ e => e))
                    clear c0 c1 c2 c3 c4 c5 c6 c7 c8 c9 c10 x0 x1 x2 x3 x4 x5 x6 x7 x8 x9 x10
                    have hbE := blk_only HBE.out HP6.out (fun e => e)
                    have hbX := blk_only HBX.out HP6.out (fun e => e)
                    have c0 : w6.cell? ⟨wr.heap.size, 0, none⟩ = some (.int .i64 e.id) := cell_blk hbE 0
                    have c1 : w6.cell? ⟨wr.heap.size, 1, none⟩ = some (.int .i64 e.tm) := cell_blk hbE 1
                    have c2 : w6.cell? ⟨wr.heap.size, 2, none⟩ = some (.int .i64 e.k) := cell_blk hbE 2
                    have c3 : w6.cell? ⟨wr.heap.size, 3, none⟩ = some (.int .i64 e.a) := cell_blk hbE 3
                    have c4 : w6.cell? ⟨wr.heap.size, 4, none⟩ = some (.int .i64 e.b) := cell_blk hbE 4
                    have c5 : w6.cell? ⟨wr.heap.size, 5, none⟩ = some (.string (strOf e.name)) := cell_blk hbE 5
                    have c6 : w6.cell? ⟨wr.heap.size, 6, none⟩ = some (.string (strOf e.text)) := cell_blk hbE 6
                    have c7 : w6.cell? ⟨wr.heap.size, 7, none⟩ = some (.int .i64 vk) := cell_blk hbE 7
                    have c8 : w6.cell? ⟨wr.heap.size, 8, none⟩ = some (.int .i64 vn) := cell_blk hbE 8
                    have c9 : w6.cell? ⟨wr.heap.size, 9, none⟩ = some (.string (strOf vs)) := cell_blk hbE 9
                    have c10 : w6.cell? ⟨wr.heap.size, 10, none⟩ = some (.slice va vm vc) := cell_blk hbE 10
                    have x0 : w6.cell? ⟨(wr.heap.size + 1), 0, none⟩ = some (.int .i64 (n + 1)) := cell_blk hbX 0
                    have x1 : w6.cell? ⟨(wr.heap.size + 1), 1, none⟩ = some (.int .i64 e.tm) := cell_blk hbX 1
                    have x2 : w6.cell? ⟨(wr.heap.size + 1), 2, none⟩ = some (.int .i64 e.k) := cell_blk hbX 2
                    have x3 : w6.cell? ⟨(wr.heap.size + 1), 3, none⟩ = some (.int .i64 e.a) := cell_blk hbX 3
                    have x4 : w6.cell? ⟨(wr.heap.size + 1), 4, none⟩ = some (.int .i64 e.b) := cell_blk hbX 4
                    have x5 : w6.cell? ⟨(wr.heap.size + 1), 5, none⟩ = some (.string (strOf e.name)) := cell_blk hbX 5
                    have x6 : w6.cell? ⟨(wr.heap.size + 1), 6, none⟩ = some (.string (strOf e.text)) := cell_blk hbX 6
                    have x7 : w6.cell? ⟨(wr.heap.size + 1), 7, none⟩ = some (.int .i64 vk) := cell_blk hbX 7
                    have x8 : w6.cell? ⟨(wr.heap.size + 1), 8, none⟩ = some (.int .i64 vn) := cell_blk hbX 8
                    have x9 : w6.cell? ⟨(wr.heap.size + 1), 9, none⟩ = some (.string (strOf vs)) := cell_blk hbX 9
                    have x10 : w6.cell? ⟨(wr.heap.size + 1), 10, none⟩ = some (.slice va vm vc) := cell_blk hbX 10
                    have hl6 := HP6.out.size
                    clear hbE hbX ho6
                    cases ob with
                    | false =>
                      have HR : Hid (hchk cl0 n0 t0 l = hchk cb (n + 1) t (l.drop (j + 1))) := hid (by rw [HCH5.out]; simp)
                      go_wp2_with fail
                      refine (HOU.out _ HP6.out).mono ?_
                      rintro x w7 ⟨rfl, ho7⟩
                      have HP7 := hid (HP6.out.trans ho7 (fun _ _ e => e))
                      clear c0 c1 c2 c3 c4 c5 c6 c7 c8 c9 c10 x0 x1 x2 x3 x4 x5 x6 x7 x8 x9 x10
                      have hbE := blk_only HBE.out HP7.out (fun e => e)
                      have hbX := blk_only HBX.out HP7.out (fun e => e)
                      have c0 : w7.cell? ⟨wr.heap.size, 0, none⟩ = some (.int .i64 e.id) := cell_blk hbE 0
                      have c1 : w7.cell? ⟨wr.heap.size, 1, none⟩ = some (.int .i64 e.tm) := cell_blk hbE 1
                      have c2 : w7.cell? ⟨wr.heap.size, 2, none⟩ = some (.int .i64 e.k) := cell_blk hbE 2
                      have c3 : w7.cell? ⟨wr.heap.size, 3, none⟩ = some (.int .i64 e.a) := cell_blk hbE 3
                      have c4 : w7.cell? ⟨wr.heap.size, 4, none⟩ = some (.int .i64 e.b) := cell_blk hbE 4
                      have c5 : w7.cell? ⟨wr.heap.size, 5, none⟩ = some (.string (strOf e.name)) := cell_blk hbE 5
                      have c6 : w7.cell? ⟨wr.heap.size, 6, none⟩ = some (.string (strOf e.text)) := cell_blk hbE 6
                      have c7 : w7.cell? ⟨wr.heap.size, 7, none⟩ = some (.int .i64 vk) := cell_blk hbE 7
                      have c8 : w7.cell? ⟨wr.heap.size, 8, none⟩ = some (.int .i64 vn) := cell_blk hbE 8
                      have c9 : w7.cell? ⟨wr.heap.size, 9, none⟩ = some (.string (strOf vs)) := cell_blk hbE 9
                      have c10 : w7.cell? ⟨wr.heap.size, 10, none⟩ = some (.slice va vm vc) := cell_blk hbE 10
                      have x0 : w7.cell? ⟨(wr.heap.size + 1), 0, none⟩ = some (.int .i64 (n + 1)) := cell_blk hbX 0
                      have x1 : w7.cell? ⟨(wr.heap.size + 1), 1, none⟩ = some (.int .i64 e.tm) := cell_blk hbX 1
                      have x2 : w7.cell? ⟨(wr.heap.size + 1), 2, none⟩ = some (.int .i64 e.k) := cell_blk hbX 2
                      have x3 : w7.cell? ⟨(wr.heap.size + 1), 3, none⟩ = some (.int .i64 e.a) := cell_blk hbX 3
                      have x4 : w7.cell? ⟨(wr.heap.size + 1), 4, none⟩ = some (.int .i64 e.b) := cell_blk hbX 4
                      have x5 : w7.cell? ⟨(wr.heap.size + 1), 5, none⟩ = some (.string (strOf e.name)) := cell_blk hbX 5
                      have x6 : w7.cell? ⟨(wr.heap.size + 1), 6, none⟩ = some (.string (strOf e.text)) := cell_blk hbX 6
                      have x7 : w7.cell? ⟨(wr.heap.size + 1), 7, none⟩ = some (.int .i64 vk) := cell_blk hbX 7
                      have x8 : w7.cell? ⟨(wr.heap.size + 1), 8, none⟩ = some (.int .i64 vn) := cell_blk hbX 8
                      have x9 : w7.cell? ⟨(wr.heap.size + 1), 9, none⟩ = some (.string (strOf vs)) := cell_blk hbX 9
                      have x10 : w7.cell? ⟨(wr.heap.size + 1), 10, none⟩ = some (.slice va vm vc) := cell_blk hbX 10
                      have hl7 := HP7.out.size
                      clear hbE hbX ho7
                      go_wp2_with fail
                      refine (HCZ.out _ HP7.out).mono ?_
                      rintro x w8 ⟨rfl, ho8⟩
                      have HP8 := hid (HP7.out.trans ho8 (fun _ _ e => e))
                      clear c0 c1 c2 c3 c4 c5 c6 c7 c8 c9 c10 x0 x1 x2 x3 x4 x5 x6 x7 x8 x9 x10
                      have hbE := blk_only HBE.out HP8.out (fun e => e)
                      have hbX := blk_only HBX.out HP8.out (fun e => e)
                      have c0 : w8.cell? ⟨wr.heap.size, 0, none⟩ = some (.int .i64 e.id) := cell_blk hbE 0
                      have c1 : w8.cell? ⟨wr.heap.size, 1, none⟩ = some (.int .i64 e.tm) := cell_blk hbE 1
                      have c2 : w8.cell? ⟨wr.heap.size, 2, none⟩ = some (.int .i64 e.k) := cell_blk hbE 2
                      have c3 : w8.cell? ⟨wr.heap.size, 3, none⟩ = some (.int .i64 e.a) := cell_blk hbE 3
                      have c4 : w8.cell? ⟨wr.heap.size, 4, none⟩ = some (.int .i64 e.b) := cell_blk hbE 4
                      have c5 : w8.cell? ⟨wr.heap.size, 5, none⟩ = some (.string (strOf e.name)) := cell_blk hbE 5
                      have c6 : w8.cell? ⟨wr.heap.size, 6, none⟩ = some (.string (strOf e.text)) := cell_blk hbE 6
                      have c7 : w8.cell? ⟨wr.heap.size, 7, none⟩ = some (.int .i64 vk) := cell_blk hbE 7
                      have c8 : w8.cell? ⟨wr.heap.size, 8, none⟩ = some (.int .i64 vn) := cell_blk hbE 8
                      have c9 : w8.cell? ⟨wr.heap.size, 9, none⟩ = some (.string (strOf vs)) := cell_blk hbE 9
                      have c10 : w8.cell? ⟨wr.heap.size, 10, none⟩ = some (.slice va vm vc) := cell_blk hbE 10
                      have x0 : w8.cell? ⟨(wr.heap.size + 1), 0, none⟩ = some (.int .i64 (n + 1)) := cell_blk hbX 0
                      have x1 : w8.cell? ⟨(wr.heap.size + 1), 1, none⟩ = some (.int .i64 e.tm) := cell_blk hbX 1
                      have x2 : w8.cell? ⟨(wr.heap.size + 1), 2, none⟩ = some (.int .i64 e.k) := cell_blk hbX 2
                      have x3 : w8.cell? ⟨(wr.heap.size + 1), 3, none⟩ = some (.int .i64 e.a) := cell_blk hbX 3
                      have x4 : w8.cell? ⟨(wr.heap.size + 1), 4, none⟩ = some (.int .i64 e.b) := cell_blk hbX 4
                      have x5 : w8.cell? ⟨(wr.heap.size + 1), 5, none⟩ = some (.string (strOf e.name)) := cell_blk hbX 5
                      have x6 : w8.cell? ⟨(wr.heap.size + 1), 6, none⟩ = some (.string (strOf e.text)) := cell_blk hbX 6
                      have x7 : w8.cell? ⟨(wr.heap.size + 1), 7, none⟩ = some (.int .i64 vk) := cell_blk hbX 7
                      have x8 : w8.cell? ⟨(wr.heap.size + 1), 8, none⟩ = some (.int .i64 vn) := cell_blk hbX 8
                      have x9 : w8.cell? ⟨(wr.heap.size + 1), 9, none⟩ = some (.string (strOf vs)) := cell_blk hbX 9
                      have x10 : w8.cell? ⟨(wr.heap.size + 1), 10, none⟩ = some (.slice va vm vc) := cell_blk hbX 10
                      have hl8 := HP8.out.size
                      clear hbE hbX ho8
                      go_wp2_with fail
                      go_roundw
                      case rel => exact ⟨j + 1, n + 1, cb, t, by go_num, by omega, rfl, by have := HNJ.out; omega, rfl, rfl, HR.out, HO2.out.trans HP8.out (fun _ _ e => e)⟩
                      case measure => simp [intOf]; omega
                    | true =>
                      by_cases h6 : e.tm < t
                      · have HR : Hid (hchk cl0 n0 t0 l = 1) := hid (by rw [HCH5.out, if_pos ⟨rfl, h6⟩])
                        go_wp2_with fail
                        go_ret
                        exact ⟨by rw [HCL0.out, HT0.out, HN0.out, HR.out]; rfl, HO2.out.trans HP6.out (fun _ _ e => e)⟩
                      · have HR : Hid (hchk cl0 n0 t0 l = hchk cb (n + 1) e.tm (l.drop (j + 1))) := hid (by rw [HCH5.out, if_neg (fun h => h6 h.2), if_pos rfl])
                        go_wp2_with fail
                        refine (HOU.out _ HP6.out).mono ?_
                        rintro x w7 ⟨rfl, ho7⟩
                        have HP7 := hid (HP6.out.trans ho7 (fun _ _ e => e))
                        clear c0 c1 c2 c3 c4 c5 c6 c7 c8 c9 c10 x0 x1 x2 x3 x4 x5 x6 x7 x8 x9 x10
                        have hbE := blk_only HBE.out HP7.out (fun e => e)
                        have hbX := blk_only HBX.out HP7.out (fun e => e)
                        have c0 : w7.cell? ⟨wr.heap.size, 0, none⟩ = some (.int .i64 e.id) := cell_blk hbE 0
                        have c1 : w7.cell? ⟨wr.heap.size, 1, none⟩ = some (.int .i64 e.tm) := cell_blk hbE 1
                        have c2 : w7.cell? ⟨wr.heap.size, 2, none⟩ = some (.int .i64 e.k) := cell_blk hbE 2
                        have c3 : w7.cell? ⟨wr.heap.size, 3, none⟩ = some (.int .i64 e.a) := cell_blk hbE 3
                        have c4 : w7.cell? ⟨wr.heap.size, 4, none⟩ = some (.int .i64 e.b) := cell_blk hbE 4
                        have c5 : w7.cell? ⟨wr.heap.size, 5, none⟩ = some (.string (strOf e.name)) := cell_blk hbE 5
                        have c6 : w7.cell? ⟨wr.heap.size, 6, none⟩ = some (.string (strOf e.text)) := cell_blk hbE 6
                        have c7 : w7.cell? ⟨wr.heap.size, 7, none⟩ = some (.int .i64 vk) := cell_blk hbE 7
                        have c8 : w7.cell? ⟨wr.heap.size, 8, none⟩ = some (.int .i64 vn) := cell_blk hbE 8
                        have c9 : w7.cell? ⟨wr.heap.size, 9, none⟩ = some (.string (strOf vs)) := cell_blk hbE 9
                        have c10 : w7.cell? ⟨wr.heap.size, 10, none⟩ = some (.slice va vm vc) := cell_blk hbE 10
                        have x0 : w7.cell? ⟨(wr.heap.size + 1), 0, none⟩ = some (.int .i64 (n + 1)) := cell_blk hbX 0
                        have x1 : w7.cell? ⟨(wr.heap.size + 1), 1, none⟩ = some (.int .i64 e.tm) := cell_blk hbX 1
                        have x2 : w7.cell? ⟨(wr.heap.size + 1), 2, none⟩ = some (.int .i64 e.k) := cell_blk hbX 2
                        have x3 : w7.cell? ⟨(wr.heap.size + 1), 3, none⟩ = some (.int .i64 e.a) := cell_blk hbX 3
                        have x4 : w7.cell? ⟨(wr.heap.size + 1), 4, none⟩ = some (.int .i64 e.b) := cell_blk hbX 4
                        have x5 : w7.cell? ⟨(wr.heap.size + 1), 5, none⟩ = some (.string (strOf e.name)) := cell_blk hbX 5
                        have x6 : w7.cell? ⟨(wr.heap.size + 1), 6, none⟩ = some (.string (strOf e.text)) := cell_blk hbX 6
                        have x7 : w7.cell? ⟨(wr.heap.size + 1), 7, none⟩ = some (.int .i64 vk) := cell_blk hbX 7
                        have x8 : w7.cell? ⟨(wr.heap.size + 1), 8, none⟩ = some (.int .i64 vn) := cell_blk hbX 8
                        have x9 : w7.cell? ⟨(wr.heap.size + 1), 9, none⟩ = some (.string (strOf vs)) := cell_blk hbX 9
                        have x10 : w7.cell? ⟨(wr.heap.size + 1), 10, none⟩ = some (.slice va vm vc) := cell_blk hbX 10
                        have hl7 := HP7.out.size
                        clear hbE hbX ho7
                        go_wp2_with fail
                        refine (HCZ.out _ HP7.out).mono ?_
                        rintro x w8 ⟨rfl, ho8⟩
                        have HP8 := hid (HP7.out.trans ho8 (fun _ _ e => e))
                        clear c0 c1 c2 c3 c4 c5 c6 c7 c8 c9 c10 x0 x1 x2 x3 x4 x5 x6 x7 x8 x9 x10
                        have hbE := blk_only HBE.out HP8.out (fun e => e)
                        have hbX := blk_only HBX.out HP8.out (fun e => e)
                        have c0 : w8.cell? ⟨wr.heap.size, 0, none⟩ = some (.int .i64 e.id) := cell_blk hbE 0
                        have c1 : w8.cell? ⟨wr.heap.size, 1, none⟩ = some (.int .i64 e.tm) := cell_blk hbE 1
                        have c2 : w8.cell? ⟨wr.heap.size, 2, none⟩ = some (.int .i64 e.k) := cell_blk hbE 2
                        have c3 : w8.cell? ⟨wr.heap.size, 3, none⟩ = some (.int .i64 e.a) := cell_blk hbE 3
                        have c4 : w8.cell? ⟨wr.heap.size, 4, none⟩ = some (.int .i64 e.b) := cell_blk hbE 4
                        have c5 : w8.cell? ⟨wr.heap.size, 5, none⟩ = some (.string (strOf e.name)) := cell_blk hbE 5
                        have c6 : w8.cell? ⟨wr.heap.size, 6, none⟩ = some (.string (strOf e.text)) := cell_blk hbE 6
                        have c7 : w8.cell? ⟨wr.heap.size, 7, none⟩ = some (.int .i64 vk) := cell_blk hbE 7
                        have c8 : w8.cell? ⟨wr.heap.size, 8, none⟩ = some (.int .i64 vn) := cell_blk hbE 8
                        have c9 : w8.cell? ⟨wr.heap.size, 9, none⟩ = some (.string (strOf vs)) := cell_blk hbE 9
                        have c10 : w8.cell? ⟨wr.heap.size, 10, none⟩ = some (.slice va vm vc) := cell_blk hbE 10
                        have x0 : w8.cell? ⟨(wr.heap.size + 1), 0, none⟩ = some (.int .i64 (n + 1)) := cell_blk hbX 0
                        have x1 : w8.cell? ⟨(wr.heap.size + 1), 1, none⟩ = some (.int .i64 e.tm) := cell_blk hbX 1
                        have x2 : w8.cell? ⟨(wr.heap.size + 1), 2, none⟩ = some (.int .i64 e.k) := cell_blk hbX 2
                        have x3 : w8.cell? ⟨(wr.heap.size + 1), 3, none⟩ = some (.int .i64 e.a) := cell_blk hbX 3
                        have x4 : w8.cell? ⟨(wr.heap.size + 1), 4, none⟩ = some (.int .i64 e.b) := cell_blk hbX 4
                        have x5 : w8.cell? ⟨(wr.heap.size + 1), 5, none⟩ = some (.string (strOf e.name)) := cell_blk hbX 5
                        have x6 : w8.cell? ⟨(wr.heap.size + 1), 6, none⟩ = some (.string (strOf e.text)) := cell_blk hbX 6
                        have x7 : w8.cell? ⟨(wr.heap.size + 1), 7, none⟩ = some (.int .i64 vk) := cell_blk hbX 7
                        have x8 : w8.cell? ⟨(wr.heap.size + 1), 8, none⟩ = some (.int .i64 vn) := cell_blk hbX 8
                        have x9 : w8.cell? ⟨(wr.heap.size + 1), 9, none⟩ = some (.string (strOf vs)) := cell_blk hbX 9
                        have x10 : w8.cell? ⟨(wr.heap.size + 1), 10, none⟩ = some (.slice va vm vc) := cell_blk hbX 10
                        have hl8 := HP8.out.size
                        clear hbE hbX ho8
                        go_wp2_with fail
                        go_roundw
                        case rel => exact ⟨j + 1, n + 1, cb, e.tm, by go_num, by omega, rfl, by have := HNJ.out; omega, rfl, rfl, HR.out, HO2.out.trans HP8.out (fun _ _ e => e)⟩
                        case measure => simp [intOf]; omega
                  · have a1 : ((n : Int) + 1 == 1) = false := by simp; omega
                    have a2 : decide ((1 : Int) < (n : Int) + 1) = true := by simp; omega
                    have a3 : decide ((0 : Int) < (n : Int)) = true := by simp; omega
                    have a4 : 0 < n := by omega
                    have b1 : (e.k == 1) = false := by simpa using hb
                    have b2 : (e.k != 1) = true := by simpa using hb
                    clear ha hb
                    go_wp2_with fail
                    refine (HOU.out _ HP5.out).mono ?_
                    rintro x w6 ⟨rfl, ho6⟩
                    have HP6 := hid (HP5.out.trans ho6 (fun _ _ e => e))
                    clear c0 c1 c2 c3 c4 c5 c6 c7 c8 c9 c10 x0 x1 x2 x3 x4 x5 x6 x7 x8 x9 x10
                    have hbE := blk_only HBE.out HP6.out (fun e => e)
                    have hbX := blk_only HBX.out HP6.out (fun e => e)
                    have c0 : w6.cell? ⟨wr.heap.size, 0, none⟩ = some (.int .i64 e.id) := cell_blk hbE 0
                    have c1 : w6.cell? ⟨wr.heap.size, 1, none⟩ = some (.int .i64 e.tm) := cell_blk hbE 1
                    have c2 : w6.cell? ⟨wr.heap.size, 2, none⟩ = some (.int .i64 e.k) := cell_blk hbE 2
                    have c3 : w6.cell? ⟨wr.heap.size, 3, none⟩ = some (.int .i64 e.a) := cell_blk hbE 3
                    have c4 : w6.cell? ⟨wr.heap.size, 4, none⟩ = some (.int .i64 e.b) := cell_blk hbE 4
                    have c5 : w6.cell? ⟨wr.heap.size, 5, none⟩ = some (.string (strOf e.name)) := cell_blk hbE 5
                    have c6 : w6.cell? ⟨wr.heap.size, 6, none⟩ = some (.string (strOf e.text)) := cell_blk hbE 6
                    have c7 : w6.cell? ⟨wr.heap.size, 7, none⟩ = some (.int .i64 vk) := cell_blk hbE 7
                    have c8 : w6.cell? ⟨wr.heap.size, 8, none⟩ = some (.int .i64 vn) := cell_blk hbE 8
                    have c9 : w6.cell? ⟨wr.heap.size, 9, none⟩ = some (.string (strOf vs)) := cell_blk hbE 9
                    have c10 : w6.cell? ⟨wr.heap.size, 10, none⟩ = some (.slice va vm vc) := cell_blk hbE 10
                    have x0 : w6.cell? ⟨(wr.heap.size + 1), 0, none⟩ = some (.int .i64 (n + 1)) := cell_blk hbX 0
                    have x1 : w6.cell? ⟨(wr.heap.size + 1), 1, none⟩ = some (.int .i64 e.tm) := cell_blk hbX 1
                    have x2 : w6.cell? ⟨(wr.heap.size + 1), 2, none⟩ = some (.int .i64 e.k) := cell_blk hbX 2
                    have x3 : w6.cell? ⟨(wr.heap.size + 1), 3, none⟩ = some (.int .i64 e.a) := cell_blk hbX 3
                    have x4 : w6.cell? ⟨(wr.heap.size + 1), 4, none⟩ = some (.int .i64 e.b) := cell_blk hbX 4
                    have x5 : w6.cell? ⟨(wr.heap.size + 1), 5, none⟩ = some (.string (strOf e.name)) := cell_blk hbX 5
                    have x6 : w6.cell? ⟨(wr.heap.size + 1), 6, none⟩ = some (.string (strOf e.text)) := cell_blk hbX 6
                    have x7 : w6.cell? ⟨(wr.heap.size + 1), 7, none⟩ = some (.int .i64 vk) := cell_blk hbX 7
                    have x8 : w6.cell? ⟨(wr.heap.size + 1), 8, none⟩ = some (.int .i64 vn) := cell_blk hbX 8
                    have x9 : w6.cell? ⟨(wr.heap.size + 1), 9, none⟩ = some (.string (strOf vs)) := cell_blk hbX 9
                    have x10 : w6.cell? ⟨(wr.heap.size + 1), 10, none⟩ = some (.slice va vm vc) := cell_blk hbX 10
                    have hl6 := HP6.out.size
                    clear hbE hbX ho6
                    cases ob with
                    | false =>
                      have HR : Hid (hchk cl0 n0 t0 l = hchk cb (n + 1) t (l.drop (j + 1))) := hid (by rw [HCH5.out]; simp)
                      go_wp2_with fail
                      refine (HOU.out _ HP6.out).mono ?_
                      rintro x w7 ⟨rfl, ho7⟩
                      have HP7 := hid (HP6.out.trans ho7 (fun _ _ e => e))
                      clear c0 c1 c2 c3 c4 c5 c6 c7 c8 c9 c10 x0 x1 x2 x3 x4 x5 x6 x7 x8 x9 x10
                      have hbE := blk_only HBE.out HP7.out (fun e => e)
                      have hbX := blk_only HBX.out HP7.out (fun e => e)
                      have c0 : w7.cell? ⟨wr.heap.size, 0, none⟩ = some (.int .i64 e.id) := cell_blk hbE 0
                      have c1 : w7.cell? ⟨wr.heap.size, 1, none⟩ = some (.int .i64 e.tm) := cell_blk hbE 1
                      have c2 : w7.cell? ⟨wr.heap.size, 2, none⟩ = some (.int .i64 e.k) := cell_blk hbE 2
                      have c3 : w7.cell? ⟨wr.heap.size, 3, none⟩ = some (.int .i64 e.a) := cell_blk hbE 3
                      have c4 : w7.cell? ⟨wr.heap.size, 4, none⟩ = some (.int .i64 e.b) := cell_blk hbE 4
                      have c5 : w7.cell? ⟨wr.heap.size, 5, none⟩ = some (.string (strOf e.name)) := cell_blk hbE 5
                      have c6 : w7.cell? ⟨wr.heap.size, 6, none⟩ = some (.string (strOf e.text)) := cell_blk hbE 6
                      have c7 : w7.cell? ⟨wr.heap.size, 7, none⟩ = some (.int .i64 vk) := cell_blk hbE 7
                      have c8 : w7.cell? ⟨wr.heap.size, 8, none⟩ = some (.int .i64 vn) := cell_blk hbE 8
                      have c9 : w7.cell? ⟨wr.heap.size, 9, none⟩ = some (.string (strOf vs)) := cell_blk hbE 9
                      have c10 : w7.cell? ⟨wr.heap.size, 10, none⟩ = some (.slice va vm vc) := cell_blk hbE 10
                      have x0 : w7.cell? ⟨(wr.heap.size + 1), 0, none⟩ = some (.int .i64 (n + 1)) := cell_blk hbX 0
                      have x1 : w7.cell? ⟨(wr.heap.size + 1), 1, none⟩ = some (.int .i64 e.tm) := cell_blk hbX 1
                      have x2 : w7.cell? ⟨(wr.heap.size + 1), 2, none⟩ = some (.int .i64 e.k) := cell_blk hbX 2
                      have x3 : w7.cell? ⟨(wr.heap.size + 1), 3, none⟩ = some (.int .i64 e.a) := cell_blk hbX 3
                      have x4 : w7.cell? ⟨(wr.heap.size + 1), 4, none⟩ = some (.int .i64 e.b) := cell_blk hbX 4
                      have x5 : w7.cell? ⟨(wr.heap.size + 1), 5, none⟩ = some (.string (strOf e.name)) := cell_blk hbX 5
                      have x6 : w7.cell? ⟨(wr.heap.size + 1), 6, none⟩ = some (.string (strOf e.text)) := cell_blk hbX 6
                      have x7 : w7.cell? ⟨(wr.heap.size + 1), 7, none⟩ = some (.int .i64 vk) := cell_blk hbX 7
                      have x8 : w7.cell? ⟨(wr.heap.size + 1), 8, none⟩ = some (.int .i64 vn) := cell_blk hbX 8
                      have x9 : w7.cell? ⟨(wr.heap.size + 1), 9, none⟩ = some (.string (strOf vs)) := cell_blk hbX 9
                      have x10 : w7.cell? ⟨(wr.heap.size + 1), 10, none⟩ = some (.slice va vm vc) := cell_blk hbX 10
                      have hl7 := HP7.out.size
                      clear hbE hbX ho7
                      go_wp2_with fail
                      refine (HCZ.out _ HP7.out).mono ?_
                      rintro x w8 ⟨rfl, ho8⟩
                      have HP8 := hid (HP7.out.trans ho8 (fun _ _ e => e))
                      clear c0 c1 c2 c3 c4 c5 c6 c7 c8 c9 c10 x0 x1 x2 x3 x4 x5 x6 x7 x8 x9 x10
                      have hbE := blk_only HBE.out HP8.out (fun e => e)
                      have hbX := blk_only HBX.out HP8.out (fun e => e)
                      have c0 : w8.cell? ⟨wr.heap.size, 0, none⟩ = some (.int .i64 e.id) := cell_blk hbE 0
                      have c1 : w8.cell? ⟨wr.heap.size, 1, none⟩ = some (.int .i64 e.tm) := cell_blk hbE 1
                      have c2 : w8.cell? ⟨wr.heap.size, 2, none⟩ = some (.int .i64 e.k) := cell_blk hbE 2
                      have c3 : w8.cell? ⟨wr.heap.size, 3, none⟩ = some (.int .i64 e.a) := cell_blk hbE 3
                      have c4 : w8.cell? ⟨wr.heap.size, 4, none⟩ = some (.int .i64 e.b) := cell_blk hbE 4
                      have c5 : w8.cell? ⟨wr.heap.size, 5, none⟩ = some (.string (strOf e.name)) := cell_blk hbE 5
                      have c6 : w8.cell? ⟨wr.heap.size, 6, none⟩ = some (.string (strOf e.text)) := cell_blk hbE 6
                      have c7 : w8.cell? ⟨wr.heap.size, 7, none⟩ = some (.int .i64 vk) := cell_blk hbE 7
                      have c8 : w8.cell? ⟨wr.heap.size, 8, none⟩ = some (.int .i64 vn) := cell_blk hbE 8
                      have c9 : w8.cell? ⟨wr.heap.size, 9, none⟩ = some (.string (strOf vs)) := cell_blk hbE 9
                      have c10 : w8.cell? ⟨wr.heap.size, 10, none⟩ = some (.slice va vm vc) := cell_blk hbE 10
                      have x0 : w8.cell? ⟨(wr.heap.size + 1), 0, none⟩ = some (.int .i64 (n + 1)) := cell_blk hbX 0
                      have x1 : w8.cell? ⟨(wr.heap.size + 1), 1, none⟩ = some (.int .i64 e.tm) := cell_blk hbX 1
                      have x2 : w8.cell? ⟨(wr.heap.size + 1), 2, none⟩ = some (.int .i64 e.k) := cell_blk hbX 2
                      have x3 : w8.cell? ⟨(wr.heap.size + 1), 3, none⟩ = some (.int .i64 e.a) := cell_blk hbX 3
                      have x4 : w8.cell? ⟨(wr.heap.size + 1), 4, none⟩ = some (.int .i64 e.b) := cell_blk hbX 4
                      have x5 : w8.cell? ⟨(wr.heap.size + 1), 5, none⟩ = some (.string (strOf e.name)) := cell_blk hbX 5
                      have x6 : w8.cell? ⟨(wr.heap.size + 1), 6, none⟩ = some (.string (strOf e.text)) := cell_blk hbX 6
                      have x7 : w8.cell? ⟨(wr.heap.size + 1), 7, none⟩ = some (.int .i64 vk) := cell_blk hbX 7
                      have x8 : w8.cell? ⟨(wr.heap.size + 1), 8, none⟩ = some (.int .i64 vn) := cell_blk hbX 8
                      have x9 : w8.cell? ⟨(wr.heap.size + 1), 9, none⟩ = some (.string (strOf vs)) := cell_blk hbX 9
                      have x10 : w8.cell? ⟨(wr.heap.size + 1), 10, none⟩ = some (.slice va vm vc) := cell_blk hbX 10
                      have hl8 := HP8.out.size
                      clear hbE hbX ho8
                      go_wp2_with fail
                      go_roundw
                      case rel => exact ⟨j + 1, n + 1, cb, t, by go_num, by omega, rfl, by have := HNJ.out; omega, rfl, rfl, HR.out, HO2.out.trans HP8.out (fun _ _ e => e)⟩
                      case measure => simp [intOf]; omega
                    | true =>
                      by_cases h6 : e.tm < t
                      · have HR : Hid (hchk cl0 n0 t0 l = 1) := hid (by rw [HCH5.out, if_pos ⟨rfl, h6⟩])
                        go_wp2_with fail
                        go_ret
                        exact ⟨by rw [HCL0.out, HT0.out, HN0.out, HR.out]; rfl, HO2.out.trans HP6.out (fun _ _ e => e)⟩
                      · have HR : Hid (hchk cl0 n0 t0 l = hchk cb (n + 1) e.tm (l.drop (j + 1))) := hid (by rw [HCH5.out, if_neg (fun h => h6 h.2), if_pos rfl])
                        go_wp2_with fail
                        refine (HOU.out _ HP6.out).mono ?_
                        rintro x w7 ⟨rfl, ho7⟩
                        have HP7 := hid (HP6.out.trans ho7 (fun _ _ e => e))
                        clear c0 c1 c2 c3 c4 c5 c6 c7 c8 c9 c10 x0 x1 x2 x3 x4 x5 x6 x7 x8 x9 x10
                        have hbE := blk_only HBE.out HP7.out (fun e => e)
                        have hbX := blk_only HBX.out HP7.out (fun e => e)
                        have c0 : w7.cell? ⟨wr.heap.size, 0, none⟩ = some (.int .i64 e.id) := cell_blk hbE 0
                        have c1 : w7.cell? ⟨wr.heap.size, 1, none⟩ = some (.int .i64 e.tm) := cell_blk hbE 1
                        have c2 : w7.cell? ⟨wr.heap.size, 2, none⟩ = some (.int .i64 e.k) := cell_blk hbE 2
                        have c3 : w7.cell? ⟨wr.heap.size, 3, none⟩ = some (.int .i64 e.a) := cell_blk hbE 3
                        have c4 : w7.cell? ⟨wr.heap.size, 4, none⟩ = some (.int .i64 e.b) := cell_blk hbE 4
                        have c5 : w7.cell? ⟨wr.heap.size, 5, none⟩ = some (.string (strOf e.name)) := cell_blk hbE 5
                        have c6 : w7.cell? ⟨wr.heap.size, 6, none⟩ = some (.string (strOf e.text)) := cell_blk hbE 6
                        have c7 : w7.cell? ⟨wr.heap.size, 7, none⟩ = some (.int .i64 vk) := cell_blk hbE 7
                        have c8 : w7.cell? ⟨wr.heap.size, 8, none⟩ = some (.int .i64 vn) := cell_blk hbE 8
                        have c9 : w7.cell? ⟨wr.heap.size, 9, none⟩ = some (.string (strOf vs)) := cell_blk hbE 9
                        have c10 : w7.cell? ⟨wr.heap.size, 10, none⟩ = some (.slice va vm vc) := cell_blk hbE 10
                        have x0 : w7.cell? ⟨(wr.heap.size + 1), 0, none⟩ = some (.int .i64 (n + 1)) := cell_blk hbX 0
                        have x1 : w7.cell? ⟨(wr.heap.size + 1), 1, none⟩ = some (.int .i64 e.tm) := cell_blk hbX 1
                        have x2 : w7.cell? ⟨(wr.heap.size + 1), 2, none⟩ = some (.int .i64 e.k) := cell_blk hbX 2
                        have x3 : w7.cell? ⟨(wr.heap.size + 1), 3, none⟩ = some (.int .i64 e.a) := cell_blk hbX 3
                        have x4 : w7.cell? ⟨(wr.heap.size + 1), 4, none⟩ = some (.int .i64 e.b) := cell_blk hbX 4
                        have x5 : w7.cell? ⟨(wr.heap.size + 1), 5, none⟩ = some (.string (strOf e.name)) := cell_blk hbX 5
                        have x6 : w7.cell? ⟨(wr.heap.size + 1), 6, none⟩ = some (.string (strOf e.text)) := cell_blk hbX 6
                        have x7 : w7.cell? ⟨(wr.heap.size + 1), 7, none⟩ = some (.int .i64 vk) := cell_blk hbX 7
                        have x8 : w7.cell? ⟨(wr.heap.size + 1), 8, none⟩ = some (.int .i64 vn) := cell_blk hbX 8
                        have x9 : w7.cell? ⟨(wr.heap.size + 1), 9, none⟩ = some (.string (strOf vs)) := cell_blk hbX 9
                        have x10 : w7.cell? ⟨(wr.heap.size + 1), 10, none⟩ = some (.slice va vm vc) := cell_blk hbX 10
                        have hl7 := HP7.out.size
                        clear hbE hbX ho7
                        go_wp2_with fail
                        refine (HCZ.out _ HP7.out).mono ?_
                        rintro x w8 ⟨rfl, ho8⟩
                        have HP8 := hid (HP7.out.trans ho8 (fun _ _ e => e))
                        clear c0 c1 c2 c3 c4 c5 c6 c7 c8 c9 c10 x0 x1 x2 x3 x4 x5 x6 x7 x8 x9 x10
                        have hbE := blk_only HBE.out HP8.out (fun e => e)
                        have hbX := blk_only HBX.out HP8.out (fun e => e)
                        have c0 : w8.cell? ⟨wr.heap.size, 0, none⟩ = some (.int .i64 e.id) := cell_blk hbE 0
                        have c1 : w8.cell? ⟨wr.heap.size, 1, none⟩ = some (.int .i64 e.tm) := cell_blk hbE 1
                        have c2 : w8.cell? ⟨wr.heap.size, 2, none⟩ = some (.int .i64 e.k) := cell_blk hbE 2
                        have c3 : w8.cell? ⟨wr.heap.size, 3, none⟩ = some (.int .i64 e.a) := cell_blk hbE 3
                        have c4 : w8.cell? ⟨wr.heap.size, 4, none⟩ = some (.int .i64 e.b) := cell_blk hbE 4
                        have c5 : w8.cell? ⟨wr.heap.size, 5, none⟩ = some (.string (strOf e.name)) := cell_blk hbE 5
                        have c6 : w8.cell? ⟨wr.heap.size, 6, none⟩ = some (.string (strOf e.text)) := cell_blk hbE 6
                        have c7 : w8.cell? ⟨wr.heap.size, 7, none⟩ = some (.int .i64 vk) := cell_blk hbE 7
                        have c8 : w8.cell? ⟨wr.heap.size, 8, none⟩ = some (.int .i64 vn) := cell_blk hbE 8
                        have c9 : w8.cell? ⟨wr.heap.size, 9, none⟩ = some (.string (strOf vs)) := cell_blk hbE 9
                        have c10 : w8.cell? ⟨wr.heap.size, 10, none⟩ = some (.slice va vm vc) := cell_blk hbE 10
                        have x0 : w8.cell? ⟨(wr.heap.size + 1), 0, none⟩ = some (.int .i64 (n + 1)) := cell_blk hbX 0
                        have x1 : w8.cell? ⟨(wr.heap.size + 1), 1, none⟩ = some (.int .i64 e.tm) := cell_blk hbX 1
                        have x2 : w8.cell? ⟨(wr.heap.size + 1), 2, none⟩ = some (.int .i64 e.k) := cell_blk hbX 2
                        have x3 : w8.cell? ⟨(wr.heap.size + 1), 3, none⟩ = some (.int .i64 e.a) := cell_blk hbX 3
                        have x4 : w8.cell? ⟨(wr.heap.size + 1), 4, none⟩ = some (.int .i64 e.b) := cell_blk hbX 4
                        have x5 : w8.cell? ⟨(wr.heap.size + 1), 5, none⟩ = some (.string (strOf e.name)) := cell_blk hbX 5
                        have x6 : w8.cell? ⟨(wr.heap.size + 1), 6, none⟩ = some (.string (strOf e.text)) := cell_blk hbX 6
                        have x7 : w8.cell? ⟨(wr.heap.size + 1), 7, none⟩ = some (.int .i64 vk) := cell_blk hbX 7
                        have x8 : w8.cell? ⟨(wr.heap.size + 1), 8, none⟩ = some (.int .i64 vn) := cell_blk hbX 8
                        have x9 : w8.cell? ⟨(wr.heap.size + 1), 9, none⟩ = some (.string (strOf vs)) := cell_blk hbX 9
                        have x10 : w8.cell? ⟨(wr.heap.size + 1), 10, none⟩ = some (.slice va vm vc) := cell_blk hbX 10
                        have hl8 := HP8.out.size
                        clear hbE hbX ho8
                        go_wp2_with fail
                        go_roundw
                        case rel => exact ⟨j + 1, n + 1, cb, e.tm, by go_num, by omega, rfl, by have := HNJ.out; omega, rfl, rfl, HR.out, HO2.out.trans HP8.out (fun _ _ e => e)⟩
                        case measure => simp [intOf]; omega
        · have HR : Hid (hchk cl0 n0 t0 l = 0) := hid (by rw [HFJ.out, List.drop_of_length_le (by omega), hchk])
          have hjl2 : ¬ (j : Int) < l.length := by omega
          go_wp2_with fail
          go_ret
          exact ⟨by rw [HCL0.out, HT0.out, HN0.out, HR.out]; rfl, HO.out⟩
end
end Go.Proofs.Ytnoopajedgllhaa
namespace Go.Proofs.Ytnoopajedgllhaa
open Go.RowKit Go.ChangeShapes Go.WideShapes Go.ChangeAt
/-- Events numbered on, with the values that they have. -/
def nths (n : Nat) : List EM → List EM
  | [] => []
  | e :: l => e.nth n :: nths (n + 1) l
theorem nths_len : ∀ (n : Nat) (l : List EM), (nths n l).length = l.length
  | _, [] => rfl
  | n, e :: l => by rw [nths, List.length_cons, List.length_cons, nths_len]
theorem nths_get : ∀ (n : Nat) (l : List EM) (i : Nat) (e : EM), l[i]? = some e → (nths n l)[i]? = some (e.nth (n + i))
  | _, [], i, e, h => by simp at h
  | n, x :: l, 0, e, h => by
    simp only [List.getElem?_cons_zero, Option.some.injEq] at h
    subst h; rw [nths]; rfl
  | n, x :: l, i + 1, e, h => by
    rw [List.getElem?_cons_succ] at h
    rw [nths, List.getElem?_cons_succ, nths_get (n + 1) l i e h, show n + 1 + i = n + (i + 1) from by omega]
theorem nths_mem {n : Nat} {l : List EM} {x : EM} (h : x ∈ nths n l) : ∃ (i : Nat) (e : EM), l[i]? = some e ∧ x = e.nth (n + i) := by
  obtain ⟨i, hi, rfl⟩ := List.mem_iff_getElem.1 h
  have hl : i < l.length := by rw [nths_len] at hi; exact hi
  refine ⟨i, _, List.getElem?_eq_getElem hl, ?_⟩
  have := nths_get n l i _ (List.getElem?_eq_getElem hl)
  rw [List.getElem?_eq_getElem hi] at this
  exact Option.some.inj this
theorem nths_take : ∀ (n : Nat) (l : List EM) (i : Nat), nths n (l.take i) = (nths n l).take i
  | n, [], i => by simp [nths]
  | n, e :: l, 0 => by simp [nths]
  | n, e :: l, i + 1 => by rw [List.take_succ_cons, nths, nths, List.take_succ_cons, nths_take]
theorem nths_take1 {n : Nat} {l : List EM} {i : Nat} {e : EM} (h : l[i]? = some e) : nths n (l.take (i + 1)) = nths n (l.take i) ++ [e.nth (n + i)] := by
  rw [nths_take, nths_take, List.take_add_one, nths_get n l i e h]; rfl
theorem numb_nths : ∀ (n : Nat) (l : List EM), numb n l = (nths n l).map EM.cl
  | _, [] => rfl
  | n, e :: l => by rw [numb, nths, List.map_cons, numb_nths]
theorem lastT_cl : ∀ (t : Int) (l : List EM), lastT t (l.map EM.cl) = lastT t l
  | _, [] => rfl
  | t, e :: l => by rw [List.map_cons, lastT, lastT, lastT_cl]; rfl
theorem closedL_cl (l : List EM) : closedL (l.map EM.cl) = closedL l := by
  unfold closedL
  rw [List.getLast?_map]
  cases l.getLast? <;> rfl
theorem sumS_cl : ∀ (s : List UInt8) (l : List EM), sumS s (l.map EM.cl) = sumS s l
  | _, [] => rfl
  | s, e :: l => by
    show sumS (link s e.cl) (l.map EM.cl) = sumS (link s e) l
    rw [link_cl, sumS_cl]
theorem same_cl1 (e : EM) : e.same e.cl = true := (same_iff _ _).2 (by show (⟨e.id, e.tm, e.k, e.a, e.b, e.name, e.text, e.v.cl⟩ : EM) = ⟨e.id, e.tm, e.k, e.a, e.b, e.name, e.text, e.v.cl.cl⟩; rw [cl_cl])
theorem same_cl2 (e : EM) : e.cl.same e = true := (same_iff _ _).2 ((same_iff _ _).1 (same_cl1 e)).symm
theorem samL_cl : ∀ l : List EM, samL (l.map EM.cl) l = true
  | [] => rfl
  | e :: l => by rw [List.map_cons, samL, same_cl2, samL_cl l]; rfl
section
variable {w w' : World} {G F : Nat → Prop}
theorem EXs.app : ∀ {l m : List EM} {xs ys : List Value}, EXs w G l xs → EXs w G m ys → EXs w G (l ++ m) (xs ++ ys)
  | [], _, _, _, h1, h2 => by
    have h' : _ = ([] : List Value) := h1
    subst h'; exact h2
  | _ :: _, _, _, _, ⟨cs, zs, e, h1, h2⟩, h3 => ⟨cs, zs ++ _, by rw [e, List.append_assoc], h1, EXs.app h2 h3⟩
/-- A part of a list of events that grows. -/
theorem evs_sub {q n cap : Nat} {xs : List Value} {es : List EM} (hg : Gr w 44 11 (some ⟨q, 0, none⟩) n cap xs) (hx : EXs w G es xs) (hl : n = es.length) (hG : ∀ k, G k → k < w.heap.size) (a b c : Nat) (hab : a + b ≤ n) : EvsV w (fun k => k < w.heap.size) (.slice (some ⟨q, a * 11, none⟩) b c) ((es.drop a).take b) := by
  have hlen : ((es.drop a).take b).length = b := by rw [List.length_take, List.length_drop]; omega
  refine ⟨some ⟨q, a * 11, none⟩, c, q, a * 11, by rw [hlen], fun _ => ⟨rfl, hg.lt rfl⟩, fun i e hi => ?_⟩
  have hib : i < b := by
    rcases Nat.lt_or_ge i b with g | g
    · exact g
    · rw [List.getElem?_eq_none (by rw [hlen]; exact g)] at hi; cases hi
  rw [List.getElem?_take_of_lt hib, List.getElem?_drop] at hi
  obtain ⟨q', hq', hcells⟩ := hg.cells (by omega)
  simp only [Option.some.injEq, Addr.mk.injEq, and_true] at hq'
  subst hq'
  obtain ⟨ds, h3, h4⟩ := EXs.at' hx (a + i) e hi
  exact ⟨ds, fun j u hj => by rw [← Nat.add_mul]; exact hcells _ _ (h3 j u hj), h4.mono hG⟩
theorem evs_all {ao : Option Addr} {n cap : Nat} {xs : List Value} {es : List EM} (hg : Gr w 44 11 ao n cap xs) (hx : EXs w G es xs) (hl : n = es.length) (hG : ∀ k, G k → k < w.heap.size) : EvsV w (fun k => k < w.heap.size) (.slice ao n cap) es := by
  subst hl
  rcases Nat.eq_zero_or_pos es.length with h0 | h0
  · have h0' := List.eq_nil_of_length_eq_zero h0
    exact ⟨ao, cap, 0, 0, rfl, fun h => absurd h0' h, fun i e hi => by rw [h0'] at hi; simp at hi⟩
  · obtain ⟨q, rfl, -⟩ := hg.cells h0
    have := evs_sub hg hx rfl hG 0 es.length cap (by omega)
    rw [List.drop_zero, List.take_length, Nat.zero_mul] at this
    exact this
end
/-- The state between two batches: w0 is the world at the beginning. -/
structure PA (w0 w : World) (hb : Nat) (s : List UInt8) (A : List EM) (Fh : Nat → Prop) (ao : Option Addr) (cp : Nat) (xs : List Value) : Prop where
  hist : HistAt w hb Fh s (A.map EM.cl)
  gr : Gr w 44 11 ao A.length cp xs
  exs : EXs w (fun k => k < w0.heap.size) A xs
  ad : ∀ q, ao = some ⟨q, 0, none⟩ → w0.heap.size ≤ q ∧ ¬ Fh q
  fh : ∀ k, Fh k → w0.heap.size ≤ k
  ok : ∀ e ∈ A, e.rg ∧ e.Good
  only : Only (fun _ => False) w0 w
section
variable {w0 w w' : World} {hb cp : Nat} {s : List UInt8} {A : List EM} {Fh : Nat → Prop} {ao : Option Addr} {xs : List Value}
theorem PA.same (h : PA w0 w hb s A Fh ao cp xs) (ho : Only (fun _ => False) w w') : PA w0 w' hb s A Fh ao cp xs where
  hist := h.hist.same ho
  gr := h.gr.only ho fun _ _ e => e
  exs := h.exs.only ho fun _ _ e => e
  ad := h.ad
  fh := h.fh
  ok := h.ok
  only := h.only.trans ho fun _ _ e => e
theorem PA.evs (h : PA w0 w hb s A Fh ao cp xs) : EvsV w (fun k => k < w.heap.size) (.slice ao A.length cp) A :=
  evs_all h.gr h.exs rfl fun _ hk => Nat.lt_of_lt_of_le hk h.only.size
theorem PA.n (h : PA w0 w hb s A Fh ao cp xs) : A.length ≤ 4096 := by
  obtain ⟨_, _, _, _, _, H⟩ := h.hist
  have := H.n
  rw [List.length_map] at this
  exact this
theorem PA.kd (h : PA w0 w hb s A Fh ao cp xs) : ∀ e ∈ A, e.v.rg ∧ e.v.kd := fun e he => ⟨(h.ok e he).1.2.2.2.2.2.2.2, good_kd (h.ok e he).2⟩
theorem PA.kd' (h : PA w0 w hb s A Fh ao cp xs) : ∀ e ∈ A.map EM.cl, e.v.rg ∧ e.v.kd := by
  obtain ⟨_, _, _, _, _, H⟩ := h.hist
  exact hok_kd H.ok
theorem PA.hb_lt (h : PA w0 w hb s A Fh ao cp xs) : hb < w.heap.size := by
  obtain ⟨_, _, _, _, _, H⟩ := h.hist
  exact H.lt hb H.fb
theorem PA.nil (h : HistAt w hb (fun k => k = hb) s []) (ho : Only (fun _ => False) w0 w) (hz : w0.heap.size ≤ hb) : PA w0 w hb s [] (fun k => k = hb) none 0 [] where
  hist := h
  gr := Gr.nil
  exs := rfl
  ad := by simp
  fh := fun k hk => by have e : k = hb := hk; omega
  ok := fun e he => nomatch he
  only := ho
end
/-- A slice of slices of events. -/
def BsV (w : World) (v : Value) (bs : List (List EM)) : Prop :=
  ∃ a c, v = .slice a bs.length c ∧ bs.length ≤ 9223372036854775807 ∧ ∀ (i : Nat) (l : List EM), bs[i]? = some l → l.length ≤ 9223372036854775807 ∧ (∀ e ∈ l, e.rg) ∧ ∃ g o pa pc, a = some ⟨g, o, none⟩ ∧ w.cell? ⟨g, o + i, none⟩ = some (.slice pa l.length pc) ∧ EvsV w (fun k => k < w.heap.size) (.slice pa l.length pc) l
section
variable {H : Type} {enc : TypeId × Value → H} {W : World} {base : Nat} {spare : Nat → Bool} {held : Bool} {fuel : Nat} {x : DataW H × List MemPlace} {v : Value}
theorem cellsB22 : Try.prog.cellsOf 22 = 1 := by kernel_rfl
theorem read_bss (h : DataW.trod enc Try.prog W base spare held fuel 60 [v] = some x) : ∃ bs : List (List EM), BsV W v bs := by
  rcases Go.Deep.open_slice Try.underlying60 h with ⟨hcs, _⟩ | ⟨a, len, cap, m, n, D, Pl, hcs, _, hlc, hm, hmm, _, hel⟩
  · simp at hcs; subst hcs
    exact ⟨[], none, 0, rfl, by simp, by simp⟩
  · simp at hcs; subst hcs
    have hlm : len ≤ m := by rw [hmm]; split <;> omega
    have hex : ∀ i, ∃ l : List EM, i < len → l.length ≤ 9223372036854775807 ∧ (∀ e ∈ l, e.rg) ∧ ∃ u : Value, EvsV W (fun k => k < W.heap.size) u l ∧ W.cell? (a.add (i * 1)) = some u := by
      intro i
      by_cases hi : i < len
      · obtain ⟨cs', hcs', htr⟩ := hel i (by omega)
        obtain ⟨_, hl1, hc⟩ := World.cells?_some hcs'
        rw [cellsB22] at hl1 hc
        obtain ⟨u, rfl⟩ : ∃ u, cs' = [u] := by
          cases cs' with
          | nil => simp at hl1
          | cons u us => cases us with
            | nil => exact ⟨u, rfl⟩
            | cons _ _ => simp at hl1
        obtain ⟨l, hs, hx, hb⟩ := read_evs htr
        refine ⟨l, fun _ => ⟨hb, hx, u, hs, ?_⟩⟩
        have := hc 0 (by decide)
        have ea : ∀ b : Addr, b.add 0 = b := fun b => by simp [Addr.add]
        rw [ea] at this
        exact this
      · exact ⟨[], fun h => absurd h hi⟩
    obtain ⟨f, hf⟩ := Classical.axiomOfChoice hex
    refine ⟨(List.range len).map f, some a, cap, by simp, by simp; unfold maxLen at hm; omega, fun i o hi => ?_⟩
    have hil : i < len := by
      rcases Nat.lt_or_ge i len with h | h
      · exact h
      · rw [List.getElem?_eq_none (by simpa using h)] at hi; cases hi
    simp only [List.getElem?_map, List.getElem?_range hil, Option.map_some, Option.some.injEq] at hi
    subst hi
    obtain ⟨hb, hx, u, hs, hc⟩ := hf i hil
    have hsp : a.spot = none := by
      obtain ⟨-, -, u0, -, hc0⟩ := hf 0 (by omega)
      have := World.cell?_spot hc0; simpa [Addr.add] using this
    obtain ⟨g, o, s⟩ := a
    simp only at hsp
    subst hsp
    obtain ⟨pa, pc, e⟩ := hs.len
    subst e
    refine ⟨hb, hx, g, o, pa, pc, rfl, ?_, hs⟩
    rw [addr_add, Nat.mul_one] at hc
    exact hc
end
end Go.Proofs.Ytnoopajedgllhaa
namespace Go.Proofs.Ytnoopajedgllhaa
open Go.RowKit
noncomputable def hpB (id : Nat) : Code := ((Try.f8.body).bind (blkOf id)).getD .skip
theorem lit221 (v : Nat → Value) : ((List.range 221).map v).toArray = #[v 0, v 1, v 2, v 3, v 4, v 5, v 6, v 7, v 8, v 9, v 10, v 11, v 12, v 13, v 14, v 15, v 16, v 17, v 18, v 19, v 20, v 21, v 22, v 23, v 24, v 25, v 26, v 27, v 28, v 29, v 30, v 31, v 32, v 33, v 34, v 35, v 36, v 37, v 38, v 39, v 40, v 41, v 42, v 43, v 44, v 45, v 46, v 47, v 48, v 49, v 50, v 51, v 52, v 53, v 54, v 55, v 56, v 57, v 58, v 59, v 60, v 61, v 62, v 63, v 64, v 65, v 66, v 67, v 68, v 69, v 70, v 71, v 72, v 73, v 74, v 75, v 76, v 77, v 78, v 79, v 80, v 81, v 82, v 83, v 84, v 85, v 86, v 87, v 88, v 89, v 90, v 91, v 92, v 93, v 94, v 95, v 96, v 97, v 98, v 99, v 100, v 101, v 102, v 103, v 104, v 105, v 106, v 107, v 108, v 109, v 110, v 111, v 112, v 113, v 114, v 115, v 116, v 117, v 118, v 119, v 120, v 121, v 122, v 123, v 124, v 125, v 126, v 127, v 128, v 129, v 130, v 131, v 132, v 133, v 134, v 135, v 136, v 137, v 138, v 139, v 140, v 141, v 142, v 143, v 144, v 145, v 146, v 147, v 148, v 149, v 150, v 151, v 152, v 153, v 154, v 155, v 156, v 157, v 158, v 159, v 160, v 161, v 162, v 163, v 164, v 165, v 166, v 167, v 168, v 169, v 170, v 171, v 172, v 173, v 174, v 175, v 176, v 177, v 178, v 179, v 180, v 181, v 182, v 183, v 184, v 185, v 186, v 187, v 188, v 189, v 190, v 191, v 192, v 193, v 194, v 195, v 196, v 197, v 198, v 199, v 200, v 201, v 202, v 203, v 204, v 205, v 206, v 207, v 208, v 209, v 210, v 211, v 212, v 213, v 214, v 215, v 216, v 217, v 218, v 219, v 220] := by kernel_rfl
section
variable {w0 w : World} {Q : Exit → Act → World → Prop}
set_option maxRecDepth 100000 in
set_option maxHeartbeats 6400000 in
theorem hp2 {a : Act} {A l : List EM} {ab ao : Option Addr} {cb cp : Nat} {xs : List Value} {x2 x5 x10 x12 x28 x29 x30 : Value}
    (hE : EvsV w (fun k => k < w0.heap.size) (.slice ab l.length cb) l) (hw : Only (fun _ => False) w0 w)
    (hgr : Gr w 44 11 ao A.length cp xs) (hex : EXs w (fun k => k < w0.heap.size) A xs) (had : ∀ q, ao = some ⟨q, 0, none⟩ → w0.heap.size ≤ q)
    (hn : A.length + l.length ≤ 10000)
    (hL : Lv 221 a [(2, x2), (5, x5), (6, .slice ao A.length cp), (10, x10), (12, x12), (28, x28), (29, x29), (30, x30), (63, .slice ab l.length cb), (64, .int .i64 l.length), (65, .int .i64 0)])
    (hQ : ∀ a' w' ao' cp' xs', Lv 221 a' [(2, x2), (5, x5), (6, .slice ao' (A.length + l.length) cp'), (10, x10), (12, x12), (28, x28), (29, x29), (30, x30)] → Gr w' 44 11 ao' (A.length + l.length) cp' xs' → EXs w' (fun k => k < w0.heap.size) (A ++ nths A.length l) xs' → (∀ q, ao' = some ⟨q, 0, none⟩ → ao = ao' ∨ w.heap.size ≤ q) → Only (fun k => ao = some ⟨k, 0, none⟩) w w' → Q .normal a' w') :
    (hpB 2).wp Try.prog Q a w := by
  refine Code.wp_mono NoPanic.imp ?_
  conv => arg 2; whnf
  refine wp_block (wp_loop (fun a' w' => ∃ (j cp' : Nat) (ao' : Option Addr) (xs' : List Value), j ≤ l.length ∧ Lv 221 a' [(2, x2), (5, x5), (6, .slice ao' (A.length + j) cp'), (10, x10), (12, x12), (28, x28), (29, x29), (30, x30), (63, .slice ab l.length cb), (64, .int .i64 l.length), (65, .int .i64 (j : Nat))] ∧ Gr w' 44 11 ao' (A.length + j) cp' xs' ∧ EXs w' (fun k => k < w0.heap.size) (A ++ nths A.length (l.take j)) xs' ∧ (∀ q, ao' = some ⟨q, 0, none⟩ → ao = ao' ∨ w.heap.size ≤ q) ∧ Only (fun k => ao = some ⟨k, 0, none⟩) w w')
    (fun a' _ => l.length - (intOf (a'.tmps.getD 65 undef)).toNat) ⟨0, cp, ao, xs, Nat.zero_le _, hL, hgr, by rw [List.take_zero, nths, List.append_nil]; exact hex, fun q _ => .inl rfl, Only.refl _ _⟩ ?_)
  have HAD := hid had
  have hwz := hw.size
  clear hL hgr hex had
  rintro a' w' ⟨j, cp', ao', xs', hj, hI, hgr, hex, had, ho⟩
  obtain ⟨v, rfl, hv⟩ := act_fn hI
  rw [lit221] at hI ⊢
  obtain ⟨g2, g5, g6, g10, g12, g28, g29, g30, g63, g64, g65, -⟩ := hI
  change v 2 = _ at g2
  change v 5 = _ at g5
  change v 6 = _ at g6
  change v 10 = _ at g10
  change v 12 = _ at g12
  change v 28 = _ at g28
  change v 29 = _ at g29
  change v 30 = _ at g30
  change v 63 = _ at g63
  change v 64 = _ at g64
  change v 65 = _ at g65
  rw [g2, g5, g6, g10, g12, g28, g29, g30, g63, g64, g65]
  clear g2 g5 g6 g10 g12 g28 g29 g30 g63 g64 g65 hv
  have HQ := hid hQ
  have HGR := hid hgr; have HEX := hid hex; have HA := hid had; have HO := hid ho
  have hsz := ho.size
  have HSEP : Hid (∀ k, k < w0.heap.size → ¬ ao = some ⟨k, 0, none⟩) := hid fun k hk e => by have := HAD.out k e; omega
  clear hQ hgr hex had ho
  by_cases hjl : j < l.length
  · have hji : (j : Int) < l.length := by omega
    obtain ⟨ac, cc, g, o, heq, hne, hel⟩ := hE
    simp only [Value.slice.injEq, true_and] at heq
    obtain ⟨rfl, rfl⟩ := heq
    obtain ⟨rfl, hgl⟩ := hne (by rintro rfl; simp at hjl)
    obtain ⟨e, he⟩ : ∃ t, l[j]? = some t := ⟨_, List.getElem?_eq_getElem hjl⟩
    obtain ⟨cs, hcs, hEe⟩ := hel j e he
    have hcw : ∀ i u, cs[i]? = some u → w'.cell? ⟨g, o + j * 11 + i, none⟩ = some u := fun i u hu =>
      (World.cell?_of_block (HO.out.block g (World.block_lt_of_cell? _ _ (hcs i u hu)) (HSEP.out g hgl))).trans (hcs i u hu)
    have hEw := hEe.only HO.out HSEP.out
    obtain ⟨vk, vn, vs, va, vm, vc, rfl, hV⟩ := hEw.form
    have e0 := hcw 0 _ rfl
    rw [Nat.add_zero] at e0
    have e1 := hcw 1 _ rfl
    have e2 := hcw 2 _ rfl
    have e3 := hcw 3 _ rfl
    have e4 := hcw 4 _ rfl
    have e5 := hcw 5 _ rfl
    have e6 := hcw 6 _ rfl
    have e7 := hcw 7 _ rfl
    have e8 := hcw 8 _ rfl
    have e9 := hcw 9 _ rfl
    have e10 := hcw 10 _ rfl
    have HTK := hid (nths_take1 (n := A.length) he)
    have HO1 := hid (only_new w' (.cells #[.int .i64 (A.length + j + 1), .int .i64 e.tm, .int .i64 e.k, .int .i64 e.a, .int .i64 e.b, .string (strOf e.name), .string (strOf e.text), .int .i64 vk, .int .i64 vn, .string (strOf vs), .slice va vm vc] 44))
    have HEN : Hid (EAt w' (fun k => k < w0.heap.size) (e.nth (A.length + j)) [.int .i64 (((A.length + j + 1 : Nat)) : Int), .int .i64 e.tm, .int .i64 e.k, .int .i64 e.a, .int .i64 e.b, .string (strOf e.name), .string (strOf e.text), .int .i64 vk, .int .i64 vn, .string (strOf vs), .slice va vm vc]) := hid ⟨_, rfl, hV⟩
    clear hel hcs hEe hcw hEw hV he hne
    go_wp2_with ((guard_target =~ wpList _ _ _ (⟨some 76, _, _, _, _, _⟩ :: _) _ _); refine wpList_gr (o := ⟨some 76, _, _, _, _, _⟩) rfl elE (.tmp 73) (.tmp 75) rfl (HGR.out.only ((only_new w' (.cells #[.int .i64 (A.length + j + 1), .int .i64 e.tm, .int .i64 e.k, .int .i64 e.a, .int .i64 e.b, .string (strOf e.name), .string (strOf e.text), .int .i64 vk, .int .i64 vn, .string (strOf vs), .slice va vm vc] 44)).trans (only_new _ (.cells #[.int .i64 (A.length + j + 1), .int .i64 e.tm, .int .i64 e.k, .int .i64 e.a, .int .i64 e.b, .string (strOf e.name), .string (strOf e.text), .int .i64 vk, .int .i64 vn, .string (strOf vs), .slice va vm vc] 44)) (fun _ _ e => e)) (fun _ _ e => e)) rfl (some ⟨w'.heap.size + 1, 0, none⟩) 1 1 rfl [.int .i64 (((A.length + j + 1 : Nat)) : Int), .int .i64 e.tm, .int .i64 e.k, .int .i64 e.a, .int .i64 e.b, .string (strOf e.name), .string (strOf e.text), .int .i64 vk, .int .i64 vn, .string (strOf vs), .slice va vm vc] (SrcG.new (by have := blk_new (w'.alloc (.cells #[.int .i64 (A.length + j + 1), .int .i64 e.tm, .int .i64 e.k, .int .i64 e.a, .int .i64 e.b, .string (strOf e.name), .string (strOf e.text), .int .i64 vk, .int .i64 vn, .string (strOf vs), .slice va vm vc] 44)) (.cells #[.int .i64 (A.length + j + 1), .int .i64 e.tm, .int .i64 e.k, .int .i64 e.a, .int .i64 e.b, .string (strOf e.name), .string (strOf e.text), .int .i64 vk, .int .i64 vn, .string (strOf vs), .slice va vm vc] 44); rw [World.size_alloc] at this; exact this) rfl (ev_ones _ _ _ _ _ _ _ _ _ _ _ _ _)) (by omega) (by omega) ?_; intro ao2 cp2 w9 hg9 ha9 ho9; have HG9 := hid hg9; have HA9 := hid ha9; have HO9 := hid ho9; clear hg9 ha9 ho9)
    have hoN : Only (fun _ => False) w' ((w'.alloc (.cells #[.int .i64 (A.length + j + 1), .int .i64 e.tm, .int .i64 e.k, .int .i64 e.a, .int .i64 e.b, .string (strOf e.name), .string (strOf e.text), .int .i64 vk, .int .i64 vn, .string (strOf vs), .slice va vm vc] 44)).alloc (.cells #[.int .i64 (A.length + j + 1), .int .i64 e.tm, .int .i64 e.k, .int .i64 e.a, .int .i64 e.b, .string (strOf e.name), .string (strOf e.text), .int .i64 vk, .int .i64 vn, .string (strOf vs), .slice va vm vc] 44)) := (only_new _ _).trans (only_new _ _) (fun _ _ e => e)
    have hoA : Only (fun k => ao' = some ⟨k, 0, none⟩) w' w9 := (hoN.mono (fun _ _ e => e.elim)).trans HO9.out (fun _ _ e => e)
    have hS9 : ∀ k, k < w0.heap.size → ¬ ao' = some ⟨k, 0, none⟩ := fun k hk e => by
      rcases HA.out k e with h | h
      · exact HSEP.out k hk (h.trans e)
      · omega
    refine ⟨⟨j + 1, cp2, ao2, _, by omega, ⟨rfl, rfl, rfl, rfl, rfl, rfl, rfl, rfl, rfl, rfl, by show Value.int .i64 _ = _; go_num, rfl, rfl⟩, HG9.out, ?_, ?_, ?_⟩, by simp [intOf]; omega⟩
    · rw [HTK.out, ← List.append_assoc]
      exact EXs.snoc (HEN.out.only hoA hS9) (HEX.out.only hoA hS9)
    · intro q hq
      rcases HA9.out with e | e
      · rw [e] at hq
        rw [e]; exact HA.out q hq
      · rw [hq] at e
        simp only [Option.some.injEq, Addr.mk.injEq, and_true, World.size_alloc] at e
        exact .inr (by omega)
    · refine HO.out.trans hoA (fun k hk e => ?_)
      rcases HA.out k e with h | h
      · exact h.trans e
      · omega
  · obtain rfl : j = l.length := by omega
    rw [List.take_length] at HEX
    go_wp2_with fail
    exact HQ.out _ _ _ _ _ ⟨rfl, rfl, rfl, rfl, rfl, rfl, rfl, rfl, rfl, rfl⟩ HGR.out HEX.out HA.out HO.out
end
end Go.Proofs.Ytnoopajedgllhaa
namespace Go.Proofs.Ytnoopajedgllhaa
open Go.RowKit
theorem PA.app {w0 wa wb wc : World} {hb cp cp' : Nat} {s : List UInt8} {A l : List EM} {Fh F' : Nat → Prop} {ao ao' : Option Addr} {xs xs' : List Value} (h : PA w0 wa hb s A Fh ao cp xs)
    (hc : hchk (closedL A) A.length (lastT 0 A) l = 0) (hl : ∀ e ∈ l, e.rg) (hh : HistAt wb hb F' s (A.map EM.cl ++ numb (A.map EM.cl).length l)) (hF : ∀ k, F' k → Fh k ∨ wa.heap.size ≤ k) (ho : Only Fh wa wb)
    (hg : Gr wc 44 11 ao' (A.length + l.length) cp' xs') (hx : EXs wc (fun k => k < w0.heap.size) (A ++ nths A.length l) xs') (had : ∀ q, ao' = some ⟨q, 0, none⟩ → ao = ao' ∨ wb.heap.size ≤ q) (hoc : Only (fun k => ao = some ⟨k, 0, none⟩) wb wc) :
    PA w0 wc hb s (A ++ nths A.length l) F' ao' cp' xs' := by
  have hsz := ho.size
  have h0 := h.only.size
  have hlt : ∀ k, F' k → k < wb.heap.size := by obtain ⟨_, _, _, _, _, H⟩ := hh; exact H.lt
  have hsep : ∀ k, F' k → ¬ ao = some ⟨k, 0, none⟩ := fun k hk e => by
    rcases hF k hk with g | g
    · exact (h.ad k e).2 g
    · have := h.gr.lt e; omega
  refine ⟨?_, by rw [List.length_append, nths_len]; exact hg, hx, fun q hq => ?_, fun k hk => ?_, fun e he => ?_, ?_⟩
  · rw [List.map_append, ← numb_nths]
    rw [List.length_map] at hh
    exact hh.only hoc hsep
  · rcases had q hq with e | e
    · exact ⟨(h.ad q (e.trans hq)).1, fun g => hsep q g (e.trans hq)⟩
    · exact ⟨by omega, fun g => by have := hlt q g; omega⟩
  · rcases hF k hk with g | g
    · exact h.fh k g
    · omega
  · rcases List.mem_append.1 he with he | he
    · exact h.ok e he
    · obtain ⟨i, x, hi, rfl⟩ := nths_mem he
      obtain ⟨g1, g2⟩ := hchk_good hc i x hi
      obtain ⟨r1, r2, r3⟩ := hl x (List.mem_of_getElem? hi)
      exact ⟨⟨by show _ ≤ ((A.length + i + 1 : Nat) : Int) ∧ ((A.length + i + 1 : Nat) : Int) ≤ _; omega, r2, r3⟩, g1⟩
  · exact (h.only.trans ho (fun k hk e => by have := h.fh k e; omega)).trans hoc (fun k hk e => by have := (h.ad k e).1; omega)
theorem PA.at {w0 w : World} {hb cp : Nat} {s : List UInt8} {A : List EM} {Fh : Nat → Prop} {ao : Option Addr} {xs : List Value} (h : PA w0 w hb s A Fh ao cp xs) {i : Nat} {e : EM} (hi : A[i]? = some e) : ∃ g cs, ao = some ⟨g, 0, none⟩ ∧ (∀ j u, cs[j]? = some u → w.cell? ⟨g, i * 11 + j, none⟩ = some u) ∧ EAt w (fun k => k < w0.heap.size) e cs := by
  have hil : i < A.length := by
    rcases Nat.lt_or_ge i A.length with g | g
    · exact g
    · rw [List.getElem?_eq_none g] at hi; cases hi
  obtain ⟨q, hq, hc⟩ := h.gr.cells (by omega)
  obtain ⟨ds, h3, h4⟩ := EXs.at' h.exs i e hi
  exact ⟨q, ds, hq, fun j u hj => hc _ _ (h3 j u hj), h4⟩
theorem nths_evs {w w0 : World} {A l : List EM} {ao : Option Addr} {cp : Nat} {xs : List Value} (hg : Gr w 44 11 ao (A.length + l.length) cp xs) (hx : EXs w (fun k => k < w0.heap.size) (A ++ nths A.length l) xs) (h0 : w0.heap.size ≤ w.heap.size) (av : Option Addr) (cv : Nat) (h : av = Option.map (fun x => x.add (A.length * 11)) ao ∨ l = []) : EvsV w (fun k => k < w.heap.size) (.slice av l.length cv) (nths A.length l) := by
  by_cases hl : l = []
  · subst hl
    exact evs_nil _ _ _
  · obtain rfl := h.resolve_right hl
    have hp : 0 < l.length := List.length_pos_iff.2 hl
    obtain ⟨q, rfl, -⟩ := hg.cells (by omega)
    have h1 := evs_sub hg hx (by rw [List.length_append, nths_len]) (fun k hk => Nat.lt_of_lt_of_le hk h0) A.length l.length cv (Nat.le_refl _)
    rw [List.drop_left, List.take_of_length_le (by rw [nths_len]; exact Nat.le_refl _)] at h1
    show EvsV _ _ (.slice (some (Addr.add ⟨q, 0, none⟩ (A.length * 11))) _ _) _
    rw [addr_add, Nat.zero_add]
    exact h1
section
variable {w0 w : World} {Q : Exit → Act → World → Prop}
set_option maxRecDepth 100000 in
set_option maxHeartbeats 6400000 in
theorem hp0 {a : Act} {bs : List (List EM)} {bo : Option Addr} {bc hb : Nat} {s : List UInt8} {F0 : Nat → Prop} {x2 : Value}
    (hB : BsV w0 (.slice bo bs.length bc) bs) (hn12 : bs.length ≤ 12) (hP : PA w0 w hb s [] F0 none 0 [])
    (hL : Lv 221 a [(2, x2), (5, .pointer (some ⟨hb, 0, none⟩)), (6, .slice none 0 0), (28, .slice bo bs.length bc), (29, .int .i64 bs.length), (30, .int .i64 0)])
    (hR : ∀ a' w', Lv 221 a' [(4, .bool true)] → Only (fun _ => False) w0 w' → Q .ret a' w')
    (hQ : ∀ a' w' A Fh ao cp xs, Lv 221 a' [(2, x2), (5, .pointer (some ⟨hb, 0, none⟩)), (6, .slice ao A.length cp)] → PA w0 w' hb s A Fh ao cp xs → Q .normal a' w') :
    (hpB 0).wp Try.prog Q a w := by
  refine Code.wp_mono NoPanic.imp ?_
  conv => arg 2; whnf
  refine wp_block (wp_loop (fun a' w' => ∃ (j cp : Nat) (A : List EM) (Fh : Nat → Prop) (ao : Option Addr) (xs : List Value), j ≤ bs.length ∧ Lv 221 a' [(2, x2), (5, .pointer (some ⟨hb, 0, none⟩)), (6, .slice ao A.length cp), (28, .slice bo bs.length bc), (29, .int .i64 bs.length), (30, .int .i64 (j : Nat))] ∧ PA w0 w' hb s A Fh ao cp xs)
    (fun a' _ => bs.length - (intOf (a'.tmps.getD 30 undef)).toNat) ⟨0, 0, [], F0, none, [], Nat.zero_le _, hL, hP⟩ ?_)
  clear hL hP
  rintro a' w1 ⟨j, cp, A, Fh, ao, xs, hj, hI, hpa⟩
  obtain ⟨v, rfl, hv⟩ := act_fn hI
  rw [lit221] at hI ⊢
  obtain ⟨g2, g5, g6, g28, g29, g30, -⟩ := hI
  change v 2 = _ at g2
  change v 5 = _ at g5
  change v 6 = _ at g6
  change v 28 = _ at g28
  change v 29 = _ at g29
  change v 30 = _ at g30
  rw [g2, g5, g6, g28, g29, g30]
  clear g2 g5 g6 g28 g29 g30 hv
  have HQ := hid hQ; have HR := hid hR; have HPA := hid hpa
  have hn4 := hpa.n
  clear hQ hR hpa
  by_cases hjl : j < bs.length
  · have hji : (j : Int) < bs.length := by omega
    obtain ⟨bo', bc', heq, -, hel⟩ := hB
    simp only [Value.slice.injEq, true_and] at heq
    obtain ⟨rfl, rfl⟩ := heq
    obtain ⟨l, hl⟩ : ∃ t, bs[j]? = some t := ⟨_, List.getElem?_eq_getElem hjl⟩
    obtain ⟨hll, hlr, g, o, pa, pc, rfl, hcell, hev⟩ := hel j l hl
    have hc8 : w1.cell? ⟨g, o + j, none⟩ = some (.slice pa l.length pc) :=
      (World.cell?_of_block (HPA.out.only.block g (World.block_lt_of_cell? _ _ hcell) (fun e => e))).trans hcell
    have HEV0 := hid hev
    have HEV := hid (hev.same HPA.out.only)
    have HLR := hid hlr
    have HG1 : Hid (∀ k, k < w0.heap.size → k < w1.heap.size) := hid fun k hk => Nat.lt_of_lt_of_le hk HPA.out.only.size
    have HSM := hid (small_c (w := w1) HEV.out HG1.out (fun e he => (HLR.out e he).2.2.2.2.2.2.2) hll)
    clear hel hcell hev hlr hl
    go_wp2_with fail
    refine HSM.out.mono ?_
    rintro x w2 ⟨rfl, ho2⟩
    have HP2 := hid (HPA.out.same ho2)
    clear ho2 HSM
    by_cases hsm : (smB l 300 && decide (l.length ≤ 40)) = true
    rotate_left
    · have hsf : (smB l 300 && decide (l.length ≤ 40)) = false := by simpa using hsm
      rw [hsf]
      clear hsm hsf
      go_wp2_with fail
      exact HR.out _ _ ⟨rfl, rfl, rfl⟩ HP2.out.only
    rw [hsm]
    have hl40 : l.length ≤ 40 := by simp only [Bool.and_eq_true, decide_eq_true_eq] at hsm; exact hsm.2
    have HSZ := hid (fun (e : EM) (he : e ∈ l) => (show e.v.sz ≤ 1000000 by
      simp only [Bool.and_eq_true] at hsm
      have := sm_sz (by decide) hsm.1 e he; omega))
    clear hsm
    by_cases h40 : 40 < (A.length : Int)
    · go_wp2_with fail
      exact HR.out _ _ ⟨rfl, rfl, rfl⟩ HP2.out.only
    have hA40 : A.length ≤ 40 := by omega
    obtain ⟨ck, hck⟩ : ∃ x, hchk (closedL A) A.length (lastT 0 A) l = x := ⟨_, rfl⟩
    have HC18 := hid (chk18_c (w := w2) HP2.out.evs (fun e he => (HP2.out.ok e he).1) (by omega) (HEV0.out.same HP2.out.only) HLR.out (by omega))
    rw [hck] at HC18
    have HCK := hid hck
    have hcc : (ck != ck) = false := by simp
    clear hck
    go_wp2_with fail
    refine HC18.out.mono ?_
    rintro x w3 ⟨rfl, ho3⟩
    have HP3 := hid (HP2.out.same ho3)
    have HG3 : Hid (∀ k, k < w0.heap.size → k < w3.heap.size ∧ ¬ Fh k) := hid fun k hk => ⟨Nat.lt_of_lt_of_le hk HP3.out.only.size, fun e => by have := HP3.out.fh k e; omega⟩
    have HC2 := hid (hcheck2_c (w := w3) HP3.out.hist (HEV0.out.same HP3.out.only) (fun k hk => (HG3.out k hk).1) HLR.out (by omega))
    rw [closedL_cl, lastT_cl, List.length_map, HCK.out] at HC2
    clear ho3 HC18
    go_wp2_with fail
    refine HC2.out.mono ?_
    rintro x w4 ⟨rfl, ho4⟩
    have HP4 := hid (HP3.out.same ho4)
    have HAP := hid (happend_c (w := w4) HP4.out.hist (HEV0.out.same HP4.out.only) (fun k hk => ⟨Nat.lt_of_lt_of_le hk HP4.out.only.size, (HG3.out k hk).2⟩) HLR.out HSZ.out (by omega))
    clear ho4 HC2
    go_wp2_with fail
    refine HAP.out.mono ?_
    rintro x w5 (⟨hck0, adA, capA, xsA, F', B, rfl, hh, hout, hBF, hFF, hBn, ho5⟩ | ⟨hne, rfl, ho5⟩)
    · rw [closedL_cl, lastT_cl, List.length_map, HCK.out] at hck0
      subst hck0
      have hck1 : ((0 : Int) == 0) = true := rfl
      have HHH := hid hh; have HOUT := hid hout; have HBF := hid hBF; have HFF := hid hFF; have HBN := hid hBn; have HO5 := hid ho5
      clear hh hout hBF hFF hBn ho5 HAP
      go_upto_block 2 with fail
      have HSEP5 : Hid (∀ k, k < w0.heap.size → ¬ Fh k) := hid fun k hk => (HG3.out k hk).2
      have hoW : Only (fun _ => False) w0 w5 := HP4.out.only.trans HO5.out (fun k hk e => (HSEP5.out k hk e))
      refine hp2 (w0 := w0) (w := w5) (a := _) (A := A) (l := l) (x2 := x2) (x28 := .slice (some ⟨g, o, none⟩) bs.length bc) (x29 := .int .i64 bs.length) (x30 := .int .i64 (j : Nat)) (x5 := .pointer (some ⟨hb, 0, none⟩)) (x10 := .slice adA l.length capA) (x12 := .int .i64 A.length) (xs := xs) (HEV0.out.same hoW) hoW (HP4.out.gr.only HO5.out (fun q hq e => (HP4.out.ad q hq).2 e)) (HP4.out.exs.only HO5.out HSEP5.out) (fun q hq => (HP4.out.ad q hq).1) (by omega) ⟨rfl, rfl, rfl, rfl, rfl, rfl, rfl, rfl, rfl, rfl, rfl, rfl, rfl⟩ ?_
      intro a6 w6 ao6 cp6 xs6 hI6 hgr6 hex6 had6 ho6
      have HPZ := hid (PA.app HP4.out HCK.out HLR.out HHH.out HFF.out HO5.out hgr6 hex6 had6 ho6)
      have HOT6 : Hid (EvsV w6 (fun k => B k ∧ k < w5.heap.size) (.slice adA l.length capA) (numb A.length l)) := hid (by
        have h1 := HOUT.out.evs
        rw [List.length_map] at h1
        exact h1.only ho6 (fun k hk e => by have := HBN.out k hk.1; have := HP4.out.gr.lt e; omega))
      have HPG := hid hgr6; have HPX6 := hid hex6
      clear hgr6 hex6 had6 ho6 hoW HHH HOUT HBF HFF HBN HO5 HP2 HP3 HP4 HSEP5 HG3 HEV HPA hc8
      have HSAM : Hid (∀ (av : Option Addr) (cv : Nat), (av = Option.map (fun x => x.add (A.length * 11)) ao6 ∨ l = []) → Calls Try.prog 16 #[.slice adA l.length capA, .slice av l.length cv] w6 fun x w' => x = .returned (.bool true) ∧ Only (fun _ => False) w6 w') := hid fun av cv h => by
        have h1 := nths_evs (w0 := w0) HPG.out HPX6.out HPZ.out.only.size av cv h
        have h2 := same_c (w := w6) HOT6.out h1 (fun e he => HPZ.out.kd' e (by rw [List.map_append, ← numb_nths]; exact List.mem_append.2 (.inr he))) (fun e he => HPZ.out.kd e (List.mem_append.2 (.inr he))) (by rw [numb_nths, List.length_map, nths_len]; omega)
        rw [numb_nths, samL_cl] at h2
        exact h2
      have hcap := HPG.out.2.1
      obtain ⟨A1, hA1⟩ : ∃ x, A ++ nths A.length l = x := ⟨_, rfl⟩
      have hAl : A.length + l.length = A1.length := by rw [← hA1, List.length_append, nths_len]
      rw [hA1] at HPZ
      have HAL := hid hAl
      clear hA1 hAl
      obtain ⟨u, rfl, hu⟩ := act_fn hI6
      rw [lit221] at hI6 ⊢
      obtain ⟨g2, g5, g6, g10, g12, g28, g29, g30, -⟩ := hI6
      change u 2 = _ at g2
      change u 5 = _ at g5
      change u 6 = _ at g6
      change u 10 = _ at g10
      change u 12 = _ at g12
      change u 28 = _ at g28
      change u 29 = _ at g29
      change u 30 = _ at g30
      rw [g2, g5, g6, g10, g12, g28, g29, g30]
      clear g2 g5 g6 g10 g12 g28 g29 g30 hu
      by_cases hcp : cp6 = A.length
      · have hl0 : l = [] := List.eq_nil_of_length_eq_zero (by omega)
        have HL0 := hid hl0
        clear hl0
        go_wp2_with fail
        refine (HSAM.out _ _ (.inr HL0.out)).mono ?_
        rintro x w7 ⟨rfl, ho7⟩
        have HP7 := hid (HPZ.out.same ho7)
        clear ho7 HSAM HPG HPX6 HPZ HOT6
        clear hcap hcp
        go_upto_region 28 with fail
        rw [HAL.out]
        have HLEN := hid (hlen_c (w := w7) HP7.out.hist)
        rw [List.length_map] at HLEN
        have HALL := hid (hall_c (w := w7) HP7.out.hist)
        rw [List.length_map] at HALL
        have hnn : ((A1.length : Int) != A1.length) = false := by simp
        have HN := HP7.out.n
        go_wp2_with fail
        refine HLEN.out.mono ?_
        rintro x w20 ⟨rfl, rfl⟩
        go_wp2_with fail
        refine HALL.out.mono ?_
        rintro x w21 ⟨a21, c21, xs21, rfl, hout21, ho21⟩
        have HP21 := hid (HP7.out.same ho21)
        have HSA := hid (same_c (w := w21) hout21.evs HP21.out.evs HP21.out.kd' HP21.out.kd (by rw [List.length_map]; omega))
        rw [samL_cl] at HSA
        clear hout21 ho21 HLEN HALL
        go_wp2_with fail
        refine HSA.out.mono ?_
        rintro x w22 ⟨rfl, ho22⟩
        have HP22 := hid (HP21.out.same ho22)
        have HCD := hid (hclosed_c (w := w22) HP22.out.hist)
        rw [closedL_cl] at HCD
        clear ho22 HSA HP21
        go_wp2_with fail
        refine HCD.out.mono ?_
        rintro x w23 ⟨rfl, ho23⟩
        have HP23 := hid (HP22.out.same ho23)
        clear ho23 HCD HP22
        by_cases hA0 : A1 = []
        · have hc0 : closedL A1 = false := by rw [hA0]; rfl
          have hA00 : A1.length = 0 := by rw [hA0]; rfl
          have hA01 : ¬ (0 : Int) < A1.length := by omega
          rw [hc0]
          clear hA0 hc0
          go_wp2_with fail
          exact ⟨⟨j + 1, cp6, A1, F', ao6, xs6, by omega, ⟨rfl, rfl, by show Value.slice _ _ _ = _; rw [hA00], rfl, rfl, by show Value.int .i64 _ = _; go_num, rfl, rfl⟩, HP23.out⟩, by simp [intOf]; omega⟩
        · have hA01 : (0 : Int) < A1.length := by have := List.length_pos_iff.2 hA0; omega
          obtain ⟨e, he⟩ : ∃ t, A1[A1.length - 1]? = some t := ⟨_, List.getElem?_eq_getElem (by omega)⟩
          have hcl : closedL A1 = closesB e.k := by unfold closedL; rw [List.getLast?_eq_getElem?, he]
          obtain ⟨gz, cs, hao, hcw, hE⟩ := HP23.out.at he
          have HCZ := hid (closes_c hE)
          obtain ⟨vk, vn, vs, va, vm, vc, rfl, hV⟩ := hE.form
          have e0 := hcw 0 _ rfl
          rw [Nat.add_zero] at e0
          have e1 := hcw 1 _ rfl
          have e2 := hcw 2 _ rfl
          have e3 := hcw 3 _ rfl
          have e4 := hcw 4 _ rfl
          have e5 := hcw 5 _ rfl
          have e6 := hcw 6 _ rfl
          have e7 := hcw 7 _ rfl
          have e8 := hcw 8 _ rfl
          have e9 := hcw 9 _ rfl
          have e10 := hcw 10 _ rfl
          have hbb : (closesB e.k != closesB e.k) = false := by simp
          rw [hcl]
          have HPX := hid HP23.out
          have HAO := hid hao
          rw [hao]
          clear hE hV he hcw hA0 hcl HP23 hao
          go_wp2_with fail
          refine HCZ.out.mono ?_
          rintro x w24 ⟨rfl, ho24⟩
          have HP24 := hid (HPX.out.same ho24)
          clear ho24 HCZ HPX
          go_wp2_with fail
          exact ⟨⟨j + 1, cp6, A1, F', ao6, xs6, by omega, ⟨rfl, rfl, by show Value.slice _ _ _ = _; rw [HAO.out], rfl, rfl, by show Value.int .i64 _ = _; go_num, rfl, rfl⟩, HP24.out⟩, by simp [intOf]; omega⟩

      · go_wp2_with fail
        refine (HSAM.out _ _ (.inl rfl)).mono ?_
        rintro x w7 ⟨rfl, ho7⟩
        have HP7 := hid (HPZ.out.same ho7)
        clear ho7 HSAM HPG HPX6 HPZ HOT6
        clear hcap hcp
        go_upto_region 28 with fail
        rw [HAL.out]
        have HLEN := hid (hlen_c (w := w7) HP7.out.hist)
        rw [List.length_map] at HLEN
        have HALL := hid (hall_c (w := w7) HP7.out.hist)
        rw [List.length_map] at HALL
        have hnn : ((A1.length : Int) != A1.length) = false := by simp
        have HN := HP7.out.n
        go_wp2_with fail
        refine HLEN.out.mono ?_
        rintro x w20 ⟨rfl, rfl⟩
        go_wp2_with fail
        refine HALL.out.mono ?_
        rintro x w21 ⟨a21, c21, xs21, rfl, hout21, ho21⟩
        have HP21 := hid (HP7.out.same ho21)
        have HSA := hid (same_c (w := w21) hout21.evs HP21.out.evs HP21.out.kd' HP21.out.kd (by rw [List.length_map]; omega))
        rw [samL_cl] at HSA
        clear hout21 ho21 HLEN HALL
        go_wp2_with fail
        refine HSA.out.mono ?_
        rintro x w22 ⟨rfl, ho22⟩
        have HP22 := hid (HP21.out.same ho22)
        have HCD := hid (hclosed_c (w := w22) HP22.out.hist)
        rw [closedL_cl] at HCD
        clear ho22 HSA HP21
        go_wp2_with fail
        refine HCD.out.mono ?_
        rintro x w23 ⟨rfl, ho23⟩
        have HP23 := hid (HP22.out.same ho23)
        clear ho23 HCD HP22
        by_cases hA0 : A1 = []
        · have hc0 : closedL A1 = false := by rw [hA0]; rfl
          have hA00 : A1.length = 0 := by rw [hA0]; rfl
          have hA01 : ¬ (0 : Int) < A1.length := by omega
          rw [hc0]
          clear hA0 hc0
          go_wp2_with fail
          exact ⟨⟨j + 1, cp6, A1, F', ao6, xs6, by omega, ⟨rfl, rfl, by show Value.slice _ _ _ = _; rw [hA00], rfl, rfl, by show Value.int .i64 _ = _; go_num, rfl, rfl⟩, HP23.out⟩, by simp [intOf]; omega⟩
        · have hA01 : (0 : Int) < A1.length := by have := List.length_pos_iff.2 hA0; omega
          obtain ⟨e, he⟩ : ∃ t, A1[A1.length - 1]? = some t := ⟨_, List.getElem?_eq_getElem (by omega)⟩
          have hcl : closedL A1 = closesB e.k := by unfold closedL; rw [List.getLast?_eq_getElem?, he]
          obtain ⟨gz, cs, hao, hcw, hE⟩ := HP23.out.at he
          have HCZ := hid (closes_c hE)
          obtain ⟨vk, vn, vs, va, vm, vc, rfl, hV⟩ := hE.form
          have e0 := hcw 0 _ rfl
          rw [Nat.add_zero] at e0
          have e1 := hcw 1 _ rfl
          have e2 := hcw 2 _ rfl
          have e3 := hcw 3 _ rfl
          have e4 := hcw 4 _ rfl
          have e5 := hcw 5 _ rfl
          have e6 := hcw 6 _ rfl
          have e7 := hcw 7 _ rfl
          have e8 := hcw 8 _ rfl
          have e9 := hcw 9 _ rfl
          have e10 := hcw 10 _ rfl
          have hbb : (closesB e.k != closesB e.k) = false := by simp
          rw [hcl]
          have HPX := hid HP23.out
          have HAO := hid hao
          rw [hao]
          clear hE hV he hcw hA0 hcl HP23 hao
          go_wp2_with fail
          refine HCZ.out.mono ?_
          rintro x w24 ⟨rfl, ho24⟩
          have HP24 := hid (HPX.out.same ho24)
          clear ho24 HCZ HPX
          go_wp2_with fail
          exact ⟨⟨j + 1, cp6, A1, F', ao6, xs6, by omega, ⟨rfl, rfl, by show Value.slice _ _ _ = _; rw [HAO.out], rfl, rfl, by show Value.int .i64 _ = _; go_num, rfl, rfl⟩, HP24.out⟩, by simp [intOf]; omega⟩

    · have hck1 : (ck == 0) = false := by rw [closedL_cl, lastT_cl, List.length_map, HCK.out] at hne; simpa using hne
      have HP7 := hid (HP4.out.same ho5)
      clear hne ho5 HP2 HP3 HP4 HG3 HEV HPA hc8 HAP
      rw [closedL_cl, lastT_cl, List.length_map, HCK.out]
      go_upto_region 28 with fail
      have HLEN := hid (hlen_c (w := w5) HP7.out.hist)
      rw [List.length_map] at HLEN
      have HALL := hid (hall_c (w := w5) HP7.out.hist)
      rw [List.length_map] at HALL
      have hnn : ((A.length : Int) != A.length) = false := by simp
      have HN := HP7.out.n
      go_wp2_with fail
      refine HLEN.out.mono ?_
      rintro x w20 ⟨rfl, rfl⟩
      go_wp2_with fail
      refine HALL.out.mono ?_
      rintro x w21 ⟨a21, c21, xs21, rfl, hout21, ho21⟩
      have HP21 := hid (HP7.out.same ho21)
      have HSA := hid (same_c (w := w21) hout21.evs HP21.out.evs HP21.out.kd' HP21.out.kd (by rw [List.length_map]; omega))
      rw [samL_cl] at HSA
      clear hout21 ho21 HLEN HALL
      go_wp2_with fail
      refine HSA.out.mono ?_
      rintro x w22 ⟨rfl, ho22⟩
      have HP22 := hid (HP21.out.same ho22)
      have HCD := hid (hclosed_c (w := w22) HP22.out.hist)
      rw [closedL_cl] at HCD
      clear ho22 HSA HP21
      go_wp2_with fail
      refine HCD.out.mono ?_
      rintro x w23 ⟨rfl, ho23⟩
      have HP23 := hid (HP22.out.same ho23)
      clear ho23 HCD HP22
      by_cases hA0 : A = []
      · have hc0 : closedL A = false := by rw [hA0]; rfl
        have hA00 : A.length = 0 := by rw [hA0]; rfl
        have hA01 : ¬ (0 : Int) < A.length := by omega
        rw [hc0]
        clear hA0 hc0
        go_wp2_with fail
        exact ⟨⟨j + 1, cp, A, Fh, ao, xs, by omega, ⟨rfl, rfl, by show Value.slice _ _ _ = _; rw [hA00], rfl, rfl, by show Value.int .i64 _ = _; go_num, rfl, rfl⟩, HP23.out⟩, by simp [intOf]; omega⟩
      · have hA01 : (0 : Int) < A.length := by have := List.length_pos_iff.2 hA0; omega
        obtain ⟨e, he⟩ : ∃ t, A[A.length - 1]? = some t := ⟨_, List.getElem?_eq_getElem (by omega)⟩
        have hcl : closedL A = closesB e.k := by unfold closedL; rw [List.getLast?_eq_getElem?, he]
        obtain ⟨gz, cs, hao, hcw, hE⟩ := HP23.out.at he
        have HCZ := hid (closes_c hE)
        obtain ⟨vk, vn, vs, va, vm, vc, rfl, hV⟩ := hE.form
        have e0 := hcw 0 _ rfl
        rw [Nat.add_zero] at e0
        have e1 := hcw 1 _ rfl
        have e2 := hcw 2 _ rfl
        have e3 := hcw 3 _ rfl
        have e4 := hcw 4 _ rfl
        have e5 := hcw 5 _ rfl
        have e6 := hcw 6 _ rfl
        have e7 := hcw 7 _ rfl
        have e8 := hcw 8 _ rfl
        have e9 := hcw 9 _ rfl
        have e10 := hcw 10 _ rfl
        have hbb : (closesB e.k != closesB e.k) = false := by simp
        rw [hcl]
        have HPX := hid HP23.out
        have HAO := hid hao
        rw [hao]
        clear hE hV he hcw hA0 hcl HP23 hao
        go_wp2_with fail
        refine HCZ.out.mono ?_
        rintro x w24 ⟨rfl, ho24⟩
        have HP24 := hid (HPX.out.same ho24)
        clear ho24 HCZ HPX
        go_wp2_with fail
        exact ⟨⟨j + 1, cp, A, Fh, ao, xs, by omega, ⟨rfl, rfl, by show Value.slice _ _ _ = _; rw [HAO.out], rfl, rfl, by show Value.int .i64 _ = _; go_num, rfl, rfl⟩, HP24.out⟩, by simp [intOf]; omega⟩

  · obtain rfl : j = bs.length := by omega
    go_wp2_with fail
    exact HQ.out _ _ _ _ _ _ _ ⟨rfl, rfl, rfl, rfl, rfl⟩ HPA.out
end
end Go.Proofs.Ytnoopajedgllhaa
namespace Go.Proofs.Ytnoopajedgllhaa
open Go.RowKit
section
variable {P : Program} {ops : Array Oper} {Q : Exit → Act → World → Prop} {fs : List (Nat × PtF)} {J : (Nat → Bool) → World → Prop} {a0 : Act}
/-- The guard of an operation: none, or on operation g, of which the answer is known. -/
def PnG (ops : Array Oper) (fs : List (Nat × PtF)) (o : Oper) (yes : Bool) : Prop :=
  (o.guard = none ∧ yes = true) ∨ ∃ g b e x os, o.guard = some (g, b) ∧ ops.toList.drop g = x :: os ∧ x.dst = some e ∧ (fs[g]? = some (e, fun _ v => v = .bool (b == yes)) ∨ (yes = false ∧ fs[g]? = some (e, fun _ v => v = undef))) ∧ (o.after.toList.any fun d => Region.binds .any d && decide (d.on = g)) = true
theorem PnG.wanted {o : Oper} {yes : Bool} (h : PnG ops fs o yes) {L : Nat → Bool} {a : Act} {w : World} (hI : PtI fs J a0 L a w) (hd : (o.after.toList.all fun e => !Region.binds .any e || L e.on) = true) : Region.wanted o (yielded ops a.tmps) = yes := by
  rcases h with ⟨h1, h2⟩ | ⟨g, b, e, x, os, h1, h2, h3, h4, h5⟩
  · subst h2; simp [Region.wanted, h1]
  · have hx : ops[g]? = some x := by
      have h6 : (ops.toList.drop g)[0]? = some x := by rw [h2]; rfl
      rw [List.getElem?_drop, Nat.add_zero] at h6
      simpa using h6
    rcases h4 with h4 | ⟨h6, h4⟩
    · have hf : a.eval (.tmp e) = .bool (b == yes) := hI.fact g e _ h4 (dep_of hd g h5)
      have ht : a.tmps[e]? = some (.bool (b == yes)) := by
        simp only [Act.eval, Array.getD_eq_getD_getElem?] at hf
        cases hc : a.tmps[e]? with
        | none => rw [hc] at hf; simp [undef] at hf
        | some v => rw [hc] at hf; simp at hf; rw [hf]
      simp only [Region.wanted, h1, yielded, hx, Option.bind_some, h3, ht]
      cases b <;> cases yes <;> rfl
    · subst h6
      have hf : a.eval (.tmp e) = undef := hI.fact g e _ h4 (dep_of hd g h5)
      simp only [Act.eval, Array.getD_eq_getD_getElem?] at hf
      cases hc : a.tmps[e]? with
      | none => simp only [Region.wanted, h1, yielded, hx, Option.bind_some, h3, hc]; cases b <;> rfl
      | some v =>
        rw [hc] at hf
        simp only [Option.getD_some] at hf
        subst hf
        simp only [Region.wanted, h1, yielded, hx, Option.bind_some, h3, hc]; cases b <;> rfl
/-- Each operation's duty: it is run, or its guard says no. -/
def PnAllS (P : Program) (ops : Array Oper) (Q : Exit → Act → World → Prop) (fs : List (Nat × PtF)) (J : (Nat → Bool) → World → Prop) (a0 : Act) : Nat → List Oper → List (Nat × PtF) → Prop
  | _, [], [] => True
  | n, o :: os, (d, p) :: ps => o.dst = some d ∧ ((PnG ops fs o true ∧ PtS P Q fs J a0 n o d p) ∨ (PnG ops fs o false ∧ (∀ w, p w undef) ∧ ∀ L W, J L W → J (fun j => j == n || L j) W)) ∧ PnAllS P ops Q fs J a0 (n + 1) os ps
  | _, _, _ => False
theorem PnAllS.nil {n : Nat} {l : List Oper} (hl : l = []) : PnAllS P ops Q fs J a0 n l [] := by subst hl; exact trivial
theorem PnAllS.cons {n : Nat} {o : Oper} {os l : List Oper} {d : Nat} {p : PtF} {ps : List (Nat × PtF)} (hl : l = o :: os) (h1 : o.dst = some d) (hg : PnG ops fs o true) (h2 : PtS P Q fs J a0 n o d p) (h3 : PnAllS P ops Q fs J a0 (n + 1) os ps) : PnAllS P ops Q fs J a0 n l ((d, p) :: ps) := by subst hl; exact ⟨h1, .inl ⟨hg, h2⟩, h3⟩
theorem PnAllS.skip {n : Nat} {o : Oper} {os l : List Oper} {d : Nat} {p : PtF} {ps : List (Nat × PtF)} (hl : l = o :: os) (h1 : o.dst = some d) (hg : PnG ops fs o false) (hp : ∀ w, p w undef) (hJ : ∀ L W, J L W → J (fun j => j == n || L j) W) (h3 : PnAllS P ops Q fs J a0 (n + 1) os ps) : PnAllS P ops Q fs J a0 n l ((d, p) :: ps) := by subst hl; exact ⟨h1, .inr ⟨hg, hp, hJ⟩, h3⟩
theorem PnAllS.get : ∀ (os : List Oper) (ps : List (Nat × PtF)) (m : Nat), PnAllS P ops Q fs J a0 m os ps → ∀ (n : Nat) (o : Oper), os[n]? = some o → ∃ d p, ps[n]? = some (d, p) ∧ o.dst = some d ∧ ((PnG ops fs o true ∧ PtS P Q fs J a0 (m + n) o d p) ∨ (PnG ops fs o false ∧ (∀ w, p w undef) ∧ ∀ L W, J L W → J (fun j => j == (m + n) || L j) W))
  | [], [], _, _, n, o, h => by simp at h
  | [], _ :: _, _, h, _, _, _ => h.elim
  | _ :: _, [], _, h, _, _, _ => h.elim
  | o' :: os, (d, p) :: ps, m, hh, 0, o, h => by
    simp only [List.getElem?_cons_zero, Option.some.injEq] at h
    subst h; exact ⟨d, p, rfl, hh.1, hh.2.1⟩
  | o' :: os, (d, p) :: ps, m, hh, n + 1, o, h => by
    simp only [List.getElem?_cons_succ] at h
    have := PnAllS.get os ps (m + 1) hh.2.2 n o h
    rw [show m + (n + 1) = m + 1 + n from by omega]
    exact this
theorem PnAllS.len : ∀ (os : List Oper) (ps : List (Nat × PtF)) (m : Nat), PnAllS P ops Q fs J a0 m os ps → ps.length = os.length
  | [], [], _, _ => rfl
  | [], _ :: _, _, h => h.elim
  | _ :: _, [], _, h => h.elim
  | o :: os, x :: ps, m, h => by rw [List.length_cons, List.length_cons, PnAllS.len os ps (m + 1) h.2.2]
theorem region_pn {id : Nat} {a0 : Act} {w0 : World} (m : Nat) (fl : List Nat) (hm : P.follows .mixedOrders = true) (hb : edgesBack ops = true) (hf : (tailForced ops m fl && decide (m ≤ ops.size) && floatOk ops m fl) = true)
    (fs : List (Nat × PtF)) (J : (Nat → Bool) → World → Prop) (hnd : (fs.map Prod.fst).Nodup) (hlt : ∀ d ∈ fs.map Prod.fst, d < a0.tmps.size) (h0 : J (fun _ => false) w0.drew)
    (hQ : fl = [] ∨ ∀ (c : _) (a : Act) (d : Option Tmp) (v : Value) (w : World), Q (.panic c) (a.put d v) w → Q (.panic c) a w) (hfl : PtFls P ops fs J a0 fl)
    (hs : PnAllS P ops Q fs J a0 0 (ops.toList.take m) fs) (hq : ∀ L a w, Alike (fs.map Prod.fst) a0 a → J L w → PtAll a w fs → wpList P ops Q (ops.toList.drop m) a w) : (Code.region id ops true).wp P Q a0 w0 := by
  have hput : ∀ (n d : Nat) (p : PtF) (L : Nat → Bool) (a : Act) (w w' : World) (v : Value), fs[n]? = some (d, p) → PtI fs J a0 L a w → J (fun j => j == n || L j) w' → PtKeep fs L n w w' → p w' v → PtI fs J a0 (fun j => j == n || L j) (a.put (some d) v) w' := by
    intro n d p L a w w' v hnp hI hj hr hp
    have hmem : d ∈ fs.map Prod.fst := List.mem_map.2 ⟨(d, p), List.mem_of_getElem? hnp, rfl⟩
    refine ⟨hI.alike.put d v hmem, hj, fun n' d' p' hm' hL => ?_⟩
    rw [eval_put _ _ _ _ (by rw [hI.alike.size]; exact hlt d hmem)]
    by_cases e : n' = n
    · subst e
      rw [hnp] at hm'
      simp only [Option.some.injEq, Prod.mk.injEq] at hm'
      obtain ⟨rfl, rfl⟩ := hm'
      rw [if_pos rfl]; exact hp
    · have hd' : d' ≠ d := by
        rintro rfl
        have h1 : (fs.map Prod.fst)[n]? = some d' := by rw [List.getElem?_map, hnp]; rfl
        have h2 : (fs.map Prod.fst)[n']? = some d' := by rw [List.getElem?_map, hm']; rfl
        obtain ⟨l1, e1⟩ := List.getElem?_eq_some_iff.1 h1
        obtain ⟨l2, e2⟩ := List.getElem?_eq_some_iff.1 h2
        exact e ((List.getElem_inj hnd).1 (e2.trans e1.symm))
      rw [if_neg hd']
      have hL' : L n' = true := by simpa [e] using hL
      exact hr n' d' p' hm' e hL' _ (hI.fact n' d' p' hm' hL')
  have hsteps : ∀ (n : Nat) (o : Oper), (ops.toList.take m)[n]? = some o → StepI P ops Q (PtI fs J a0) n o := by
    intro n o hn L a w K hI hLn hdeps hK
    obtain ⟨d, p, hnp, hdst, hS⟩ := PnAllS.get _ _ 0 hs n o hn
    rw [Nat.zero_add] at hS
    rcases hS with ⟨hg, hS⟩ | ⟨hg, hp, hJ⟩
    · rw [if_pos (hg.wanted hI hdeps)]
      exact hS L a w K hI hLn hdeps (fun v w' hj hr hp => hK _ _ (hput n d p L a w w' v hnp hI hj hr hp))
    · rw [if_neg (by rw [hg.wanted hI hdeps]; simp), hdst]
      exact hK _ _ (hput n d p L a w w undef hnp hI (hJ _ _ hI.j) PtKeep.refl (hp w))
  have hall : ∀ (l : List Oper) (k : Nat), (∀ (n : Nat) (o : Oper), l[n]? = some o → StepI P ops Q (PtI fs J a0) (k + n) o) → AllSteps P ops Q (PtI fs J a0) k l := by
    intro l
    induction l with
    | nil => intro _ _; exact trivial
    | cons o l ih => intro k h; exact ⟨h 0 o rfl, ih (k + 1) fun n o' hn => by have := h (n + 1) o' hn; rwa [show k + (n + 1) = k + 1 + n from by omega] at this⟩
  have hl := PnAllS.len _ _ _ hs
  refine region_tail m fl hm hb hf (PtI fs J) hQ ?_ ⟨Alike.refl _ _, h0, fun _ _ _ _ h => by cases h⟩ (hall _ 0 (fun n o hn => by rw [Nat.zero_add]; exact hsteps n o hn)) (fun L a w hI hL => hq L a w hI.alike hI.j (ptAll_of fs fun n d p hn => hI.fact n d p hn (hL n ?_)))
  case refine_1 =>
    intro L a w n o hnf ho hI hLn hdeps
    obtain ⟨o', d, p, ho', hnp, hdst, hJ, hS⟩ := PtFls.get fl hfl n hnf
    rw [ho] at ho'
    obtain rfl := Option.some.inj ho'
    obtain ⟨v, hv, hp⟩ := hS L a w hI hdeps
    refine ⟨v, hv, ?_⟩
    rw [hdst]
    exact hput n d p L a w w v hnp hI (hJ _ _ hI.j) PtKeep.refl (hp w)
  have h1 : n < fs.length := by
    rcases Nat.lt_or_ge n fs.length with h | h
    · exact h
    · rw [List.getElem?_eq_none h] at hn; cases hn
  have h2 : (ops.toList.take m).length ≤ m := List.length_take_le _ _
  omega
end
end Go.Proofs.Ytnoopajedgllhaa
namespace Go.Proofs.Ytnoopajedgllhaa
open Go.RowKit
section
variable {w0 w : World} {Q : Exit → Act → World → Prop}
set_option maxRecDepth 100000 in
set_option maxHeartbeats 6400000 in
theorem hp4 {a : Act} {A : List EM} {Fh : Nat → Prop} {ao sa : Option Addr} {cp sc bx hb : Nat} {xs : List Value} {s : List UInt8}
    (hbx : w0.heap[bx]? = some (.cells (bytesV s).toArray 29 (0, 0))) (hP : PA w0 w hb s A Fh ao cp xs) (hg : Gr w 29 32 sa A.length sc ((chainS s A).flatMap bytesV))
    (hL : Lv 221 a [(2, .pointer (some ⟨bx, 0, none⟩)), (5, .pointer (some ⟨hb, 0, none⟩)), (6, .slice ao A.length cp), (15, .slice sa A.length sc), (16, .int .i64 (-1))])
    (hQ : ∀ a' w', Lv 221 a' [(2, .pointer (some ⟨bx, 0, none⟩)), (5, .pointer (some ⟨hb, 0, none⟩)), (6, .slice ao A.length cp), (15, .slice sa A.length sc)] → PA w0 w' hb s A Fh ao cp xs → Gr w' 29 32 sa A.length sc ((chainS s A).flatMap bytesV) → Q .normal a' w') :
    (hpB 4).wp Try.prog Q a w := by
  refine Code.wp_mono NoPanic.imp ?_
  conv => arg 2; whnf
  refine wp_block (wp_loop (fun a' w' => ∃ n : Int, -1 ≤ n ∧ n ≤ A.length + 2 ∧ Lv 221 a' [(2, .pointer (some ⟨bx, 0, none⟩)), (5, .pointer (some ⟨hb, 0, none⟩)), (6, .slice ao A.length cp), (15, .slice sa A.length sc), (16, .int .i64 n)] ∧ PA w0 w' hb s A Fh ao cp xs ∧ Gr w' 29 32 sa A.length sc ((chainS s A).flatMap bytesV))
    (fun a' _ => (A.length + 2 - intOf (a'.tmps.getD 16 undef)).toNat) ⟨-1, by omega, by omega, hL, hP, hg⟩ ?_)
  have hs32 : s.length = 32 := by obtain ⟨_, _, _, _, _, H⟩ := hP.hist; exact H.len
  clear hL hP hg
  rintro a' w1 ⟨n, hn0, hn2, hI, hpa, hgr⟩
  obtain ⟨v, rfl, hv⟩ := act_fn hI
  rw [lit221] at hI ⊢
  obtain ⟨g2, g5, g6, g15, g16, -⟩ := hI
  change v 2 = _ at g2
  change v 5 = _ at g5
  change v 6 = _ at g6
  change v 15 = _ at g15
  change v 16 = _ at g16
  rw [g2, g5, g6, g15, g16]
  clear g2 g5 g6 g15 g16 hv
  have HQ := hid hQ; have HPA := hid hpa; have HGR := hid hgr; have HS32 := hid hs32; have HBX := hid hbx
  have hn4 := hpa.n
  have hbl : bx < w0.heap.size := blk_lt hbx
  clear hQ hpa hgr hs32 hbx
  by_cases hle : n ≤ (A.length : Int) + 1
  rotate_left
  · obtain rfl : n = (A.length : Int) + 2 := by omega
    have hle' : ¬ (A.length : Int) + 2 ≤ (A.length : Int) + 1 := by omega
    go_wp2_with fail
    exact HQ.out _ _ ⟨rfl, rfl, rfl, rfl, rfl, rfl⟩ HPA.out HGR.out
  rcases Int.lt_or_le n 0 with hneg | hpos
  · obtain rfl : n = -1 := by omega
    obtain ⟨C, hC⟩ : ∃ x : List UInt8, List.replicate 32 0 = x := ⟨_, rfl⟩
    have h32 : C.length = 32 := by rw [← hC]; simp
    have HAT : Hid (Calls Try.prog 35 #[.pointer (some ⟨hb, 0, none⟩), .int .i64 (-1)] w1 fun x w' => x = .returned (.tuple #[.agg (bytesV C).toArray, .int .i64 1]) ∧ Only (fun _ => False) w1 w') := hid (by rw [← hC]; rw [← zero_sum]; exact hat_bad HPA.out.hist (-1) (.inl (by omega)))
    have hsz : ((bytesV C).toArray).size = (byA st0 0).size := by simp [h32, byA]
    have his : (Try.prog.info? 29).map (·.size) = some ((bytesV C).toArray).size := by rw [info32]; simp [h32]
    have hon := bytesV_one' C
    have HCE := hid hC; have H32 := hid h32
    obtain ⟨CL, hCL⟩ : ∃ x, (bytesV C).toArray = x := ⟨_, rfl⟩
    rw [hCL] at HAT hsz his hon
    have HSZ := hid hsz; have HIS := hid his; have HON := hid hon; have HCL := hid hCL
    clear hC h32 hsz his hon hCL
    go_wp2_with fail
    refine HAT.out.mono ?_
    rintro x w2 ⟨rfl, ho2⟩
    have HP2 := hid (HPA.out.same ho2)
    have HG2 := hid (HGR.out.only ho2 (fun _ _ e => e))
    clear ho2 HAT
    go_wp2_with ((guard_target =~ wpList _ _ _ (⟨none, .store 29 (.tmp 17) _, _, _, _, _⟩ :: _) _ _); refine wpList_store_all rfl 29 (.tmp 17) (.tmp 128) rfl w2.heap.size CL rfl rfl (byA st0 0) 29 (blk_new w2 _) HSZ.out HIS.out HON.out ?_; intro w9 hb9 ho9 hs9; have HB9 := hid hb9; have HO9 : Hid (Only (fun _ => False) w2 w9) := hid ((only_new w2 _).trans ho9 (fun k hk e => by have e' : k = w2.heap.size := e; omega)); clear hb9 ho9 hs9)
    have HP9 := hid (HP2.out.same HO9.out)
    have HG9 := hid (HG2.out.only HO9.out (fun _ _ e => e))
    refine (hget_bad HP9.out.hist _ (by rw [List.length_map]; omega)).mono ?_
    rintro x w10 ⟨rfl, ho10⟩
    have HP10 := hid (HP9.out.same ho10)
    have HG10 := hid (HG9.out.only ho10 (fun _ _ e => e))
    have HB10 := hid (blk_only HB9.out ho10 (fun e => e))
    clear ho10 HP2 HG2 HP9 HG9 HB9 HO9
    go_wp2_with fail
    exact ⟨⟨0, by omega, by omega, ⟨rfl, rfl, rfl, rfl, by show Value.int .i64 _ = _; go_num, rfl, rfl⟩, HP10.out.same (only_new _ _), HG10.out.only (only_new _ _) (fun _ _ e => e)⟩, by simp [intOf]; omega⟩
  rcases Int.lt_or_le (A.length : Int) n with hbig | hsm
  · obtain rfl : n = (A.length : Int) + 1 := by omega
    have hna : ¬ (A.length : Int) + 1 < 0 := by omega
    have hnb : (A.length : Int) < (A.length : Int) + 1 := by omega
    obtain ⟨C, hC⟩ : ∃ x : List UInt8, List.replicate 32 0 = x := ⟨_, rfl⟩
    have h32 : C.length = 32 := by rw [← hC]; simp
    have HAT : Hid (Calls Try.prog 35 #[.pointer (some ⟨hb, 0, none⟩), .int .i64 ((A.length : Int) + 1)] w1 fun x w' => x = .returned (.tuple #[.agg (bytesV C).toArray, .int .i64 1]) ∧ Only (fun _ => False) w1 w') := hid (by rw [← hC]; rw [← zero_sum]; exact hat_bad HPA.out.hist _ (.inr (by rw [List.length_map]; omega)))
    have hsz : ((bytesV C).toArray).size = (byA st0 0).size := by simp [h32, byA]
    have his : (Try.prog.info? 29).map (·.size) = some ((bytesV C).toArray).size := by rw [info32]; simp [h32]
    have hon := bytesV_one' C
    have HCE := hid hC; have H32 := hid h32
    obtain ⟨CL, hCL⟩ : ∃ x, (bytesV C).toArray = x := ⟨_, rfl⟩
    rw [hCL] at HAT hsz his hon
    have HSZ := hid hsz; have HIS := hid his; have HON := hid hon; have HCL := hid hCL
    clear hC h32 hsz his hon hCL
    go_wp2_with fail
    refine HAT.out.mono ?_
    rintro x w2 ⟨rfl, ho2⟩
    have HP2 := hid (HPA.out.same ho2)
    have HG2 := hid (HGR.out.only ho2 (fun _ _ e => e))
    clear ho2 HAT
    go_wp2_with ((guard_target =~ wpList _ _ _ (⟨none, .store 29 (.tmp 17) _, _, _, _, _⟩ :: _) _ _); refine wpList_store_all rfl 29 (.tmp 17) (.tmp 128) rfl w2.heap.size CL rfl rfl (byA st0 0) 29 (blk_new w2 _) HSZ.out HIS.out HON.out ?_; intro w9 hb9 ho9 hs9; have HB9 := hid hb9; have HO9 : Hid (Only (fun _ => False) w2 w9) := hid ((only_new w2 _).trans ho9 (fun k hk e => by have e' : k = w2.heap.size := e; omega)); clear hb9 ho9 hs9)
    have HP9 := hid (HP2.out.same HO9.out)
    have HG9 := hid (HG2.out.only HO9.out (fun _ _ e => e))
    refine (hget_bad HP9.out.hist _ (by rw [List.length_map]; omega)).mono ?_
    rintro x w10 ⟨rfl, ho10⟩
    have HP10 := hid (HP9.out.same ho10)
    have HG10 := hid (HG9.out.only ho10 (fun _ _ e => e))
    have HB10 := hid (blk_only HB9.out ho10 (fun e => e))
    clear ho10 HP2 HG2 HP9 HG9 HB9 HO9
    go_wp2_with fail
    exact ⟨⟨(A.length : Int) + 2, by omega, by omega, ⟨rfl, rfl, rfl, rfl, by show Value.int .i64 _ = _; go_num, rfl, rfl⟩, HP10.out.same (only_new _ _), HG10.out.only (only_new _ _) (fun _ _ e => e)⟩, by simp [intOf]; omega⟩
  by_cases hz : n = 0
  · subst hz
    have hna : ¬ (A.length : Int) < 0 := by omega
    obtain ⟨C, hC⟩ : ∃ x : List UInt8, s = x := ⟨_, rfl⟩
    have h32 : C.length = 32 := by rw [← hC]; exact HS32.out
    have HAT : Hid (Calls Try.prog 35 #[.pointer (some ⟨hb, 0, none⟩), .int .i64 0] w1 fun x w' => x = .returned (.tuple #[.agg (bytesV C).toArray, .int .i64 0]) ∧ Only (fun _ => False) w1 w') := hid (by rw [← hC]; exact hat_0 HPA.out.hist)
    have hsz : ((bytesV C).toArray).size = (byA st0 0).size := by simp [h32, byA]
    have his : (Try.prog.info? 29).map (·.size) = some ((bytesV C).toArray).size := by rw [info32]; simp [h32]
    have hon := bytesV_one' C
    have HCE := hid hC; have H32 := hid h32
    obtain ⟨CL, hCL⟩ : ∃ x, (bytesV C).toArray = x := ⟨_, rfl⟩
    rw [hCL] at HAT hsz his hon
    have HSZ := hid hsz; have HIS := hid his; have HON := hid hon; have HCL := hid hCL
    clear hC h32 hsz his hon hCL
    go_wp2_with fail
    refine HAT.out.mono ?_
    rintro x w2 ⟨rfl, ho2⟩
    have HP2 := hid (HPA.out.same ho2)
    have HG2 := hid (HGR.out.only ho2 (fun _ _ e => e))
    clear ho2 HAT
    go_wp2_with ((guard_target =~ wpList _ _ _ (⟨none, .store 29 (.tmp 17) _, _, _, _, _⟩ :: _) _ _); refine wpList_store_all rfl 29 (.tmp 17) (.tmp 128) rfl w2.heap.size CL rfl rfl (byA st0 0) 29 (blk_new w2 _) HSZ.out HIS.out HON.out ?_; intro w9 hb9 ho9 hs9; have HB9 := hid hb9; have HO9 : Hid (Only (fun _ => False) w2 w9) := hid ((only_new w2 _).trans ho9 (fun k hk e => by have e' : k = w2.heap.size := e; omega)); clear hb9 ho9 hs9)
    have HP9 := hid (HP2.out.same HO9.out)
    have HG9 := hid (HG2.out.only HO9.out (fun _ _ e => e))
    refine (hget_bad HP9.out.hist _ (by rw [List.length_map]; omega)).mono ?_
    rintro x w10 ⟨rfl, ho10⟩
    have HP10 := hid (HP9.out.same ho10)
    have HG10 := hid (HG9.out.only ho10 (fun _ _ e => e))
    have HB10 := hid (blk_only HB9.out ho10 (fun e => e))
    clear ho10 HP2 HG2 HP9 HG9 HB9 HO9
    obtain ⟨w11, hw11⟩ : ∃ x, w10.alloc (.cells #[.int .i64 0, .int .i64 0, .int .i64 0, .int .i64 0, .int .i64 0, .string ⟨#[]⟩, .string ⟨#[]⟩, .int .i64 0, .int .i64 0, .string ⟨#[]⟩, .slice none 0 0] 44) = x := ⟨_, rfl⟩
    have HO11 : Hid (Only (fun _ => False) w10 w11) := hid (by rw [← hw11]; exact only_new _ _)
    have HW11 := hid hw11
    have HP11 := hid (HP10.out.same HO11.out)
    have HG11 := hid (HG10.out.only HO11.out (fun _ _ e => e))
    have HB11 := hid (blk_only HB10.out HO11.out (fun e => e))
    have HX11 : Hid (w11.heap[bx]? = some (.cells CL 29 (0, 0))) := hid (by
      have := blk_only HBX.out HP11.out.only (fun e => e)
      rw [HCE.out, HCL.out] at this; exact this)
    have hnq : ∀ W, (binOp .neq 29 (.agg CL) (.agg CL)).run Try.prog W = .ok (.bool false) W := fun W => by rw [← HCL.out, neq_sum W H32.out H32.out]; simp
    clear hw11
    go_upto_region 39 with fail
    rw [HW11.out]
    go_wp2_with (first
      | ((guard_target =~ wpList _ _ _ (⟨some 179, _, _, _, _, _⟩ :: _) _ _); refine wpList_load_row rfl 29 (.tmp 17) rfl w2.heap.size rfl 29 CL (0, 0) _ HB11.out Try.underlying29 rfl HIS.out ?_)
      | ((guard_target =~ wpList _ _ _ (⟨some 180, _, _, _, _, _⟩ :: _) _ _); refine wpList_load_row rfl 29 (.tmp 2) rfl bx rfl 29 CL (0, 0) _ HX11.out Try.underlying29 rfl HIS.out ?_))
    exact ⟨⟨1, by omega, by omega, ⟨rfl, rfl, rfl, rfl, by show Value.int .i64 _ = _; go_num, rfl, rfl⟩, HP11.out, HG11.out⟩, by simp [intOf]; omega⟩
  obtain ⟨i, rfl⟩ : ∃ i : Nat, n = (i : Int) + 1 := ⟨(n - 1).toNat, by omega⟩
  have hi : i < A.length := by omega
  obtain ⟨e, he⟩ : ∃ t, A[i]? = some t := ⟨_, List.getElem?_eq_getElem hi⟩
  have hna : ¬ (i : Int) + 1 < 0 := by omega
  have hnb : ¬ (A.length : Int) < (i : Int) + 1 := by omega
  have hnz : (((i : Int) + 1) == 0) = false := by simp; omega
  have HHE := hid he
  have HME : Hid ((A.map EM.cl)[i]? = some e.cl) := hid (by rw [List.getElem?_map, he]; rfl)
  clear he hz
  obtain ⟨C, hC⟩ : ∃ x : List UInt8, sumS s ((A.map EM.cl).take (i + 1)) = x := ⟨_, rfl⟩
  have h32 : C.length = 32 := by rw [← hC]; exact sumS_len HS32.out _
  have HAT : Hid (Calls Try.prog 35 #[.pointer (some ⟨hb, 0, none⟩), .int .i64 ((i : Int) + 1)] w1 fun x w' => x = .returned (.tuple #[.agg (bytesV C).toArray, .int .i64 0]) ∧ Only (fun _ => False) w1 w') := hid (by rw [← hC]; rw [show ((i : Int) + 1) = ((i + 1 : Nat) : Int) from rfl]; exact hat_c HPA.out.hist i (by rw [List.length_map]; exact hi))
  have hsz : ((bytesV C).toArray).size = (byA st0 0).size := by simp [h32, byA]
  have his : (Try.prog.info? 29).map (·.size) = some ((bytesV C).toArray).size := by rw [info32]; simp [h32]
  have hon := bytesV_one' C
  have HCE := hid hC; have H32 := hid h32
  obtain ⟨CL, hCL⟩ : ∃ x, (bytesV C).toArray = x := ⟨_, rfl⟩
  rw [hCL] at HAT hsz his hon
  have HSZ := hid hsz; have HIS := hid his; have HON := hid hon; have HCL := hid hCL
  clear hC h32 hsz his hon hCL
  go_wp2_with fail
  refine HAT.out.mono ?_
  rintro x w2 ⟨rfl, ho2⟩
  have HP2 := hid (HPA.out.same ho2)
  have HG2 := hid (HGR.out.only ho2 (fun _ _ e => e))
  clear ho2 HAT
  go_wp2_with ((guard_target =~ wpList _ _ _ (⟨none, .store 29 (.tmp 17) _, _, _, _, _⟩ :: _) _ _); refine wpList_store_all rfl 29 (.tmp 17) (.tmp 128) rfl w2.heap.size CL rfl rfl (byA st0 0) 29 (blk_new w2 _) HSZ.out HIS.out HON.out ?_; intro w9 hb9 ho9 hs9; have HB9 := hid hb9; have HO9 : Hid (Only (fun _ => False) w2 w9) := hid ((only_new w2 _).trans ho9 (fun k hk e => by have e' : k = w2.heap.size := e; omega)); clear hb9 ho9 hs9)
  have HP9 := hid (HP2.out.same HO9.out)
  have HG9 := hid (HG2.out.only HO9.out (fun _ _ e => e))
  refine (hget_c HP9.out.hist i e.cl HME.out).mono ?_
  rintro x w10 ⟨cs, rfl, hE10, ho10⟩
  have HP10 := hid (HP9.out.same ho10)
  have HG10 := hid (HG9.out.only ho10 (fun _ _ e => e))
  have HB10 := hid (blk_only HB9.out ho10 (fun e => e))
  clear ho10 HP2 HG2 HP9 HG9 HB9 HO9
  have HEO := hid hE10
  obtain ⟨e', he'⟩ : ∃ x, e.cl = x := ⟨_, rfl⟩
  rw [he'] at HEO
  obtain ⟨vk, vn, vs, va, vm, vc, rfl, -⟩ := HEO.out.form
  have HCLE := hid he'
  clear hE10 he'
  obtain ⟨w11, hw11⟩ : ∃ x, w10.alloc (.cells #[.int .i64 e'.id, .int .i64 e'.tm, .int .i64 e'.k, .int .i64 e'.a, .int .i64 e'.b, .string (strOf e'.name), .string (strOf e'.text), .int .i64 vk, .int .i64 vn, .string (strOf vs), .slice va vm vc] 44) = x := ⟨_, rfl⟩
  have HO11 : Hid (Only (fun _ => False) w10 w11) := hid (by rw [← hw11]; exact only_new _ _)
  have HE11 : Hid (w11.heap[w10.heap.size]? = some (.cells #[.int .i64 e'.id, .int .i64 e'.tm, .int .i64 e'.k, .int .i64 e'.a, .int .i64 e'.b, .string (strOf e'.name), .string (strOf e'.text), .int .i64 vk, .int .i64 vn, .string (strOf vs), .slice va vm vc] 44 (0, 0))) := hid (by rw [← hw11]; exact blk_new _ _)
  have HW11 := hid hw11
  have HP11 := hid (HP10.out.same HO11.out)
  have HG11 := hid (HG10.out.only HO11.out (fun _ _ e => e))
  have HB11 := hid (blk_only HB10.out HO11.out (fun e => e))
  obtain ⟨ga, ds, hao, hds, hED⟩ := HP11.out.at HHE.out
  obtain ⟨gs, hsa, hsc⟩ := HG11.out.cells (by omega)
  have HAO := hid hao; have HSA := hid hsa
  rw [hao, hsa]
  have hdl := hED.len11
  have HRF : Hid (∀ W, Only (fun _ => False) w11 W → W.rangeAt ga (i * 11) ds) := hid fun W hW j u hj => (World.cell?_of_block (hW.block ga (World.block_lt_of_cell? _ _ (hds j u hj)) (fun e => e))).trans (hds j u hj)
  have hcc : ∀ j u, (bytesV C)[j]? = some u → w11.cell? ⟨gs, i * 32 + j, none⟩ = some u := fun j u hj => hsc _ u (chain_cells s A i hi j u (by
    have h1 := HCE.out
    rw [← List.map_take, sumS_cl] at h1
    rw [h1]; exact hj))
  have HRS : Hid (∀ W, Only (fun _ => False) w11 W → W.rangeAt gs (i * 32) (bytesV C)) := hid fun W hW j u hj => (World.cell?_of_block (hW.block gs (World.block_lt_of_cell? _ _ (hcc j u hj)) (fun e => e))).trans (hcc j u hj)
  have HBZ : Hid (∀ W, Only (fun _ => False) w11 W → W.heap[w2.heap.size]? = some (.cells CL 29 (0, 0))) := hid fun W hW => blk_only HB11.out hW (fun e => e)
  have HEZ : Hid (∀ W, Only (fun _ => False) w11 W → W.heap[w10.heap.size]? = some (.cells #[.int .i64 e'.id, .int .i64 e'.tm, .int .i64 e'.k, .int .i64 e'.a, .int .i64 e'.b, .string (strOf e'.name), .string (strOf e'.text), .int .i64 vk, .int .i64 vn, .string (strOf vs), .slice va vm vc] 44 (0, 0))) := hid fun W hW => blk_only HE11.out hW (fun e => e)
  have HIL : Hid ((Try.prog.info? 29).map (·.size) = some (bytesV C).length) := hid (by rw [info32]; simp [H32.out])
  have HDI : Hid ((Try.prog.info? 44).map (·.size) = some ds.length) := hid (by rw [info_ev, hdl])
  have hnq : ∀ W, (binOp .neq 29 (.agg CL) (.agg (bytesV C).toArray)).run Try.prog W = .ok (.bool false) W := fun W => by rw [← HCL.out, neq_sum W H32.out H32.out]; simp
  have HNQ := hid hnq
  have HEG : Hid (Try.prog.eqGuardType Try.prog.depth 29 = false) := hid (by kernel_rfl)
  have hkd : (e.v.rg ∧ e.v.kd) ∧ e'.v.rg ∧ e'.v.kd := ⟨HP11.out.kd e (List.mem_of_getElem? HHE.out), by
    have := HP11.out.kd' e.cl (List.mem_of_getElem? HME.out)
    rw [HCLE.out] at this; exact this⟩
  have HSM : Hid (∀ W, Only (fun _ => False) w11 W → Calls Try.prog 37 #[.agg #[.int .i64 e'.id, .int .i64 e'.tm, .int .i64 e'.k, .int .i64 e'.a, .int .i64 e'.b, .string (strOf e'.name), .string (strOf e'.text), .int .i64 vk, .int .i64 vn, .string (strOf vs), .slice va vm vc], .agg ds.toArray] W fun x w' => x = .returned (.bool true) ∧ Only (fun _ => False) W w') := hid fun W hW => by
    have h1 := r9same_c (w := W) ((HEO.out.same HO11.out).same hW) (hED.same hW) hkd.2.1 hkd.1.1 hkd.2.2 hkd.1.2
    have h2 : e'.same e = true := by rw [← HCLE.out]; exact same_cl2 e
    rw [h2] at h1
    exact h1
  have hwk : IntKind.i64.wrap ((i : Int) + 1 - 1) = ((i : Nat) : Int) := by rw [IntKind.wrap_i64]; omega
  clear hw11 hds hsc hcc hED hkd hdl hnq hao hsa
  go_upto_region 39 with fail
  rw [HW11.out]
  go_upto_region 37 with fail
  refine region_pg 22 [] (by kernel_rfl) (by kernel_rfl) (by kernel_rfl) [(136, fun _ v => v = .agg CL), (137, fun _ v => v = .slice (some ⟨gs, 0, none⟩) A.length sc), (138, fun _ v => v = .int .i64 ((i : Int) + 1)), (139, fun _ v => v = .int .i64 (i : Nat)), (140, fun _ v => v = .pointer (some ⟨gs, 0 + i * 32, none⟩)), (141, fun _ v => v = .agg (bytesV C).toArray), (142, fun _ v => v = .bool false), (143, fun _ v => v = .bool false), (144, fun _ v => v = .int .i64 0), (145, fun _ v => v = .bool false), (146, fun _ v => v = .bool false), (147, fun _ v => v = .bool false), (148, fun _ v => v = .int .i64 0), (149, fun _ v => v = .bool false), (150, fun _ v => v = .bool false), (151, fun _ v => v = .bool false), (152, fun _ v => v = .agg #[.int .i64 e'.id, .int .i64 e'.tm, .int .i64 e'.k, .int .i64 e'.a, .int .i64 e'.b, .string (strOf e'.name), .string (strOf e'.text), .int .i64 vk, .int .i64 vn, .string (strOf vs), .slice va vm vc]), (153, fun _ v => v = .slice (some ⟨ga, 0, none⟩) A.length cp), (154, fun _ v => v = .int .i64 ((i : Int) + 1)), (155, fun _ v => v = .int .i64 (i : Nat)), (156, fun _ v => v = .pointer (some ⟨ga, 0 + i * 11, none⟩)), (157, fun _ v => v = .agg (ds).toArray)] (fun _ W => Only (fun _ => False) w11 W) (by show [136, 137, 138, 139, 140, 141, 142, 143, 144, 145, 146, 147, 148, 149, 150, 151, 152, 153, 154, 155, 156, 157].Nodup; decide) (by show ∀ d ∈ [136, 137, 138, 139, 140, 141, 142, 143, 144, 145, 146, 147, 148, 149, 150, 151, 152, 153, 154, 155, 156, 157], d < 221; decide) ((Only.refl _ _).drew) (.inl rfl) ?_ ?_ ?_
  · exact trivial
  · have hstab : PtStabs (Only (fun _ => False)) [(136, fun _ v => v = .agg CL), (137, fun _ v => v = .slice (some ⟨gs, 0, none⟩) A.length sc), (138, fun _ v => v = .int .i64 ((i : Int) + 1)), (139, fun _ v => v = .int .i64 (i : Nat)), (140, fun _ v => v = .pointer (some ⟨gs, 0 + i * 32, none⟩)), (141, fun _ v => v = .agg (bytesV C).toArray), (142, fun _ v => v = .bool false), (143, fun _ v => v = .bool false), (144, fun _ v => v = .int .i64 0), (145, fun _ v => v = .bool false), (146, fun _ v => v = .bool false), (147, fun _ v => v = .bool false), (148, fun _ v => v = .int .i64 0), (149, fun _ v => v = .bool false), (150, fun _ v => v = .bool false), (151, fun _ v => v = .bool false), (152, fun _ v => v = .agg #[.int .i64 e'.id, .int .i64 e'.tm, .int .i64 e'.k, .int .i64 e'.a, .int .i64 e'.b, .string (strOf e'.name), .string (strOf e'.text), .int .i64 vk, .int .i64 vn, .string (strOf vs), .slice va vm vc]), (153, fun _ v => v = .slice (some ⟨ga, 0, none⟩) A.length cp), (154, fun _ v => v = .int .i64 ((i : Int) + 1)), (155, fun _ v => v = .int .i64 (i : Nat)), (156, fun _ v => v = .pointer (some ⟨ga, 0 + i * 11, none⟩)), (157, fun _ v => v = .agg (ds).toArray)] := ⟨fun _ _ _ _ h => h, fun _ _ _ _ h => h, fun _ _ _ _ h => h, fun _ _ _ _ h => h, fun _ _ _ _ h => h, fun _ _ _ _ h => h, fun _ _ _ _ h => h, fun _ _ _ _ h => h, fun _ _ _ _ h => h, fun _ _ _ _ h => h, fun _ _ _ _ h => h, fun _ _ _ _ h => h, fun _ _ _ _ h => h, fun _ _ _ _ h => h, fun _ _ _ _ h => h, fun _ _ _ _ h => h, fun _ _ _ _ h => h, fun _ _ _ _ h => h, fun _ _ _ _ h => h, fun _ _ _ _ h => h, fun _ _ _ _ h => h, fun _ _ _ _ h => h, trivial⟩
    refine PgAllS.cons rfl rfl (.inl ⟨rfl, rfl⟩) ?_ (PgAllS.cons rfl rfl (.inl ⟨rfl, rfl⟩) ?_ (PgAllS.cons rfl rfl (.inl ⟨rfl, rfl⟩) ?_ (PgAllS.cons rfl rfl (.inl ⟨rfl, rfl⟩) ?_ (PgAllS.cons rfl rfl (.inl ⟨rfl, rfl⟩) ?_ (PgAllS.cons rfl rfl (.inl ⟨rfl, rfl⟩) ?_ (PgAllS.cons rfl rfl (.inl ⟨rfl, rfl⟩) ?_ (PgAllS.cons rfl rfl (.inl ⟨rfl, rfl⟩) ?_ (PgAllS.cons rfl rfl (.inr ⟨_, _, _, _, _, rfl, rfl, rfl, rfl, by kernel_rfl⟩) ?_ (PgAllS.cons rfl rfl (.inr ⟨_, _, _, _, _, rfl, rfl, rfl, rfl, by kernel_rfl⟩) ?_ (PgAllS.cons rfl rfl (.inl ⟨rfl, rfl⟩) ?_ (PgAllS.cons rfl rfl (.inl ⟨rfl, rfl⟩) ?_ (PgAllS.cons rfl rfl (.inr ⟨_, _, _, _, _, rfl, rfl, rfl, rfl, by kernel_rfl⟩) ?_ (PgAllS.cons rfl rfl (.inr ⟨_, _, _, _, _, rfl, rfl, rfl, rfl, by kernel_rfl⟩) ?_ (PgAllS.cons rfl rfl (.inl ⟨rfl, rfl⟩) ?_ (PgAllS.cons rfl rfl (.inl ⟨rfl, rfl⟩) ?_ (PgAllS.cons rfl rfl (.inr ⟨_, _, _, _, _, rfl, rfl, rfl, rfl, by kernel_rfl⟩) ?_ (PgAllS.cons rfl rfl (.inr ⟨_, _, _, _, _, rfl, rfl, rfl, rfl, by kernel_rfl⟩) ?_ (PgAllS.cons rfl rfl (.inr ⟨_, _, _, _, _, rfl, rfl, rfl, rfl, by kernel_rfl⟩) ?_ (PgAllS.cons rfl rfl (.inr ⟨_, _, _, _, _, rfl, rfl, rfl, rfl, by kernel_rfl⟩) ?_ (PgAllS.cons rfl rfl (.inr ⟨_, _, _, _, _, rfl, rfl, rfl, rfl, by kernel_rfl⟩) ?_ (PgAllS.cons rfl rfl (.inr ⟨_, _, _, _, _, rfl, rfl, rfl, rfl, by kernel_rfl⟩) ?_ (PgAllS.nil rfl))))))))))))))))))))))
    · intro L a W K hI hn hd hK
      have e17 : a.eval (.tmp 17) = .pointer (some ⟨w2.heap.size, 0, none⟩) := hI.ev 17 (by show ¬ (17 ∈ [136, 137, 138, 139, 140, 141, 142, 143, 144, 145, 146, 147, 148, 149, 150, 151, 152, 153, 154, 155, 156, 157]); decide) rfl
      exact wp_load_row _ (.tmp 17) rfl (w2.heap.size) e17 29 (CL) (0, 0) _ (HBZ.out _ hI.j) Try.underlying29 rfl (HIS.out) (hK _ _ hI.j PtKeep.refl rfl)
    · intro L a W K hI hn hd hK
      have e15 : a.eval (.tmp 15) = .slice (some ⟨gs, 0, none⟩) A.length sc := hI.ev 15 (by show ¬ (15 ∈ [136, 137, 138, 139, 140, 141, 142, 143, 144, 145, 146, 147, 148, 149, 150, 151, 152, 153, 154, 155, 156, 157]); decide) rfl
      exact pt_move _ (by first | exact .inl rfl | exact .inr rfl) _ e15 (hK _ _ hI.j PtKeep.refl rfl)
    · intro L a W K hI hn hd hK
      have e16 : a.eval (.tmp 16) = .int .i64 ((i : Int) + 1) := hI.ev 16 (by show ¬ (16 ∈ [136, 137, 138, 139, 140, 141, 142, 143, 144, 145, 146, 147, 148, 149, 150, 151, 152, 153, 154, 155, 156, 157]); decide) rfl
      exact pt_move _ (by first | exact .inl rfl | exact .inr rfl) _ e16 (hK _ _ hI.j PtKeep.refl rfl)
    · intro L a W K hI hn hd hK
      have e138 : a.eval (.tmp 138) = .int .i64 ((i : Int) + 1) := hI.fact 2 138 _ rfl (dep_of hd 2 (by kernel_rfl))
      exact pt_val (v := .int .i64 (i : Nat)) (ex_sub1 rfl e138 hwk) (hK _ _ hI.j PtKeep.refl rfl)
    · intro L a W K hI hn hd hK
      have e137 : a.eval (.tmp 137) = .slice (some ⟨gs, 0, none⟩) A.length sc := hI.fact 1 137 _ rfl (dep_of hd 1 (by kernel_rfl))
      have e139 : a.eval (.tmp 139) = .int .i64 (i : Nat) := hI.fact 3 139 _ rfl (dep_of hd 3 (by kernel_rfl))
      exact pt_val (v := .pointer (some ⟨gs, 0 + i * 32, none⟩)) (ex_idx rfl e137 e139 Try.underlying64 info32 hi) (hK _ _ hI.j PtKeep.refl rfl)
    · intro L a W K hI hn hd hK
      have e140 : a.eval (.tmp 140) = .pointer (some ⟨gs, 0 + i * 32, none⟩) := hI.fact 4 140 _ rfl (dep_of hd 4 (by kernel_rfl))
      exact wp_load_mid _ (.tmp 140) rfl (gs) (0 + i * 32) e140 (bytesV C) _ ((by rw [Nat.zero_add]; exact HRS.out _ hI.j)) Try.underlying29 rfl (HIL.out) (hK _ _ hI.j PtKeep.refl rfl)
    · intro L a W K hI hn hd hK
      have e136 : a.eval (.tmp 136) = .agg CL := hI.fact 0 136 _ rfl (dep_of hd 0 (by kernel_rfl))
      have e141 : a.eval (.tmp 141) = .agg (bytesV C).toArray := hI.fact 5 141 _ rfl (dep_of hd 5 (by kernel_rfl))
      exact pt_val (v := .bool false) (by unfold execOp; simp only [e136, e141, Sem.run_bind, run_eqGuard_agg _ _ _ _ _ _ _ HEG.out, HNQ.out, Result.andThen_ok, Sem.run_pure]) (hK _ _ hI.j PtKeep.refl rfl)
    · intro L a W K hI hn hd hK
      have e142 : a.eval (.tmp 142) = .bool false := hI.fact 6 142 _ rfl (dep_of hd 6 (by kernel_rfl))
      exact pt_move _ (by first | exact .inl rfl | exact .inr rfl) _ e142 (hK _ _ hI.j PtKeep.refl rfl)
    · intro L a W K hI hn hd hK
      have e18 : a.eval (.tmp 18) = .int .i64 0 := hI.ev 18 (by show ¬ (18 ∈ [136, 137, 138, 139, 140, 141, 142, 143, 144, 145, 146, 147, 148, 149, 150, 151, 152, 153, 154, 155, 156, 157]); decide) rfl
      exact pt_move _ (by first | exact .inl rfl | exact .inr rfl) _ e18 (hK _ _ hI.j PtKeep.refl rfl)
    · intro L a W K hI hn hd hK
      have e144 : a.eval (.tmp 144) = .int .i64 0 := hI.fact 8 144 _ rfl (dep_of hd 8 (by kernel_rfl))
      exact pt_val (v := .bool false) (by unfold execOp; simp only [e144]; kernel_rfl) (hK _ _ hI.j PtKeep.refl rfl)
    · intro L a W K hI hn hd hK
      have e143 : a.eval (.tmp 143) = .bool false := hI.fact 7 143 _ rfl (dep_of hd 7 (by kernel_rfl))
      have e145 : a.eval (.tmp 145) = .bool false := hI.fact 9 145 _ rfl (dep_of hd 9 (by kernel_rfl))
      exact pt_val (v := .bool false) (by unfold execOp; simp only [e143, e145]; kernel_rfl) (hK _ _ hI.j PtKeep.refl rfl)
    · intro L a W K hI hn hd hK
      have e146 : a.eval (.tmp 146) = .bool false := hI.fact 10 146 _ rfl (dep_of hd 10 (by kernel_rfl))
      exact pt_move _ (by first | exact .inl rfl | exact .inr rfl) _ e146 (hK _ _ hI.j PtKeep.refl rfl)
    · intro L a W K hI hn hd hK
      have e20 : a.eval (.tmp 20) = .int .i64 0 := hI.ev 20 (by show ¬ (20 ∈ [136, 137, 138, 139, 140, 141, 142, 143, 144, 145, 146, 147, 148, 149, 150, 151, 152, 153, 154, 155, 156, 157]); decide) rfl
      exact pt_move _ (by first | exact .inl rfl | exact .inr rfl) _ e20 (hK _ _ hI.j PtKeep.refl rfl)
    · intro L a W K hI hn hd hK
      have e148 : a.eval (.tmp 148) = .int .i64 0 := hI.fact 12 148 _ rfl (dep_of hd 12 (by kernel_rfl))
      exact pt_val (v := .bool false) (by unfold execOp; simp only [e148]; kernel_rfl) (hK _ _ hI.j PtKeep.refl rfl)
    · intro L a W K hI hn hd hK
      have e147 : a.eval (.tmp 147) = .bool false := hI.fact 11 147 _ rfl (dep_of hd 11 (by kernel_rfl))
      have e149 : a.eval (.tmp 149) = .bool false := hI.fact 13 149 _ rfl (dep_of hd 13 (by kernel_rfl))
      exact pt_val (v := .bool false) (by unfold execOp; simp only [e147, e149]; kernel_rfl) (hK _ _ hI.j PtKeep.refl rfl)
    · intro L a W K hI hn hd hK
      have e150 : a.eval (.tmp 150) = .bool false := hI.fact 14 150 _ rfl (dep_of hd 14 (by kernel_rfl))
      exact pt_move _ (by first | exact .inl rfl | exact .inr rfl) _ e150 (hK _ _ hI.j PtKeep.refl rfl)
    · intro L a W K hI hn hd hK
      have e19 : a.eval (.tmp 19) = .pointer (some ⟨w10.heap.size, 0, none⟩) := hI.ev 19 (by show ¬ (19 ∈ [136, 137, 138, 139, 140, 141, 142, 143, 144, 145, 146, 147, 148, 149, 150, 151, 152, 153, 154, 155, 156, 157]); decide) rfl
      exact wp_load_row _ (.tmp 19) rfl (w10.heap.size) e19 44 (#[.int .i64 e'.id, .int .i64 e'.tm, .int .i64 e'.k, .int .i64 e'.a, .int .i64 e'.b, .string (strOf e'.name), .string (strOf e'.text), .int .i64 vk, .int .i64 vn, .string (strOf vs), .slice va vm vc]) (0, 0) _ (HEZ.out _ hI.j) Try.underlying44 rfl (info_ev) (hK _ _ hI.j PtKeep.refl rfl)
    · intro L a W K hI hn hd hK
      have e6 : a.eval (.tmp 6) = .slice (some ⟨ga, 0, none⟩) A.length cp := hI.ev 6 (by show ¬ (6 ∈ [136, 137, 138, 139, 140, 141, 142, 143, 144, 145, 146, 147, 148, 149, 150, 151, 152, 153, 154, 155, 156, 157]); decide) rfl
      exact pt_move _ (by first | exact .inl rfl | exact .inr rfl) _ e6 (hK _ _ hI.j PtKeep.refl rfl)
    · intro L a W K hI hn hd hK
      have e16 : a.eval (.tmp 16) = .int .i64 ((i : Int) + 1) := hI.ev 16 (by show ¬ (16 ∈ [136, 137, 138, 139, 140, 141, 142, 143, 144, 145, 146, 147, 148, 149, 150, 151, 152, 153, 154, 155, 156, 157]); decide) rfl
      exact pt_move _ (by first | exact .inl rfl | exact .inr rfl) _ e16 (hK _ _ hI.j PtKeep.refl rfl)
    · intro L a W K hI hn hd hK
      have e154 : a.eval (.tmp 154) = .int .i64 ((i : Int) + 1) := hI.fact 18 154 _ rfl (dep_of hd 18 (by kernel_rfl))
      exact pt_val (v := .int .i64 (i : Nat)) (ex_sub1 rfl e154 hwk) (hK _ _ hI.j PtKeep.refl rfl)
    · intro L a W K hI hn hd hK
      have e153 : a.eval (.tmp 153) = .slice (some ⟨ga, 0, none⟩) A.length cp := hI.fact 17 153 _ rfl (dep_of hd 17 (by kernel_rfl))
      have e155 : a.eval (.tmp 155) = .int .i64 (i : Nat) := hI.fact 19 155 _ rfl (dep_of hd 19 (by kernel_rfl))
      exact pt_val (v := .pointer (some ⟨ga, 0 + i * 11, none⟩)) (ex_idx rfl e153 e155 Try.underlying22 info_ev hi) (hK _ _ hI.j PtKeep.refl rfl)
    · intro L a W K hI hn hd hK
      have e156 : a.eval (.tmp 156) = .pointer (some ⟨ga, 0 + i * 11, none⟩) := hI.fact 20 156 _ rfl (dep_of hd 20 (by kernel_rfl))
      exact wp_load_mid _ (.tmp 156) rfl (ga) (0 + i * 11) e156 (ds) _ ((by rw [Nat.zero_add]; exact HRF.out _ hI.j)) Try.underlying44 rfl (HDI.out) (hK _ _ hI.j PtKeep.refl rfl)
  · intro L a w12 hal hj hfs
    dsimp only [PtAll] at hfs
    obtain ⟨f136, f137, f138, f139, f140, f141, f142, f143, f144, f145, f146, f147, f148, f149, f150, f151, f152, f153, f154, f155, f156, f157, -⟩ := hfs
    have hA := hal.turned
    simp only [List.map_cons, List.map_nil, Act.turned, f136, f137, f138, f139, f140, f141, f142, f143, f144, f145, f146, f147, f148, f149, f150, f151, f152, f153, f154, f155, f156, f157] at hA
    simp only [Act.put, List.setIfInBounds_toArray, List.set_cons_zero, List.set_cons_succ] at hA
    clear hal f136 f137 f138 f139 f140 f141 f142 f143 f144 f145 f146 f147 f148 f149 f150 f151 f152 f153 f154 f155 f156 f157
    subst hA
    change wpList _ _ _ [_, _, _] _ _
    go_wp2_with fail
    refine (HSM.out _ hj).mono ?_
    rintro x w13 ⟨rfl, ho13⟩
    have hj2 := hj.trans ho13 (fun _ _ e => e)
    have HP13 := hid (HP11.out.same hj2)
    have HG13 := hid (HG11.out.only hj2 (fun _ _ e => e))
    clear hj hj2 ho13
    go_wp2_with fail
    exact ⟨⟨(i : Int) + 1 + 1, by omega, by omega, ⟨rfl, rfl, by show Value.slice _ _ _ = _; rw [HAO.out], by show Value.slice _ _ _ = _; rw [HSA.out], by show Value.int .i64 _ = _; go_num, rfl, rfl⟩, HP13.out, HG13.out⟩, by simp [intOf]; omega⟩
end
end Go.Proofs.Ytnoopajedgllhaa
namespace Go.Proofs.Ytnoopajedgllhaa
open Go.RowKit Go.ChangeShapes Go.WideShapes Go.ChangeAt
section
variable {H : Type} {enc : TypeId × Value → H} {W : World} {base : Nat} {spare : Nat → Bool} {held : Bool} {fuel : Nat} {x : DataW H × List MemPlace} {v : Value} {cs : List Value}
set_option maxRecDepth 100000 in
theorem okWide_sum {r : Reach} {b0 : Nat} (h : Value.okWide Try.prog W r b0 29 v) : ∃ cs, v = .agg cs ∧ cs.size = Try.prog.cellsOf 29 := by
  simp only [Value.okWide, Try.underlying29] at h
  obtain ⟨cs, h1, h2, _⟩ := h
  exact ⟨cs, h1, h2⟩
set_option maxRecDepth 100000 in
theorem read_sum (h : DataW.trod enc Try.prog W base spare held fuel 29 cs = some x) : ∃ l : List UInt8, l.length = 32 ∧ cs = bytesV l := by
  obtain ⟨xs, m, -, -, hcl, hxl, hf⟩ := DataW.trod_array Try.underlying29 h
  have hc32 : cs.length = 32 := by rw [hcl]; kernel_rfl
  have h8 : Try.prog.cellsOf 5 = 1 := by kernel_rfl
  have hel : ∀ i, i < 32 → ∃ u : UInt8, cs[i]? = some (.int .u8 u.toNat) := by
    intro i hi
    have h1 := hf i hi
    rw [h8, Nat.mul_one] at h1
    obtain ⟨y, hy⟩ : ∃ y, xs[i]? = some y := ⟨_, List.getElem?_eq_getElem (by omega)⟩
    rw [hy] at h1
    obtain ⟨n, hn, -, hw⟩ := DataW.trod_int Try.underlying5 h1
    refine ⟨UInt8.ofNat n.toNat, ?_⟩
    rw [u8_back hw]
    have h2 : ((cs.drop i).take 1)[0]? = some (.int .u8 n) := by rw [hn]; rfl
    rw [List.getElem?_take_of_lt (by omega), List.getElem?_drop, Nat.add_zero] at h2
    exact h2
  obtain ⟨f, hf2⟩ : ∃ f : Nat → UInt8, ∀ i, i < 32 → cs[i]? = some (.int .u8 (f i).toNat) := by
    refine ⟨fun i => if hi : i < 32 then (hel i hi).choose else 0, fun i hi => ?_⟩
    simp only [hi, dite_true]
    exact (hel i hi).choose_spec
  refine ⟨(List.range 32).map f, by simp, ?_⟩
  apply List.ext_getElem?
  intro i
  rw [bytesV_get]
  by_cases hi : i < 32
  · rw [hf2 i hi]; simp [hi]
  · rw [List.getElem?_eq_none (by omega), List.getElem?_eq_none (by simp; omega)]; rfl
end
end Go.Proofs.Ytnoopajedgllhaa
namespace Go.Proofs.Ytnoopajedgllhaa
open Go.RowKit
theorem EvsV.mono' {w : World} {G G' : Nat → Prop} {v : Value} {es : List EM} (h : EvsV w G v es) (hG : ∀ k, G k → G' k) : EvsV w G' v es := by
  obtain ⟨a, c, g, o, rfl, h1, h2⟩ := h
  exact ⟨a, c, g, o, rfl, fun hn => ⟨(h1 hn).1, hG _ (h1 hn).2⟩, fun i e hi => let ⟨cs, h3, h4⟩ := h2 i e hi; ⟨cs, h3, h4.mono hG⟩⟩
theorem BsV.same {w w' : World} {v : Value} {bs : List (List EM)} (h : BsV w v bs) (ho : Only (fun _ => False) w w') : BsV w' v bs := by
  obtain ⟨a, c, rfl, hl, hh⟩ := h
  refine ⟨a, c, rfl, hl, fun i l hi => ?_⟩
  obtain ⟨h1, h2, g, o, pa, pc, e, h3, h4⟩ := hh i l hi
  exact ⟨h1, h2, g, o, pa, pc, e, (World.cell?_of_block (ho.block g (World.block_lt_of_cell? _ _ h3) (fun e => e))).trans h3, (h4.same ho).mono' fun k hk => Nat.lt_of_lt_of_le hk ho.size⟩
section
variable {w : World}
set_option maxRecDepth 100000 in
set_option maxHeartbeats 6400000 in
theorem hplays_c {s : List UInt8} (hs : s.length = 32) {v : Value} {bs : List (List EM)} (hB : BsV w v bs) : Calls Try.prog 8 #[.agg (bytesV s).toArray, v] w fun x w' => x = .returned (.bool true) ∧ Only (fun _ => False) w w' := by
  have HB0 := hid (hB.same (only_new w (.cells (bytesV s).toArray 29)))
  obtain ⟨bo, bc, rfl, hlen, -⟩ := hB
  have HNW := hid (fun W => hnew_c (w := W) hs)
  have HSD := hid (fun (W : World) (hb : Nat) (F : Nat → Prop) (es : List EM) (h : HistAt W hb F s es) => hseed_c h)
  have HS32 := hid hs
  have hIS : (Try.prog.info? 29).map (·.size) = some (bytesV s).toArray.size := by rw [info32]; simp [hs]
  have ho0 := only_new w (.cells (bytesV s).toArray 29)
  have hbs := blk_new w (.cells (bytesV s).toArray 29)
  have HEQ := hid (fun W : World => by have := eql_sum W hs hs; rw [decide_eq_true rfl] at this; exact this)
  have HBS := hid hbs
  obtain ⟨SL, hSL⟩ : ∃ x, (bytesV s).toArray = x := ⟨_, rfl⟩
  have HSL := hid hSL
  rw [hSL] at HNW hIS ho0 hbs HB0 ⊢
  simp only [hSL] at HSD HEQ
  obtain ⟨w0, hw0⟩ : ∃ x, w.alloc (.cells SL 29) = x := ⟨_, rfl⟩
  rw [hSL, hw0] at HBS
  rw [hw0] at ho0 hbs HB0
  have HW0 := hid hw0
  have HO0 := hid ho0; have HBL := hid hbs; have HIS := hid hIS
  have hbl : w.heap.size < w0.heap.size := blk_lt hbs
  clear hs hSL ho0 hbs hIS hw0
  go_enter Try.func8, Try.ntmps8
  go_upto_region 1 with fail
  rw [HW0.out]
  go_wp2_with fail
  refine keeps_c.mono ?_
  rintro x w1 ⟨rfl, ho1⟩
  have HO1 := hid ho1
  have HB1 := hid (blk_only HBL.out ho1 (fun e => e))
  clear ho1
  by_cases hn12 : (12 : Int) < bs.length
  · go_wp2_with fail
    go_ret
    exact ⟨rfl, HO0.out.trans HO1.out (fun _ _ e => e)⟩
  have hnb : bs.length ≤ 12 := by omega
  go_wp2_with ((guard_target =~ wpList _ _ _ (⟨some 26, _, _, _, _, _⟩ :: _) _ _); refine wpList_load_row rfl 29 (.tmp 2) rfl w.heap.size rfl 29 SL (0, 0) _ HB1.out Try.underlying29 rfl HIS.out ?_)
  refine (HNW.out w1).mono ?_
  rintro x w2 ⟨hb, rfl, hh, hsz2, ho2⟩
  have HP2 : Hid (PA w0 w2 hb s [] (fun k => k = hb) none 0 []) := hid (PA.nil hh (HO1.out.trans ho2 (fun _ _ e => e)) (by have := HO1.out.size; omega))
  clear hh hsz2 ho2 HNW HB1
  go_upto_block 0 with fail
  refine hp0 (w0 := w0) (w := w2) (a := _) (bs := bs) (bo := bo) (bc := bc) (hb := hb) (s := s) (F0 := fun k => k = hb) (x2 := .pointer (some ⟨w.heap.size, 0, none⟩)) HB0.out hnb HP2.out ⟨rfl, rfl, rfl, rfl, rfl, rfl, rfl, rfl⟩ ?_ ?_
  · intro a' w' hI ho
    obtain ⟨u, rfl, -⟩ := act_fn hI
    rw [lit221] at hI ⊢
    obtain ⟨g4, -⟩ := hI
    change u 4 = _ at g4
    rw [g4]
    go_wp2_with fail
    go_ret
    exact ⟨rfl, HO0.out.trans ho (fun _ _ e => e)⟩
  intro a3 w3 A Fh ao cp xs hI hpa
  obtain ⟨u, rfl, hu⟩ := act_fn hI
  rw [lit221] at hI ⊢
  obtain ⟨g2, g5, g6, -⟩ := hI
  change u 2 = _ at g2
  change u 5 = _ at g5
  change u 6 = _ at g6
  rw [g2, g5, g6]
  clear g2 g5 g6 hu
  have HP3 := hid hpa
  have hn4 := hpa.n
  have HSUMS : Hid (∀ W, Only (fun _ => False) w3 W → Calls Try.prog 34 #[.agg SL, .slice ao A.length cp] W fun x w' => ∃ ad cp, x = .returned (.slice ad A.length cp) ∧ Gr w' 29 32 ad A.length cp ((chainS s A).flatMap bytesV) ∧ (∀ q, ad = some ⟨q, 0, none⟩ → W.heap.size ≤ q) ∧ Only (fun _ => False) W w') := hid fun W hW => by
    rw [← HSL.out]
    exact sums_c HS32.out (HP3.out.evs.same hW) (fun e he => (HP3.out.ok e he).1) (fun e he => (HP3.out.ok e he).2) (by omega)
  have HB3 := hid (blk_only HBL.out hpa.only (fun e => e))
  clear hpa
  go_wp2_with ((guard_target =~ wpList _ _ _ (⟨some 114, _, _, _, _, _⟩ :: _) _ _); refine wpList_load_row rfl 29 (.tmp 2) rfl w.heap.size rfl 29 SL (0, 0) _ HB3.out Try.underlying29 rfl HIS.out ?_)
  refine (HSUMS.out w3 (Only.refl _ _)).mono ?_
  rintro x w4 ⟨sa, sc, rfl, hgs, -, ho4⟩
  have HP4 := hid (HP3.out.same ho4)
  have HG4 := hid hgs
  clear ho4 hgs HSUMS HB3 HP2
  go_upto_block 4 with fail
  refine hp4 (w0 := w0) (w := w4) (a := _) (A := A) (Fh := Fh) (ao := ao) (sa := sa) (cp := cp) (sc := sc) (bx := w.heap.size) (hb := hb) (xs := xs) (s := s) (by rw [HSL.out]; exact HBL.out) HP4.out HG4.out ⟨rfl, rfl, rfl, rfl, rfl, rfl, rfl⟩ ?_
  intro a5 w5 hI5 hpa5 hgr5
  obtain ⟨u, rfl, hu⟩ := act_fn hI5
  rw [lit221] at hI5 ⊢
  obtain ⟨g2, g5, g6, g15, -⟩ := hI5
  change u 2 = _ at g2
  change u 5 = _ at g5
  change u 6 = _ at g6
  change u 15 = _ at g15
  rw [g2, g5, g6, g15]
  clear g2 g5 g6 g15 hu
  have HP5 := hid hpa5; have HG5 := hid hgr5
  have HSDc : Hid (∀ W, Only (fun _ => False) w5 W → Calls Try.prog 38 #[.pointer (some ⟨hb, 0, none⟩)] W fun x w' => x = .returned (.agg SL) ∧ Only (fun _ => False) W w') := hid fun W hW => HSD.out W hb Fh _ (HP5.out.same hW).hist
  have HBZ : Hid (∀ W, Only (fun _ => False) w5 W → W.heap[w.heap.size]? = some (.cells SL 29 (0, 0))) := hid fun W hW => blk_only HBL.out (HP5.out.only.trans hW (fun _ _ e => e)) (fun e => e)
  have HEG : Hid (Try.prog.eqGuardType Try.prog.depth 29 = false) := hid (by kernel_rfl)
  clear hpa5 hgr5 HP3 HP4 HG4
  by_cases hA0 : A = []
  · subst hA0
    have HSUc : Hid (∀ W, Only (fun _ => False) w5 W → Calls Try.prog 19 #[.pointer (some ⟨hb, 0, none⟩)] W fun x w' => x = .returned (.agg SL) ∧ Only (fun _ => False) W w') := hid fun W hW => by
      have := hsum2_c (HP5.out.same hW).hist
      rw [← HSL.out]; exact this
    go_upto_region 45 with fail
    refine region_pn 27 [] (by kernel_rfl) (by kernel_rfl) (by kernel_rfl) [(190, fun _ v => v = .pointer (some ⟨hb, 0, none⟩)), (191, fun _ v => v = .agg SL), (192, fun _ v => v = .agg SL), (193, fun _ v => v = .bool true), (194, fun _ v => v = .bool true), (195, fun _ v => v = .slice ao ([] : List EM).length cp), (196, fun _ v => v = .int .i64 0), (197, fun _ v => v = .bool true), (198, fun _ v => v = .bool true), (199, fun _ v => v = .pointer (some ⟨hb, 0, none⟩)), (200, fun _ v => v = .agg SL), (201, fun _ v => v = .agg SL), (202, fun _ v => v = .bool true), (203, fun _ v => v = .bool true), (204, fun _ v => v = .bool true), (205, fun _ v => v = undef), (206, fun _ v => v = undef), (207, fun _ v => v = undef), (208, fun _ v => v = undef), (209, fun _ v => v = undef), (210, fun _ v => v = undef), (211, fun _ v => v = undef), (212, fun _ v => v = undef), (213, fun _ v => v = undef), (214, fun _ v => v = undef), (215, fun _ v => v = undef), (216, fun _ v => v = undef)] (fun _ W => Only (fun _ => False) w5 W) (by show [190, 191, 192, 193, 194, 195, 196, 197, 198, 199, 200, 201, 202, 203, 204, 205, 206, 207, 208, 209, 210, 211, 212, 213, 214, 215, 216].Nodup; decide) (by show ∀ d ∈ [190, 191, 192, 193, 194, 195, 196, 197, 198, 199, 200, 201, 202, 203, 204, 205, 206, 207, 208, 209, 210, 211, 212, 213, 214, 215, 216], d < 221; decide) ((Only.refl _ _).drew) (.inl rfl) ?_ ?_ ?_
    · exact trivial
    · have hstab : PtStabs (Only (fun _ => False)) [(190, fun _ v => v = .pointer (some ⟨hb, 0, none⟩)), (191, fun _ v => v = .agg SL), (192, fun _ v => v = .agg SL), (193, fun _ v => v = .bool true), (194, fun _ v => v = .bool true), (195, fun _ v => v = .slice ao ([] : List EM).length cp), (196, fun _ v => v = .int .i64 0), (197, fun _ v => v = .bool true), (198, fun _ v => v = .bool true), (199, fun _ v => v = .pointer (some ⟨hb, 0, none⟩)), (200, fun _ v => v = .agg SL), (201, fun _ v => v = .agg SL), (202, fun _ v => v = .bool true), (203, fun _ v => v = .bool true), (204, fun _ v => v = .bool true), (205, fun _ v => v = undef), (206, fun _ v => v = undef), (207, fun _ v => v = undef), (208, fun _ v => v = undef), (209, fun _ v => v = undef), (210, fun _ v => v = undef), (211, fun _ v => v = undef), (212, fun _ v => v = undef), (213, fun _ v => v = undef), (214, fun _ v => v = undef), (215, fun _ v => v = undef), (216, fun _ v => v = undef)] := ⟨fun _ _ _ _ h => h, fun _ _ _ _ h => h, fun _ _ _ _ h => h, fun _ _ _ _ h => h, fun _ _ _ _ h => h, fun _ _ _ _ h => h, fun _ _ _ _ h => h, fun _ _ _ _ h => h, fun _ _ _ _ h => h, fun _ _ _ _ h => h, fun _ _ _ _ h => h, fun _ _ _ _ h => h, fun _ _ _ _ h => h, fun _ _ _ _ h => h, fun _ _ _ _ h => h, fun _ _ _ _ h => h, fun _ _ _ _ h => h, fun _ _ _ _ h => h, fun _ _ _ _ h => h, fun _ _ _ _ h => h, fun _ _ _ _ h => h, fun _ _ _ _ h => h, fun _ _ _ _ h => h, fun _ _ _ _ h => h, fun _ _ _ _ h => h, fun _ _ _ _ h => h, fun _ _ _ _ h => h, trivial⟩
      refine PnAllS.cons rfl rfl (.inl ⟨rfl, rfl⟩) ?_ (PnAllS.cons rfl rfl (.inl ⟨rfl, rfl⟩) ?_ (PnAllS.cons rfl rfl (.inl ⟨rfl, rfl⟩) ?_ (PnAllS.cons rfl rfl (.inl ⟨rfl, rfl⟩) ?_ (PnAllS.cons rfl rfl (.inl ⟨rfl, rfl⟩) ?_ (PnAllS.cons rfl rfl (.inr ⟨_, _, _, _, _, rfl, rfl, rfl, .inl rfl, by kernel_rfl⟩) ?_ (PnAllS.cons rfl rfl (.inr ⟨_, _, _, _, _, rfl, rfl, rfl, .inl rfl, by kernel_rfl⟩) ?_ (PnAllS.cons rfl rfl (.inr ⟨_, _, _, _, _, rfl, rfl, rfl, .inl rfl, by kernel_rfl⟩) ?_ (PnAllS.cons rfl rfl (.inr ⟨_, _, _, _, _, rfl, rfl, rfl, .inl rfl, by kernel_rfl⟩) ?_ (PnAllS.cons rfl rfl (.inr ⟨_, _, _, _, _, rfl, rfl, rfl, .inl rfl, by kernel_rfl⟩) ?_ (PnAllS.cons rfl rfl (.inr ⟨_, _, _, _, _, rfl, rfl, rfl, .inl rfl, by kernel_rfl⟩) ?_ (PnAllS.cons rfl rfl (.inr ⟨_, _, _, _, _, rfl, rfl, rfl, .inl rfl, by kernel_rfl⟩) ?_ (PnAllS.cons rfl rfl (.inr ⟨_, _, _, _, _, rfl, rfl, rfl, .inl rfl, by kernel_rfl⟩) ?_ (PnAllS.cons rfl rfl (.inr ⟨_, _, _, _, _, rfl, rfl, rfl, .inl rfl, by kernel_rfl⟩) ?_ (PnAllS.cons rfl rfl (.inr ⟨_, _, _, _, _, rfl, rfl, rfl, .inl rfl, by kernel_rfl⟩) ?_ (PnAllS.skip rfl rfl (.inr ⟨_, _, _, _, _, rfl, rfl, rfl, .inl rfl, by kernel_rfl⟩) (fun _ => rfl) (fun _ _ h => h) (PnAllS.skip rfl rfl (.inr ⟨_, _, _, _, _, rfl, rfl, rfl, .inl rfl, by kernel_rfl⟩) (fun _ => rfl) (fun _ _ h => h) (PnAllS.skip rfl rfl (.inr ⟨_, _, _, _, _, rfl, rfl, rfl, .inl rfl, by kernel_rfl⟩) (fun _ => rfl) (fun _ _ h => h) (PnAllS.skip rfl rfl (.inr ⟨_, _, _, _, _, rfl, rfl, rfl, .inl rfl, by kernel_rfl⟩) (fun _ => rfl) (fun _ _ h => h) (PnAllS.skip rfl rfl (.inr ⟨_, _, _, _, _, rfl, rfl, rfl, .inr ⟨rfl, rfl⟩, by kernel_rfl⟩) (fun _ => rfl) (fun _ _ h => h) (PnAllS.skip rfl rfl (.inr ⟨_, _, _, _, _, rfl, rfl, rfl, .inr ⟨rfl, rfl⟩, by kernel_rfl⟩) (fun _ => rfl) (fun _ _ h => h) (PnAllS.skip rfl rfl (.inr ⟨_, _, _, _, _, rfl, rfl, rfl, .inr ⟨rfl, rfl⟩, by kernel_rfl⟩) (fun _ => rfl) (fun _ _ h => h) (PnAllS.skip rfl rfl (.inr ⟨_, _, _, _, _, rfl, rfl, rfl, .inr ⟨rfl, rfl⟩, by kernel_rfl⟩) (fun _ => rfl) (fun _ _ h => h) (PnAllS.skip rfl rfl (.inr ⟨_, _, _, _, _, rfl, rfl, rfl, .inr ⟨rfl, rfl⟩, by kernel_rfl⟩) (fun _ => rfl) (fun _ _ h => h) (PnAllS.skip rfl rfl (.inr ⟨_, _, _, _, _, rfl, rfl, rfl, .inr ⟨rfl, rfl⟩, by kernel_rfl⟩) (fun _ => rfl) (fun _ _ h => h) (PnAllS.skip rfl rfl (.inr ⟨_, _, _, _, _, rfl, rfl, rfl, .inr ⟨rfl, rfl⟩, by kernel_rfl⟩) (fun _ => rfl) (fun _ _ h => h) (PnAllS.skip rfl rfl (.inr ⟨_, _, _, _, _, rfl, rfl, rfl, .inr ⟨rfl, rfl⟩, by kernel_rfl⟩) (fun _ => rfl) (fun _ _ h => h) (PnAllS.nil rfl)))))))))))))))))))))))))))
      · intro L a W K hI hn hd hK
        have e5 : a.eval (.tmp 5) = .pointer (some ⟨hb, 0, none⟩) := hI.ev 5 (by show ¬ (5 ∈ [190, 191, 192, 193, 194, 195, 196, 197, 198, 199, 200, 201, 202, 203, 204, 205, 206, 207, 208, 209, 210, 211, 212, 213, 214, 215, 216]); decide) rfl
        exact pt_move _ (by first | exact .inl rfl | exact .inr rfl) _ e5 (hK _ _ hI.j PtKeep.refl rfl)
      · intro L a W K hI hn hd hK
        have e190 : a.eval (.tmp 190) = .pointer (some ⟨hb, 0, none⟩) := hI.fact 0 190 _ rfl (dep_of hd 0 (by kernel_rfl))
        refine wp_callc (f := 38) (args := #[a.eval (.tmp 190)]) (by kernel_rfl) ?_
        rw [e190]
        refine (HSDc.out _ hI.j).mono ?_
        rintro x W' ⟨rfl, ho⟩
        exact ⟨_, rfl, hK _ _ (hI.j.trans ho (fun _ _ e => e.elim)) (hstab.keep ho) rfl⟩
      · intro L a W K hI hn hd hK
        have e2 : a.eval (.tmp 2) = .pointer (some ⟨w.heap.size, 0, none⟩) := hI.ev 2 (by show ¬ (2 ∈ [190, 191, 192, 193, 194, 195, 196, 197, 198, 199, 200, 201, 202, 203, 204, 205, 206, 207, 208, 209, 210, 211, 212, 213, 214, 215, 216]); decide) rfl
        exact wp_load_row _ (.tmp 2) rfl (w.heap.size) e2 29 (SL) (0, 0) _ (HBZ.out _ hI.j) Try.underlying29 rfl (HIS.out) (hK _ _ hI.j PtKeep.refl rfl)
      · intro L a W K hI hn hd hK
        have e191 : a.eval (.tmp 191) = .agg SL := hI.fact 1 191 _ rfl (dep_of hd 1 (by kernel_rfl))
        have e192 : a.eval (.tmp 192) = .agg SL := hI.fact 2 192 _ rfl (dep_of hd 2 (by kernel_rfl))
        exact pt_val (v := .bool true) (by unfold execOp; simp only [e191, e192, Sem.run_bind, run_eqGuard_agg _ _ _ _ _ _ _ HEG.out, HEQ.out, Result.andThen_ok, Sem.run_pure]) (hK _ _ hI.j PtKeep.refl rfl)
      · intro L a W K hI hn hd hK
        have e193 : a.eval (.tmp 193) = .bool true := hI.fact 3 193 _ rfl (dep_of hd 3 (by kernel_rfl))
        exact pt_move _ (by first | exact .inl rfl | exact .inr rfl) _ e193 (hK _ _ hI.j PtKeep.refl rfl)
      · intro L a W K hI hn hd hK
        have e6 : a.eval (.tmp 6) = .slice ao ([] : List EM).length cp := hI.ev 6 (by show ¬ (6 ∈ [190, 191, 192, 193, 194, 195, 196, 197, 198, 199, 200, 201, 202, 203, 204, 205, 206, 207, 208, 209, 210, 211, 212, 213, 214, 215, 216]); decide) rfl
        exact pt_move _ (by first | exact .inl rfl | exact .inr rfl) _ e6 (hK _ _ hI.j PtKeep.refl rfl)
      · intro L a W K hI hn hd hK
        have e195 : a.eval (.tmp 195) = .slice ao ([] : List EM).length cp := hI.fact 5 195 _ rfl (dep_of hd 5 (by kernel_rfl))
        exact pt_val (v := .int .i64 0) (by unfold execOp; simp only [resolve, invoke, builtin, Sem.run_bind, Sem.run_pure, Result.andThen_ok, List.map_toArray, List.map_cons, List.map_nil, e195]; kernel_rfl) (hK _ _ hI.j PtKeep.refl rfl)
      · intro L a W K hI hn hd hK
        have e196 : a.eval (.tmp 196) = .int .i64 0 := hI.fact 6 196 _ rfl (dep_of hd 6 (by kernel_rfl))
        exact pt_val (v := .bool true) (by unfold execOp; simp only [e196]; kernel_rfl) (hK _ _ hI.j PtKeep.refl rfl)
      · intro L a W K hI hn hd hK
        have e197 : a.eval (.tmp 197) = .bool true := hI.fact 7 197 _ rfl (dep_of hd 7 (by kernel_rfl))
        exact pt_move _ (by first | exact .inl rfl | exact .inr rfl) _ e197 (hK _ _ hI.j PtKeep.refl rfl)
      · intro L a W K hI hn hd hK
        have e5 : a.eval (.tmp 5) = .pointer (some ⟨hb, 0, none⟩) := hI.ev 5 (by show ¬ (5 ∈ [190, 191, 192, 193, 194, 195, 196, 197, 198, 199, 200, 201, 202, 203, 204, 205, 206, 207, 208, 209, 210, 211, 212, 213, 214, 215, 216]); decide) rfl
        exact pt_move _ (by first | exact .inl rfl | exact .inr rfl) _ e5 (hK _ _ hI.j PtKeep.refl rfl)
      · intro L a W K hI hn hd hK
        have e199 : a.eval (.tmp 199) = .pointer (some ⟨hb, 0, none⟩) := hI.fact 9 199 _ rfl (dep_of hd 9 (by kernel_rfl))
        refine wp_callc (f := 19) (args := #[a.eval (.tmp 199)]) (by kernel_rfl) ?_
        rw [e199]
        refine (HSUc.out _ hI.j).mono ?_
        rintro x W' ⟨rfl, ho⟩
        exact ⟨_, rfl, hK _ _ (hI.j.trans ho (fun _ _ e => e.elim)) (hstab.keep ho) rfl⟩
      · intro L a W K hI hn hd hK
        have e2 : a.eval (.tmp 2) = .pointer (some ⟨w.heap.size, 0, none⟩) := hI.ev 2 (by show ¬ (2 ∈ [190, 191, 192, 193, 194, 195, 196, 197, 198, 199, 200, 201, 202, 203, 204, 205, 206, 207, 208, 209, 210, 211, 212, 213, 214, 215, 216]); decide) rfl
        exact wp_load_row _ (.tmp 2) rfl (w.heap.size) e2 29 (SL) (0, 0) _ (HBZ.out _ hI.j) Try.underlying29 rfl (HIS.out) (hK _ _ hI.j PtKeep.refl rfl)
      · intro L a W K hI hn hd hK
        have e200 : a.eval (.tmp 200) = .agg SL := hI.fact 10 200 _ rfl (dep_of hd 10 (by kernel_rfl))
        have e201 : a.eval (.tmp 201) = .agg SL := hI.fact 11 201 _ rfl (dep_of hd 11 (by kernel_rfl))
        exact pt_val (v := .bool true) (by unfold execOp; simp only [e200, e201, Sem.run_bind, run_eqGuard_agg _ _ _ _ _ _ _ HEG.out, HEQ.out, Result.andThen_ok, Sem.run_pure]) (hK _ _ hI.j PtKeep.refl rfl)
      · intro L a W K hI hn hd hK
        have e198 : a.eval (.tmp 198) = .bool true := hI.fact 8 198 _ rfl (dep_of hd 8 (by kernel_rfl))
        have e202 : a.eval (.tmp 202) = .bool true := hI.fact 12 202 _ rfl (dep_of hd 12 (by kernel_rfl))
        exact pt_val (v := .bool true) (by unfold execOp; simp only [e198, e202]; kernel_rfl) (hK _ _ hI.j PtKeep.refl rfl)
      · intro L a W K hI hn hd hK
        have e203 : a.eval (.tmp 203) = .bool true := hI.fact 13 203 _ rfl (dep_of hd 13 (by kernel_rfl))
        exact pt_move _ (by first | exact .inl rfl | exact .inr rfl) _ e203 (hK _ _ hI.j PtKeep.refl rfl)
    · intro L a w6 hal hj hfs
      dsimp only [PtAll] at hfs
      obtain ⟨f190, f191, f192, f193, f194, f195, f196, f197, f198, f199, f200, f201, f202, f203, f204, f205, f206, f207, f208, f209, f210, f211, f212, f213, f214, f215, f216, -⟩ := hfs
      have hA := hal.turned
      simp only [List.map_cons, List.map_nil, Act.turned, f190, f191, f192, f193, f194, f195, f196, f197, f198, f199, f200, f201, f202, f203, f204, f205, f206, f207, f208, f209, f210, f211, f212, f213, f214, f215, f216] at hA
      simp only [Act.put, List.setIfInBounds_toArray, List.set_cons_zero, List.set_cons_succ] at hA
      clear hal f190 f191 f192 f193 f194 f195 f196 f197 f198 f199 f200 f201 f202 f203 f204 f205 f206 f207 f208 f209 f210 f211 f212 f213 f214 f215 f216
      subst hA
      change wpList _ _ _ [_, _, _, _, _] _ _
      have HJ := hid (HP5.out.same hj)
      go_wp2_with fail
      go_ret
      exact ⟨rfl, HO0.out.trans HJ.out.only (fun _ _ e => e)⟩
  · obtain ⟨k, hk⟩ : ∃ k, A.length = k + 1 := ⟨A.length - 1, by have := List.length_pos_iff.2 hA0; omega⟩
    have h32 := sumS_len HS32.out A
    obtain ⟨gs, hsa, hsc⟩ := HG5.out.cells (by omega)
    have htk : A.take (k + 1) = A := by rw [← hk, List.take_length]
    have hcc : ∀ j u, (bytesV (sumS s A))[j]? = some u → w5.cell? ⟨gs, k * 32 + j, none⟩ = some u := fun j u hj => hsc _ u (chain_cells s A k (by omega) j u (by rw [htk]; exact hj))
    have HSU0 : Hid (∀ W, Only (fun _ => False) w5 W → Calls Try.prog 19 #[.pointer (some ⟨hb, 0, none⟩)] W fun x w' => x = .returned (.agg (bytesV (sumS s A)).toArray) ∧ Only (fun _ => False) W w') := hid fun W hW => by
      have := hsum2_c (HP5.out.same hW).hist
      rw [sumS_cl] at this; exact this
    have HEQ2 := hid (fun W : World => by have := eql_sum W h32 h32; rw [decide_eq_true rfl] at this; exact this)
    obtain ⟨LS, hLS⟩ : ∃ x, sumS s A = x := ⟨_, rfl⟩
    rw [hLS] at h32 hcc HSU0
    simp only [hLS] at HEQ2
    have HRS : Hid (∀ W, Only (fun _ => False) w5 W → W.rangeAt gs (k * 32) (bytesV LS)) := hid fun W hW j u hj => (World.cell?_of_block (hW.block gs (World.block_lt_of_cell? _ _ (hcc j u hj)) (fun e => e))).trans (hcc j u hj)
    have HIL : Hid ((Try.prog.info? 29).map (·.size) = some (bytesV LS).length) := hid (by rw [info32]; simp [h32])
    have hwk : IntKind.i64.wrap (((k + 1 : Nat) : Int) - 1) = ((k : Nat) : Int) := by rw [IntKind.wrap_i64]; omega
    have hkk : k < k + 1 := by omega
    have hgt : decide ((0 : Int) < ((k + 1 : Nat) : Int)) = true := by simp
    have hne0 : (((k + 1 : Nat) : Int) == 0) = false := by rw [beq_eq_false_iff_ne]; omega
    rw [hk, hsa]
    clear hA0 hk hsa hsc htk hcc h32 hLS
    go_upto_region 45 with fail
    refine region_pn 27 [] (by kernel_rfl) (by kernel_rfl) (by kernel_rfl) [(190, fun _ v => v = .pointer (some ⟨hb, 0, none⟩)), (191, fun _ v => v = .agg SL), (192, fun _ v => v = .agg SL), (193, fun _ v => v = .bool true), (194, fun _ v => v = .bool true), (195, fun _ v => v = .slice ao (k + 1) cp), (196, fun _ v => v = .int .i64 ((k + 1 : Nat) : Int)), (197, fun _ v => v = .bool false), (198, fun _ v => v = .bool false), (199, fun _ v => v = undef), (200, fun _ v => v = undef), (201, fun _ v => v = undef), (202, fun _ v => v = undef), (203, fun _ v => v = .bool false), (204, fun _ v => v = .bool false), (205, fun _ v => v = .slice ao (k + 1) cp), (206, fun _ v => v = .int .i64 ((k + 1 : Nat) : Int)), (207, fun _ v => v = .bool true), (208, fun _ v => v = .bool true), (209, fun _ v => v = .pointer (some ⟨hb, 0, none⟩)), (210, fun _ v => v = .agg (bytesV LS).toArray), (211, fun _ v => v = .slice (some ⟨gs, 0, none⟩) (k + 1) sc), (212, fun _ v => v = .slice (some ⟨gs, 0, none⟩) (k + 1) sc), (213, fun _ v => v = .int .i64 ((k + 1 : Nat) : Int)), (214, fun _ v => v = .int .i64 (k : Nat)), (215, fun _ v => v = .pointer (some ⟨gs, 0 + k * 32, none⟩)), (216, fun _ v => v = .agg (bytesV LS).toArray)] (fun _ W => Only (fun _ => False) w5 W) (by show [190, 191, 192, 193, 194, 195, 196, 197, 198, 199, 200, 201, 202, 203, 204, 205, 206, 207, 208, 209, 210, 211, 212, 213, 214, 215, 216].Nodup; decide) (by show ∀ d ∈ [190, 191, 192, 193, 194, 195, 196, 197, 198, 199, 200, 201, 202, 203, 204, 205, 206, 207, 208, 209, 210, 211, 212, 213, 214, 215, 216], d < 221; decide) ((Only.refl _ _).drew) (.inl rfl) ?_ ?_ ?_
    · exact trivial
    · have hstab : PtStabs (Only (fun _ => False)) [(190, fun _ v => v = .pointer (some ⟨hb, 0, none⟩)), (191, fun _ v => v = .agg SL), (192, fun _ v => v = .agg SL), (193, fun _ v => v = .bool true), (194, fun _ v => v = .bool true), (195, fun _ v => v = .slice ao (k + 1) cp), (196, fun _ v => v = .int .i64 ((k + 1 : Nat) : Int)), (197, fun _ v => v = .bool false), (198, fun _ v => v = .bool false), (199, fun _ v => v = undef), (200, fun _ v => v = undef), (201, fun _ v => v = undef), (202, fun _ v => v = undef), (203, fun _ v => v = .bool false), (204, fun _ v => v = .bool false), (205, fun _ v => v = .slice ao (k + 1) cp), (206, fun _ v => v = .int .i64 ((k + 1 : Nat) : Int)), (207, fun _ v => v = .bool true), (208, fun _ v => v = .bool true), (209, fun _ v => v = .pointer (some ⟨hb, 0, none⟩)), (210, fun _ v => v = .agg (bytesV LS).toArray), (211, fun _ v => v = .slice (some ⟨gs, 0, none⟩) (k + 1) sc), (212, fun _ v => v = .slice (some ⟨gs, 0, none⟩) (k + 1) sc), (213, fun _ v => v = .int .i64 ((k + 1 : Nat) : Int)), (214, fun _ v => v = .int .i64 (k : Nat)), (215, fun _ v => v = .pointer (some ⟨gs, 0 + k * 32, none⟩)), (216, fun _ v => v = .agg (bytesV LS).toArray)] := ⟨fun _ _ _ _ h => h, fun _ _ _ _ h => h, fun _ _ _ _ h => h, fun _ _ _ _ h => h, fun _ _ _ _ h => h, fun _ _ _ _ h => h, fun _ _ _ _ h => h, fun _ _ _ _ h => h, fun _ _ _ _ h => h, fun _ _ _ _ h => h, fun _ _ _ _ h => h, fun _ _ _ _ h => h, fun _ _ _ _ h => h, fun _ _ _ _ h => h, fun _ _ _ _ h => h, fun _ _ _ _ h => h, fun _ _ _ _ h => h, fun _ _ _ _ h => h, fun _ _ _ _ h => h, fun _ _ _ _ h => h, fun _ _ _ _ h => h, fun _ _ _ _ h => h, fun _ _ _ _ h => h, fun _ _ _ _ h => h, fun _ _ _ _ h => h, fun _ _ _ _ h => h, fun _ _ _ _ h => h, trivial⟩
      refine PnAllS.cons rfl rfl (.inl ⟨rfl, rfl⟩) ?_ (PnAllS.cons rfl rfl (.inl ⟨rfl, rfl⟩) ?_ (PnAllS.cons rfl rfl (.inl ⟨rfl, rfl⟩) ?_ (PnAllS.cons rfl rfl (.inl ⟨rfl, rfl⟩) ?_ (PnAllS.cons rfl rfl (.inl ⟨rfl, rfl⟩) ?_ (PnAllS.cons rfl rfl (.inr ⟨_, _, _, _, _, rfl, rfl, rfl, .inl rfl, by kernel_rfl⟩) ?_ (PnAllS.cons rfl rfl (.inr ⟨_, _, _, _, _, rfl, rfl, rfl, .inl rfl, by kernel_rfl⟩) ?_ (PnAllS.cons rfl rfl (.inr ⟨_, _, _, _, _, rfl, rfl, rfl, .inl rfl, by kernel_rfl⟩) ?_ (PnAllS.cons rfl rfl (.inr ⟨_, _, _, _, _, rfl, rfl, rfl, .inl rfl, by kernel_rfl⟩) ?_ (PnAllS.skip rfl rfl (.inr ⟨_, _, _, _, _, rfl, rfl, rfl, .inl rfl, by kernel_rfl⟩) (fun _ => rfl) (fun _ _ h => h) (PnAllS.skip rfl rfl (.inr ⟨_, _, _, _, _, rfl, rfl, rfl, .inl rfl, by kernel_rfl⟩) (fun _ => rfl) (fun _ _ h => h) (PnAllS.skip rfl rfl (.inr ⟨_, _, _, _, _, rfl, rfl, rfl, .inl rfl, by kernel_rfl⟩) (fun _ => rfl) (fun _ _ h => h) (PnAllS.skip rfl rfl (.inr ⟨_, _, _, _, _, rfl, rfl, rfl, .inl rfl, by kernel_rfl⟩) (fun _ => rfl) (fun _ _ h => h) (PnAllS.cons rfl rfl (.inr ⟨_, _, _, _, _, rfl, rfl, rfl, .inl rfl, by kernel_rfl⟩) ?_ (PnAllS.cons rfl rfl (.inr ⟨_, _, _, _, _, rfl, rfl, rfl, .inl rfl, by kernel_rfl⟩) ?_ (PnAllS.cons rfl rfl (.inr ⟨_, _, _, _, _, rfl, rfl, rfl, .inl rfl, by kernel_rfl⟩) ?_ (PnAllS.cons rfl rfl (.inr ⟨_, _, _, _, _, rfl, rfl, rfl, .inl rfl, by kernel_rfl⟩) ?_ (PnAllS.cons rfl rfl (.inr ⟨_, _, _, _, _, rfl, rfl, rfl, .inl rfl, by kernel_rfl⟩) ?_ (PnAllS.cons rfl rfl (.inr ⟨_, _, _, _, _, rfl, rfl, rfl, .inl rfl, by kernel_rfl⟩) ?_ (PnAllS.cons rfl rfl (.inr ⟨_, _, _, _, _, rfl, rfl, rfl, .inl rfl, by kernel_rfl⟩) ?_ (PnAllS.cons rfl rfl (.inr ⟨_, _, _, _, _, rfl, rfl, rfl, .inl rfl, by kernel_rfl⟩) ?_ (PnAllS.cons rfl rfl (.inr ⟨_, _, _, _, _, rfl, rfl, rfl, .inl rfl, by kernel_rfl⟩) ?_ (PnAllS.cons rfl rfl (.inr ⟨_, _, _, _, _, rfl, rfl, rfl, .inl rfl, by kernel_rfl⟩) ?_ (PnAllS.cons rfl rfl (.inr ⟨_, _, _, _, _, rfl, rfl, rfl, .inl rfl, by kernel_rfl⟩) ?_ (PnAllS.cons rfl rfl (.inr ⟨_, _, _, _, _, rfl, rfl, rfl, .inl rfl, by kernel_rfl⟩) ?_ (PnAllS.cons rfl rfl (.inr ⟨_, _, _, _, _, rfl, rfl, rfl, .inl rfl, by kernel_rfl⟩) ?_ (PnAllS.cons rfl rfl (.inr ⟨_, _, _, _, _, rfl, rfl, rfl, .inl rfl, by kernel_rfl⟩) ?_ (PnAllS.nil rfl)))))))))))))))))))))))))))
      · intro L a W K hI hn hd hK
        have e5 : a.eval (.tmp 5) = .pointer (some ⟨hb, 0, none⟩) := hI.ev 5 (by show ¬ (5 ∈ [190, 191, 192, 193, 194, 195, 196, 197, 198, 199, 200, 201, 202, 203, 204, 205, 206, 207, 208, 209, 210, 211, 212, 213, 214, 215, 216]); decide) rfl
        exact pt_move _ (by first | exact .inl rfl | exact .inr rfl) _ e5 (hK _ _ hI.j PtKeep.refl rfl)
      · intro L a W K hI hn hd hK
        have e190 : a.eval (.tmp 190) = .pointer (some ⟨hb, 0, none⟩) := hI.fact 0 190 _ rfl (dep_of hd 0 (by kernel_rfl))
        refine wp_callc (f := 38) (args := #[a.eval (.tmp 190)]) (by kernel_rfl) ?_
        rw [e190]
        refine (HSDc.out _ hI.j).mono ?_
        rintro x W' ⟨rfl, ho⟩
        exact ⟨_, rfl, hK _ _ (hI.j.trans ho (fun _ _ e => e.elim)) (hstab.keep ho) rfl⟩
      · intro L a W K hI hn hd hK
        have e2 : a.eval (.tmp 2) = .pointer (some ⟨w.heap.size, 0, none⟩) := hI.ev 2 (by show ¬ (2 ∈ [190, 191, 192, 193, 194, 195, 196, 197, 198, 199, 200, 201, 202, 203, 204, 205, 206, 207, 208, 209, 210, 211, 212, 213, 214, 215, 216]); decide) rfl
        exact wp_load_row _ (.tmp 2) rfl (w.heap.size) e2 29 (SL) (0, 0) _ (HBZ.out _ hI.j) Try.underlying29 rfl (HIS.out) (hK _ _ hI.j PtKeep.refl rfl)
      · intro L a W K hI hn hd hK
        have e191 : a.eval (.tmp 191) = .agg SL := hI.fact 1 191 _ rfl (dep_of hd 1 (by kernel_rfl))
        have e192 : a.eval (.tmp 192) = .agg SL := hI.fact 2 192 _ rfl (dep_of hd 2 (by kernel_rfl))
        exact pt_val (v := .bool true) (by unfold execOp; simp only [e191, e192, Sem.run_bind, run_eqGuard_agg _ _ _ _ _ _ _ HEG.out, HEQ.out, Result.andThen_ok, Sem.run_pure]) (hK _ _ hI.j PtKeep.refl rfl)
      · intro L a W K hI hn hd hK
        have e193 : a.eval (.tmp 193) = .bool true := hI.fact 3 193 _ rfl (dep_of hd 3 (by kernel_rfl))
        exact pt_move _ (by first | exact .inl rfl | exact .inr rfl) _ e193 (hK _ _ hI.j PtKeep.refl rfl)
      · intro L a W K hI hn hd hK
        have e6 : a.eval (.tmp 6) = .slice ao (k + 1) cp := hI.ev 6 (by show ¬ (6 ∈ [190, 191, 192, 193, 194, 195, 196, 197, 198, 199, 200, 201, 202, 203, 204, 205, 206, 207, 208, 209, 210, 211, 212, 213, 214, 215, 216]); decide) rfl
        exact pt_move _ (by first | exact .inl rfl | exact .inr rfl) _ e6 (hK _ _ hI.j PtKeep.refl rfl)
      · intro L a W K hI hn hd hK
        have e195 : a.eval (.tmp 195) = .slice ao (k + 1) cp := hI.fact 5 195 _ rfl (dep_of hd 5 (by kernel_rfl))
        exact pt_val (v := .int .i64 ((k + 1 : Nat) : Int)) (by unfold execOp; simp only [resolve, invoke, builtin, Sem.run_bind, Sem.run_pure, Result.andThen_ok, List.map_toArray, List.map_cons, List.map_nil, e195]; kernel_rfl) (hK _ _ hI.j PtKeep.refl rfl)
      · intro L a W K hI hn hd hK
        have e196 : a.eval (.tmp 196) = .int .i64 ((k + 1 : Nat) : Int) := hI.fact 6 196 _ rfl (dep_of hd 6 (by kernel_rfl))
        exact pt_val (v := .bool false) (Eq.trans (b := .ok (.value (.bool (((k + 1 : Nat) : Int) == 0))) _) (by unfold execOp; simp only [e196]; kernel_rfl) (by rw [hne0])) (hK _ _ hI.j PtKeep.refl rfl)
      · intro L a W K hI hn hd hK
        have e197 : a.eval (.tmp 197) = .bool false := hI.fact 7 197 _ rfl (dep_of hd 7 (by kernel_rfl))
        exact pt_move _ (by first | exact .inl rfl | exact .inr rfl) _ e197 (hK _ _ hI.j PtKeep.refl rfl)
      · intro L a W K hI hn hd hK
        have e198 : a.eval (.tmp 198) = .bool false := hI.fact 8 198 _ rfl (dep_of hd 8 (by kernel_rfl))
        have e202 : a.eval (.tmp 202) = undef := hI.fact 12 202 _ rfl (dep_of hd 12 (by kernel_rfl))
        exact pt_val (v := .bool false) (by unfold execOp; simp only [e198, e202]; kernel_rfl) (hK _ _ hI.j PtKeep.refl rfl)
      · intro L a W K hI hn hd hK
        have e203 : a.eval (.tmp 203) = .bool false := hI.fact 13 203 _ rfl (dep_of hd 13 (by kernel_rfl))
        exact pt_move _ (by first | exact .inl rfl | exact .inr rfl) _ e203 (hK _ _ hI.j PtKeep.refl rfl)
      · intro L a W K hI hn hd hK
        have e6 : a.eval (.tmp 6) = .slice ao (k + 1) cp := hI.ev 6 (by show ¬ (6 ∈ [190, 191, 192, 193, 194, 195, 196, 197, 198, 199, 200, 201, 202, 203, 204, 205, 206, 207, 208, 209, 210, 211, 212, 213, 214, 215, 216]); decide) rfl
        exact pt_move _ (by first | exact .inl rfl | exact .inr rfl) _ e6 (hK _ _ hI.j PtKeep.refl rfl)
      · intro L a W K hI hn hd hK
        have e205 : a.eval (.tmp 205) = .slice ao (k + 1) cp := hI.fact 15 205 _ rfl (dep_of hd 15 (by kernel_rfl))
        exact pt_val (v := .int .i64 ((k + 1 : Nat) : Int)) (by unfold execOp; simp only [resolve, invoke, builtin, Sem.run_bind, Sem.run_pure, Result.andThen_ok, List.map_toArray, List.map_cons, List.map_nil, e205]; kernel_rfl) (hK _ _ hI.j PtKeep.refl rfl)
      · intro L a W K hI hn hd hK
        have e206 : a.eval (.tmp 206) = .int .i64 ((k + 1 : Nat) : Int) := hI.fact 16 206 _ rfl (dep_of hd 16 (by kernel_rfl))
        exact pt_val (v := .bool true) (Eq.trans (b := .ok (.value (.bool (decide ((0 : Int) < ((k + 1 : Nat) : Int))))) _) (by unfold execOp; simp only [e206]; kernel_rfl) (by rw [hgt])) (hK _ _ hI.j PtKeep.refl rfl)
      · intro L a W K hI hn hd hK
        have e207 : a.eval (.tmp 207) = .bool true := hI.fact 17 207 _ rfl (dep_of hd 17 (by kernel_rfl))
        exact pt_move _ (by first | exact .inl rfl | exact .inr rfl) _ e207 (hK _ _ hI.j PtKeep.refl rfl)
      · intro L a W K hI hn hd hK
        have e5 : a.eval (.tmp 5) = .pointer (some ⟨hb, 0, none⟩) := hI.ev 5 (by show ¬ (5 ∈ [190, 191, 192, 193, 194, 195, 196, 197, 198, 199, 200, 201, 202, 203, 204, 205, 206, 207, 208, 209, 210, 211, 212, 213, 214, 215, 216]); decide) rfl
        exact pt_move _ (by first | exact .inl rfl | exact .inr rfl) _ e5 (hK _ _ hI.j PtKeep.refl rfl)
      · intro L a W K hI hn hd hK
        have e209 : a.eval (.tmp 209) = .pointer (some ⟨hb, 0, none⟩) := hI.fact 19 209 _ rfl (dep_of hd 19 (by kernel_rfl))
        refine wp_callc (f := 19) (args := #[a.eval (.tmp 209)]) (by kernel_rfl) ?_
        rw [e209]
        refine (HSU0.out _ hI.j).mono ?_
        rintro x W' ⟨rfl, ho⟩
        exact ⟨_, rfl, hK _ _ (hI.j.trans ho (fun _ _ e => e.elim)) (hstab.keep ho) rfl⟩
      · intro L a W K hI hn hd hK
        have e15 : a.eval (.tmp 15) = .slice (some ⟨gs, 0, none⟩) (k + 1) sc := hI.ev 15 (by show ¬ (15 ∈ [190, 191, 192, 193, 194, 195, 196, 197, 198, 199, 200, 201, 202, 203, 204, 205, 206, 207, 208, 209, 210, 211, 212, 213, 214, 215, 216]); decide) rfl
        exact pt_move _ (by first | exact .inl rfl | exact .inr rfl) _ e15 (hK _ _ hI.j PtKeep.refl rfl)
      · intro L a W K hI hn hd hK
        have e15 : a.eval (.tmp 15) = .slice (some ⟨gs, 0, none⟩) (k + 1) sc := hI.ev 15 (by show ¬ (15 ∈ [190, 191, 192, 193, 194, 195, 196, 197, 198, 199, 200, 201, 202, 203, 204, 205, 206, 207, 208, 209, 210, 211, 212, 213, 214, 215, 216]); decide) rfl
        exact pt_move _ (by first | exact .inl rfl | exact .inr rfl) _ e15 (hK _ _ hI.j PtKeep.refl rfl)
      · intro L a W K hI hn hd hK
        have e212 : a.eval (.tmp 212) = .slice (some ⟨gs, 0, none⟩) (k + 1) sc := hI.fact 22 212 _ rfl (dep_of hd 22 (by kernel_rfl))
        exact pt_val (v := .int .i64 ((k + 1 : Nat) : Int)) (by unfold execOp; simp only [resolve, invoke, builtin, Sem.run_bind, Sem.run_pure, Result.andThen_ok, List.map_toArray, List.map_cons, List.map_nil, e212]; kernel_rfl) (hK _ _ hI.j PtKeep.refl rfl)
      · intro L a W K hI hn hd hK
        have e213 : a.eval (.tmp 213) = .int .i64 ((k + 1 : Nat) : Int) := hI.fact 23 213 _ rfl (dep_of hd 23 (by kernel_rfl))
        exact pt_val (v := .int .i64 (k : Nat)) (ex_sub1 rfl e213 hwk) (hK _ _ hI.j PtKeep.refl rfl)
      · intro L a W K hI hn hd hK
        have e211 : a.eval (.tmp 211) = .slice (some ⟨gs, 0, none⟩) (k + 1) sc := hI.fact 21 211 _ rfl (dep_of hd 21 (by kernel_rfl))
        have e214 : a.eval (.tmp 214) = .int .i64 (k : Nat) := hI.fact 24 214 _ rfl (dep_of hd 24 (by kernel_rfl))
        exact pt_val (v := .pointer (some ⟨gs, 0 + k * 32, none⟩)) (ex_idx rfl e211 e214 Try.underlying64 info32 hkk) (hK _ _ hI.j PtKeep.refl rfl)
      · intro L a W K hI hn hd hK
        have e215 : a.eval (.tmp 215) = .pointer (some ⟨gs, 0 + k * 32, none⟩) := hI.fact 25 215 _ rfl (dep_of hd 25 (by kernel_rfl))
        exact wp_load_mid _ (.tmp 215) rfl (gs) (0 + k * 32) e215 (bytesV LS) _ ((by rw [Nat.zero_add]; exact HRS.out _ hI.j)) Try.underlying29 rfl (HIL.out) (hK _ _ hI.j PtKeep.refl rfl)
    · intro L a w6 hal hj hfs
      dsimp only [PtAll] at hfs
      obtain ⟨f190, f191, f192, f193, f194, f195, f196, f197, f198, f199, f200, f201, f202, f203, f204, f205, f206, f207, f208, f209, f210, f211, f212, f213, f214, f215, f216, -⟩ := hfs
      have hA := hal.turned
      simp only [List.map_cons, List.map_nil, Act.turned, f190, f191, f192, f193, f194, f195, f196, f197, f198, f199, f200, f201, f202, f203, f204, f205, f206, f207, f208, f209, f210, f211, f212, f213, f214, f215, f216] at hA
      simp only [Act.put, List.setIfInBounds_toArray, List.set_cons_zero, List.set_cons_succ] at hA
      clear hal f190 f191 f192 f193 f194 f195 f196 f197 f198 f199 f200 f201 f202 f203 f204 f205 f206 f207 f208 f209 f210 f211 f212 f213 f214 f215 f216
      subst hA
      change wpList _ _ _ [_, _, _, _, _] _ _
      have HJ := hid (HP5.out.same hj)
      have heq2 := HEQ2.out
      go_wp2_with fail
      go_ret
      exact ⟨rfl, HO0.out.trans HJ.out.only (fun _ _ e => e)⟩
end
end Go.Proofs.Ytnoopajedgllhaa
