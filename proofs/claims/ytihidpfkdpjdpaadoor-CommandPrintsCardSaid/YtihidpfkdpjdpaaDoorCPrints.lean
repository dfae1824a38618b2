/- CommandPrints's walk. -/
import Derived.Test.YtihidpfkdpjdpaaDoorWants
import Derived.Test.YtihidpfkdpjdpaaDoorRf10
import Derived.Test.YtihidpfkdpjdpaaDoorPrB
import Derived.Test.YtihidpfkdpjdpaaDoorOpenC
namespace Go.Proofs.YtihidpfkdpjdpaaDoor
open Go.RowKit
theorem CmsV.two {w : World} {g : Nat} {G : Nat → Prop} {e f : EM} {cs ds : List Value} {T : TypeId} {fr : Nat × Nat} (h : w.heap[g]? = some (.cells (cs ++ ds).toArray T fr)) (he : CAt w G e cs) (hf : CAt w G f ds) : CmsV w (fun k => k = g ∨ G k) (.slice (some ⟨g, 0, none⟩) 2 2) [e, f] := by
  have hl := he.len
  refine ⟨_, 2, g, 0, rfl, fun _ => ⟨rfl, .inl rfl⟩, fun i e' hi => ?_⟩
  match i, hi with
  | 0, hi =>
    obtain rfl := Option.some.inj hi
    refine ⟨cs, fun j u hj => ?_, he.mono (fun k hk => .inr hk)⟩
    rw [cell_blk h]
    simp only [Nat.zero_mul, Nat.zero_add, List.getElem?_toArray]
    rw [List.getElem?_append_left (by rcases Nat.lt_or_ge j cs.length with g | g; exact g; rw [List.getElem?_eq_none g] at hj; cases hj)]; exact hj
  | 1, hi =>
    obtain rfl := Option.some.inj hi
    refine ⟨ds, fun j u hj => ?_, hf.mono (fun k hk => .inr hk)⟩
    rw [cell_blk h]
    simp only [Nat.one_mul, Nat.zero_add, List.getElem?_toArray]
    rw [List.getElem?_append_right (by omega), hl, Nat.add_sub_cancel_left]; exact hj
  | i + 2, hi => exact absurd hi (by simp)
theorem cpr_same {a b : EM} (ha : a.CGood) (hb : b.CGood) (ca : a.isC) (cb : b.isC) : ((strOf a.cpr).toList == (strOf b.cpr).toList) = a.same b := by
  rw [strOf_list, strOf_list]
  cases h : a.same b with
  | true =>
    have h1 := (same_iff a b).1 h
    have : a.cpr = b.cpr := by rw [← ccl_pr a, h1, ccl_pr b]
    rw [this]; simp
  | false =>
    have : a.cpr ≠ b.cpr := fun e => by
      have := (same_iff a b).2 (cpr_inj ha hb ca cb e)
      rw [h] at this; cases this
    simpa using this
section
variable {w : World}
set_option maxRecDepth 100000 in
set_option maxHeartbeats 3200000 in
theorem cprints_c (hT : Tab w) {a b : EM} {cs ds : List Value} {G : Nat → Prop} (hA : CAt w G a cs) (hB : CAt w G b ds) (hG : ∀ k, G k → k < w.heap.size) (ga : a.rg) (gb : b.rg) (ca : a.isC) (cb : b.isC) :
    Calls Tryd.prog 6 #[.agg cs.toArray, .agg ds.toArray] w fun x w' => x = .returned (.bool true) ∧ Only (fun _ => False) w w' := by
  obtain ⟨vk, vn, vs, va, vm, vc, rfl, -⟩ := hA.form
  obtain ⟨uk, un, us, ua, um, uc, rfl, -⟩ := hB.form
  have ho0 := (only_new w (.cells #[.int .i64 a.k, .int .i64 a.tm, .int .i64 a.a, .int .i64 a.b, .string (strOf a.name), .int .i64 vk, .int .i64 vn, .string (strOf vs), .slice va vm vc] 29)).trans (only_new _ (.cells #[.int .i64 b.k, .int .i64 b.tm, .int .i64 b.a, .int .i64 b.b, .string (strOf b.name), .int .i64 uk, .int .i64 un, .string (strOf us), .slice ua um uc] 29)) (fun _ _ e => e)
  have hb0 : ((w.alloc (.cells #[.int .i64 a.k, .int .i64 a.tm, .int .i64 a.a, .int .i64 a.b, .string (strOf a.name), .int .i64 vk, .int .i64 vn, .string (strOf vs), .slice va vm vc] 29)).alloc (.cells #[.int .i64 b.k, .int .i64 b.tm, .int .i64 b.a, .int .i64 b.b, .string (strOf b.name), .int .i64 uk, .int .i64 un, .string (strOf us), .slice ua um uc] 29)).heap[w.heap.size]? = some (.cells #[.int .i64 a.k, .int .i64 a.tm, .int .i64 a.a, .int .i64 a.b, .string (strOf a.name), .int .i64 vk, .int .i64 vn, .string (strOf vs), .slice va vm vc] 29 (0, 0)) := blk_alloc (blk_new w (.cells #[.int .i64 a.k, .int .i64 a.tm, .int .i64 a.a, .int .i64 a.b, .string (strOf a.name), .int .i64 vk, .int .i64 vn, .string (strOf vs), .slice va vm vc] 29))
  have hc0 : ((w.alloc (.cells #[.int .i64 a.k, .int .i64 a.tm, .int .i64 a.a, .int .i64 a.b, .string (strOf a.name), .int .i64 vk, .int .i64 vn, .string (strOf vs), .slice va vm vc] 29)).alloc (.cells #[.int .i64 b.k, .int .i64 b.tm, .int .i64 b.a, .int .i64 b.b, .string (strOf b.name), .int .i64 uk, .int .i64 un, .string (strOf us), .slice ua um uc] 29)).heap[w.heap.size + 1]? = some (.cells #[.int .i64 b.k, .int .i64 b.tm, .int .i64 b.a, .int .i64 b.b, .string (strOf b.name), .int .i64 uk, .int .i64 un, .string (strOf us), .slice ua um uc] 29 (0, 0)) := blk_new2 w (.cells #[.int .i64 a.k, .int .i64 a.tm, .int .i64 a.a, .int .i64 a.b, .string (strOf a.name), .int .i64 vk, .int .i64 vn, .string (strOf vs), .slice va vm vc] 29) (.cells #[.int .i64 b.k, .int .i64 b.tm, .int .i64 b.a, .int .i64 b.b, .string (strOf b.name), .int .i64 uk, .int .i64 un, .string (strOf us), .slice ua um uc] 29) rfl
  have HTL := hid (wants_c (hT.only ho0))
  have HT := hid hT; have HA := hid hA; have HB := hid hB; have HGG := hid hG; have HGA := hid ga; have HGB := hid gb; have HCA := hid ca; have HCB := hid cb
  have HBA0 := hid hb0; have HBB0 := hid hc0; have HO0 := hid ho0
  clear hT hA hB hG ga gb ca cb ho0 hb0 hc0
  go_enter Tryd.func6, Tryd.ntmps6
  go_wp2_with fail
  refine HTL.out.mono ?_
  rintro x w1 ⟨rfl, ho1⟩
  have HBA1 := hid (blk_only HBA0.out ho1 (fun e => e)); have HBB1 := hid (blk_only HBB0.out ho1 (fun e => e))
  have HO1 := hid (HO0.out.trans ho1 (fun _ _ e => e))
  clear ho1 HTL
  have c0 : w1.cell? ⟨w.heap.size, 0, none⟩ = some (.int .i64 a.k) := cell_blk HBA1.out 0
  have c1 : w1.cell? ⟨w.heap.size, 1, none⟩ = some (.int .i64 a.tm) := cell_blk HBA1.out 1
  have c2 : w1.cell? ⟨w.heap.size, 2, none⟩ = some (.int .i64 a.a) := cell_blk HBA1.out 2
  have c3 : w1.cell? ⟨w.heap.size, 3, none⟩ = some (.int .i64 a.b) := cell_blk HBA1.out 3
  have c4 : w1.cell? ⟨w.heap.size, 4, none⟩ = some (.string (strOf a.name)) := cell_blk HBA1.out 4
  have c5 : w1.cell? ⟨w.heap.size, 5, none⟩ = some (.int .i64 vk) := cell_blk HBA1.out 5
  have c6 : w1.cell? ⟨w.heap.size, 6, none⟩ = some (.int .i64 vn) := cell_blk HBA1.out 6
  have c7 : w1.cell? ⟨w.heap.size, 7, none⟩ = some (.string (strOf vs)) := cell_blk HBA1.out 7
  have c8 : w1.cell? ⟨w.heap.size, 8, none⟩ = some (.slice va vm vc) := cell_blk HBA1.out 8
  have d0 : w1.cell? ⟨w.heap.size + 1, 0, none⟩ = some (.int .i64 b.k) := cell_blk HBB1.out 0
  have d1 : w1.cell? ⟨w.heap.size + 1, 1, none⟩ = some (.int .i64 b.tm) := cell_blk HBB1.out 1
  have d2 : w1.cell? ⟨w.heap.size + 1, 2, none⟩ = some (.int .i64 b.a) := cell_blk HBB1.out 2
  have d3 : w1.cell? ⟨w.heap.size + 1, 3, none⟩ = some (.int .i64 b.b) := cell_blk HBB1.out 3
  have d4 : w1.cell? ⟨w.heap.size + 1, 4, none⟩ = some (.string (strOf b.name)) := cell_blk HBB1.out 4
  have d5 : w1.cell? ⟨w.heap.size + 1, 5, none⟩ = some (.int .i64 uk) := cell_blk HBB1.out 5
  have d6 : w1.cell? ⟨w.heap.size + 1, 6, none⟩ = some (.int .i64 un) := cell_blk HBB1.out 6
  have d7 : w1.cell? ⟨w.heap.size + 1, 7, none⟩ = some (.string (strOf us)) := cell_blk HBB1.out 7
  have d8 : w1.cell? ⟨w.heap.size + 1, 8, none⟩ = some (.slice ua um uc) := cell_blk HBB1.out 8
  have hla := blk_lt HBA1.out
  have hlb := blk_lt HBB1.out
  have hal := only_new w1 (.cells #[.int .i64 a.k, .int .i64 a.tm, .int .i64 a.a, .int .i64 a.b, .string (strOf a.name), .int .i64 vk, .int .i64 vn, .string (strOf vs), .slice va vm vc, .int .i64 b.k, .int .i64 b.tm, .int .i64 b.a, .int .i64 b.b, .string (strOf b.name), .int .i64 uk, .int .i64 un, .string (strOf us), .slice ua um uc] 29)
  have HSM := hid (small_c (w := w1.alloc (.cells #[.int .i64 a.k, .int .i64 a.tm, .int .i64 a.a, .int .i64 a.b, .string (strOf a.name), .int .i64 vk, .int .i64 vn, .string (strOf vs), .slice va vm vc, .int .i64 b.k, .int .i64 b.tm, .int .i64 b.a, .int .i64 b.b, .string (strOf b.name), .int .i64 uk, .int .i64 un, .string (strOf us), .slice ua um uc] 29)) (CmsV.two (w := w1.alloc (.cells #[.int .i64 a.k, .int .i64 a.tm, .int .i64 a.a, .int .i64 a.b, .string (strOf a.name), .int .i64 vk, .int .i64 vn, .string (strOf vs), .slice va vm vc, .int .i64 b.k, .int .i64 b.tm, .int .i64 b.a, .int .i64 b.b, .string (strOf b.name), .int .i64 uk, .int .i64 un, .string (strOf us), .slice ua um uc] 29)) (cs := [.int .i64 a.k, .int .i64 a.tm, .int .i64 a.a, .int .i64 a.b, .string (strOf a.name), .int .i64 vk, .int .i64 vn, .string (strOf vs), .slice va vm vc]) (ds := [.int .i64 b.k, .int .i64 b.tm, .int .i64 b.a, .int .i64 b.b, .string (strOf b.name), .int .i64 uk, .int .i64 un, .string (strOf us), .slice ua um uc]) (blk_new w1 _) (HA.out.same (HO1.out.trans hal (fun _ _ e => e))) (HB.out.same (HO1.out.trans hal (fun _ _ e => e)))) (fun k hk => by have := HO1.out.size; rcases hk with rfl | hk; simp; have := HGG.out k hk; simp; omega) (fun e' he' => by rcases List.mem_cons.1 he' with rfl | he'; exact HGA.out.2.2.2.2.2.2.2; rw [List.mem_singleton.1 he']; exact HGB.out.2.2.2.2.2.2.2) (by simp))
  have HAL := hid hal
  obtain ⟨sm, hsm⟩ : ∃ x, smC [a, b] 400 = x := ⟨_, rfl⟩
  have hs1 := HO1.out.size
  rw [hsm] at HSM
  clear hsm hal
  cases sm with
  | false =>
    go_wp2_with fail
    refine HSM.out.mono ?_
    rintro x w2 ⟨rfl, ho2⟩
    have HO2 := hid (HO1.out.trans (HAL.out.trans ho2 (fun _ _ e => e)) (fun _ _ e => e))
    clear ho2
    go_wp2_with fail
    go_ret
    exact ⟨rfl, HO2.out⟩
  | true =>
  go_wp2_with fail
  refine HSM.out.mono ?_
  rintro x w2 ⟨rfl, ho2⟩
  have ho12 := HAL.out.trans ho2 (fun _ _ e => e)
  have HBA2 := hid (blk_only HBA1.out ho12 (fun e => e)); have HBB2 := hid (blk_only HBB1.out ho12 (fun e => e))
  have HO2 := hid (HO1.out.trans ho12 (fun _ _ e => e))
  have HCK := hid (r10check_c (HA.out.same HO2.out) HGA.out)
  obtain ⟨ka, hka⟩ : ∃ x, a.cchk = x := ⟨_, rfl⟩
  rw [hka] at HCK
  have HKA := hid hka
  clear ho2 ho12 HSM HAL hka
  clear c0 c1 c2 c3 c4 c5 c6 c7 c8 d0 d1 d2 d3 d4 d5 d6 d7 d8 hla hlb
  have c0 : w2.cell? ⟨w.heap.size, 0, none⟩ = some (.int .i64 a.k) := cell_blk HBA2.out 0
  have c1 : w2.cell? ⟨w.heap.size, 1, none⟩ = some (.int .i64 a.tm) := cell_blk HBA2.out 1
  have c2 : w2.cell? ⟨w.heap.size, 2, none⟩ = some (.int .i64 a.a) := cell_blk HBA2.out 2
  have c3 : w2.cell? ⟨w.heap.size, 3, none⟩ = some (.int .i64 a.b) := cell_blk HBA2.out 3
  have c4 : w2.cell? ⟨w.heap.size, 4, none⟩ = some (.string (strOf a.name)) := cell_blk HBA2.out 4
  have c5 : w2.cell? ⟨w.heap.size, 5, none⟩ = some (.int .i64 vk) := cell_blk HBA2.out 5
  have c6 : w2.cell? ⟨w.heap.size, 6, none⟩ = some (.int .i64 vn) := cell_blk HBA2.out 6
  have c7 : w2.cell? ⟨w.heap.size, 7, none⟩ = some (.string (strOf vs)) := cell_blk HBA2.out 7
  have c8 : w2.cell? ⟨w.heap.size, 8, none⟩ = some (.slice va vm vc) := cell_blk HBA2.out 8
  have d0 : w2.cell? ⟨w.heap.size + 1, 0, none⟩ = some (.int .i64 b.k) := cell_blk HBB2.out 0
  have d1 : w2.cell? ⟨w.heap.size + 1, 1, none⟩ = some (.int .i64 b.tm) := cell_blk HBB2.out 1
  have d2 : w2.cell? ⟨w.heap.size + 1, 2, none⟩ = some (.int .i64 b.a) := cell_blk HBB2.out 2
  have d3 : w2.cell? ⟨w.heap.size + 1, 3, none⟩ = some (.int .i64 b.b) := cell_blk HBB2.out 3
  have d4 : w2.cell? ⟨w.heap.size + 1, 4, none⟩ = some (.string (strOf b.name)) := cell_blk HBB2.out 4
  have d5 : w2.cell? ⟨w.heap.size + 1, 5, none⟩ = some (.int .i64 uk) := cell_blk HBB2.out 5
  have d6 : w2.cell? ⟨w.heap.size + 1, 6, none⟩ = some (.int .i64 un) := cell_blk HBB2.out 6
  have d7 : w2.cell? ⟨w.heap.size + 1, 7, none⟩ = some (.string (strOf us)) := cell_blk HBB2.out 7
  have d8 : w2.cell? ⟨w.heap.size + 1, 8, none⟩ = some (.slice ua um uc) := cell_blk HBB2.out 8
  have hla := blk_lt HBA2.out
  have hlb := blk_lt HBB2.out
  by_cases h1 : ka = 0
  case neg =>
    have hkb : (ka != 0) = true := by simpa using h1
    go_wp2_with fail
    refine HCK.out.mono ?_
    rintro x w3 ⟨rfl, ho3⟩
    have HO3 := hid (HO2.out.trans ho3 (fun _ _ e => e))
    clear ho3
    go_wp2_with fail
    go_ret
    exact ⟨rfl, HO3.out⟩
  subst h1
  go_wp2_with fail
  refine HCK.out.mono ?_
  rintro x w3 ⟨rfl, ho3⟩
  have HBA3 := hid (blk_only HBA2.out ho3 (fun e => e)); have HBB3 := hid (blk_only HBB2.out ho3 (fun e => e))
  have HO3 := hid (HO2.out.trans ho3 (fun _ _ e => e))
  have HCL := hid (r10check_c (HB.out.same HO3.out) HGB.out)
  obtain ⟨kb, hkb⟩ : ∃ x, b.cchk = x := ⟨_, rfl⟩
  rw [hkb] at HCL
  have HKB := hid hkb
  clear ho3 hkb HCK
  clear c0 c1 c2 c3 c4 c5 c6 c7 c8 d0 d1 d2 d3 d4 d5 d6 d7 d8 hla hlb
  have c0 : w3.cell? ⟨w.heap.size, 0, none⟩ = some (.int .i64 a.k) := cell_blk HBA3.out 0
  have c1 : w3.cell? ⟨w.heap.size, 1, none⟩ = some (.int .i64 a.tm) := cell_blk HBA3.out 1
  have c2 : w3.cell? ⟨w.heap.size, 2, none⟩ = some (.int .i64 a.a) := cell_blk HBA3.out 2
  have c3 : w3.cell? ⟨w.heap.size, 3, none⟩ = some (.int .i64 a.b) := cell_blk HBA3.out 3
  have c4 : w3.cell? ⟨w.heap.size, 4, none⟩ = some (.string (strOf a.name)) := cell_blk HBA3.out 4
  have c5 : w3.cell? ⟨w.heap.size, 5, none⟩ = some (.int .i64 vk) := cell_blk HBA3.out 5
  have c6 : w3.cell? ⟨w.heap.size, 6, none⟩ = some (.int .i64 vn) := cell_blk HBA3.out 6
  have c7 : w3.cell? ⟨w.heap.size, 7, none⟩ = some (.string (strOf vs)) := cell_blk HBA3.out 7
  have c8 : w3.cell? ⟨w.heap.size, 8, none⟩ = some (.slice va vm vc) := cell_blk HBA3.out 8
  have d0 : w3.cell? ⟨w.heap.size + 1, 0, none⟩ = some (.int .i64 b.k) := cell_blk HBB3.out 0
  have d1 : w3.cell? ⟨w.heap.size + 1, 1, none⟩ = some (.int .i64 b.tm) := cell_blk HBB3.out 1
  have d2 : w3.cell? ⟨w.heap.size + 1, 2, none⟩ = some (.int .i64 b.a) := cell_blk HBB3.out 2
  have d3 : w3.cell? ⟨w.heap.size + 1, 3, none⟩ = some (.int .i64 b.b) := cell_blk HBB3.out 3
  have d4 : w3.cell? ⟨w.heap.size + 1, 4, none⟩ = some (.string (strOf b.name)) := cell_blk HBB3.out 4
  have d5 : w3.cell? ⟨w.heap.size + 1, 5, none⟩ = some (.int .i64 uk) := cell_blk HBB3.out 5
  have d6 : w3.cell? ⟨w.heap.size + 1, 6, none⟩ = some (.int .i64 un) := cell_blk HBB3.out 6
  have d7 : w3.cell? ⟨w.heap.size + 1, 7, none⟩ = some (.string (strOf us)) := cell_blk HBB3.out 7
  have d8 : w3.cell? ⟨w.heap.size + 1, 8, none⟩ = some (.slice ua um uc) := cell_blk HBB3.out 8
  have hla := blk_lt HBA3.out
  have hlb := blk_lt HBB3.out
  by_cases h2 : kb = 0
  case neg =>
    have hkb : (kb != 0) = true := by simpa using h2
    go_wp2_with fail
    refine HCL.out.mono ?_
    rintro x w4 ⟨rfl, ho4⟩
    have HO4 := hid (HO3.out.trans ho4 (fun _ _ e => e))
    clear ho4
    go_wp2_with fail
    go_ret
    exact ⟨rfl, HO4.out⟩
  subst h2
  go_wp2_with fail
  refine HCL.out.mono ?_
  rintro x w4 ⟨rfl, ho4⟩
  have HBA4 := hid (blk_only HBA3.out ho4 (fun e => e)); have HBB4 := hid (blk_only HBB3.out ho4 (fun e => e))
  have HO4 := hid (HO3.out.trans ho4 (fun _ _ e => e))
  clear ho4 HCL
  clear c0 c1 c2 c3 c4 c5 c6 c7 c8 d0 d1 d2 d3 d4 d5 d6 d7 d8 hla hlb
  have c0 : w4.cell? ⟨w.heap.size, 0, none⟩ = some (.int .i64 a.k) := cell_blk HBA4.out 0
  have c1 : w4.cell? ⟨w.heap.size, 1, none⟩ = some (.int .i64 a.tm) := cell_blk HBA4.out 1
  have c2 : w4.cell? ⟨w.heap.size, 2, none⟩ = some (.int .i64 a.a) := cell_blk HBA4.out 2
  have c3 : w4.cell? ⟨w.heap.size, 3, none⟩ = some (.int .i64 a.b) := cell_blk HBA4.out 3
  have c4 : w4.cell? ⟨w.heap.size, 4, none⟩ = some (.string (strOf a.name)) := cell_blk HBA4.out 4
  have c5 : w4.cell? ⟨w.heap.size, 5, none⟩ = some (.int .i64 vk) := cell_blk HBA4.out 5
  have c6 : w4.cell? ⟨w.heap.size, 6, none⟩ = some (.int .i64 vn) := cell_blk HBA4.out 6
  have c7 : w4.cell? ⟨w.heap.size, 7, none⟩ = some (.string (strOf vs)) := cell_blk HBA4.out 7
  have c8 : w4.cell? ⟨w.heap.size, 8, none⟩ = some (.slice va vm vc) := cell_blk HBA4.out 8
  have d0 : w4.cell? ⟨w.heap.size + 1, 0, none⟩ = some (.int .i64 b.k) := cell_blk HBB4.out 0
  have d1 : w4.cell? ⟨w.heap.size + 1, 1, none⟩ = some (.int .i64 b.tm) := cell_blk HBB4.out 1
  have d2 : w4.cell? ⟨w.heap.size + 1, 2, none⟩ = some (.int .i64 b.a) := cell_blk HBB4.out 2
  have d3 : w4.cell? ⟨w.heap.size + 1, 3, none⟩ = some (.int .i64 b.b) := cell_blk HBB4.out 3
  have d4 : w4.cell? ⟨w.heap.size + 1, 4, none⟩ = some (.string (strOf b.name)) := cell_blk HBB4.out 4
  have d5 : w4.cell? ⟨w.heap.size + 1, 5, none⟩ = some (.int .i64 uk) := cell_blk HBB4.out 5
  have d6 : w4.cell? ⟨w.heap.size + 1, 6, none⟩ = some (.int .i64 un) := cell_blk HBB4.out 6
  have d7 : w4.cell? ⟨w.heap.size + 1, 7, none⟩ = some (.string (strOf us)) := cell_blk HBB4.out 7
  have d8 : w4.cell? ⟨w.heap.size + 1, 8, none⟩ = some (.slice ua um uc) := cell_blk HBB4.out 8
  have hla := blk_lt HBA4.out
  have hlb := blk_lt HBB4.out
  have hga := cchk_good HKA.out
  have hgb := cchk_good HKB.out
  have hna := hga.nL
  have hnb := hgb.nL
  have hpa := pr_max hga.v HGA.out.2.2.2.2.2.2.2
  have hpb := pr_max hgb.v HGB.out.2.2.2.2.2.2.2
  have hxy := cpr_same hga hgb HCA.out HCB.out
  have HPA := hid (cprint_c (w := w4.drew) (HA.out.same HO4.out.drew) (fun i hi => by have := HGG.out i hi; have := HO4.out.size; show i < w4.heap.size; omega) HGA.out (HT.out.only HO4.out.drew) (by omega) hpa)
  have HPB : Hid (∀ W, Only (fun _ => False) w4 W → Calls Tryd.prog 21 #[.agg (List.toArray [.int .i64 b.k, .int .i64 b.tm, .int .i64 b.a, .int .i64 b.b, .string (strOf b.name), .int .i64 uk, .int .i64 un, .string (strOf us), .slice ua um uc])] W fun x w' => x = .returned (.string (strOf b.cpr)) ∧ Only (fun _ => False) W w') := hid (fun W h => cprint_c (w := W) (HB.out.same (HO4.out.trans h (fun _ _ e => e))) (fun i hi => by have := HGG.out i hi; have := HO4.out.size; have := h.size; omega) HGB.out (HT.out.only (HO4.out.trans h (fun _ _ e => e))) (by omega) hpb)
  have HLA : Hid (∀ W, Only (fun _ => False) w4 W → Calls Tryd.prog 20 #[.agg (List.toArray [.int .i64 a.k, .int .i64 a.tm, .int .i64 a.a, .int .i64 a.b, .string (strOf a.name), .int .i64 vk, .int .i64 vn, .string (strOf vs), .slice va vm vc])] W fun x w' => x = .returned (.string (strOf a.cpr)) ∧ Only (fun _ => False) W w') := hid (fun W h => r10line_c (w := W) (HA.out.same (HO4.out.trans h (fun _ _ e => e))) HGA.out (by omega) hpa)
  have HLB : Hid (∀ W, Only (fun _ => False) w4 W → Calls Tryd.prog 20 #[.agg (List.toArray [.int .i64 b.k, .int .i64 b.tm, .int .i64 b.a, .int .i64 b.b, .string (strOf b.name), .int .i64 uk, .int .i64 un, .string (strOf us), .slice ua um uc])] W fun x w' => x = .returned (.string (strOf b.cpr)) ∧ Only (fun _ => False) W w') := hid (fun W h => r10line_c (w := W) (HB.out.same (HO4.out.trans h (fun _ _ e => e))) HGB.out (by omega) hpb)
  have HSA : Hid (∀ W, Only (fun _ => False) w4 W → Calls Tryd.prog 19 #[.agg (List.toArray [.int .i64 a.k, .int .i64 a.tm, .int .i64 a.a, .int .i64 a.b, .string (strOf a.name), .int .i64 vk, .int .i64 vn, .string (strOf vs), .slice va vm vc]), .agg (List.toArray [.int .i64 b.k, .int .i64 b.tm, .int .i64 b.a, .int .i64 b.b, .string (strOf b.name), .int .i64 uk, .int .i64 un, .string (strOf us), .slice ua um uc])] W fun x w' => x = .returned (.bool (a.same b)) ∧ Only (fun _ => False) W w') := hid (fun W h => csame_c (w := W) (HA.out.same (HO4.out.trans h (fun _ _ e => e))) (HB.out.same (HO4.out.trans h (fun _ _ e => e))) HGA.out.2.2.2.2.2.2.2 HGB.out.2.2.2.2.2.2.2 HCA.out HCB.out)
  obtain ⟨pa, hpae⟩ : ∃ x, a.cpr = x := ⟨_, rfl⟩
  obtain ⟨pb, hpbe⟩ : ∃ x, b.cpr = x := ⟨_, rfl⟩
  obtain ⟨sb, hsb⟩ : ∃ x, a.same b = x := ⟨_, rfl⟩
  rw [hpae] at HPA HLA
  rw [hpbe] at HPB HLB
  rw [hsb] at HSA
  rw [hpae, hpbe, hsb] at hxy
  have qa : ((strOf pa).toList == (strOf pa).toList) = true := by simp
  have qb : ((strOf pb).toList == (strOf pb).toList) = true := by simp
  have qs : (sb == sb) = true := by simp
  have HG : Hid (∀ W, Only (fun _ => False) w4 W → (W.cell? ⟨w.heap.size, 0, none⟩ = some (.int .i64 a.k) ∧ W.cell? ⟨w.heap.size, 1, none⟩ = some (.int .i64 a.tm) ∧ W.cell? ⟨w.heap.size, 2, none⟩ = some (.int .i64 a.a) ∧ W.cell? ⟨w.heap.size, 3, none⟩ = some (.int .i64 a.b) ∧ W.cell? ⟨w.heap.size, 4, none⟩ = some (.string (strOf a.name)) ∧ W.cell? ⟨w.heap.size, 5, none⟩ = some (.int .i64 vk) ∧ W.cell? ⟨w.heap.size, 6, none⟩ = some (.int .i64 vn) ∧ W.cell? ⟨w.heap.size, 7, none⟩ = some (.string (strOf vs)) ∧ W.cell? ⟨w.heap.size, 8, none⟩ = some (.slice va vm vc) ∧ W.cell? ⟨w.heap.size + 1, 0, none⟩ = some (.int .i64 b.k) ∧ W.cell? ⟨w.heap.size + 1, 1, none⟩ = some (.int .i64 b.tm) ∧ W.cell? ⟨w.heap.size + 1, 2, none⟩ = some (.int .i64 b.a) ∧ W.cell? ⟨w.heap.size + 1, 3, none⟩ = some (.int .i64 b.b) ∧ W.cell? ⟨w.heap.size + 1, 4, none⟩ = some (.string (strOf b.name)) ∧ W.cell? ⟨w.heap.size + 1, 5, none⟩ = some (.int .i64 uk) ∧ W.cell? ⟨w.heap.size + 1, 6, none⟩ = some (.int .i64 un) ∧ W.cell? ⟨w.heap.size + 1, 7, none⟩ = some (.string (strOf us)) ∧ W.cell? ⟨w.heap.size + 1, 8, none⟩ = some (.slice ua um uc))) := hid (fun W h => by have ha := blk_only HBA4.out h (fun e => e); have hb := blk_only HBB4.out h (fun e => e); exact ⟨cell_blk ha 0, cell_blk ha 1, cell_blk ha 2, cell_blk ha 3, cell_blk ha 4, cell_blk ha 5, cell_blk ha 6, cell_blk ha 7, cell_blk ha 8, cell_blk hb 0, cell_blk hb 1, cell_blk hb 2, cell_blk hb 3, cell_blk hb 4, cell_blk hb 5, cell_blk hb 6, cell_blk hb 7, cell_blk hb 8⟩)
  clear hga hgb hna hnb hpa hpb hpae hpbe hsb
  go_wp2_with fail
  go_region_held3 (fun W => (W.cell? ⟨w.heap.size, 0, none⟩ = some (.int .i64 a.k) ∧ W.cell? ⟨w.heap.size, 1, none⟩ = some (.int .i64 a.tm) ∧ W.cell? ⟨w.heap.size, 2, none⟩ = some (.int .i64 a.a) ∧ W.cell? ⟨w.heap.size, 3, none⟩ = some (.int .i64 a.b) ∧ W.cell? ⟨w.heap.size, 4, none⟩ = some (.string (strOf a.name)) ∧ W.cell? ⟨w.heap.size, 5, none⟩ = some (.int .i64 vk) ∧ W.cell? ⟨w.heap.size, 6, none⟩ = some (.int .i64 vn) ∧ W.cell? ⟨w.heap.size, 7, none⟩ = some (.string (strOf vs)) ∧ W.cell? ⟨w.heap.size, 8, none⟩ = some (.slice va vm vc) ∧ W.cell? ⟨w.heap.size + 1, 0, none⟩ = some (.int .i64 b.k) ∧ W.cell? ⟨w.heap.size + 1, 1, none⟩ = some (.int .i64 b.tm) ∧ W.cell? ⟨w.heap.size + 1, 2, none⟩ = some (.int .i64 b.a) ∧ W.cell? ⟨w.heap.size + 1, 3, none⟩ = some (.int .i64 b.b) ∧ W.cell? ⟨w.heap.size + 1, 4, none⟩ = some (.string (strOf b.name)) ∧ W.cell? ⟨w.heap.size + 1, 5, none⟩ = some (.int .i64 uk) ∧ W.cell? ⟨w.heap.size + 1, 6, none⟩ = some (.int .i64 un) ∧ W.cell? ⟨w.heap.size + 1, 7, none⟩ = some (.string (strOf us)) ∧ W.cell? ⟨w.heap.size + 1, 8, none⟩ = some (.slice ua um uc)))
    (first | with_reducible exact HSK.out | go_keep)
    ((go_at_call 21; first
      | ((with_reducible refine HPA.out.mono ?_); rintro x w5 ⟨rfl, ho5⟩; have hp5 : Only (fun _ => False) w4 w5 := ((Only.refl _ w4).drew).trans ho5 (fun _ _ e => e); have HSK := hid (HG.out w5 hp5); have HP5 := hid hp5; have HCN := hid (HPB.out w5 hp5); clear ho5 hp5)
      | ((with_reducible refine HCN.out.mono ?_); rintro x w6 ⟨rfl, ho6⟩; have hp6 : Only (fun _ => False) w4 w6 := HP5.out.trans ho6 (fun _ _ e => e); have HSK := hid (HG.out w6 hp6); have HP6 := hid hp6; clear ho6 hp6)))
  clear c0 c1 c2 c3 c4 c5 c6 c7 c8 d0 d1 d2 d3 d4 d5 d6 d7 d8 hla hlb
  have HBA6 := hid (blk_only HBA4.out HP6.out (fun e => e)); have HBB6 := hid (blk_only HBB4.out HP6.out (fun e => e))
  have c0 : w6.cell? ⟨w.heap.size, 0, none⟩ = some (.int .i64 a.k) := cell_blk HBA6.out 0
  have c1 : w6.cell? ⟨w.heap.size, 1, none⟩ = some (.int .i64 a.tm) := cell_blk HBA6.out 1
  have c2 : w6.cell? ⟨w.heap.size, 2, none⟩ = some (.int .i64 a.a) := cell_blk HBA6.out 2
  have c3 : w6.cell? ⟨w.heap.size, 3, none⟩ = some (.int .i64 a.b) := cell_blk HBA6.out 3
  have c4 : w6.cell? ⟨w.heap.size, 4, none⟩ = some (.string (strOf a.name)) := cell_blk HBA6.out 4
  have c5 : w6.cell? ⟨w.heap.size, 5, none⟩ = some (.int .i64 vk) := cell_blk HBA6.out 5
  have c6 : w6.cell? ⟨w.heap.size, 6, none⟩ = some (.int .i64 vn) := cell_blk HBA6.out 6
  have c7 : w6.cell? ⟨w.heap.size, 7, none⟩ = some (.string (strOf vs)) := cell_blk HBA6.out 7
  have c8 : w6.cell? ⟨w.heap.size, 8, none⟩ = some (.slice va vm vc) := cell_blk HBA6.out 8
  have d0 : w6.cell? ⟨w.heap.size + 1, 0, none⟩ = some (.int .i64 b.k) := cell_blk HBB6.out 0
  have d1 : w6.cell? ⟨w.heap.size + 1, 1, none⟩ = some (.int .i64 b.tm) := cell_blk HBB6.out 1
  have d2 : w6.cell? ⟨w.heap.size + 1, 2, none⟩ = some (.int .i64 b.a) := cell_blk HBB6.out 2
  have d3 : w6.cell? ⟨w.heap.size + 1, 3, none⟩ = some (.int .i64 b.b) := cell_blk HBB6.out 3
  have d4 : w6.cell? ⟨w.heap.size + 1, 4, none⟩ = some (.string (strOf b.name)) := cell_blk HBB6.out 4
  have d5 : w6.cell? ⟨w.heap.size + 1, 5, none⟩ = some (.int .i64 uk) := cell_blk HBB6.out 5
  have d6 : w6.cell? ⟨w.heap.size + 1, 6, none⟩ = some (.int .i64 un) := cell_blk HBB6.out 6
  have d7 : w6.cell? ⟨w.heap.size + 1, 7, none⟩ = some (.string (strOf us)) := cell_blk HBB6.out 7
  have d8 : w6.cell? ⟨w.heap.size + 1, 8, none⟩ = some (.slice ua um uc) := cell_blk HBB6.out 8
  have hla := blk_lt HBA6.out
  have hlb := blk_lt HBB6.out
  have HCN2 := hid (HLA.out w6 HP6.out)
  go_wp2_with fail
  refine HCN2.out.mono ?_
  rintro x w7 ⟨rfl, ho7⟩
  have HP7 := hid (HP6.out.trans ho7 (fun _ _ e => e))
  have HBA7 := hid (blk_only HBA6.out ho7 (fun e => e)); have HBB7 := hid (blk_only HBB6.out ho7 (fun e => e))
  have HCN3 := hid (HLB.out w7 HP7.out)
  clear ho7
  clear c0 c1 c2 c3 c4 c5 c6 c7 c8 d0 d1 d2 d3 d4 d5 d6 d7 d8 hla hlb
  have c0 : w7.cell? ⟨w.heap.size, 0, none⟩ = some (.int .i64 a.k) := cell_blk HBA7.out 0
  have c1 : w7.cell? ⟨w.heap.size, 1, none⟩ = some (.int .i64 a.tm) := cell_blk HBA7.out 1
  have c2 : w7.cell? ⟨w.heap.size, 2, none⟩ = some (.int .i64 a.a) := cell_blk HBA7.out 2
  have c3 : w7.cell? ⟨w.heap.size, 3, none⟩ = some (.int .i64 a.b) := cell_blk HBA7.out 3
  have c4 : w7.cell? ⟨w.heap.size, 4, none⟩ = some (.string (strOf a.name)) := cell_blk HBA7.out 4
  have c5 : w7.cell? ⟨w.heap.size, 5, none⟩ = some (.int .i64 vk) := cell_blk HBA7.out 5
  have c6 : w7.cell? ⟨w.heap.size, 6, none⟩ = some (.int .i64 vn) := cell_blk HBA7.out 6
  have c7 : w7.cell? ⟨w.heap.size, 7, none⟩ = some (.string (strOf vs)) := cell_blk HBA7.out 7
  have c8 : w7.cell? ⟨w.heap.size, 8, none⟩ = some (.slice va vm vc) := cell_blk HBA7.out 8
  have d0 : w7.cell? ⟨w.heap.size + 1, 0, none⟩ = some (.int .i64 b.k) := cell_blk HBB7.out 0
  have d1 : w7.cell? ⟨w.heap.size + 1, 1, none⟩ = some (.int .i64 b.tm) := cell_blk HBB7.out 1
  have d2 : w7.cell? ⟨w.heap.size + 1, 2, none⟩ = some (.int .i64 b.a) := cell_blk HBB7.out 2
  have d3 : w7.cell? ⟨w.heap.size + 1, 3, none⟩ = some (.int .i64 b.b) := cell_blk HBB7.out 3
  have d4 : w7.cell? ⟨w.heap.size + 1, 4, none⟩ = some (.string (strOf b.name)) := cell_blk HBB7.out 4
  have d5 : w7.cell? ⟨w.heap.size + 1, 5, none⟩ = some (.int .i64 uk) := cell_blk HBB7.out 5
  have d6 : w7.cell? ⟨w.heap.size + 1, 6, none⟩ = some (.int .i64 un) := cell_blk HBB7.out 6
  have d7 : w7.cell? ⟨w.heap.size + 1, 7, none⟩ = some (.string (strOf us)) := cell_blk HBB7.out 7
  have d8 : w7.cell? ⟨w.heap.size + 1, 8, none⟩ = some (.slice ua um uc) := cell_blk HBB7.out 8
  have hla := blk_lt HBA7.out
  have hlb := blk_lt HBB7.out
  go_wp2_with fail
  refine HCN3.out.mono ?_
  rintro x w8 ⟨rfl, ho8⟩
  have HP8 := hid (HP7.out.trans ho8 (fun _ _ e => e))
  have HBA8 := hid (blk_only HBA7.out ho8 (fun e => e)); have HBB8 := hid (blk_only HBB7.out ho8 (fun e => e))
  have HCN4 := hid (HSA.out w8 HP8.out)
  clear ho8
  clear c0 c1 c2 c3 c4 c5 c6 c7 c8 d0 d1 d2 d3 d4 d5 d6 d7 d8 hla hlb
  have c0 : w8.cell? ⟨w.heap.size, 0, none⟩ = some (.int .i64 a.k) := cell_blk HBA8.out 0
  have c1 : w8.cell? ⟨w.heap.size, 1, none⟩ = some (.int .i64 a.tm) := cell_blk HBA8.out 1
  have c2 : w8.cell? ⟨w.heap.size, 2, none⟩ = some (.int .i64 a.a) := cell_blk HBA8.out 2
  have c3 : w8.cell? ⟨w.heap.size, 3, none⟩ = some (.int .i64 a.b) := cell_blk HBA8.out 3
  have c4 : w8.cell? ⟨w.heap.size, 4, none⟩ = some (.string (strOf a.name)) := cell_blk HBA8.out 4
  have c5 : w8.cell? ⟨w.heap.size, 5, none⟩ = some (.int .i64 vk) := cell_blk HBA8.out 5
  have c6 : w8.cell? ⟨w.heap.size, 6, none⟩ = some (.int .i64 vn) := cell_blk HBA8.out 6
  have c7 : w8.cell? ⟨w.heap.size, 7, none⟩ = some (.string (strOf vs)) := cell_blk HBA8.out 7
  have c8 : w8.cell? ⟨w.heap.size, 8, none⟩ = some (.slice va vm vc) := cell_blk HBA8.out 8
  have d0 : w8.cell? ⟨w.heap.size + 1, 0, none⟩ = some (.int .i64 b.k) := cell_blk HBB8.out 0
  have d1 : w8.cell? ⟨w.heap.size + 1, 1, none⟩ = some (.int .i64 b.tm) := cell_blk HBB8.out 1
  have d2 : w8.cell? ⟨w.heap.size + 1, 2, none⟩ = some (.int .i64 b.a) := cell_blk HBB8.out 2
  have d3 : w8.cell? ⟨w.heap.size + 1, 3, none⟩ = some (.int .i64 b.b) := cell_blk HBB8.out 3
  have d4 : w8.cell? ⟨w.heap.size + 1, 4, none⟩ = some (.string (strOf b.name)) := cell_blk HBB8.out 4
  have d5 : w8.cell? ⟨w.heap.size + 1, 5, none⟩ = some (.int .i64 uk) := cell_blk HBB8.out 5
  have d6 : w8.cell? ⟨w.heap.size + 1, 6, none⟩ = some (.int .i64 un) := cell_blk HBB8.out 6
  have d7 : w8.cell? ⟨w.heap.size + 1, 7, none⟩ = some (.string (strOf us)) := cell_blk HBB8.out 7
  have d8 : w8.cell? ⟨w.heap.size + 1, 8, none⟩ = some (.slice ua um uc) := cell_blk HBB8.out 8
  have hla := blk_lt HBA8.out
  have hlb := blk_lt HBB8.out
  go_wp2_with fail
  refine HCN4.out.mono ?_
  rintro x w9 ⟨rfl, ho9⟩
  have HO9 := hid (HO4.out.trans (HP8.out.trans ho9 (fun _ _ e => e)) (fun _ _ e => e))
  clear ho9
  go_wp2_with fail
  go_ret
  exact ⟨rfl, HO9.out⟩
end
end Go.Proofs.YtihidpfkdpjdpaaDoor
