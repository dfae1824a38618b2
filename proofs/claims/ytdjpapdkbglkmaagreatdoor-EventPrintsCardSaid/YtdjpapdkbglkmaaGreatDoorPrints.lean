/- EventPrints's walk. -/
import Derived.Test.YtdjpapdkbglkmaaGreatDoorTells
import Derived.Test.YtdjpapdkbglkmaaGreatDoorFits
import Derived.Test.YtdjpapdkbglkmaaGreatDoorPrB
import Derived.Test.YtdjpapdkbglkmaaGreatDoorRf09L
import Derived.Test.YtdjpapdkbglkmaaGreatDoorRf09C
import Derived.Test.YtdjpapdkbglkmaaGreatDoorRf09S
import Derived.Test.YtdjpapdkbglkmaaGreatDoorOpenV
namespace Go.Proofs.YtdjpapdkbglkmaaGreatDoor
open Go.RowKit

theorem EvsV.two {w : World} {g : Nat} {G : Nat → Prop} {e f : EM} {cs ds : List Value} {T : TypeId} {fr : Nat × Nat} (h : w.heap[g]? = some (.cells (cs ++ ds).toArray T fr)) (he : EAt w G e cs) (hf : EAt w G f ds) : EvsV w (fun k => k = g ∨ G k) (.slice (some ⟨g, 0, none⟩) 2 2) [e, f] := by
  refine ⟨_, 2, g, 0, rfl, fun _ => ⟨rfl, .inl rfl⟩, fun i e' hi => ?_⟩
  have hl : cs.length = 11 := by obtain ⟨k, n, s, a, m, c, rfl, -⟩ := he.form; rfl
  match i, hi with
  | 0, hi =>
    simp only [List.getElem?_cons_zero, Option.some.injEq] at hi
    subst hi
    refine ⟨cs, fun j u hj => ?_, he.mono (fun k hk => .inr hk)⟩
    have hjl : j < cs.length := by rcases Nat.lt_or_ge j cs.length with g | g; exact g; rw [List.getElem?_eq_none g] at hj; cases hj
    simp only [Nat.zero_mul, Nat.zero_add]
    rw [cell_blk h]
    simp only [List.getElem?_toArray]
    rw [List.getElem?_append_left hjl]; exact hj
  | 1, hi =>
    simp only [List.getElem?_cons_succ, List.getElem?_cons_zero, Option.some.injEq] at hi
    subst hi
    refine ⟨ds, fun j u hj => ?_, hf.mono (fun k hk => .inr hk)⟩
    simp only [Nat.one_mul, Nat.zero_add]
    rw [cell_blk h]
    simp only [List.getElem?_toArray]
    rw [List.getElem?_append_right (by omega), hl, show 11 + j - 11 = j from by omega]; exact hj
  | i + 2, hi => simp at hi
theorem chk_kd3 {t : VT} (h : t.chk = 0) : t.kd := by
  unfold VT.chk at h
  by_cases h1 : (t.walk 0 0 0).2 = 0
  · exact walk_kd t 0 0 _ (Prod.ext rfl h1)
  · rw [if_pos h1] at h; exact absurd h h1
theorem same_pr {a b : EM} (ha : a.Good) (hb : b.Good) : a.same b = (a.pr == b.pr) := by
  rw [Bool.eq_iff_iff, same_iff, beq_iff_eq]
  exact ⟨fun h => by rw [← ecl_pr a, h, ecl_pr b], epr_inj ha hb⟩
section
variable {w : World}
set_option maxRecDepth 100000 in
set_option maxHeartbeats 3200000 in
theorem prints_c (hT : Tab w) {a b : EM} {cs ds : List Value} {G H : Nat → Prop} (hE : EAt w G a cs) (hF : EAt w H b ds) (hG : ∀ k, G k → k < w.heap.size) (hH : ∀ k, H k → k < w.heap.size) (hg : a.rg) (hh : b.rg) : Calls Tryz.prog 4 #[.agg cs.toArray, .agg ds.toArray] w fun x w' => x = .returned (.bool true) ∧ Only (fun _ => False) w w' := by
  obtain ⟨xvk, xvn, xvs, xva, xvm, xvc, rfl, -⟩ := hE.form
  obtain ⟨yvk, yvn, yvs, yva, yvm, yvc, rfl, -⟩ := hF.form
  have hO0 : Only (fun _ => False) w ((w.alloc (.cells #[.int .i64 a.id, .int .i64 a.tm, .int .i64 a.k, .int .i64 a.a, .int .i64 a.b, .string (strOf a.name), .string (strOf a.text), .int .i64 xvk, .int .i64 xvn, .string (strOf xvs), .slice xva xvm xvc] 26)).alloc (.cells #[.int .i64 b.id, .int .i64 b.tm, .int .i64 b.k, .int .i64 b.a, .int .i64 b.b, .string (strOf b.name), .string (strOf b.text), .int .i64 yvk, .int .i64 yvn, .string (strOf yvs), .slice yva yvm yvc] 26)) := (only_new w (.cells #[.int .i64 a.id, .int .i64 a.tm, .int .i64 a.k, .int .i64 a.a, .int .i64 a.b, .string (strOf a.name), .string (strOf a.text), .int .i64 xvk, .int .i64 xvn, .string (strOf xvs), .slice xva xvm xvc] 26)).trans (only_new _ (.cells #[.int .i64 b.id, .int .i64 b.tm, .int .i64 b.k, .int .i64 b.a, .int .i64 b.b, .string (strOf b.name), .string (strOf b.text), .int .i64 yvk, .int .i64 yvn, .string (strOf yvs), .slice yva yvm yvc] 26)) (fun _ _ e => e)
  have HE := hid hE; have HF := hid hF; have HGl := hid hG; have HHl := hid hH; have Hg := hid hg; have Hh := hid hh; have HTb := hid hT
  have HO0 := hid hO0
  have hb3 : ((w.alloc (.cells #[.int .i64 a.id, .int .i64 a.tm, .int .i64 a.k, .int .i64 a.a, .int .i64 a.b, .string (strOf a.name), .string (strOf a.text), .int .i64 xvk, .int .i64 xvn, .string (strOf xvs), .slice xva xvm xvc] 26)).alloc (.cells #[.int .i64 b.id, .int .i64 b.tm, .int .i64 b.k, .int .i64 b.a, .int .i64 b.b, .string (strOf b.name), .string (strOf b.text), .int .i64 yvk, .int .i64 yvn, .string (strOf yvs), .slice yva yvm yvc] 26)).heap[w.heap.size + 1]? = some (.cells #[.int .i64 b.id, .int .i64 b.tm, .int .i64 b.k, .int .i64 b.a, .int .i64 b.b, .string (strOf b.name), .string (strOf b.text), .int .i64 yvk, .int .i64 yvn, .string (strOf yvs), .slice yva yvm yvc] 26) := by have := blk_new (w.alloc (.cells #[.int .i64 a.id, .int .i64 a.tm, .int .i64 a.k, .int .i64 a.a, .int .i64 a.b, .string (strOf a.name), .string (strOf a.text), .int .i64 xvk, .int .i64 xvn, .string (strOf xvs), .slice xva xvm xvc] 26)) (.cells #[.int .i64 b.id, .int .i64 b.tm, .int .i64 b.k, .int .i64 b.a, .int .i64 b.b, .string (strOf b.name), .string (strOf b.text), .int .i64 yvk, .int .i64 yvn, .string (strOf yvs), .slice yva yvm yvc] 26); rw [World.size_alloc] at this; exact this
  have HXA := hid (fun wx (ho : Only (fun _ => False) ((w.alloc (.cells #[.int .i64 a.id, .int .i64 a.tm, .int .i64 a.k, .int .i64 a.a, .int .i64 a.b, .string (strOf a.name), .string (strOf a.text), .int .i64 xvk, .int .i64 xvn, .string (strOf xvs), .slice xva xvm xvc] 26)).alloc (.cells #[.int .i64 b.id, .int .i64 b.tm, .int .i64 b.k, .int .i64 b.a, .int .i64 b.b, .string (strOf b.name), .string (strOf b.text), .int .i64 yvk, .int .i64 yvn, .string (strOf yvs), .slice yva yvm yvc] 26)) wx) => blk_only (w := ((w.alloc (.cells #[.int .i64 a.id, .int .i64 a.tm, .int .i64 a.k, .int .i64 a.a, .int .i64 a.b, .string (strOf a.name), .string (strOf a.text), .int .i64 xvk, .int .i64 xvn, .string (strOf xvs), .slice xva xvm xvc] 26)).alloc (.cells #[.int .i64 b.id, .int .i64 b.tm, .int .i64 b.k, .int .i64 b.a, .int .i64 b.b, .string (strOf b.name), .string (strOf b.text), .int .i64 yvk, .int .i64 yvn, .string (strOf yvs), .slice yva yvm yvc] 26))) (blk_alloc (o' := (.cells #[.int .i64 b.id, .int .i64 b.tm, .int .i64 b.k, .int .i64 b.a, .int .i64 b.b, .string (strOf b.name), .string (strOf b.text), .int .i64 yvk, .int .i64 yvn, .string (strOf yvs), .slice yva yvm yvc] 26)) (blk_new w (.cells #[.int .i64 a.id, .int .i64 a.tm, .int .i64 a.k, .int .i64 a.a, .int .i64 a.b, .string (strOf a.name), .string (strOf a.text), .int .i64 xvk, .int .i64 xvn, .string (strOf xvs), .slice xva xvm xvc] 26))) ho (fun e => e))
  have HXB := hid (fun wx (ho : Only (fun _ => False) ((w.alloc (.cells #[.int .i64 a.id, .int .i64 a.tm, .int .i64 a.k, .int .i64 a.a, .int .i64 a.b, .string (strOf a.name), .string (strOf a.text), .int .i64 xvk, .int .i64 xvn, .string (strOf xvs), .slice xva xvm xvc] 26)).alloc (.cells #[.int .i64 b.id, .int .i64 b.tm, .int .i64 b.k, .int .i64 b.a, .int .i64 b.b, .string (strOf b.name), .string (strOf b.text), .int .i64 yvk, .int .i64 yvn, .string (strOf yvs), .slice yva yvm yvc] 26)) wx) => blk_only (w := ((w.alloc (.cells #[.int .i64 a.id, .int .i64 a.tm, .int .i64 a.k, .int .i64 a.a, .int .i64 a.b, .string (strOf a.name), .string (strOf a.text), .int .i64 xvk, .int .i64 xvn, .string (strOf xvs), .slice xva xvm xvc] 26)).alloc (.cells #[.int .i64 b.id, .int .i64 b.tm, .int .i64 b.k, .int .i64 b.a, .int .i64 b.b, .string (strOf b.name), .string (strOf b.text), .int .i64 yvk, .int .i64 yvn, .string (strOf yvs), .slice yva yvm yvc] 26))) hb3 ho (fun e => e))
  have HTL := hid (tells_c (hT.only hO0))
  clear hT hE hF hG hH hg hh hO0 hb3
  go_enter Tryz.func4, Tryz.ntmps4
  go_wp2_with fail
  refine HTL.out.mono ?_
  rintro x w1 ⟨rfl, ho1⟩
  have HA1 := hid ho1
  have HO1 := hid (HO0.out.trans ho1 (fun _ _ e => e))
  clear ho1 HTL
  have c0 : w1.cell? ⟨w.heap.size, 0, none⟩ = some (.int .i64 a.id) := cell_blk (HXA.out w1 HA1.out) 0
  have c1 : w1.cell? ⟨w.heap.size, 1, none⟩ = some (.int .i64 a.tm) := cell_blk (HXA.out w1 HA1.out) 1
  have c2 : w1.cell? ⟨w.heap.size, 2, none⟩ = some (.int .i64 a.k) := cell_blk (HXA.out w1 HA1.out) 2
  have c3 : w1.cell? ⟨w.heap.size, 3, none⟩ = some (.int .i64 a.a) := cell_blk (HXA.out w1 HA1.out) 3
  have c4 : w1.cell? ⟨w.heap.size, 4, none⟩ = some (.int .i64 a.b) := cell_blk (HXA.out w1 HA1.out) 4
  have c5 : w1.cell? ⟨w.heap.size, 5, none⟩ = some (.string (strOf a.name)) := cell_blk (HXA.out w1 HA1.out) 5
  have c6 : w1.cell? ⟨w.heap.size, 6, none⟩ = some (.string (strOf a.text)) := cell_blk (HXA.out w1 HA1.out) 6
  have c7 : w1.cell? ⟨w.heap.size, 7, none⟩ = some (.int .i64 xvk) := cell_blk (HXA.out w1 HA1.out) 7
  have c8 : w1.cell? ⟨w.heap.size, 8, none⟩ = some (.int .i64 xvn) := cell_blk (HXA.out w1 HA1.out) 8
  have c9 : w1.cell? ⟨w.heap.size, 9, none⟩ = some (.string (strOf xvs)) := cell_blk (HXA.out w1 HA1.out) 9
  have c10 : w1.cell? ⟨w.heap.size, 10, none⟩ = some (.slice xva xvm xvc) := cell_blk (HXA.out w1 HA1.out) 10
  have p0 : w1.cell? ⟨w.heap.size + 1, 0, none⟩ = some (.int .i64 b.id) := cell_blk (HXB.out w1 HA1.out) 0
  have p1 : w1.cell? ⟨w.heap.size + 1, 1, none⟩ = some (.int .i64 b.tm) := cell_blk (HXB.out w1 HA1.out) 1
  have p2 : w1.cell? ⟨w.heap.size + 1, 2, none⟩ = some (.int .i64 b.k) := cell_blk (HXB.out w1 HA1.out) 2
  have p3 : w1.cell? ⟨w.heap.size + 1, 3, none⟩ = some (.int .i64 b.a) := cell_blk (HXB.out w1 HA1.out) 3
  have p4 : w1.cell? ⟨w.heap.size + 1, 4, none⟩ = some (.int .i64 b.b) := cell_blk (HXB.out w1 HA1.out) 4
  have p5 : w1.cell? ⟨w.heap.size + 1, 5, none⟩ = some (.string (strOf b.name)) := cell_blk (HXB.out w1 HA1.out) 5
  have p6 : w1.cell? ⟨w.heap.size + 1, 6, none⟩ = some (.string (strOf b.text)) := cell_blk (HXB.out w1 HA1.out) 6
  have p7 : w1.cell? ⟨w.heap.size + 1, 7, none⟩ = some (.int .i64 yvk) := cell_blk (HXB.out w1 HA1.out) 7
  have p8 : w1.cell? ⟨w.heap.size + 1, 8, none⟩ = some (.int .i64 yvn) := cell_blk (HXB.out w1 HA1.out) 8
  have p9 : w1.cell? ⟨w.heap.size + 1, 9, none⟩ = some (.string (strOf yvs)) := cell_blk (HXB.out w1 HA1.out) 9
  have p10 : w1.cell? ⟨w.heap.size + 1, 10, none⟩ = some (.slice yva yvm yvc) := cell_blk (HXB.out w1 HA1.out) 10
  have hl2 : w.heap.size < w1.heap.size := blk_lt (HXA.out w1 HA1.out)
  have hl3 : w.heap.size + 1 < w1.heap.size := blk_lt (HXB.out w1 HA1.out)
  have HSM := hid (small_c (w := w1.alloc (.cells #[.int .i64 a.id, .int .i64 a.tm, .int .i64 a.k, .int .i64 a.a, .int .i64 a.b, .string (strOf a.name), .string (strOf a.text), .int .i64 xvk, .int .i64 xvn, .string (strOf xvs), .slice xva xvm xvc, .int .i64 b.id, .int .i64 b.tm, .int .i64 b.k, .int .i64 b.a, .int .i64 b.b, .string (strOf b.name), .string (strOf b.text), .int .i64 yvk, .int .i64 yvn, .string (strOf yvs), .slice yva yvm yvc] 26)) (G := fun k => k = w1.heap.size ∨ (G k ∨ H k)) (EvsV.two (cs := [.int .i64 a.id, .int .i64 a.tm, .int .i64 a.k, .int .i64 a.a, .int .i64 a.b, .string (strOf a.name), .string (strOf a.text), .int .i64 xvk, .int .i64 xvn, .string (strOf xvs), .slice xva xvm xvc]) (ds := [.int .i64 b.id, .int .i64 b.tm, .int .i64 b.k, .int .i64 b.a, .int .i64 b.b, .string (strOf b.name), .string (strOf b.text), .int .i64 yvk, .int .i64 yvn, .string (strOf yvs), .slice yva yvm yvc]) (w := w1.alloc (.cells #[.int .i64 a.id, .int .i64 a.tm, .int .i64 a.k, .int .i64 a.a, .int .i64 a.b, .string (strOf a.name), .string (strOf a.text), .int .i64 xvk, .int .i64 xvn, .string (strOf xvs), .slice xva xvm xvc, .int .i64 b.id, .int .i64 b.tm, .int .i64 b.k, .int .i64 b.a, .int .i64 b.b, .string (strOf b.name), .string (strOf b.text), .int .i64 yvk, .int .i64 yvn, .string (strOf yvs), .slice yva yvm yvc] 26)) (blk_new w1 _) ((HE.out.same (HO1.out.trans (only_new w1 _) (fun _ _ e => e))).mono (fun _ h => .inl h)) ((HF.out.same (HO1.out.trans (only_new w1 _) (fun _ _ e => e))).mono (fun _ h => .inr h))) (fun k hk => by have := HO1.out.size; rcases hk with rfl | hk | hk; simp; have := HGl.out k hk; simp; omega; have := HHl.out k hk; simp; omega) (fun e' he' => by simp only [List.mem_cons, List.not_mem_nil, or_false] at he'; rcases he' with rfl | rfl; exact Hg.out.2.2.2.2.2.2.2; exact Hh.out.2.2.2.2.2.2.2) (by simp))
  obtain ⟨sm, hsm⟩ : ∃ s, smB [a, b] 400 = s := ⟨_, rfl⟩
  rw [hsm] at HSM
  clear hsm
  cases sm with
  | false =>
    go_wp2_with fail
    refine HSM.out.mono ?_
    rintro x w2 ⟨rfl, ho2⟩
    have HO2 := hid (HO1.out.trans ((only_new w1 _).trans ho2 (fun _ _ e => e)) (fun _ _ e => e))
    clear ho2
    go_wp2_with fail
    go_ret
    exact ⟨rfl, HO2.out⟩
  | true =>
  go_wp2_with fail
  refine HSM.out.mono ?_
  rintro x w2 ⟨rfl, ho2⟩
  have HA2 := hid (HA1.out.trans ((only_new w1 (.cells #[.int .i64 a.id, .int .i64 a.tm, .int .i64 a.k, .int .i64 a.a, .int .i64 a.b, .string (strOf a.name), .string (strOf a.text), .int .i64 xvk, .int .i64 xvn, .string (strOf xvs), .slice xva xvm xvc, .int .i64 b.id, .int .i64 b.tm, .int .i64 b.k, .int .i64 b.a, .int .i64 b.b, .string (strOf b.name), .string (strOf b.text), .int .i64 yvk, .int .i64 yvn, .string (strOf yvs), .slice yva yvm yvc] 26)).trans ho2 (fun _ _ e => e)) (fun _ _ e => e))
  have HO2 := hid (HO0.out.trans HA2.out (fun _ _ e => e))
  clear ho2 HSM
  clear c0 p0 c1 p1 c2 p2 c3 p3 c4 p4 c5 p5 c6 p6 c7 p7 c8 p8 c9 p9 c10 p10 hl2 hl3
  have c0 : w2.cell? ⟨w.heap.size, 0, none⟩ = some (.int .i64 a.id) := cell_blk (HXA.out w2 HA2.out) 0
  have c1 : w2.cell? ⟨w.heap.size, 1, none⟩ = some (.int .i64 a.tm) := cell_blk (HXA.out w2 HA2.out) 1
  have c2 : w2.cell? ⟨w.heap.size, 2, none⟩ = some (.int .i64 a.k) := cell_blk (HXA.out w2 HA2.out) 2
  have c3 : w2.cell? ⟨w.heap.size, 3, none⟩ = some (.int .i64 a.a) := cell_blk (HXA.out w2 HA2.out) 3
  have c4 : w2.cell? ⟨w.heap.size, 4, none⟩ = some (.int .i64 a.b) := cell_blk (HXA.out w2 HA2.out) 4
  have c5 : w2.cell? ⟨w.heap.size, 5, none⟩ = some (.string (strOf a.name)) := cell_blk (HXA.out w2 HA2.out) 5
  have c6 : w2.cell? ⟨w.heap.size, 6, none⟩ = some (.string (strOf a.text)) := cell_blk (HXA.out w2 HA2.out) 6
  have c7 : w2.cell? ⟨w.heap.size, 7, none⟩ = some (.int .i64 xvk) := cell_blk (HXA.out w2 HA2.out) 7
  have c8 : w2.cell? ⟨w.heap.size, 8, none⟩ = some (.int .i64 xvn) := cell_blk (HXA.out w2 HA2.out) 8
  have c9 : w2.cell? ⟨w.heap.size, 9, none⟩ = some (.string (strOf xvs)) := cell_blk (HXA.out w2 HA2.out) 9
  have c10 : w2.cell? ⟨w.heap.size, 10, none⟩ = some (.slice xva xvm xvc) := cell_blk (HXA.out w2 HA2.out) 10
  have p0 : w2.cell? ⟨w.heap.size + 1, 0, none⟩ = some (.int .i64 b.id) := cell_blk (HXB.out w2 HA2.out) 0
  have p1 : w2.cell? ⟨w.heap.size + 1, 1, none⟩ = some (.int .i64 b.tm) := cell_blk (HXB.out w2 HA2.out) 1
  have p2 : w2.cell? ⟨w.heap.size + 1, 2, none⟩ = some (.int .i64 b.k) := cell_blk (HXB.out w2 HA2.out) 2
  have p3 : w2.cell? ⟨w.heap.size + 1, 3, none⟩ = some (.int .i64 b.a) := cell_blk (HXB.out w2 HA2.out) 3
  have p4 : w2.cell? ⟨w.heap.size + 1, 4, none⟩ = some (.int .i64 b.b) := cell_blk (HXB.out w2 HA2.out) 4
  have p5 : w2.cell? ⟨w.heap.size + 1, 5, none⟩ = some (.string (strOf b.name)) := cell_blk (HXB.out w2 HA2.out) 5
  have p6 : w2.cell? ⟨w.heap.size + 1, 6, none⟩ = some (.string (strOf b.text)) := cell_blk (HXB.out w2 HA2.out) 6
  have p7 : w2.cell? ⟨w.heap.size + 1, 7, none⟩ = some (.int .i64 yvk) := cell_blk (HXB.out w2 HA2.out) 7
  have p8 : w2.cell? ⟨w.heap.size + 1, 8, none⟩ = some (.int .i64 yvn) := cell_blk (HXB.out w2 HA2.out) 8
  have p9 : w2.cell? ⟨w.heap.size + 1, 9, none⟩ = some (.string (strOf yvs)) := cell_blk (HXB.out w2 HA2.out) 9
  have p10 : w2.cell? ⟨w.heap.size + 1, 10, none⟩ = some (.slice yva yvm yvc) := cell_blk (HXB.out w2 HA2.out) 10
  have hl2 : w.heap.size < w2.heap.size := blk_lt (HXA.out w2 HA2.out)
  have hl3 : w.heap.size + 1 < w2.heap.size := blk_lt (HXB.out w2 HA2.out)
  have HRC := hid (r9check_c (HE.out.same HO2.out) Hg.out)
  obtain ⟨ck, hck⟩ : ∃ y, a.chk = y := ⟨_, rfl⟩
  rw [hck] at HRC
  have HCK := hid hck
  clear hck
  by_cases hc0 : ck = 0
  · subst hc0
    go_wp2_with fail
    refine HRC.out.mono ?_
    rintro x w3 ⟨rfl, ho3⟩
    have HA3 := hid (HA2.out.trans ho3 (fun _ _ e => e))
    have HO3 := hid (HO0.out.trans HA3.out (fun _ _ e => e))
    clear ho3 HRC
    clear c0 p0 c1 p1 c2 p2 c3 p3 c4 p4 c5 p5 c6 p6 c7 p7 c8 p8 c9 p9 c10 p10 hl2 hl3
    have c0 : w3.cell? ⟨w.heap.size, 0, none⟩ = some (.int .i64 a.id) := cell_blk (HXA.out w3 HA3.out) 0
    have c1 : w3.cell? ⟨w.heap.size, 1, none⟩ = some (.int .i64 a.tm) := cell_blk (HXA.out w3 HA3.out) 1
    have c2 : w3.cell? ⟨w.heap.size, 2, none⟩ = some (.int .i64 a.k) := cell_blk (HXA.out w3 HA3.out) 2
    have c3 : w3.cell? ⟨w.heap.size, 3, none⟩ = some (.int .i64 a.a) := cell_blk (HXA.out w3 HA3.out) 3
    have c4 : w3.cell? ⟨w.heap.size, 4, none⟩ = some (.int .i64 a.b) := cell_blk (HXA.out w3 HA3.out) 4
    have c5 : w3.cell? ⟨w.heap.size, 5, none⟩ = some (.string (strOf a.name)) := cell_blk (HXA.out w3 HA3.out) 5
    have c6 : w3.cell? ⟨w.heap.size, 6, none⟩ = some (.string (strOf a.text)) := cell_blk (HXA.out w3 HA3.out) 6
    have c7 : w3.cell? ⟨w.heap.size, 7, none⟩ = some (.int .i64 xvk) := cell_blk (HXA.out w3 HA3.out) 7
    have c8 : w3.cell? ⟨w.heap.size, 8, none⟩ = some (.int .i64 xvn) := cell_blk (HXA.out w3 HA3.out) 8
    have c9 : w3.cell? ⟨w.heap.size, 9, none⟩ = some (.string (strOf xvs)) := cell_blk (HXA.out w3 HA3.out) 9
    have c10 : w3.cell? ⟨w.heap.size, 10, none⟩ = some (.slice xva xvm xvc) := cell_blk (HXA.out w3 HA3.out) 10
    have p0 : w3.cell? ⟨w.heap.size + 1, 0, none⟩ = some (.int .i64 b.id) := cell_blk (HXB.out w3 HA3.out) 0
    have p1 : w3.cell? ⟨w.heap.size + 1, 1, none⟩ = some (.int .i64 b.tm) := cell_blk (HXB.out w3 HA3.out) 1
    have p2 : w3.cell? ⟨w.heap.size + 1, 2, none⟩ = some (.int .i64 b.k) := cell_blk (HXB.out w3 HA3.out) 2
    have p3 : w3.cell? ⟨w.heap.size + 1, 3, none⟩ = some (.int .i64 b.a) := cell_blk (HXB.out w3 HA3.out) 3
    have p4 : w3.cell? ⟨w.heap.size + 1, 4, none⟩ = some (.int .i64 b.b) := cell_blk (HXB.out w3 HA3.out) 4
    have p5 : w3.cell? ⟨w.heap.size + 1, 5, none⟩ = some (.string (strOf b.name)) := cell_blk (HXB.out w3 HA3.out) 5
    have p6 : w3.cell? ⟨w.heap.size + 1, 6, none⟩ = some (.string (strOf b.text)) := cell_blk (HXB.out w3 HA3.out) 6
    have p7 : w3.cell? ⟨w.heap.size + 1, 7, none⟩ = some (.int .i64 yvk) := cell_blk (HXB.out w3 HA3.out) 7
    have p8 : w3.cell? ⟨w.heap.size + 1, 8, none⟩ = some (.int .i64 yvn) := cell_blk (HXB.out w3 HA3.out) 8
    have p9 : w3.cell? ⟨w.heap.size + 1, 9, none⟩ = some (.string (strOf yvs)) := cell_blk (HXB.out w3 HA3.out) 9
    have p10 : w3.cell? ⟨w.heap.size + 1, 10, none⟩ = some (.slice yva yvm yvc) := cell_blk (HXB.out w3 HA3.out) 10
    have hl2 : w.heap.size < w3.heap.size := blk_lt (HXA.out w3 HA3.out)
    have hl3 : w.heap.size + 1 < w3.heap.size := blk_lt (HXB.out w3 HA3.out)
    have HRC := hid (r9check_c (HF.out.same HO3.out) Hh.out)
    obtain ⟨ck, hck⟩ : ∃ y, b.chk = y := ⟨_, rfl⟩
    rw [hck] at HRC
    have HCL := hid hck
    clear hck
    by_cases hc0 : ck = 0
    · subst hc0
      go_wp2_with fail
      refine HRC.out.mono ?_
      rintro x w4 ⟨rfl, ho4⟩
      have HA4 := hid (HA3.out.trans ho4 (fun _ _ e => e))
      have HO4 := hid (HO0.out.trans HA4.out (fun _ _ e => e))
      clear ho4 HRC
      clear c0 p0 c1 p1 c2 p2 c3 p3 c4 p4 c5 p5 c6 p6 c7 p7 c8 p8 c9 p9 c10 p10 hl2 hl3
      have c0 : w4.cell? ⟨w.heap.size, 0, none⟩ = some (.int .i64 a.id) := cell_blk (HXA.out w4 HA4.out) 0
      have c1 : w4.cell? ⟨w.heap.size, 1, none⟩ = some (.int .i64 a.tm) := cell_blk (HXA.out w4 HA4.out) 1
      have c2 : w4.cell? ⟨w.heap.size, 2, none⟩ = some (.int .i64 a.k) := cell_blk (HXA.out w4 HA4.out) 2
      have c3 : w4.cell? ⟨w.heap.size, 3, none⟩ = some (.int .i64 a.a) := cell_blk (HXA.out w4 HA4.out) 3
      have c4 : w4.cell? ⟨w.heap.size, 4, none⟩ = some (.int .i64 a.b) := cell_blk (HXA.out w4 HA4.out) 4
      have c5 : w4.cell? ⟨w.heap.size, 5, none⟩ = some (.string (strOf a.name)) := cell_blk (HXA.out w4 HA4.out) 5
      have c6 : w4.cell? ⟨w.heap.size, 6, none⟩ = some (.string (strOf a.text)) := cell_blk (HXA.out w4 HA4.out) 6
      have c7 : w4.cell? ⟨w.heap.size, 7, none⟩ = some (.int .i64 xvk) := cell_blk (HXA.out w4 HA4.out) 7
      have c8 : w4.cell? ⟨w.heap.size, 8, none⟩ = some (.int .i64 xvn) := cell_blk (HXA.out w4 HA4.out) 8
      have c9 : w4.cell? ⟨w.heap.size, 9, none⟩ = some (.string (strOf xvs)) := cell_blk (HXA.out w4 HA4.out) 9
      have c10 : w4.cell? ⟨w.heap.size, 10, none⟩ = some (.slice xva xvm xvc) := cell_blk (HXA.out w4 HA4.out) 10
      have p0 : w4.cell? ⟨w.heap.size + 1, 0, none⟩ = some (.int .i64 b.id) := cell_blk (HXB.out w4 HA4.out) 0
      have p1 : w4.cell? ⟨w.heap.size + 1, 1, none⟩ = some (.int .i64 b.tm) := cell_blk (HXB.out w4 HA4.out) 1
      have p2 : w4.cell? ⟨w.heap.size + 1, 2, none⟩ = some (.int .i64 b.k) := cell_blk (HXB.out w4 HA4.out) 2
      have p3 : w4.cell? ⟨w.heap.size + 1, 3, none⟩ = some (.int .i64 b.a) := cell_blk (HXB.out w4 HA4.out) 3
      have p4 : w4.cell? ⟨w.heap.size + 1, 4, none⟩ = some (.int .i64 b.b) := cell_blk (HXB.out w4 HA4.out) 4
      have p5 : w4.cell? ⟨w.heap.size + 1, 5, none⟩ = some (.string (strOf b.name)) := cell_blk (HXB.out w4 HA4.out) 5
      have p6 : w4.cell? ⟨w.heap.size + 1, 6, none⟩ = some (.string (strOf b.text)) := cell_blk (HXB.out w4 HA4.out) 6
      have p7 : w4.cell? ⟨w.heap.size + 1, 7, none⟩ = some (.int .i64 yvk) := cell_blk (HXB.out w4 HA4.out) 7
      have p8 : w4.cell? ⟨w.heap.size + 1, 8, none⟩ = some (.int .i64 yvn) := cell_blk (HXB.out w4 HA4.out) 8
      have p9 : w4.cell? ⟨w.heap.size + 1, 9, none⟩ = some (.string (strOf yvs)) := cell_blk (HXB.out w4 HA4.out) 9
      have p10 : w4.cell? ⟨w.heap.size + 1, 10, none⟩ = some (.slice yva yvm yvc) := cell_blk (HXB.out w4 HA4.out) 10
      have hl2 : w.heap.size < w4.heap.size := blk_lt (HXA.out w4 HA4.out)
      have hl3 : w.heap.size + 1 < w4.heap.size := blk_lt (HXB.out w4 HA4.out)
      have hga := chk_good HCK.out
      have hgb := chk_good HCL.out
      have hma := pr_max hga.v Hg.out.2.2.2.2.2.2.2
      have hmb := pr_max hgb.v Hh.out.2.2.2.2.2.2.2
      have HSP := hid (same_pr hga hgb)
      have hna := hga.nL; have hta := hga.tL; have hnb := hgb.nL; have htb := hgb.tL
      have hoD : Only (fun _ => False) w w4.drew := HO4.out.trans ((Only.refl (fun _ => False) w4).drew) (fun _ _ e => e)
      have HPA := hid (eprint_c (HE.out.same hoD) (fun k hk => by have := HGl.out k hk; have := hoD.size; omega) Hg.out (HTb.out.only hoD) (by omega) (by omega) hma)
      have HPB := fun wx ho => hid (eprint_c (w := wx) (HF.out.same ho) (fun k hk => by have := HHl.out k hk; have := ho.size; omega) Hh.out (HTb.out.only ho) (by omega) (by omega) hmb)
      have HLA := fun wx ho => hid (r9line_c (w := wx) (HE.out.same ho) Hg.out (by omega) (by omega) hma)
      have HLB := fun wx ho => hid (r9line_c (w := wx) (HF.out.same ho) Hh.out (by omega) (by omega) hmb)
      have HRS := fun wx ho => hid (r9same_c (w := wx) (HE.out.same ho) (HF.out.same ho) Hg.out.2.2.2.2.2.2.2 Hh.out.2.2.2.2.2.2.2 (chk_kd3 hga.v) (chk_kd3 hgb.v))
      have HES := fun wx ho => hid (esame_c (w := wx) (HE.out.same ho) (HF.out.same ho) Hg.out.2.2.2.2.2.2.2 Hh.out.2.2.2.2.2.2.2)
      obtain ⟨pa, hpa⟩ : ∃ x, a.pr = x := ⟨_, rfl⟩
      obtain ⟨pb, hpb⟩ : ∃ x, b.pr = x := ⟨_, rfl⟩
      obtain ⟨z, hz⟩ : ∃ z, (pa == pb) = z := ⟨_, rfl⟩
      simp only [HSP.out, hpa, hpb, hz] at HPA HPB HLA HLB HRS HES
      have qq : ((strOf pa).toList == (strOf pb).toList) = z := by rw [strOf_list, strOf_list]; exact hz
      have qa : ((strOf pa).toList == (strOf pa).toList) = true := by simp
      have qb : ((strOf pb).toList == (strOf pb).toList) = true := by simp
      clear hga hgb hma hmb hoD hpa hpb hz HSP
      go_wp2_with fail
      go_region_law (first
        | (refine step_of rfl (wp_callc (o := ⟨some 25, _, _, _, _, _⟩) (f := 17) (args := #[.agg #[.int .i64 a.id, .int .i64 a.tm, .int .i64 a.k, .int .i64 a.a, .int .i64 a.b, .string (strOf a.name), .string (strOf a.text), .int .i64 xvk, .int .i64 xvn, .string (strOf xvs), .slice xva xvm xvc]]) (by kernel_rfl) ?_); refine HPA.out.mono ?_; rintro x w5 ⟨rfl, ho5⟩; refine ⟨_, rfl, ?_⟩; have HA5 := hid (HA4.out.trans (((Only.refl (fun _ => False) w4).drew).trans ho5 (fun _ _ e => e)) (fun _ _ e => e)); clear ho5; clear c0 p0 c1 p1 c2 p2 c3 p3 c4 p4 c5 p5 c6 p6 c7 p7 c8 p8 c9 p9 c10 p10 hl2 hl3; have c0 : w5.cell? ⟨w.heap.size, 0, none⟩ = some (.int .i64 a.id) := cell_blk (HXA.out w5 HA5.out) 0; have c1 : w5.cell? ⟨w.heap.size, 1, none⟩ = some (.int .i64 a.tm) := cell_blk (HXA.out w5 HA5.out) 1; have c2 : w5.cell? ⟨w.heap.size, 2, none⟩ = some (.int .i64 a.k) := cell_blk (HXA.out w5 HA5.out) 2; have c3 : w5.cell? ⟨w.heap.size, 3, none⟩ = some (.int .i64 a.a) := cell_blk (HXA.out w5 HA5.out) 3; have c4 : w5.cell? ⟨w.heap.size, 4, none⟩ = some (.int .i64 a.b) := cell_blk (HXA.out w5 HA5.out) 4; have c5 : w5.cell? ⟨w.heap.size, 5, none⟩ = some (.string (strOf a.name)) := cell_blk (HXA.out w5 HA5.out) 5; have c6 : w5.cell? ⟨w.heap.size, 6, none⟩ = some (.string (strOf a.text)) := cell_blk (HXA.out w5 HA5.out) 6; have c7 : w5.cell? ⟨w.heap.size, 7, none⟩ = some (.int .i64 xvk) := cell_blk (HXA.out w5 HA5.out) 7; have c8 : w5.cell? ⟨w.heap.size, 8, none⟩ = some (.int .i64 xvn) := cell_blk (HXA.out w5 HA5.out) 8; have c9 : w5.cell? ⟨w.heap.size, 9, none⟩ = some (.string (strOf xvs)) := cell_blk (HXA.out w5 HA5.out) 9; have c10 : w5.cell? ⟨w.heap.size, 10, none⟩ = some (.slice xva xvm xvc) := cell_blk (HXA.out w5 HA5.out) 10; have p0 : w5.cell? ⟨w.heap.size + 1, 0, none⟩ = some (.int .i64 b.id) := cell_blk (HXB.out w5 HA5.out) 0; have p1 : w5.cell? ⟨w.heap.size + 1, 1, none⟩ = some (.int .i64 b.tm) := cell_blk (HXB.out w5 HA5.out) 1; have p2 : w5.cell? ⟨w.heap.size + 1, 2, none⟩ = some (.int .i64 b.k) := cell_blk (HXB.out w5 HA5.out) 2; have p3 : w5.cell? ⟨w.heap.size + 1, 3, none⟩ = some (.int .i64 b.a) := cell_blk (HXB.out w5 HA5.out) 3; have p4 : w5.cell? ⟨w.heap.size + 1, 4, none⟩ = some (.int .i64 b.b) := cell_blk (HXB.out w5 HA5.out) 4; have p5 : w5.cell? ⟨w.heap.size + 1, 5, none⟩ = some (.string (strOf b.name)) := cell_blk (HXB.out w5 HA5.out) 5; have p6 : w5.cell? ⟨w.heap.size + 1, 6, none⟩ = some (.string (strOf b.text)) := cell_blk (HXB.out w5 HA5.out) 6; have p7 : w5.cell? ⟨w.heap.size + 1, 7, none⟩ = some (.int .i64 yvk) := cell_blk (HXB.out w5 HA5.out) 7; have p8 : w5.cell? ⟨w.heap.size + 1, 8, none⟩ = some (.int .i64 yvn) := cell_blk (HXB.out w5 HA5.out) 8; have p9 : w5.cell? ⟨w.heap.size + 1, 9, none⟩ = some (.string (strOf yvs)) := cell_blk (HXB.out w5 HA5.out) 9; have p10 : w5.cell? ⟨w.heap.size + 1, 10, none⟩ = some (.slice yva yvm yvc) := cell_blk (HXB.out w5 HA5.out) 10; have hl2 : w.heap.size < w5.heap.size := blk_lt (HXA.out w5 HA5.out); have hl3 : w.heap.size + 1 < w5.heap.size := blk_lt (HXB.out w5 HA5.out))
        | (refine step_of rfl (wp_callc (o := ⟨some 27, _, _, _, _, _⟩) (f := 17) (args := #[.agg #[.int .i64 b.id, .int .i64 b.tm, .int .i64 b.k, .int .i64 b.a, .int .i64 b.b, .string (strOf b.name), .string (strOf b.text), .int .i64 yvk, .int .i64 yvn, .string (strOf yvs), .slice yva yvm yvc]]) (by kernel_rfl) ?_); refine (HPB _ (HO0.out.trans HA5.out (fun _ _ e => e))).out.mono ?_; rintro x w6 ⟨rfl, ho6⟩; refine ⟨_, rfl, ?_⟩; have HA6 := hid (HA5.out.trans ho6 (fun _ _ e => e)); clear ho6; clear c0 p0 c1 p1 c2 p2 c3 p3 c4 p4 c5 p5 c6 p6 c7 p7 c8 p8 c9 p9 c10 p10 hl2 hl3; have c0 : w6.cell? ⟨w.heap.size, 0, none⟩ = some (.int .i64 a.id) := cell_blk (HXA.out w6 HA6.out) 0; have c1 : w6.cell? ⟨w.heap.size, 1, none⟩ = some (.int .i64 a.tm) := cell_blk (HXA.out w6 HA6.out) 1; have c2 : w6.cell? ⟨w.heap.size, 2, none⟩ = some (.int .i64 a.k) := cell_blk (HXA.out w6 HA6.out) 2; have c3 : w6.cell? ⟨w.heap.size, 3, none⟩ = some (.int .i64 a.a) := cell_blk (HXA.out w6 HA6.out) 3; have c4 : w6.cell? ⟨w.heap.size, 4, none⟩ = some (.int .i64 a.b) := cell_blk (HXA.out w6 HA6.out) 4; have c5 : w6.cell? ⟨w.heap.size, 5, none⟩ = some (.string (strOf a.name)) := cell_blk (HXA.out w6 HA6.out) 5; have c6 : w6.cell? ⟨w.heap.size, 6, none⟩ = some (.string (strOf a.text)) := cell_blk (HXA.out w6 HA6.out) 6; have c7 : w6.cell? ⟨w.heap.size, 7, none⟩ = some (.int .i64 xvk) := cell_blk (HXA.out w6 HA6.out) 7; have c8 : w6.cell? ⟨w.heap.size, 8, none⟩ = some (.int .i64 xvn) := cell_blk (HXA.out w6 HA6.out) 8; have c9 : w6.cell? ⟨w.heap.size, 9, none⟩ = some (.string (strOf xvs)) := cell_blk (HXA.out w6 HA6.out) 9; have c10 : w6.cell? ⟨w.heap.size, 10, none⟩ = some (.slice xva xvm xvc) := cell_blk (HXA.out w6 HA6.out) 10; have p0 : w6.cell? ⟨w.heap.size + 1, 0, none⟩ = some (.int .i64 b.id) := cell_blk (HXB.out w6 HA6.out) 0; have p1 : w6.cell? ⟨w.heap.size + 1, 1, none⟩ = some (.int .i64 b.tm) := cell_blk (HXB.out w6 HA6.out) 1; have p2 : w6.cell? ⟨w.heap.size + 1, 2, none⟩ = some (.int .i64 b.k) := cell_blk (HXB.out w6 HA6.out) 2; have p3 : w6.cell? ⟨w.heap.size + 1, 3, none⟩ = some (.int .i64 b.a) := cell_blk (HXB.out w6 HA6.out) 3; have p4 : w6.cell? ⟨w.heap.size + 1, 4, none⟩ = some (.int .i64 b.b) := cell_blk (HXB.out w6 HA6.out) 4; have p5 : w6.cell? ⟨w.heap.size + 1, 5, none⟩ = some (.string (strOf b.name)) := cell_blk (HXB.out w6 HA6.out) 5; have p6 : w6.cell? ⟨w.heap.size + 1, 6, none⟩ = some (.string (strOf b.text)) := cell_blk (HXB.out w6 HA6.out) 6; have p7 : w6.cell? ⟨w.heap.size + 1, 7, none⟩ = some (.int .i64 yvk) := cell_blk (HXB.out w6 HA6.out) 7; have p8 : w6.cell? ⟨w.heap.size + 1, 8, none⟩ = some (.int .i64 yvn) := cell_blk (HXB.out w6 HA6.out) 8; have p9 : w6.cell? ⟨w.heap.size + 1, 9, none⟩ = some (.string (strOf yvs)) := cell_blk (HXB.out w6 HA6.out) 9; have p10 : w6.cell? ⟨w.heap.size + 1, 10, none⟩ = some (.slice yva yvm yvc) := cell_blk (HXB.out w6 HA6.out) 10; have hl2 : w.heap.size < w6.heap.size := blk_lt (HXA.out w6 HA6.out); have hl3 : w.heap.size + 1 < w6.heap.size := blk_lt (HXB.out w6 HA6.out)))
      all_goals
        go_wp2_with fail
        refine (HLA _ (HO0.out.trans HA6.out (fun _ _ e => e))).out.mono ?_
        rintro x w7 ⟨rfl, ho7⟩
        have HA7 := hid (HA6.out.trans ho7 (fun _ _ e => e))
        clear ho7
        clear c0 p0 c1 p1 c2 p2 c3 p3 c4 p4 c5 p5 c6 p6 c7 p7 c8 p8 c9 p9 c10 p10 hl2 hl3
        have c0 : w7.cell? ⟨w.heap.size, 0, none⟩ = some (.int .i64 a.id) := cell_blk (HXA.out w7 HA7.out) 0
        have c1 : w7.cell? ⟨w.heap.size, 1, none⟩ = some (.int .i64 a.tm) := cell_blk (HXA.out w7 HA7.out) 1
        have c2 : w7.cell? ⟨w.heap.size, 2, none⟩ = some (.int .i64 a.k) := cell_blk (HXA.out w7 HA7.out) 2
        have c3 : w7.cell? ⟨w.heap.size, 3, none⟩ = some (.int .i64 a.a) := cell_blk (HXA.out w7 HA7.out) 3
        have c4 : w7.cell? ⟨w.heap.size, 4, none⟩ = some (.int .i64 a.b) := cell_blk (HXA.out w7 HA7.out) 4
        have c5 : w7.cell? ⟨w.heap.size, 5, none⟩ = some (.string (strOf a.name)) := cell_blk (HXA.out w7 HA7.out) 5
        have c6 : w7.cell? ⟨w.heap.size, 6, none⟩ = some (.string (strOf a.text)) := cell_blk (HXA.out w7 HA7.out) 6
        have c7 : w7.cell? ⟨w.heap.size, 7, none⟩ = some (.int .i64 xvk) := cell_blk (HXA.out w7 HA7.out) 7
        have c8 : w7.cell? ⟨w.heap.size, 8, none⟩ = some (.int .i64 xvn) := cell_blk (HXA.out w7 HA7.out) 8
        have c9 : w7.cell? ⟨w.heap.size, 9, none⟩ = some (.string (strOf xvs)) := cell_blk (HXA.out w7 HA7.out) 9
        have c10 : w7.cell? ⟨w.heap.size, 10, none⟩ = some (.slice xva xvm xvc) := cell_blk (HXA.out w7 HA7.out) 10
        have p0 : w7.cell? ⟨w.heap.size + 1, 0, none⟩ = some (.int .i64 b.id) := cell_blk (HXB.out w7 HA7.out) 0
        have p1 : w7.cell? ⟨w.heap.size + 1, 1, none⟩ = some (.int .i64 b.tm) := cell_blk (HXB.out w7 HA7.out) 1
        have p2 : w7.cell? ⟨w.heap.size + 1, 2, none⟩ = some (.int .i64 b.k) := cell_blk (HXB.out w7 HA7.out) 2
        have p3 : w7.cell? ⟨w.heap.size + 1, 3, none⟩ = some (.int .i64 b.a) := cell_blk (HXB.out w7 HA7.out) 3
        have p4 : w7.cell? ⟨w.heap.size + 1, 4, none⟩ = some (.int .i64 b.b) := cell_blk (HXB.out w7 HA7.out) 4
        have p5 : w7.cell? ⟨w.heap.size + 1, 5, none⟩ = some (.string (strOf b.name)) := cell_blk (HXB.out w7 HA7.out) 5
        have p6 : w7.cell? ⟨w.heap.size + 1, 6, none⟩ = some (.string (strOf b.text)) := cell_blk (HXB.out w7 HA7.out) 6
        have p7 : w7.cell? ⟨w.heap.size + 1, 7, none⟩ = some (.int .i64 yvk) := cell_blk (HXB.out w7 HA7.out) 7
        have p8 : w7.cell? ⟨w.heap.size + 1, 8, none⟩ = some (.int .i64 yvn) := cell_blk (HXB.out w7 HA7.out) 8
        have p9 : w7.cell? ⟨w.heap.size + 1, 9, none⟩ = some (.string (strOf yvs)) := cell_blk (HXB.out w7 HA7.out) 9
        have p10 : w7.cell? ⟨w.heap.size + 1, 10, none⟩ = some (.slice yva yvm yvc) := cell_blk (HXB.out w7 HA7.out) 10
        have hl2 : w.heap.size < w7.heap.size := blk_lt (HXA.out w7 HA7.out)
        have hl3 : w.heap.size + 1 < w7.heap.size := blk_lt (HXB.out w7 HA7.out)
        go_wp2_with fail
        refine (HLB _ (HO0.out.trans HA7.out (fun _ _ e => e))).out.mono ?_
        rintro x w8 ⟨rfl, ho8⟩
        have HA8 := hid (HA7.out.trans ho8 (fun _ _ e => e))
        clear ho8
        clear c0 p0 c1 p1 c2 p2 c3 p3 c4 p4 c5 p5 c6 p6 c7 p7 c8 p8 c9 p9 c10 p10 hl2 hl3
        have c0 : w8.cell? ⟨w.heap.size, 0, none⟩ = some (.int .i64 a.id) := cell_blk (HXA.out w8 HA8.out) 0
        have c1 : w8.cell? ⟨w.heap.size, 1, none⟩ = some (.int .i64 a.tm) := cell_blk (HXA.out w8 HA8.out) 1
        have c2 : w8.cell? ⟨w.heap.size, 2, none⟩ = some (.int .i64 a.k) := cell_blk (HXA.out w8 HA8.out) 2
        have c3 : w8.cell? ⟨w.heap.size, 3, none⟩ = some (.int .i64 a.a) := cell_blk (HXA.out w8 HA8.out) 3
        have c4 : w8.cell? ⟨w.heap.size, 4, none⟩ = some (.int .i64 a.b) := cell_blk (HXA.out w8 HA8.out) 4
        have c5 : w8.cell? ⟨w.heap.size, 5, none⟩ = some (.string (strOf a.name)) := cell_blk (HXA.out w8 HA8.out) 5
        have c6 : w8.cell? ⟨w.heap.size, 6, none⟩ = some (.string (strOf a.text)) := cell_blk (HXA.out w8 HA8.out) 6
        have c7 : w8.cell? ⟨w.heap.size, 7, none⟩ = some (.int .i64 xvk) := cell_blk (HXA.out w8 HA8.out) 7
        have c8 : w8.cell? ⟨w.heap.size, 8, none⟩ = some (.int .i64 xvn) := cell_blk (HXA.out w8 HA8.out) 8
        have c9 : w8.cell? ⟨w.heap.size, 9, none⟩ = some (.string (strOf xvs)) := cell_blk (HXA.out w8 HA8.out) 9
        have c10 : w8.cell? ⟨w.heap.size, 10, none⟩ = some (.slice xva xvm xvc) := cell_blk (HXA.out w8 HA8.out) 10
        have p0 : w8.cell? ⟨w.heap.size + 1, 0, none⟩ = some (.int .i64 b.id) := cell_blk (HXB.out w8 HA8.out) 0
        have p1 : w8.cell? ⟨w.heap.size + 1, 1, none⟩ = some (.int .i64 b.tm) := cell_blk (HXB.out w8 HA8.out) 1
        have p2 : w8.cell? ⟨w.heap.size + 1, 2, none⟩ = some (.int .i64 b.k) := cell_blk (HXB.out w8 HA8.out) 2
        have p3 : w8.cell? ⟨w.heap.size + 1, 3, none⟩ = some (.int .i64 b.a) := cell_blk (HXB.out w8 HA8.out) 3
        have p4 : w8.cell? ⟨w.heap.size + 1, 4, none⟩ = some (.int .i64 b.b) := cell_blk (HXB.out w8 HA8.out) 4
        have p5 : w8.cell? ⟨w.heap.size + 1, 5, none⟩ = some (.string (strOf b.name)) := cell_blk (HXB.out w8 HA8.out) 5
        have p6 : w8.cell? ⟨w.heap.size + 1, 6, none⟩ = some (.string (strOf b.text)) := cell_blk (HXB.out w8 HA8.out) 6
        have p7 : w8.cell? ⟨w.heap.size + 1, 7, none⟩ = some (.int .i64 yvk) := cell_blk (HXB.out w8 HA8.out) 7
        have p8 : w8.cell? ⟨w.heap.size + 1, 8, none⟩ = some (.int .i64 yvn) := cell_blk (HXB.out w8 HA8.out) 8
        have p9 : w8.cell? ⟨w.heap.size + 1, 9, none⟩ = some (.string (strOf yvs)) := cell_blk (HXB.out w8 HA8.out) 9
        have p10 : w8.cell? ⟨w.heap.size + 1, 10, none⟩ = some (.slice yva yvm yvc) := cell_blk (HXB.out w8 HA8.out) 10
        have hl2 : w.heap.size < w8.heap.size := blk_lt (HXA.out w8 HA8.out)
        have hl3 : w.heap.size + 1 < w8.heap.size := blk_lt (HXB.out w8 HA8.out)
        go_wp2_with fail
        refine (HRS _ (HO0.out.trans HA8.out (fun _ _ e => e))).out.mono ?_
        rintro x w9 ⟨rfl, ho9⟩
        have HA9 := hid (HA8.out.trans ho9 (fun _ _ e => e))
        clear ho9
        clear c0 p0 c1 p1 c2 p2 c3 p3 c4 p4 c5 p5 c6 p6 c7 p7 c8 p8 c9 p9 c10 p10 hl2 hl3
        have c0 : w9.cell? ⟨w.heap.size, 0, none⟩ = some (.int .i64 a.id) := cell_blk (HXA.out w9 HA9.out) 0
        have c1 : w9.cell? ⟨w.heap.size, 1, none⟩ = some (.int .i64 a.tm) := cell_blk (HXA.out w9 HA9.out) 1
        have c2 : w9.cell? ⟨w.heap.size, 2, none⟩ = some (.int .i64 a.k) := cell_blk (HXA.out w9 HA9.out) 2
        have c3 : w9.cell? ⟨w.heap.size, 3, none⟩ = some (.int .i64 a.a) := cell_blk (HXA.out w9 HA9.out) 3
        have c4 : w9.cell? ⟨w.heap.size, 4, none⟩ = some (.int .i64 a.b) := cell_blk (HXA.out w9 HA9.out) 4
        have c5 : w9.cell? ⟨w.heap.size, 5, none⟩ = some (.string (strOf a.name)) := cell_blk (HXA.out w9 HA9.out) 5
        have c6 : w9.cell? ⟨w.heap.size, 6, none⟩ = some (.string (strOf a.text)) := cell_blk (HXA.out w9 HA9.out) 6
        have c7 : w9.cell? ⟨w.heap.size, 7, none⟩ = some (.int .i64 xvk) := cell_blk (HXA.out w9 HA9.out) 7
        have c8 : w9.cell? ⟨w.heap.size, 8, none⟩ = some (.int .i64 xvn) := cell_blk (HXA.out w9 HA9.out) 8
        have c9 : w9.cell? ⟨w.heap.size, 9, none⟩ = some (.string (strOf xvs)) := cell_blk (HXA.out w9 HA9.out) 9
        have c10 : w9.cell? ⟨w.heap.size, 10, none⟩ = some (.slice xva xvm xvc) := cell_blk (HXA.out w9 HA9.out) 10
        have p0 : w9.cell? ⟨w.heap.size + 1, 0, none⟩ = some (.int .i64 b.id) := cell_blk (HXB.out w9 HA9.out) 0
        have p1 : w9.cell? ⟨w.heap.size + 1, 1, none⟩ = some (.int .i64 b.tm) := cell_blk (HXB.out w9 HA9.out) 1
        have p2 : w9.cell? ⟨w.heap.size + 1, 2, none⟩ = some (.int .i64 b.k) := cell_blk (HXB.out w9 HA9.out) 2
        have p3 : w9.cell? ⟨w.heap.size + 1, 3, none⟩ = some (.int .i64 b.a) := cell_blk (HXB.out w9 HA9.out) 3
        have p4 : w9.cell? ⟨w.heap.size + 1, 4, none⟩ = some (.int .i64 b.b) := cell_blk (HXB.out w9 HA9.out) 4
        have p5 : w9.cell? ⟨w.heap.size + 1, 5, none⟩ = some (.string (strOf b.name)) := cell_blk (HXB.out w9 HA9.out) 5
        have p6 : w9.cell? ⟨w.heap.size + 1, 6, none⟩ = some (.string (strOf b.text)) := cell_blk (HXB.out w9 HA9.out) 6
        have p7 : w9.cell? ⟨w.heap.size + 1, 7, none⟩ = some (.int .i64 yvk) := cell_blk (HXB.out w9 HA9.out) 7
        have p8 : w9.cell? ⟨w.heap.size + 1, 8, none⟩ = some (.int .i64 yvn) := cell_blk (HXB.out w9 HA9.out) 8
        have p9 : w9.cell? ⟨w.heap.size + 1, 9, none⟩ = some (.string (strOf yvs)) := cell_blk (HXB.out w9 HA9.out) 9
        have p10 : w9.cell? ⟨w.heap.size + 1, 10, none⟩ = some (.slice yva yvm yvc) := cell_blk (HXB.out w9 HA9.out) 10
        have hl2 : w.heap.size < w9.heap.size := blk_lt (HXA.out w9 HA9.out)
        have hl3 : w.heap.size + 1 < w9.heap.size := blk_lt (HXB.out w9 HA9.out)
        go_wp2_with fail
        refine (HES _ (HO0.out.trans HA9.out (fun _ _ e => e))).out.mono ?_
        rintro x wz ⟨rfl, hoz⟩
        have HAZ := hid (HA9.out.trans hoz (fun _ _ e => e))
        clear hoz
        go_wp2_with fail
        go_ret
        exact ⟨rfl, HO0.out.trans HAZ.out (fun _ _ e => e)⟩
    · have hcb : (ck != 0) = true := by simpa using hc0
      clear hc0
      go_wp2_with fail
      refine HRC.out.mono ?_
      rintro x w4 ⟨rfl, ho4⟩
      have HO4 := hid (HO3.out.trans ho4 (fun _ _ e => e))
      clear ho4 HRC
      go_wp2_with fail
      go_ret
      exact ⟨rfl, HO4.out⟩
  · have hcb : (ck != 0) = true := by simpa using hc0
    clear hc0
    go_wp2_with fail
    refine HRC.out.mono ?_
    rintro x w3 ⟨rfl, ho3⟩
    have HO3 := hid (HO2.out.trans ho3 (fun _ _ e => e))
    clear ho3 HRC
    go_wp2_with fail
    go_ret
    exact ⟨rfl, HO3.out⟩
end
end Go.Proofs.YtdjpapdkbglkmaaGreatDoor
