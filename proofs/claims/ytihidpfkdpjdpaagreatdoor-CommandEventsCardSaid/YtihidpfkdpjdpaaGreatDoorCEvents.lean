/- CommandEvents's walk. -/
import Derived.Test.YtihidpfkdpjdpaaGreatDoorWants
import Derived.Test.YtihidpfkdpjdpaaGreatDoorRf09K
import Derived.Test.YtihidpfkdpjdpaaGreatDoorRegion
import Derived.Test.YtihidpfkdpjdpaaGreatDoorRf10K
import Derived.Test.YtihidpfkdpjdpaaGreatDoorRf10E
import Derived.Test.YtihidpfkdpjdpaaGreatDoorOpenC
namespace Go.Proofs.YtihidpfkdpjdpaaGreatDoor
open Go.RowKit
/-- Between these two numbers lies neither variable. -/
def Apart (L : Nat → Bool) (a : Act) (p q : Nat) : Prop := ∀ g, ((L 4 = true ∧ a.eval (.tmp 7) = .pointer (some ⟨g, 0, none⟩)) ∨ (L 5 = true ∧ a.eval (.tmp 8) = .pointer (some ⟨g, 0, none⟩))) → g < p ∨ q ≤ g
/-- An event that was made. -/
def EvM (w0 w : World) (L : Nat → Bool) (a : Act) (x : EM) (v : Value) : Prop := ∃ ds p q, v = .agg ds.toArray ∧ EAt w (fun k => p ≤ k ∧ k < q) x ds ∧ w0.heap.size ≤ p ∧ q ≤ w.heap.size ∧ Apart L a p q
/-- A variable of an event. -/
def EvV (w0 w : World) (v : Value) (s : Bool) (u : Value) : Prop := ∃ g cs, v = .pointer (some ⟨g, 0, none⟩) ∧ w0.heap.size ≤ g ∧ w.heap[g]? = some (.cells cs 31 (0, 0)) ∧ cs.size = 11 ∧ (s = true → u = .agg cs)
structure EInv (w0 : World) (A B : Array Value) (x y : EM) (a0 : Act) (L : Nat → Bool) (a : Act) (w : World) : Prop where
  alike : Alike [34, 35, 36, 37, 7, 8] a0 a
  only : Only (fun _ => False) w0 w
  f0 : L 0 = true → a.eval (.tmp 34) = .agg A
  f1 : L 1 = true → EvM w0 w L a x (a.eval (.tmp 35))
  f2 : L 2 = true → a.eval (.tmp 36) = .agg B
  f3 : L 3 = true → EvM w0 w L a y (a.eval (.tmp 37))
  f4 : L 4 = true → EvV w0 w (a.eval (.tmp 7)) (L 6) (a.eval (.tmp 35))
  f5 : L 5 = true → EvV w0 w (a.eval (.tmp 8)) (L 7) (a.eval (.tmp 37))
  f45 : L 4 = true → L 5 = true → a.eval (.tmp 7) ≠ a.eval (.tmp 8)
  f6 : L 6 = true → L 4 = true ∧ L 1 = true
  f7 : L 7 = true → L 5 = true ∧ L 3 = true
section
variable {w0 w w' : World} {L L' : Nat → Bool} {a a' : Act} {x : EM} {v u : Value} {s : Bool}
theorem EvM.keep (h : EvM w0 w L a x v) (ho : Only (fun _ => False) w w') (hL4 : L' 4 = L 4) (hL5 : L' 5 = L 5) (h7 : a'.eval (.tmp 7) = a.eval (.tmp 7)) (h8 : a'.eval (.tmp 8) = a.eval (.tmp 8)) : EvM w0 w' L' a' x v := by
  obtain ⟨ds, p, q, h1, h2, h3, h4, h5⟩ := h
  refine ⟨ds, p, q, h1, h2.same ho, h3, Nat.le_trans h4 ho.size, fun g hg => h5 g ?_⟩
  rw [hL4, hL5, h7, h8] at hg
  exact hg
theorem EvV.keep (h : EvV w0 w v s u) (ho : Only (fun _ => False) w w') : EvV w0 w' v s u := by
  obtain ⟨g, cs, h1, h2, h3, h4⟩ := h
  exact ⟨g, cs, h1, h2, blk_only h3 ho (fun e => e), h4⟩
end
theorem CmsV.two {w : World} {g : Nat} {G : Nat → Prop} {e f : EM} {cs ds : List Value} {T : TypeId} {fr : Nat × Nat} (h : w.heap[g]? = some (.cells (cs ++ ds).toArray T fr)) (he : CAt w G e cs) (hf : CAt w G f ds) : CmsV w (fun k => k = g ∨ G k) (.slice (some ⟨g, 0, none⟩) 2 2) [e, f] := by
  have hl := he.len
  refine ⟨_, 2, g, 0, rfl, fun _ => ⟨rfl, .inl rfl⟩, fun i e' hi => ?_⟩
  match i, hi with
  | 0, hi =>
    obtain rfl := Option.some.inj hi
    refine ⟨cs, fun j u hj => ?_, he.mono (fun k hk => .inr hk)⟩
    rw [cell_blk h]
    simp only [Nat.zero_mul, Nat.zero_add, List.getElem?_toArray]
    rw [List.getElem?_append_left (by rcases Nat.lt_or_ge j cs.length with g | g; exact g; rw [List.getElem?_eq_none g] at hj; cases hj)]; exact hj
  | 1, hi =>
    obtain rfl := Option.some.inj hi
    refine ⟨ds, fun j u hj => ?_, hf.mono (fun k hk => .inr hk)⟩
    rw [cell_blk h]
    simp only [Nat.one_mul, Nat.zero_add, List.getElem?_toArray]
    rw [List.getElem?_append_right (by omega), hl, Nat.add_sub_cancel_left]; exact hj
  | i + 2, hi => exact absurd hi (by simp)
theorem chk_kd3 {t : VT} (h : t.chk = 0) : t.kd := by
  unfold VT.chk at h
  by_cases h1 : (t.walk 0 0 0).2 = 0
  · exact walk_kd t 0 0 _ (Prod.ext rfl h1)
  · rw [if_pos h1] at h; exact absurd h h1
theorem cev_flags {c : EM} (h : c.CGood) : cEnds c.k = closesB c.cev.k ∧ madeB c.cev.k = true ∧ outsideB c.cev.k = false ∧ taskB c.cev.k = false := by
  unfold EM.cev
  rcases c_k6 h.k with g | g | g | g | g | g <;> (simp only [g, if_true, Int.reduceEq, if_false]; decide)
mutual
theorem cl_sz2 : ∀ t : VT, t.cl.sz ≤ t.sz
  | .mk k n s l => by
    rw [VT.cl, VT.sz, VT.sz]
    split
    · have := clL_sz2 l; omega
    · rw [VT.szL]; omega
theorem clL_sz2 : ∀ l : List VT, VT.szL (VT.clL l) ≤ VT.szL l
  | [] => by rw [VT.clL]; omega
  | t :: ts => by rw [VT.clL, VT.szL, VT.szL]; have := cl_sz2 t; have := clL_sz2 ts; omega
end
mutual
theorem fit_sz : ∀ (t : VT) (d : Nat) (x : Int), (t.fit d x).1 = true → (t.sz : Int) = x - (t.fit d x).2
  | .mk k n s l, d, x, h => by
    rw [VT.fit] at h ⊢
    rw [VT.sz]
    by_cases g : x - 1 < 0 ∨ 12 < d ∨ 1100 < s.length
    · rw [if_pos g] at h; simp at h
    · rw [if_neg g] at h ⊢
      have := fitL_sz l (d + 1) (x - 1) h
      omega
theorem fitL_sz : ∀ (l : List VT) (d : Nat) (x : Int), (VT.fitL d x l).1 = true → (VT.szL l : Int) = x - (VT.fitL d x l).2
  | [], d, x, h => by rw [VT.fitL, VT.szL]; simp
  | t :: ts, d, x, h => by
    rw [VT.fitL] at h ⊢
    rw [VT.szL]
    by_cases g : (t.fit d x).1 = true
    · rw [if_pos g] at h ⊢
      have h1 := fit_sz t d x g
      have h2 := fitL_sz ts d _ h
      omega
    · rw [if_neg g] at h; simp at h
end
theorem smC2_sz {a b : EM} (h : smC [a, b] 400 = true) : a.v.sz ≤ 400 ∧ b.v.sz ≤ 400 := by
  unfold smC at h
  by_cases g : 200 < a.name.length
  · rw [if_pos g] at h; simp at h
  rw [if_neg g] at h
  by_cases g2 : (a.v.fit 0 400).1 = true
  · rw [if_pos g2] at h
    have h1 := fit_sz a.v 0 400 g2
    have h2 := (fit_rng a.v 0 400 (by omega)).2.2 g2
    have h0 := (fit_rng a.v 0 400 (by omega)).1
    unfold smC at h
    by_cases g3 : 200 < b.name.length
    · rw [if_pos g3] at h; simp at h
    rw [if_neg g3] at h
    by_cases g4 : (b.v.fit 0 (a.v.fit 0 400).2).1 = true
    · have h3 := fit_sz b.v 0 _ g4
      have h4 := (fit_rng b.v 0 _ h2).2.2 g4
      omega
    · rw [if_neg g4] at h; simp at h
  · rw [if_neg g2] at h; simp at h
section
variable {w : World}
theorem cev_rg {c : EM} (h : c.CGood) (hg : c.rg) {n : Int} (hn : 1 ≤ n ∧ n ≤ 1048576) : (c.cev.wid n).rg := by
  obtain ⟨-, g2, -, g4, g5, g6, -, g8⟩ := hg
  have hs := satu_rng h.tm h.b0
  have hv := cev_vrg g8
  unfold EM.cev at hv ⊢
  unfold EM.wid EM.rg
  rcases c_k6 h.k with g | g | g | g | g | g
  all_goals
    simp only [g] at hv ⊢
    simp only [if_true, Int.reduceEq, if_false, List.length_nil] at hv ⊢
    exact ⟨by omega, by omega, by omega, by omega, by omega, by omega, by omega, hv⟩
set_option maxRecDepth 100000 in
set_option maxHeartbeats 12800000 in
theorem cevents_c (hT : Tab w) {a b : EM} {cs ds : List Value} {G : Nat → Prop} (id : Int) (hid0 : -9223372036854775808 ≤ id ∧ id ≤ 9223372036854775807) (hA : CAt w G a cs) (hB : CAt w G b ds) (hG : ∀ k, G k → k < w.heap.size) (ga : a.rg) (gb : b.rg) (ca : a.isC) (cb : b.isC) :
    Calls Tryz.prog 3 #[.agg cs.toArray, .agg ds.toArray, .int .i64 id] w fun x w' => x = .returned (.bool true) ∧ Only (fun _ => False) w w' := by
  obtain ⟨vk, vn, vs, va, vm, vc, rfl, -⟩ := hA.form
  obtain ⟨uk, un, us, ua, um, uc, rfl, -⟩ := hB.form
  have ho0 := (only_new w (.cells #[.int .i64 a.k, .int .i64 a.tm, .int .i64 a.a, .int .i64 a.b, .string (strOf a.name), .int .i64 vk, .int .i64 vn, .string (strOf vs), .slice va vm vc] 26)).trans (only_new _ (.cells #[.int .i64 b.k, .int .i64 b.tm, .int .i64 b.a, .int .i64 b.b, .string (strOf b.name), .int .i64 uk, .int .i64 un, .string (strOf us), .slice ua um uc] 26)) (fun _ _ e => e)
  have hb0 : ((w.alloc (.cells #[.int .i64 a.k, .int .i64 a.tm, .int .i64 a.a, .int .i64 a.b, .string (strOf a.name), .int .i64 vk, .int .i64 vn, .string (strOf vs), .slice va vm vc] 26)).alloc (.cells #[.int .i64 b.k, .int .i64 b.tm, .int .i64 b.a, .int .i64 b.b, .string (strOf b.name), .int .i64 uk, .int .i64 un, .string (strOf us), .slice ua um uc] 26)).heap[w.heap.size]? = some (.cells #[.int .i64 a.k, .int .i64 a.tm, .int .i64 a.a, .int .i64 a.b, .string (strOf a.name), .int .i64 vk, .int .i64 vn, .string (strOf vs), .slice va vm vc] 26 (0, 0)) := blk_alloc (blk_new w (.cells #[.int .i64 a.k, .int .i64 a.tm, .int .i64 a.a, .int .i64 a.b, .string (strOf a.name), .int .i64 vk, .int .i64 vn, .string (strOf vs), .slice va vm vc] 26))
  have hc0 : ((w.alloc (.cells #[.int .i64 a.k, .int .i64 a.tm, .int .i64 a.a, .int .i64 a.b, .string (strOf a.name), .int .i64 vk, .int .i64 vn, .string (strOf vs), .slice va vm vc] 26)).alloc (.cells #[.int .i64 b.k, .int .i64 b.tm, .int .i64 b.a, .int .i64 b.b, .string (strOf b.name), .int .i64 uk, .int .i64 un, .string (strOf us), .slice ua um uc] 26)).heap[w.heap.size + 1]? = some (.cells #[.int .i64 b.k, .int .i64 b.tm, .int .i64 b.a, .int .i64 b.b, .string (strOf b.name), .int .i64 uk, .int .i64 un, .string (strOf us), .slice ua um uc] 26 (0, 0)) := blk_new2 w (.cells #[.int .i64 a.k, .int .i64 a.tm, .int .i64 a.a, .int .i64 a.b, .string (strOf a.name), .int .i64 vk, .int .i64 vn, .string (strOf vs), .slice va vm vc] 26) (.cells #[.int .i64 b.k, .int .i64 b.tm, .int .i64 b.a, .int .i64 b.b, .string (strOf b.name), .int .i64 uk, .int .i64 un, .string (strOf us), .slice ua um uc] 26) rfl
  have HTL := hid (wants_c (hT.only ho0))
  have HA := hid hA; have HB := hid hB; have HGG := hid hG; have HGA := hid ga; have HGB := hid gb; have HCA := hid ca; have HCB := hid cb
  have HBA0 := hid hb0; have HBB0 := hid hc0; have HO0 := hid ho0
  clear hT hA hB hG ga gb ca cb ho0 hb0 hc0
  go_enter Tryz.func3, Tryz.ntmps3
  go_wp2_with fail
  refine HTL.out.mono ?_
  rintro x w1 ⟨rfl, ho1⟩
  have HBA1 := hid (blk_only HBA0.out ho1 (fun e => e)); have HBB1 := hid (blk_only HBB0.out ho1 (fun e => e))
  have HO1 := hid (HO0.out.trans ho1 (fun _ _ e => e))
  clear ho1 HTL
  have c0 : w1.cell? ⟨w.heap.size, 0, none⟩ = some (.int .i64 a.k) := cell_blk HBA1.out 0
  have c1 : w1.cell? ⟨w.heap.size, 1, none⟩ = some (.int .i64 a.tm) := cell_blk HBA1.out 1
  have c2 : w1.cell? ⟨w.heap.size, 2, none⟩ = some (.int .i64 a.a) := cell_blk HBA1.out 2
  have c3 : w1.cell? ⟨w.heap.size, 3, none⟩ = some (.int .i64 a.b) := cell_blk HBA1.out 3
  have c4 : w1.cell? ⟨w.heap.size, 4, none⟩ = some (.string (strOf a.name)) := cell_blk HBA1.out 4
  have c5 : w1.cell? ⟨w.heap.size, 5, none⟩ = some (.int .i64 vk) := cell_blk HBA1.out 5
  have c6 : w1.cell? ⟨w.heap.size, 6, none⟩ = some (.int .i64 vn) := cell_blk HBA1.out 6
  have c7 : w1.cell? ⟨w.heap.size, 7, none⟩ = some (.string (strOf vs)) := cell_blk HBA1.out 7
  have c8 : w1.cell? ⟨w.heap.size, 8, none⟩ = some (.slice va vm vc) := cell_blk HBA1.out 8
  have hlc := blk_lt HBA1.out
  have d0 : w1.cell? ⟨w.heap.size + 1, 0, none⟩ = some (.int .i64 b.k) := cell_blk HBB1.out 0
  have d1 : w1.cell? ⟨w.heap.size + 1, 1, none⟩ = some (.int .i64 b.tm) := cell_blk HBB1.out 1
  have d2 : w1.cell? ⟨w.heap.size + 1, 2, none⟩ = some (.int .i64 b.a) := cell_blk HBB1.out 2
  have d3 : w1.cell? ⟨w.heap.size + 1, 3, none⟩ = some (.int .i64 b.b) := cell_blk HBB1.out 3
  have d4 : w1.cell? ⟨w.heap.size + 1, 4, none⟩ = some (.string (strOf b.name)) := cell_blk HBB1.out 4
  have d5 : w1.cell? ⟨w.heap.size + 1, 5, none⟩ = some (.int .i64 uk) := cell_blk HBB1.out 5
  have d6 : w1.cell? ⟨w.heap.size + 1, 6, none⟩ = some (.int .i64 un) := cell_blk HBB1.out 6
  have d7 : w1.cell? ⟨w.heap.size + 1, 7, none⟩ = some (.string (strOf us)) := cell_blk HBB1.out 7
  have d8 : w1.cell? ⟨w.heap.size + 1, 8, none⟩ = some (.slice ua um uc) := cell_blk HBB1.out 8
  have hld := blk_lt HBB1.out
  have hal := only_new w1 (.cells #[.int .i64 a.k, .int .i64 a.tm, .int .i64 a.a, .int .i64 a.b, .string (strOf a.name), .int .i64 vk, .int .i64 vn, .string (strOf vs), .slice va vm vc, .int .i64 b.k, .int .i64 b.tm, .int .i64 b.a, .int .i64 b.b, .string (strOf b.name), .int .i64 uk, .int .i64 un, .string (strOf us), .slice ua um uc] 26)
  have HSM := hid (small_c (w := w1.alloc (.cells #[.int .i64 a.k, .int .i64 a.tm, .int .i64 a.a, .int .i64 a.b, .string (strOf a.name), .int .i64 vk, .int .i64 vn, .string (strOf vs), .slice va vm vc, .int .i64 b.k, .int .i64 b.tm, .int .i64 b.a, .int .i64 b.b, .string (strOf b.name), .int .i64 uk, .int .i64 un, .string (strOf us), .slice ua um uc] 26)) (CmsV.two (w := w1.alloc (.cells #[.int .i64 a.k, .int .i64 a.tm, .int .i64 a.a, .int .i64 a.b, .string (strOf a.name), .int .i64 vk, .int .i64 vn, .string (strOf vs), .slice va vm vc, .int .i64 b.k, .int .i64 b.tm, .int .i64 b.a, .int .i64 b.b, .string (strOf b.name), .int .i64 uk, .int .i64 un, .string (strOf us), .slice ua um uc] 26)) (cs := [.int .i64 a.k, .int .i64 a.tm, .int .i64 a.a, .int .i64 a.b, .string (strOf a.name), .int .i64 vk, .int .i64 vn, .string (strOf vs), .slice va vm vc]) (ds := [.int .i64 b.k, .int .i64 b.tm, .int .i64 b.a, .int .i64 b.b, .string (strOf b.name), .int .i64 uk, .int .i64 un, .string (strOf us), .slice ua um uc]) (blk_new w1 _) (HA.out.same (HO1.out.trans hal (fun _ _ e => e))) (HB.out.same (HO1.out.trans hal (fun _ _ e => e)))) (fun k hk => by have := HO1.out.size; rcases hk with rfl | hk; simp; have := HGG.out k hk; simp; omega) (fun e' he' => by rcases List.mem_cons.1 he' with rfl | he'; exact HGA.out.2.2.2.2.2.2.2; rw [List.mem_singleton.1 he']; exact HGB.out.2.2.2.2.2.2.2) (by simp))
  have HAL := hid hal
  have hsz := smC2_sz (a := a) (b := b)
  obtain ⟨sm, hsm⟩ : ∃ x, smC [a, b] 400 = x := ⟨_, rfl⟩
  have hs1 := HO1.out.size
  rw [hsm] at HSM hsz
  clear hsm hal
  cases sm with
  | false =>
    go_wp2_with fail
    refine HSM.out.mono ?_
    rintro x w2 ⟨rfl, ho2⟩
    have HO2 := hid (HO1.out.trans (HAL.out.trans ho2 (fun _ _ e => e)) (fun _ _ e => e))
    clear ho2
    go_wp2_with fail
    go_ret
    exact ⟨rfl, HO2.out⟩
  | true =>
  have HSZ := hid (hsz rfl)
  clear hsz
  go_wp2_with fail
  refine HSM.out.mono ?_
  rintro x w2 ⟨rfl, ho2⟩
  have ho12 := HAL.out.trans ho2 (fun _ _ e => e)
  have HBA2 := hid (blk_only HBA1.out ho12 (fun e => e)); have HBB2 := hid (blk_only HBB1.out ho12 (fun e => e))
  have HO2 := hid (HO1.out.trans ho12 (fun _ _ e => e))
  have HCK := hid (r10check_c (HA.out.same HO2.out) HGA.out)
  obtain ⟨ka, hka⟩ : ∃ x, a.cchk = x := ⟨_, rfl⟩
  rw [hka] at HCK
  have HKA := hid hka
  clear ho2 ho12 HSM HAL hka
  clear c0 c1 c2 c3 c4 c5 c6 c7 c8 d0 d1 d2 d3 d4 d5 d6 d7 d8 hlc hld
  have c0 : w2.cell? ⟨w.heap.size, 0, none⟩ = some (.int .i64 a.k) := cell_blk HBA2.out 0
  have c1 : w2.cell? ⟨w.heap.size, 1, none⟩ = some (.int .i64 a.tm) := cell_blk HBA2.out 1
  have c2 : w2.cell? ⟨w.heap.size, 2, none⟩ = some (.int .i64 a.a) := cell_blk HBA2.out 2
  have c3 : w2.cell? ⟨w.heap.size, 3, none⟩ = some (.int .i64 a.b) := cell_blk HBA2.out 3
  have c4 : w2.cell? ⟨w.heap.size, 4, none⟩ = some (.string (strOf a.name)) := cell_blk HBA2.out 4
  have c5 : w2.cell? ⟨w.heap.size, 5, none⟩ = some (.int .i64 vk) := cell_blk HBA2.out 5
  have c6 : w2.cell? ⟨w.heap.size, 6, none⟩ = some (.int .i64 vn) := cell_blk HBA2.out 6
  have c7 : w2.cell? ⟨w.heap.size, 7, none⟩ = some (.string (strOf vs)) := cell_blk HBA2.out 7
  have c8 : w2.cell? ⟨w.heap.size, 8, none⟩ = some (.slice va vm vc) := cell_blk HBA2.out 8
  have hlc := blk_lt HBA2.out
  have d0 : w2.cell? ⟨w.heap.size + 1, 0, none⟩ = some (.int .i64 b.k) := cell_blk HBB2.out 0
  have d1 : w2.cell? ⟨w.heap.size + 1, 1, none⟩ = some (.int .i64 b.tm) := cell_blk HBB2.out 1
  have d2 : w2.cell? ⟨w.heap.size + 1, 2, none⟩ = some (.int .i64 b.a) := cell_blk HBB2.out 2
  have d3 : w2.cell? ⟨w.heap.size + 1, 3, none⟩ = some (.int .i64 b.b) := cell_blk HBB2.out 3
  have d4 : w2.cell? ⟨w.heap.size + 1, 4, none⟩ = some (.string (strOf b.name)) := cell_blk HBB2.out 4
  have d5 : w2.cell? ⟨w.heap.size + 1, 5, none⟩ = some (.int .i64 uk) := cell_blk HBB2.out 5
  have d6 : w2.cell? ⟨w.heap.size + 1, 6, none⟩ = some (.int .i64 un) := cell_blk HBB2.out 6
  have d7 : w2.cell? ⟨w.heap.size + 1, 7, none⟩ = some (.string (strOf us)) := cell_blk HBB2.out 7
  have d8 : w2.cell? ⟨w.heap.size + 1, 8, none⟩ = some (.slice ua um uc) := cell_blk HBB2.out 8
  have hld := blk_lt HBB2.out
  by_cases h1 : ka = 0
  case neg =>
    have hkb : (ka != 0) = true := by simpa using h1
    go_wp2_with fail
    refine HCK.out.mono ?_
    rintro x w3 ⟨rfl, ho3⟩
    have HO3 := hid (HO2.out.trans ho3 (fun _ _ e => e))
    clear ho3
    go_wp2_with fail
    go_ret
    exact ⟨rfl, HO3.out⟩
  subst h1
  go_wp2_with fail
  refine HCK.out.mono ?_
  rintro x w3 ⟨rfl, ho3⟩
  have HBA3 := hid (blk_only HBA2.out ho3 (fun e => e)); have HBB3 := hid (blk_only HBB2.out ho3 (fun e => e))
  have HO3 := hid (HO2.out.trans ho3 (fun _ _ e => e))
  have HCL := hid (r10check_c (HB.out.same HO3.out) HGB.out)
  obtain ⟨kb, hkb⟩ : ∃ x, b.cchk = x := ⟨_, rfl⟩
  rw [hkb] at HCL
  have HKB := hid hkb
  clear ho3 hkb HCK
  clear c0 c1 c2 c3 c4 c5 c6 c7 c8 d0 d1 d2 d3 d4 d5 d6 d7 d8 hlc hld
  have c0 : w3.cell? ⟨w.heap.size, 0, none⟩ = some (.int .i64 a.k) := cell_blk HBA3.out 0
  have c1 : w3.cell? ⟨w.heap.size, 1, none⟩ = some (.int .i64 a.tm) := cell_blk HBA3.out 1
  have c2 : w3.cell? ⟨w.heap.size, 2, none⟩ = some (.int .i64 a.a) := cell_blk HBA3.out 2
  have c3 : w3.cell? ⟨w.heap.size, 3, none⟩ = some (.int .i64 a.b) := cell_blk HBA3.out 3
  have c4 : w3.cell? ⟨w.heap.size, 4, none⟩ = some (.string (strOf a.name)) := cell_blk HBA3.out 4
  have c5 : w3.cell? ⟨w.heap.size, 5, none⟩ = some (.int .i64 vk) := cell_blk HBA3.out 5
  have c6 : w3.cell? ⟨w.heap.size, 6, none⟩ = some (.int .i64 vn) := cell_blk HBA3.out 6
  have c7 : w3.cell? ⟨w.heap.size, 7, none⟩ = some (.string (strOf vs)) := cell_blk HBA3.out 7
  have c8 : w3.cell? ⟨w.heap.size, 8, none⟩ = some (.slice va vm vc) := cell_blk HBA3.out 8
  have hlc := blk_lt HBA3.out
  have d0 : w3.cell? ⟨w.heap.size + 1, 0, none⟩ = some (.int .i64 b.k) := cell_blk HBB3.out 0
  have d1 : w3.cell? ⟨w.heap.size + 1, 1, none⟩ = some (.int .i64 b.tm) := cell_blk HBB3.out 1
  have d2 : w3.cell? ⟨w.heap.size + 1, 2, none⟩ = some (.int .i64 b.a) := cell_blk HBB3.out 2
  have d3 : w3.cell? ⟨w.heap.size + 1, 3, none⟩ = some (.int .i64 b.b) := cell_blk HBB3.out 3
  have d4 : w3.cell? ⟨w.heap.size + 1, 4, none⟩ = some (.string (strOf b.name)) := cell_blk HBB3.out 4
  have d5 : w3.cell? ⟨w.heap.size + 1, 5, none⟩ = some (.int .i64 uk) := cell_blk HBB3.out 5
  have d6 : w3.cell? ⟨w.heap.size + 1, 6, none⟩ = some (.int .i64 un) := cell_blk HBB3.out 6
  have d7 : w3.cell? ⟨w.heap.size + 1, 7, none⟩ = some (.string (strOf us)) := cell_blk HBB3.out 7
  have d8 : w3.cell? ⟨w.heap.size + 1, 8, none⟩ = some (.slice ua um uc) := cell_blk HBB3.out 8
  have hld := blk_lt HBB3.out
  by_cases h2 : kb = 0
  case neg =>
    have hkb : (kb != 0) = true := by simpa using h2
    go_wp2_with fail
    refine HCL.out.mono ?_
    rintro x w4 ⟨rfl, ho4⟩
    have HO4 := hid (HO3.out.trans ho4 (fun _ _ e => e))
    clear ho4
    go_wp2_with fail
    go_ret
    exact ⟨rfl, HO4.out⟩
  subst h2
  by_cases hi1 : id < 1
  · go_wp2_with fail
    refine HCL.out.mono ?_
    rintro x w4 ⟨rfl, ho4⟩
    have HO4 := hid (HO3.out.trans ho4 (fun _ _ e => e))
    clear ho4
    go_wp2_with fail
    go_ret
    exact ⟨rfl, HO4.out⟩
  by_cases hi2 : 1048576 < id
  · go_wp2_with fail
    refine HCL.out.mono ?_
    rintro x w4 ⟨rfl, ho4⟩
    have HO4 := hid (HO3.out.trans ho4 (fun _ _ e => e))
    clear ho4
    go_wp2_with fail
    go_ret
    exact ⟨rfl, HO4.out⟩
  go_wp2_with fail
  refine HCL.out.mono ?_
  rintro x w4 ⟨rfl, ho4⟩
  have HBA4 := hid (blk_only HBA3.out ho4 (fun e => e)); have HBB4 := hid (blk_only HBB3.out ho4 (fun e => e))
  have HO4 := hid (HO3.out.trans ho4 (fun _ _ e => e))
  clear ho4 HCL
  clear c0 c1 c2 c3 c4 c5 c6 c7 c8 d0 d1 d2 d3 d4 d5 d6 d7 d8 hlc hld
  have hga := cchk_good HKA.out
  have hgb := cchk_good HKB.out
  have HGDA := hid hga; have HGDB := hid hgb
  have HEVA : Hid (∀ W, Only (fun _ => False) w4 W → Calls Tryz.prog 7 #[.agg (List.toArray [.int .i64 a.k, .int .i64 a.tm, .int .i64 a.a, .int .i64 a.b, .string (strOf a.name), .int .i64 vk, .int .i64 vn, .string (strOf vs), .slice va vm vc])] W (CEv W a.cev)) := hid (fun W h => cevent_c (w := W) (HA.out.same (HO4.out.trans h (fun _ _ e => e))) (fun i hi => by have := HGG.out i hi; have := HO4.out.size; have := h.size; omega) HGA.out (by have := HSZ.out; omega))
  have HEVB : Hid (∀ W, Only (fun _ => False) w4 W → Calls Tryz.prog 7 #[.agg (List.toArray [.int .i64 b.k, .int .i64 b.tm, .int .i64 b.a, .int .i64 b.b, .string (strOf b.name), .int .i64 uk, .int .i64 un, .string (strOf us), .slice ua um uc])] W (CEv W b.cev)) := hid (fun W h => cevent_c (w := W) (HB.out.same (HO4.out.trans h (fun _ _ e => e))) (fun i hi => by have := HGG.out i hi; have := HO4.out.size; have := h.size; omega) HGB.out (by have := HSZ.out; omega))
  have hxid : a.cev.id = 0 := cev_id a
  have hrv : a.cev.same a.rev = true := (same_iff _ _).2 (cev_rev hga)
  have hfl := cev_flags hga
  have hxg := good_chk (cev_good hga (n := id) (by omega))
  have hxr := cev_rg hga HGA.out (n := id) (by omega)
  have hyr := cev_rg hgb HGB.out (n := id) (by omega)
  have hfa := (fits_iff (a := a) (b := a) hga.k id).2 rfl
  have hfb := fits_iff (a := a) (b := b) hgb.k id
  have hxy := wid_same (a := a) (b := b) id
  have hsm := fun h => cev_same hga hgb HCA.out HCB.out (a := a) (b := b) h
  have hcg : a.cl = b.cl → a.cev = b.cev := cev_cong
  have hkx := chk_kd3 (cev_good hga (n := id) (by omega)).v
  have hky := chk_kd3 (cev_good hgb (n := id) (by omega)).v
  have hkr : a.rev.v.kd := by have h := chk_kd3 hga.v; unfold EM.rev; repeat' split
                              all_goals exact h
  have hrr : a.rev.v.rg := by have h := HGA.out.2.2.2.2.2.2.2; unfold EM.rev; repeat' split
                              all_goals exact h
  have hvx : a.cev.v.rg := cev_vrg HGA.out.2.2.2.2.2.2.2
  have hvy : b.cev.v.rg := cev_vrg HGB.out.2.2.2.2.2.2.2
  obtain ⟨x, hx⟩ : ∃ x, a.cev = x := ⟨_, rfl⟩
  obtain ⟨y, hy⟩ : ∃ x, b.cev = x := ⟨_, rfl⟩
  rw [hx] at HEVA hxid hrv hfl hxg hxr hfa hfb hxy hkx hvx
  rw [hy] at HEVB hyr hfb hxy hky hvy
  simp only [hx, hy] at hsm hcg
  have HXID := hid hxid; have HRV := hid hrv; have HFLG := hid hfl; have HXG := hid hxg; have HXR := hid hxr; have HYR := hid hyr; have HFA := hid hfa; have HFB := hid hfb; have HXY := hid hxy; have HSMM := hid hsm; have HCG := hid hcg; have HKX := hid hkx; have HKY := hid hky; have HKR := hid hkr; have HRR := hid hrr; have HVX := hid hvx; have HVY := hid hvy
  have hs4 := HO4.out.size
  clear hga hgb hxid hrv hfl hxg hxr hyr hfa hfb hxy hsm hcg hkx hky hkr hrr hvx hvy hx hy
  have c0 : w4.cell? ⟨w.heap.size, 0, none⟩ = some (.int .i64 a.k) := cell_blk HBA4.out 0
  have c1 : w4.cell? ⟨w.heap.size, 1, none⟩ = some (.int .i64 a.tm) := cell_blk HBA4.out 1
  have c2 : w4.cell? ⟨w.heap.size, 2, none⟩ = some (.int .i64 a.a) := cell_blk HBA4.out 2
  have c3 : w4.cell? ⟨w.heap.size, 3, none⟩ = some (.int .i64 a.b) := cell_blk HBA4.out 3
  have c4 : w4.cell? ⟨w.heap.size, 4, none⟩ = some (.string (strOf a.name)) := cell_blk HBA4.out 4
  have c5 : w4.cell? ⟨w.heap.size, 5, none⟩ = some (.int .i64 vk) := cell_blk HBA4.out 5
  have c6 : w4.cell? ⟨w.heap.size, 6, none⟩ = some (.int .i64 vn) := cell_blk HBA4.out 6
  have c7 : w4.cell? ⟨w.heap.size, 7, none⟩ = some (.string (strOf vs)) := cell_blk HBA4.out 7
  have c8 : w4.cell? ⟨w.heap.size, 8, none⟩ = some (.slice va vm vc) := cell_blk HBA4.out 8
  have hlc := blk_lt HBA4.out
  have d0 : w4.cell? ⟨w.heap.size + 1, 0, none⟩ = some (.int .i64 b.k) := cell_blk HBB4.out 0
  have d1 : w4.cell? ⟨w.heap.size + 1, 1, none⟩ = some (.int .i64 b.tm) := cell_blk HBB4.out 1
  have d2 : w4.cell? ⟨w.heap.size + 1, 2, none⟩ = some (.int .i64 b.a) := cell_blk HBB4.out 2
  have d3 : w4.cell? ⟨w.heap.size + 1, 3, none⟩ = some (.int .i64 b.b) := cell_blk HBB4.out 3
  have d4 : w4.cell? ⟨w.heap.size + 1, 4, none⟩ = some (.string (strOf b.name)) := cell_blk HBB4.out 4
  have d5 : w4.cell? ⟨w.heap.size + 1, 5, none⟩ = some (.int .i64 uk) := cell_blk HBB4.out 5
  have d6 : w4.cell? ⟨w.heap.size + 1, 6, none⟩ = some (.int .i64 un) := cell_blk HBB4.out 6
  have d7 : w4.cell? ⟨w.heap.size + 1, 7, none⟩ = some (.string (strOf us)) := cell_blk HBB4.out 7
  have d8 : w4.cell? ⟨w.heap.size + 1, 8, none⟩ = some (.slice ua um uc) := cell_blk HBB4.out 8
  have hld := blk_lt HBB4.out
  go_upto_region 5 with fail
  go_cut [7, 8] from 7 to 37 (fun p q wx => ∃ (gx gy : Nat) (ds es : List Value), p = .pointer (some ⟨gx, 0, none⟩) ∧ q = .pointer (some ⟨gy, 0, none⟩) ∧ gx ≠ gy ∧ w4.heap.size ≤ gx ∧ w4.heap.size ≤ gy ∧ wx.heap[gx]? = some (.cells ds.toArray 31 (0, 0)) ∧ wx.heap[gy]? = some (.cells es.toArray 31 (0, 0)) ∧ EAt wx (fun k => k ≠ gx ∧ k ≠ gy ∧ k < wx.heap.size) x ds ∧ EAt wx (fun k => k ≠ gx ∧ k ≠ gy ∧ k < wx.heap.size) y es ∧ Only (fun _ => False) w4 wx)
  case first =>
    clear c0 c1 c2 c3 c4 c5 c6 c7 c8 d0 d1 d2 d3 d4 d5 d6 d7 d8 hlc hld
    refine region_inv (by kernel_rfl) (by kernel_rfl) (EInv w4 #[.int .i64 a.k, .int .i64 a.tm, .int .i64 a.a, .int .i64 a.b, .string (strOf a.name), .int .i64 vk, .int .i64 vn, .string (strOf vs), .slice va vm vc] #[.int .i64 b.k, .int .i64 b.tm, .int .i64 b.a, .int .i64 b.b, .string (strOf b.name), .int .i64 uk, .int .i64 un, .string (strOf us), .slice ua um uc] x y) ?_ ?_ ?_
    · exact ⟨Alike.refl _ _, (Only.refl _ _).drew, fun h => (by cases h), fun h => (by cases h), fun h => (by cases h), fun h => (by cases h), fun h => (by cases h), fun h => (by cases h), fun h => (by cases h), fun h => (by cases h), fun h => (by cases h)⟩
    · refine AllSteps.cons rfl ?_ (AllSteps.cons rfl ?_ (AllSteps.cons rfl ?_ (AllSteps.cons rfl ?_ (AllSteps.cons rfl ?_ (AllSteps.cons rfl ?_ (AllSteps.cons rfl ?_ (AllSteps.cons rfl ?_ AllSteps.nil)))))))
      · intro L ac w' K hI hn hdeps hK
        have e : ac.eval (.tmp 3) = .pointer (some ⟨w.heap.size, 0, none⟩) := hI.alike.eval 3 (by decide)
        have hd : ∀ k, (ac.put (some 34) (.agg #[.int .i64 a.k, .int .i64 a.tm, .int .i64 a.a, .int .i64 a.b, .string (strOf a.name), .int .i64 vk, .int .i64 vn, .string (strOf vs), .slice va vm vc])).eval (.tmp k) = if k = 34 then (.agg #[.int .i64 a.k, .int .i64 a.tm, .int .i64 a.a, .int .i64 a.b, .string (strOf a.name), .int .i64 vk, .int .i64 vn, .string (strOf vs), .slice va vm vc]) else ac.eval (.tmp k) := fun k => eval_put _ _ _ _ (by rw [hI.alike.size]; show 34 < 111; decide)
        refine step_of rfl (wp_load_row 26 (.tmp 3) rfl (w.heap.size) e 26 #[.int .i64 a.k, .int .i64 a.tm, .int .i64 a.a, .int .i64 a.b, .string (strOf a.name), .int .i64 vk, .int .i64 vn, .string (strOf vs), .slice va vm vc] (0, 0) _ (blk_only HBA4.out hI.only (fun e => e)) Tryz.underlying26 rfl info_cmd (hK _ _ ?_))
        exact ⟨hI.alike.put 34 _ (by decide), hI.only.trans (Only.refl _ _) (fun _ _ e => e), fun _ => by rw [hd]; rfl, fun h => by rw [hd, if_neg (by decide)]; exact (hI.f1 (by simpa using h)).keep (Only.refl _ _) (by simp) (by simp) (by rw [hd, if_neg (by decide)]) (by rw [hd, if_neg (by decide)]), fun h => by rw [hd, if_neg (by decide)]; exact hI.f2 (by simpa using h), fun h => by rw [hd, if_neg (by decide)]; exact (hI.f3 (by simpa using h)).keep (Only.refl _ _) (by simp) (by simp) (by rw [hd, if_neg (by decide)]) (by rw [hd, if_neg (by decide)]), fun h => by rw [hd, if_neg (by decide), hd, if_neg (by decide)]; have := (hI.f4 (by simpa using h)).keep (Only.refl _ _); simpa using this, fun h => by rw [hd, if_neg (by decide), hd, if_neg (by decide)]; have := (hI.f5 (by simpa using h)).keep (Only.refl _ _); simpa using this, fun h g => by rw [hd, if_neg (by decide), hd, if_neg (by decide)]; exact hI.f45 (by simpa using h) (by simpa using g), fun h => by simpa using hI.f6 (by simpa using h), fun h => by simpa using hI.f7 (by simpa using h)⟩
      · intro L ac w' K hI hn hdeps hK
        have hL : L 0 = true := by have := hdeps; simp [Region.binds] at this; simp [this]
        have e := hI.f0 hL
        have hx : L 6 = false := by cases h : L 6 with | false => rfl | true => (have := (hI.f6 h).2; rw [hn] at this; cases this)
        refine step_of rfl (wp_callc (f := 7) (args := #[ac.eval (.tmp 34)]) (by kernel_rfl) ?_)
        rw [e]
        refine (HEVA.out w' hI.only).mono ?_
        rintro e w'' ⟨ds, rfl, hev, ho, -⟩
        have hd : ∀ k, (ac.put (some 35) (.agg ds.toArray)).eval (.tmp k) = if k = 35 then (.agg ds.toArray) else ac.eval (.tmp k) := fun k => eval_put _ _ _ _ (by rw [hI.alike.size]; show 35 < 111; decide)
        refine ⟨_, rfl, hK _ _ ?_⟩
        have hsz := hI.only.size
        exact ⟨hI.alike.put 35 _ (by decide), hI.only.trans ho (fun _ _ e => e), fun h => by rw [hd, if_neg (by decide)]; exact hI.f0 (by simpa using h), fun _ => by rw [hd, if_pos rfl]; refine ⟨ds, w'.heap.size, w''.heap.size, rfl, hev, hsz, Nat.le_refl _, fun g hg => ?_⟩; rw [hd, hd, if_neg (by decide), if_neg (by decide)] at hg; exact hg.elim (fun ⟨h1, h2⟩ => by obtain ⟨g', cs, h3, h4, h5, -⟩ := hI.f4 (by simpa using h1); rw [h3] at h2; simp only [Value.pointer.injEq, Option.some.injEq, Addr.mk.injEq, and_true] at h2; have := blk_lt h5; omega) (fun ⟨h1, h2⟩ => by obtain ⟨g', cs, h3, h4, h5, -⟩ := hI.f5 (by simpa using h1); rw [h3] at h2; simp only [Value.pointer.injEq, Option.some.injEq, Addr.mk.injEq, and_true] at h2; have := blk_lt h5; omega), fun h => by rw [hd, if_neg (by decide)]; exact hI.f2 (by simpa using h), fun h => by rw [hd, if_neg (by decide)]; exact (hI.f3 (by simpa using h)).keep ho (by simp) (by simp) (by rw [hd, if_neg (by decide)]) (by rw [hd, if_neg (by decide)]), fun h => by rw [hd, if_neg (by decide)]; obtain ⟨g, cs, h1, h2, h3, h4, -⟩ := (hI.f4 (by simpa using h)).keep ho; exact ⟨g, cs, h1, h2, h3, h4, fun h => by simp [hx] at h⟩, fun h => by rw [hd, if_neg (by decide), hd, if_neg (by decide)]; have := (hI.f5 (by simpa using h)).keep ho; simpa using this, fun h g => by rw [hd, if_neg (by decide), hd, if_neg (by decide)]; exact hI.f45 (by simpa using h) (by simpa using g), fun h => by simp [hx] at h, fun h => by simpa using hI.f7 (by simpa using h)⟩
      · intro L ac w' K hI hn hdeps hK
        have e : ac.eval (.tmp 4) = .pointer (some ⟨w.heap.size + 1, 0, none⟩) := hI.alike.eval 4 (by decide)
        have hd : ∀ k, (ac.put (some 36) (.agg #[.int .i64 b.k, .int .i64 b.tm, .int .i64 b.a, .int .i64 b.b, .string (strOf b.name), .int .i64 uk, .int .i64 un, .string (strOf us), .slice ua um uc])).eval (.tmp k) = if k = 36 then (.agg #[.int .i64 b.k, .int .i64 b.tm, .int .i64 b.a, .int .i64 b.b, .string (strOf b.name), .int .i64 uk, .int .i64 un, .string (strOf us), .slice ua um uc]) else ac.eval (.tmp k) := fun k => eval_put _ _ _ _ (by rw [hI.alike.size]; show 36 < 111; decide)
        refine step_of rfl (wp_load_row 26 (.tmp 4) rfl (w.heap.size + 1) e 26 #[.int .i64 b.k, .int .i64 b.tm, .int .i64 b.a, .int .i64 b.b, .string (strOf b.name), .int .i64 uk, .int .i64 un, .string (strOf us), .slice ua um uc] (0, 0) _ (blk_only HBB4.out hI.only (fun e => e)) Tryz.underlying26 rfl info_cmd (hK _ _ ?_))
        exact ⟨hI.alike.put 36 _ (by decide), hI.only.trans (Only.refl _ _) (fun _ _ e => e), fun h => by rw [hd, if_neg (by decide)]; exact hI.f0 (by simpa using h), fun h => by rw [hd, if_neg (by decide)]; exact (hI.f1 (by simpa using h)).keep (Only.refl _ _) (by simp) (by simp) (by rw [hd, if_neg (by decide)]) (by rw [hd, if_neg (by decide)]), fun _ => by rw [hd]; rfl, fun h => by rw [hd, if_neg (by decide)]; exact (hI.f3 (by simpa using h)).keep (Only.refl _ _) (by simp) (by simp) (by rw [hd, if_neg (by decide)]) (by rw [hd, if_neg (by decide)]), fun h => by rw [hd, if_neg (by decide), hd, if_neg (by decide)]; have := (hI.f4 (by simpa using h)).keep (Only.refl _ _); simpa using this, fun h => by rw [hd, if_neg (by decide), hd, if_neg (by decide)]; have := (hI.f5 (by simpa using h)).keep (Only.refl _ _); simpa using this, fun h g => by rw [hd, if_neg (by decide), hd, if_neg (by decide)]; exact hI.f45 (by simpa using h) (by simpa using g), fun h => by simpa using hI.f6 (by simpa using h), fun h => by simpa using hI.f7 (by simpa using h)⟩
      · intro L ac w' K hI hn hdeps hK
        have hL : L 2 = true := by have := hdeps; simp [Region.binds] at this; simp [this]
        have e := hI.f2 hL
        have hx : L 7 = false := by cases h : L 7 with | false => rfl | true => (have := (hI.f7 h).2; rw [hn] at this; cases this)
        refine step_of rfl (wp_callc (f := 7) (args := #[ac.eval (.tmp 36)]) (by kernel_rfl) ?_)
        rw [e]
        refine (HEVB.out w' hI.only).mono ?_
        rintro e w'' ⟨ds, rfl, hev, ho, -⟩
        have hd : ∀ k, (ac.put (some 37) (.agg ds.toArray)).eval (.tmp k) = if k = 37 then (.agg ds.toArray) else ac.eval (.tmp k) := fun k => eval_put _ _ _ _ (by rw [hI.alike.size]; show 37 < 111; decide)
        refine ⟨_, rfl, hK _ _ ?_⟩
        have hsz := hI.only.size
        exact ⟨hI.alike.put 37 _ (by decide), hI.only.trans ho (fun _ _ e => e), fun h => by rw [hd, if_neg (by decide)]; exact hI.f0 (by simpa using h), fun h => by rw [hd, if_neg (by decide)]; exact (hI.f1 (by simpa using h)).keep ho (by simp) (by simp) (by rw [hd, if_neg (by decide)]) (by rw [hd, if_neg (by decide)]), fun h => by rw [hd, if_neg (by decide)]; exact hI.f2 (by simpa using h), fun _ => by rw [hd, if_pos rfl]; refine ⟨ds, w'.heap.size, w''.heap.size, rfl, hev, hsz, Nat.le_refl _, fun g hg => ?_⟩; rw [hd, hd, if_neg (by decide), if_neg (by decide)] at hg; exact hg.elim (fun ⟨h1, h2⟩ => by obtain ⟨g', cs, h3, h4, h5, -⟩ := hI.f4 (by simpa using h1); rw [h3] at h2; simp only [Value.pointer.injEq, Option.some.injEq, Addr.mk.injEq, and_true] at h2; have := blk_lt h5; omega) (fun ⟨h1, h2⟩ => by obtain ⟨g', cs, h3, h4, h5, -⟩ := hI.f5 (by simpa using h1); rw [h3] at h2; simp only [Value.pointer.injEq, Option.some.injEq, Addr.mk.injEq, and_true] at h2; have := blk_lt h5; omega), fun h => by rw [hd, if_neg (by decide), hd, if_neg (by decide)]; have := (hI.f4 (by simpa using h)).keep ho; simpa using this, fun h => by rw [hd, if_neg (by decide)]; obtain ⟨g, cs, h1, h2, h3, h4, -⟩ := (hI.f5 (by simpa using h)).keep ho; exact ⟨g, cs, h1, h2, h3, h4, fun h => by simp [hx] at h⟩, fun h g => by rw [hd, if_neg (by decide), hd, if_neg (by decide)]; exact hI.f45 (by simpa using h) (by simpa using g), fun h => by simpa using hI.f6 (by simpa using h), fun h => by simp [hx] at h⟩
      · intro L ac w' K hI hn hdeps hK
        have ho := only_new w' (.cells #[.int .i64 0, .int .i64 0, .int .i64 0, .int .i64 0, .int .i64 0, .string ⟨#[]⟩, .string ⟨#[]⟩, .int .i64 0, .int .i64 0, .string ⟨#[]⟩, .slice none 0 0] 31)
        have hd : ∀ k, (ac.put (some 7) (.pointer (some ⟨w'.heap.size, 0, none⟩))).eval (.tmp k) = if k = 7 then (.pointer (some ⟨w'.heap.size, 0, none⟩)) else ac.eval (.tmp k) := fun k => eval_put _ _ _ _ (by rw [hI.alike.size]; show 7 < 111; decide)
        have hx : L 6 = false := by cases h : L 6 with | false => rfl | true => (have := (hI.f6 h).1; rw [hn] at this; cases this)
        refine step_of rfl (wp_value (w' := w'.alloc (.cells #[.int .i64 0, .int .i64 0, .int .i64 0, .int .i64 0, .int .i64 0, .string ⟨#[]⟩, .string ⟨#[]⟩, .int .i64 0, .int .i64 0, .string ⟨#[]⟩, .slice none 0 0] 31)) (v := .pointer (some ⟨w'.heap.size, 0, none⟩)) (by kernel_rfl) (hK _ _ ?_))
        have hsz := hI.only.size
        exact ⟨hI.alike.put 7 _ (by decide), hI.only.trans ho (fun _ _ e => e), fun h => by rw [hd, if_neg (by decide)]; exact hI.f0 (by simpa using h), fun h => by rw [hd, if_neg (by decide)]; obtain ⟨ds, p, q, h1, h2, h3, h4, h5⟩ := hI.f1 (by simpa using h); refine ⟨ds, p, q, h1, h2.same ho, h3, Nat.le_trans h4 ho.size, fun g hg => ?_⟩; rw [hd, hd, if_pos rfl, if_neg (by decide)] at hg; exact hg.elim (fun ⟨k1, k2⟩ => by simp only [Value.pointer.injEq, Option.some.injEq, Addr.mk.injEq, and_true] at k2; omega) (fun ⟨k1, k2⟩ => by exact h5 g (.inr ⟨by simpa using k1, k2⟩)), fun h => by rw [hd, if_neg (by decide)]; exact hI.f2 (by simpa using h), fun h => by rw [hd, if_neg (by decide)]; obtain ⟨ds, p, q, h1, h2, h3, h4, h5⟩ := hI.f3 (by simpa using h); refine ⟨ds, p, q, h1, h2.same ho, h3, Nat.le_trans h4 ho.size, fun g hg => ?_⟩; rw [hd, hd, if_pos rfl, if_neg (by decide)] at hg; exact hg.elim (fun ⟨k1, k2⟩ => by simp only [Value.pointer.injEq, Option.some.injEq, Addr.mk.injEq, and_true] at k2; omega) (fun ⟨k1, k2⟩ => by exact h5 g (.inr ⟨by simpa using k1, k2⟩)), fun _ => by rw [hd, if_pos rfl]; exact ⟨w'.heap.size, #[.int .i64 0, .int .i64 0, .int .i64 0, .int .i64 0, .int .i64 0, .string ⟨#[]⟩, .string ⟨#[]⟩, .int .i64 0, .int .i64 0, .string ⟨#[]⟩, .slice none 0 0], rfl, hsz, blk_new w' _, rfl, fun h => by simp [hx] at h⟩, fun h => by rw [hd, if_neg (by decide), hd, if_neg (by decide)]; have := (hI.f5 (by simpa using h)).keep ho; simpa using this, fun h g => by rw [hd, hd, if_pos rfl, if_neg (by decide)]; obtain ⟨q, cs, h1, h2, h3, -⟩ := hI.f5 (by simpa using g); rw [h1]; intro e; have := blk_lt h3; simp only [Value.pointer.injEq, Option.some.injEq, Addr.mk.injEq, and_true] at e; omega, fun h => by simp [hx] at h, fun h => by simpa using hI.f7 (by simpa using h)⟩
      · intro L ac w' K hI hn hdeps hK
        have ho := only_new w' (.cells #[.int .i64 0, .int .i64 0, .int .i64 0, .int .i64 0, .int .i64 0, .string ⟨#[]⟩, .string ⟨#[]⟩, .int .i64 0, .int .i64 0, .string ⟨#[]⟩, .slice none 0 0] 31)
        have hd : ∀ k, (ac.put (some 8) (.pointer (some ⟨w'.heap.size, 0, none⟩))).eval (.tmp k) = if k = 8 then (.pointer (some ⟨w'.heap.size, 0, none⟩)) else ac.eval (.tmp k) := fun k => eval_put _ _ _ _ (by rw [hI.alike.size]; show 8 < 111; decide)
        have hx : L 7 = false := by cases h : L 7 with | false => rfl | true => (have := (hI.f7 h).1; rw [hn] at this; cases this)
        refine step_of rfl (wp_value (w' := w'.alloc (.cells #[.int .i64 0, .int .i64 0, .int .i64 0, .int .i64 0, .int .i64 0, .string ⟨#[]⟩, .string ⟨#[]⟩, .int .i64 0, .int .i64 0, .string ⟨#[]⟩, .slice none 0 0] 31)) (v := .pointer (some ⟨w'.heap.size, 0, none⟩)) (by kernel_rfl) (hK _ _ ?_))
        have hsz := hI.only.size
        exact ⟨hI.alike.put 8 _ (by decide), hI.only.trans ho (fun _ _ e => e), fun h => by rw [hd, if_neg (by decide)]; exact hI.f0 (by simpa using h), fun h => by rw [hd, if_neg (by decide)]; obtain ⟨ds, p, q, h1, h2, h3, h4, h5⟩ := hI.f1 (by simpa using h); refine ⟨ds, p, q, h1, h2.same ho, h3, Nat.le_trans h4 ho.size, fun g hg => ?_⟩; rw [hd, hd, if_neg (by decide), if_pos rfl] at hg; exact hg.elim (fun ⟨k1, k2⟩ => by exact h5 g (.inl ⟨by simpa using k1, k2⟩)) (fun ⟨k1, k2⟩ => by simp only [Value.pointer.injEq, Option.some.injEq, Addr.mk.injEq, and_true] at k2; omega), fun h => by rw [hd, if_neg (by decide)]; exact hI.f2 (by simpa using h), fun h => by rw [hd, if_neg (by decide)]; obtain ⟨ds, p, q, h1, h2, h3, h4, h5⟩ := hI.f3 (by simpa using h); refine ⟨ds, p, q, h1, h2.same ho, h3, Nat.le_trans h4 ho.size, fun g hg => ?_⟩; rw [hd, hd, if_neg (by decide), if_pos rfl] at hg; exact hg.elim (fun ⟨k1, k2⟩ => by exact h5 g (.inl ⟨by simpa using k1, k2⟩)) (fun ⟨k1, k2⟩ => by simp only [Value.pointer.injEq, Option.some.injEq, Addr.mk.injEq, and_true] at k2; omega), fun h => by rw [hd, if_neg (by decide), hd, if_neg (by decide)]; have := (hI.f4 (by simpa using h)).keep ho; simpa using this, fun _ => by rw [hd, if_pos rfl]; exact ⟨w'.heap.size, #[.int .i64 0, .int .i64 0, .int .i64 0, .int .i64 0, .int .i64 0, .string ⟨#[]⟩, .string ⟨#[]⟩, .int .i64 0, .int .i64 0, .string ⟨#[]⟩, .slice none 0 0], rfl, hsz, blk_new w' _, rfl, fun h => by simp [hx] at h⟩, fun h g => by rw [hd, hd, if_neg (by decide), if_pos rfl]; obtain ⟨q, cs, h1, h2, h3, -⟩ := hI.f4 (by simpa using h); rw [h1]; intro e; have := blk_lt h3; simp only [Value.pointer.injEq, Option.some.injEq, Addr.mk.injEq, and_true] at e; omega, fun h => by simpa using hI.f6 (by simpa using h), fun h => by simp [hx] at h⟩
      · intro L ac w' K hI hn hdeps hK
        have hL : L 4 = true ∧ L 1 = true := by have := hdeps; simp [Region.binds] at this; simp [this]
        obtain ⟨g, cs, e7, h2, h3, h4, -⟩ := hI.f4 hL.1
        obtain ⟨ds, p, q, d1, d2, d3, d4, d5⟩ := hI.f1 hL.2
        have hl := d2.len
        refine step_of rfl (wp_store_all 31 (.tmp 7) (.tmp 35) rfl g ds.toArray e7 d1 cs 31 h3 (by rw [h4]; simpa using hl) (by rw [info_evc]; simpa using hl.symm) (by rw [Array.all_eq_true_iff_forall_mem]; intro u hu; exact d2.one u (by simpa using hu)) (fun w'' g1 g2 g3 => hK _ _ ?_))
        have ho := hI.only.trans g2 (fun i hi e => by have e' : i = g := e; omega)
        exact ⟨hI.alike, ho, fun h => by exact hI.f0 (by simpa using h), fun h => by obtain ⟨ds, p, q, k1, k2, k3, k4, k5⟩ := hI.f1 (by simpa using h); exact ⟨ds, p, q, k1, k2.only g2 (fun i hi e => by have e' : i = g := e; have := k5 g (.inl ⟨hL.1, e7⟩); omega), k3, by rw [g3]; exact k4, fun j hj => k5 j hj⟩, fun h => by exact hI.f2 (by simpa using h), fun h => by obtain ⟨ds, p, q, k1, k2, k3, k4, k5⟩ := hI.f3 (by simpa using h); exact ⟨ds, p, q, k1, k2.only g2 (fun i hi e => by have e' : i = g := e; have := k5 g (.inl ⟨hL.1, e7⟩); omega), k3, by rw [g3]; exact k4, fun j hj => k5 j hj⟩, fun h => ⟨g, ds.toArray, e7, h2, g1, by simpa using hl, fun _ => d1⟩, fun h => by obtain ⟨j, cs', k1, k2, k3, k4, k5⟩ := hI.f5 (by simpa using h); refine ⟨j, cs', k1, k2, blk_only k3 g2 (fun e => hI.f45 hL.1 (by simpa using h) (by rw [e7]; subst e; exact k1.symm)), k4, fun h => k5 (by simpa using h)⟩, fun h g => by exact hI.f45 (by simpa using h) (by simpa using g), fun h => by simpa using hL, fun h => by simpa using hI.f7 (by simpa using h)⟩
      · intro L ac w' K hI hn hdeps hK
        have hL : L 5 = true ∧ L 3 = true := by have := hdeps; simp [Region.binds] at this; simp [this]
        obtain ⟨g, cs, e7, h2, h3, h4, -⟩ := hI.f5 hL.1
        obtain ⟨ds, p, q, d1, d2, d3, d4, d5⟩ := hI.f3 hL.2
        have hl := d2.len
        refine step_of rfl (wp_store_all 31 (.tmp 8) (.tmp 37) rfl g ds.toArray e7 d1 cs 31 h3 (by rw [h4]; simpa using hl) (by rw [info_evc]; simpa using hl.symm) (by rw [Array.all_eq_true_iff_forall_mem]; intro u hu; exact d2.one u (by simpa using hu)) (fun w'' g1 g2 g3 => hK _ _ ?_))
        have ho := hI.only.trans g2 (fun i hi e => by have e' : i = g := e; omega)
        exact ⟨hI.alike, ho, fun h => by exact hI.f0 (by simpa using h), fun h => by obtain ⟨ds, p, q, k1, k2, k3, k4, k5⟩ := hI.f1 (by simpa using h); exact ⟨ds, p, q, k1, k2.only g2 (fun i hi e => by have e' : i = g := e; have := k5 g (.inr ⟨hL.1, e7⟩); omega), k3, by rw [g3]; exact k4, fun j hj => k5 j hj⟩, fun h => by exact hI.f2 (by simpa using h), fun h => by obtain ⟨ds, p, q, k1, k2, k3, k4, k5⟩ := hI.f3 (by simpa using h); exact ⟨ds, p, q, k1, k2.only g2 (fun i hi e => by have e' : i = g := e; have := k5 g (.inr ⟨hL.1, e7⟩); omega), k3, by rw [g3]; exact k4, fun j hj => k5 j hj⟩, fun h => by obtain ⟨j, cs', k1, k2, k3, k4, k5⟩ := hI.f4 (by simpa using h); refine ⟨j, cs', k1, k2, blk_only k3 g2 (fun e => hI.f45 (by simpa using h) hL.1 (by rw [e7]; subst e; exact k1)), k4, fun h => k5 (by simpa using h)⟩, fun h => ⟨g, ds.toArray, e7, h2, g1, by simpa using hl, fun _ => d1⟩, fun h g => by exact hI.f45 (by simpa using h) (by simpa using g), fun h => by simpa using hI.f6 (by simpa using h), fun h => by simpa using hL⟩
    · intro L a' w' hI hall
      have hL : ∀ i, i < 8 → L i = true := fun i hi => hall i hi
      obtain ⟨gx, cs7, e7, n7, b7, l7, t7⟩ := hI.f4 (hL 4 (by decide))
      obtain ⟨gy, cs8, e8, n8, b8, l8, t8⟩ := hI.f5 (hL 5 (by decide))
      obtain ⟨ds, p, q, d1, d2, d3, d4, d5⟩ := hI.f1 (hL 1 (by decide))
      obtain ⟨es, p', q', f1, f2, f3, f4, f5⟩ := hI.f3 (hL 3 (by decide))
      have t7 := t7 (hL 6 (by decide)); have t8 := t8 (hL 7 (by decide))
      rw [d1] at t7; rw [f1] at t8
      simp only [Value.agg.injEq] at t7 t8
      subst t7 t8
      have hne : gx ≠ gy := fun e => hI.f45 (hL 4 (by decide)) (hL 5 (by decide)) (by rw [e7, e8, e])
      have hA' := hI.alike.turned
      have e0 := hI.f0 (hL 0 (by decide)); have e2 := hI.f2 (hL 2 (by decide))
      simp only [Act.turned, e0, d1, e2, f1, e7, e8] at hA'
      have hR : True ∧ gx ≠ gy ∧ w4.heap.size ≤ gx ∧ w4.heap.size ≤ gy ∧ w'.heap[gx]? = some (.cells ds.toArray 31 (0, 0)) ∧ w'.heap[gy]? = some (.cells es.toArray 31 (0, 0)) ∧ EAt w' (fun k => k ≠ gx ∧ k ≠ gy ∧ k < w'.heap.size) x ds ∧ EAt w' (fun k => k ≠ gx ∧ k ≠ gy ∧ k < w'.heap.size) y es ∧ Only (fun _ => False) w4 w' := by
        refine ⟨trivial, hne, n7, n8, b7, b8, d2.mono (fun k hk => ⟨fun e => ?_, fun e => ?_, by omega⟩), f2.mono (fun k hk => ⟨fun e => ?_, fun e => ?_, by omega⟩), hI.only⟩
        · have := d5 gx (.inl ⟨hL 4 (by decide), e7⟩); omega
        · have := d5 gy (.inr ⟨hL 5 (by decide), e8⟩); omega
        · have := f5 gx (.inl ⟨hL 4 (by decide), e7⟩); omega
        · have := f5 gy (.inr ⟨hL 5 (by decide), e8⟩); omega
      subst hA'
      go_wp2_with fail
      go_meet
      case rel => exact ⟨gx, gy, ds, es, rfl, rfl, hR.2⟩
  case rest =>
  obtain ⟨gx, gy, ds, es, rfl, rfl, hne, hgx, hgy, hbx, hby, hEx, hEy, ho5⟩ := hcut
  obtain ⟨pk, pn, ps, pa, pm, pc, rfl, hVX⟩ := hEx.form
  obtain ⟨qk, qn, qs, qa, qm, qc, rfl, hVY⟩ := hEy.form
  have HVPX := hid hVX; have HVPY := hid hVY
  clear hVX hVY
  obtain ⟨w5, hw5⟩ : ∃ x, x = wc := ⟨wc, rfl⟩
  subst hw5
  have HNE := hid hne; have HGX := hid hgx; have HGY := hid hgy; have HBX := hid hbx; have HBY := hid hby; have HEX := hid hEx; have HEY := hid hEy; have HP5 := hid ho5
  have HBA5 := hid (blk_only HBA4.out ho5 (fun e => e)); have HBB5 := hid (blk_only HBB4.out ho5 (fun e => e))
  have HO5 := hid (HO4.out.trans ho5 (fun _ _ e => e))
  have hs45 := ho5.size
  have hla : w.heap.size < w4.heap.size := blk_lt HBA4.out
  have hlb : w.heap.size + 1 < w4.heap.size := blk_lt HBB4.out
  have hlx : gx < w5.heap.size := blk_lt HBX.out
  have hly : gy < w5.heap.size := blk_lt HBY.out
  clear hEx hEy hbx hby ho5
  clear c0 c1 c2 c3 c4 c5 c6 c7 c8 d0 d1 d2 d3 d4 d5 d6 d7 d8 hlc hld
  obtain ⟨fl, hflv⟩ : ∃ y, cEnds a.k = y := ⟨_, rfl⟩
  have hq := HFLG.out
  rw [hflv] at hq
  have HQ := hid hq
  have qfl : (fl != fl) = false := by simp
  have qid : (x.id != 0) = false := by rw [HXID.out]; rfl
  have HG6 : Hid (∀ W, Only (fun _ => False) w5 W → W.cell? ⟨w.heap.size, 0, none⟩ = some (.int .i64 a.k) ∧ W.cell? ⟨w.heap.size, 1, none⟩ = some (.int .i64 a.tm) ∧ W.cell? ⟨w.heap.size, 2, none⟩ = some (.int .i64 a.a) ∧ W.cell? ⟨w.heap.size, 3, none⟩ = some (.int .i64 a.b) ∧ W.cell? ⟨w.heap.size, 4, none⟩ = some (.string (strOf a.name)) ∧ W.cell? ⟨w.heap.size, 5, none⟩ = some (.int .i64 vk) ∧ W.cell? ⟨w.heap.size, 6, none⟩ = some (.int .i64 vn) ∧ W.cell? ⟨w.heap.size, 7, none⟩ = some (.string (strOf vs)) ∧ W.cell? ⟨w.heap.size, 8, none⟩ = some (.slice va vm vc) ∧ W.cell? ⟨gx, 0, none⟩ = some (.int .i64 x.id) ∧ W.cell? ⟨gx, 1, none⟩ = some (.int .i64 x.tm) ∧ W.cell? ⟨gx, 2, none⟩ = some (.int .i64 x.k) ∧ W.cell? ⟨gx, 3, none⟩ = some (.int .i64 x.a) ∧ W.cell? ⟨gx, 4, none⟩ = some (.int .i64 x.b) ∧ W.cell? ⟨gx, 5, none⟩ = some (.string (strOf x.name)) ∧ W.cell? ⟨gx, 6, none⟩ = some (.string (strOf x.text)) ∧ W.cell? ⟨gx, 7, none⟩ = some (.int .i64 pk) ∧ W.cell? ⟨gx, 8, none⟩ = some (.int .i64 pn) ∧ W.cell? ⟨gx, 9, none⟩ = some (.string (strOf ps)) ∧ W.cell? ⟨gx, 10, none⟩ = some (.slice pa pm pc)) := hid (fun W h => by have h1 := blk_only HBA5.out h (fun e => e); have h2 := blk_only HBX.out h (fun e => e); exact ⟨cell_blk h1 0, cell_blk h1 1, cell_blk h1 2, cell_blk h1 3, cell_blk h1 4, cell_blk h1 5, cell_blk h1 6, cell_blk h1 7, cell_blk h1 8, cell_blk h2 0, cell_blk h2 1, cell_blk h2 2, cell_blk h2 3, cell_blk h2 4, cell_blk h2 5, cell_blk h2 6, cell_blk h2 7, cell_blk h2 8, cell_blk h2 9, cell_blk h2 10⟩)
  have HRE : Hid (∀ W, Only (fun _ => False) w5 W → Calls Tryz.prog 9 #[.agg (List.toArray [.int .i64 a.k, .int .i64 a.tm, .int .i64 a.a, .int .i64 a.b, .string (strOf a.name), .int .i64 vk, .int .i64 vn, .string (strOf vs), .slice va vm vc])] W (REv W G a.rev)) := hid (fun W h => r10event_c (w := W) (HA.out.same (HO5.out.trans h (fun _ _ e => e))) HGDA.out)
  have HXS : Hid (∀ W, Only (fun _ => False) w5 W → EAt W (fun k => k ≠ gx ∧ k ≠ gy ∧ k < w5.heap.size) x [.int .i64 x.id, .int .i64 x.tm, .int .i64 x.k, .int .i64 x.a, .int .i64 x.b, .string (strOf x.name), .string (strOf x.text), .int .i64 pk, .int .i64 pn, .string (strOf ps), .slice pa pm pc]) := hid (fun W h => HEX.out.same h)
  have HED : Hid (∀ W, Only (fun _ => False) w5 W → Calls Tryz.prog 10 #[.agg (List.toArray [.int .i64 a.k, .int .i64 a.tm, .int .i64 a.a, .int .i64 a.b, .string (strOf a.name), .int .i64 vk, .int .i64 vn, .string (strOf vs), .slice va vm vc])] W fun x w' => x = .returned (.bool fl) ∧ Only (fun _ => False) W w') := hid (fun W h => by have := cmends_c (w := W) (HA.out.same (HO5.out.trans h (fun _ _ e => e))); rwa [hflv] at this)
  have HCL : Hid (∀ W, Only (fun _ => False) w5 W → Calls Tryz.prog 11 #[.agg (List.toArray [.int .i64 x.id, .int .i64 x.tm, .int .i64 x.k, .int .i64 x.a, .int .i64 x.b, .string (strOf x.name), .string (strOf x.text), .int .i64 pk, .int .i64 pn, .string (strOf ps), .slice pa pm pc])] W fun x w' => x = .returned (.bool fl) ∧ Only (fun _ => False) W w') := hid (fun W h => by have := closes_c (w := W) (HXS.out W h); rwa [← HQ.out.1] at this)
  have HMD : Hid (∀ W, Only (fun _ => False) w5 W → Calls Tryz.prog 12 #[.agg (List.toArray [.int .i64 x.id, .int .i64 x.tm, .int .i64 x.k, .int .i64 x.a, .int .i64 x.b, .string (strOf x.name), .string (strOf x.text), .int .i64 pk, .int .i64 pn, .string (strOf ps), .slice pa pm pc])] W fun x w' => x = .returned (.bool true) ∧ Only (fun _ => False) W w') := hid (fun W h => by have := cmade_c (w := W) (HXS.out W h); rwa [HQ.out.2.1] at this)
  have HOU : Hid (∀ W, Only (fun _ => False) w5 W → Calls Tryz.prog 13 #[.agg (List.toArray [.int .i64 x.id, .int .i64 x.tm, .int .i64 x.k, .int .i64 x.a, .int .i64 x.b, .string (strOf x.name), .string (strOf x.text), .int .i64 pk, .int .i64 pn, .string (strOf ps), .slice pa pm pc])] W fun x w' => x = .returned (.bool false) ∧ Only (fun _ => False) W w') := hid (fun W h => by have := outside_c (w := W) (HXS.out W h); rwa [HQ.out.2.2.1] at this)
  have HTA : Hid (∀ W, Only (fun _ => False) w5 W → Calls Tryz.prog 14 #[.agg (List.toArray [.int .i64 x.id, .int .i64 x.tm, .int .i64 x.k, .int .i64 x.a, .int .i64 x.b, .string (strOf x.name), .string (strOf x.text), .int .i64 pk, .int .i64 pn, .string (strOf ps), .slice pa pm pc])] W fun x w' => x = .returned (.bool false) ∧ Only (fun _ => False) W w') := hid (fun W h => by have := task_c (w := W) (HXS.out W h); rwa [HQ.out.2.2.2] at this)
  have HSM6 : Hid (∀ W zs, Only (fun _ => False) w5 W → EAt W G a.rev zs → Calls Tryz.prog 8 #[.agg (List.toArray [.int .i64 x.id, .int .i64 x.tm, .int .i64 x.k, .int .i64 x.a, .int .i64 x.b, .string (strOf x.name), .string (strOf x.text), .int .i64 pk, .int .i64 pn, .string (strOf ps), .slice pa pm pc]), .agg zs.toArray] W fun x w' => x = .returned (.bool true) ∧ Only (fun _ => False) W w') := hid (fun W zs h hz => by have := r9same_c (w := W) (HXS.out W h) hz HVX.out HRR.out HKX.out HKR.out; rwa [HRV.out] at this)
  have HCN := hid (HRE.out w5.drew (Only.refl _ _).drew)
  clear hq hflv
  have hS0 := HG6.out w5 (Only.refl _ _)
  have c0 : w5.cell? ⟨w.heap.size, 0, none⟩ = some (.int .i64 a.k) := cell_blk HBA5.out 0
  have c1 : w5.cell? ⟨w.heap.size, 1, none⟩ = some (.int .i64 a.tm) := cell_blk HBA5.out 1
  have c2 : w5.cell? ⟨w.heap.size, 2, none⟩ = some (.int .i64 a.a) := cell_blk HBA5.out 2
  have c3 : w5.cell? ⟨w.heap.size, 3, none⟩ = some (.int .i64 a.b) := cell_blk HBA5.out 3
  have c4 : w5.cell? ⟨w.heap.size, 4, none⟩ = some (.string (strOf a.name)) := cell_blk HBA5.out 4
  have c5 : w5.cell? ⟨w.heap.size, 5, none⟩ = some (.int .i64 vk) := cell_blk HBA5.out 5
  have c6 : w5.cell? ⟨w.heap.size, 6, none⟩ = some (.int .i64 vn) := cell_blk HBA5.out 6
  have c7 : w5.cell? ⟨w.heap.size, 7, none⟩ = some (.string (strOf vs)) := cell_blk HBA5.out 7
  have c8 : w5.cell? ⟨w.heap.size, 8, none⟩ = some (.slice va vm vc) := cell_blk HBA5.out 8
  have hlc := blk_lt HBA5.out
  have x0 : w5.cell? ⟨gx, 0, none⟩ = some (.int .i64 x.id) := cell_blk HBX.out 0
  have x1 : w5.cell? ⟨gx, 1, none⟩ = some (.int .i64 x.tm) := cell_blk HBX.out 1
  have x2 : w5.cell? ⟨gx, 2, none⟩ = some (.int .i64 x.k) := cell_blk HBX.out 2
  have x3 : w5.cell? ⟨gx, 3, none⟩ = some (.int .i64 x.a) := cell_blk HBX.out 3
  have x4 : w5.cell? ⟨gx, 4, none⟩ = some (.int .i64 x.b) := cell_blk HBX.out 4
  have x5 : w5.cell? ⟨gx, 5, none⟩ = some (.string (strOf x.name)) := cell_blk HBX.out 5
  have x6 : w5.cell? ⟨gx, 6, none⟩ = some (.string (strOf x.text)) := cell_blk HBX.out 6
  have x7 : w5.cell? ⟨gx, 7, none⟩ = some (.int .i64 pk) := cell_blk HBX.out 7
  have x8 : w5.cell? ⟨gx, 8, none⟩ = some (.int .i64 pn) := cell_blk HBX.out 8
  have x9 : w5.cell? ⟨gx, 9, none⟩ = some (.string (strOf ps)) := cell_blk HBX.out 9
  have x10 : w5.cell? ⟨gx, 10, none⟩ = some (.slice pa pm pc) := cell_blk HBX.out 10
  have hlx := blk_lt HBX.out
  have HOX : Hid (Only (fun _ => False) w5 w5.drew) := hid ((Only.refl _ _).drew)
  clear hS0
  go_upto_region 6 with fail
  go_cut [67] from 38 to 67 (fun v wx => v = .bool false ∧ Only (fun _ => False) w5 wx)
  case first =>
    go_region_held3 (fun W => W.cell? ⟨w.heap.size, 0, none⟩ = some (.int .i64 a.k) ∧ W.cell? ⟨w.heap.size, 1, none⟩ = some (.int .i64 a.tm) ∧ W.cell? ⟨w.heap.size, 2, none⟩ = some (.int .i64 a.a) ∧ W.cell? ⟨w.heap.size, 3, none⟩ = some (.int .i64 a.b) ∧ W.cell? ⟨w.heap.size, 4, none⟩ = some (.string (strOf a.name)) ∧ W.cell? ⟨w.heap.size, 5, none⟩ = some (.int .i64 vk) ∧ W.cell? ⟨w.heap.size, 6, none⟩ = some (.int .i64 vn) ∧ W.cell? ⟨w.heap.size, 7, none⟩ = some (.string (strOf vs)) ∧ W.cell? ⟨w.heap.size, 8, none⟩ = some (.slice va vm vc) ∧ W.cell? ⟨gx, 0, none⟩ = some (.int .i64 x.id) ∧ W.cell? ⟨gx, 1, none⟩ = some (.int .i64 x.tm) ∧ W.cell? ⟨gx, 2, none⟩ = some (.int .i64 x.k) ∧ W.cell? ⟨gx, 3, none⟩ = some (.int .i64 x.a) ∧ W.cell? ⟨gx, 4, none⟩ = some (.int .i64 x.b) ∧ W.cell? ⟨gx, 5, none⟩ = some (.string (strOf x.name)) ∧ W.cell? ⟨gx, 6, none⟩ = some (.string (strOf x.text)) ∧ W.cell? ⟨gx, 7, none⟩ = some (.int .i64 pk) ∧ W.cell? ⟨gx, 8, none⟩ = some (.int .i64 pn) ∧ W.cell? ⟨gx, 9, none⟩ = some (.string (strOf ps)) ∧ W.cell? ⟨gx, 10, none⟩ = some (.slice pa pm pc))
      (first | with_reducible exact HSK.out | go_keep)
      (first
        | (go_at_call 9; (with_reducible refine HCN.out.mono ?_); rintro z wa ⟨zs, rfl, hz, hoa⟩; obtain ⟨zk, zn, zs, za, zm, zc, rfl, -⟩ := hz.form; have hpa : Only (fun _ => False) w5 wa := HOX.out.trans hoa (fun _ _ e => e); have HSK := hid (HG6.out wa hpa); have HPA := hid hpa; have HCN := hid (HSM6.out wa _ hpa hz); clear hoa hpa hz)
        | (go_at_call 8; (with_reducible refine HCN.out.mono ?_); rintro z wb ⟨rfl, hob⟩; have hpb : Only (fun _ => False) w5 wb := HPA.out.trans hob (fun _ _ e => e); have HSK := hid (HG6.out wb hpb); have HPB := hid hpb; have HCN := hid (HED.out wb hpb); clear hob hpb)
        | (go_at_call 10; (with_reducible refine HCN.out.mono ?_); rintro z wd ⟨rfl, hod⟩; have hpd : Only (fun _ => False) w5 wd := HPB.out.trans hod (fun _ _ e => e); have HSK := hid (HG6.out wd hpd); have HPD := hid hpd; have HCN := hid (HCL.out wd hpd); clear hod hpd)
        | (go_at_call 11; (with_reducible refine HCN.out.mono ?_); rintro z we ⟨rfl, hoe⟩; have hpe : Only (fun _ => False) w5 we := HPD.out.trans hoe (fun _ _ e => e); have HSK := hid (HG6.out we hpe); have HPE := hid hpe; have HCN := hid (HMD.out we hpe); clear hoe hpe)
        | (go_at_call 12; (with_reducible refine HCN.out.mono ?_); rintro z wf ⟨rfl, hof⟩; have hpf : Only (fun _ => False) w5 wf := HPE.out.trans hof (fun _ _ e => e); have HSK := hid (HG6.out wf hpf); have HPF := hid hpf; have HCN := hid (HOU.out wf hpf); clear hof hpf)
        | (go_at_call 13; (with_reducible refine HCN.out.mono ?_); rintro z wg ⟨rfl, hog⟩; have hpg : Only (fun _ => False) w5 wg := HPF.out.trans hog (fun _ _ e => e); have HSK := hid (HG6.out wg hpg); have HPG := hid hpg; have HCN := hid (HTA.out wg hpg); clear hog hpg)
        | (go_at_call 14; (with_reducible refine HCN.out.mono ?_); rintro z wh ⟨rfl, hoh⟩; have hph : Only (fun _ => False) w5 wh := HPG.out.trans hoh (fun _ _ e => e); have HSK := hid (HG6.out wh hph); have HPH := hid hph; clear hoh hph))
    all_goals
      go_wp2_with fail
      go_meet
      case rel => exact ⟨rfl, HPH.out⟩
  case rest =>
  obtain ⟨rfl, hoc⟩ := hcut
  obtain ⟨w6, hw6⟩ : ∃ x, x = wc := ⟨wc, rfl⟩
  subst hw6
  have hb6 := blk_only HBX.out hoc (fun e => e)
  have hy6 := blk_only HBY.out hoc (fun e => e)
  have hgne := HNE.out
  have ho67 := (only_set (w := w6) gx 0 (.int .i64 id)).mono (G := fun k => k = gx ∨ k = gy) (fun _ _ e => .inl e)
  have ho67 := ho67.trans ((only_set (w := w6.setCell ⟨gx, 0, none⟩ (.int .i64 id)) gy 0 (.int .i64 id)).mono (G := fun k => k = gx ∨ k = gy) (fun _ _ e => .inr e)) (fun _ _ e => e)
  have hx7 := blk_only (blk_set hb6 0 (.int .i64 id)) (only_set gy 0 (.int .i64 id)) (by show ¬ gx = gy; exact hgne)
  have hy7 := blk_set (blk_only hy6 (only_set gx 0 (.int .i64 id)) (by show ¬ gy = gx; exact fun e => hgne e.symm)) 0 (.int .i64 id)
  have hsz7 : ((w6.setCell ⟨gx, 0, none⟩ (.int .i64 id)).setCell ⟨gy, 0, none⟩ (.int .i64 id)).heap.size = w6.heap.size := by simp
  obtain ⟨w7, hw7⟩ : ∃ x, (w6.setCell ⟨gx, 0, none⟩ (.int .i64 id)).setCell ⟨gy, 0, none⟩ (.int .i64 id) = x := ⟨_, rfl⟩
  rw [hw7] at ho67 hx7 hy7 hsz7
  have hx7 : w7.heap[gx]? = some (.cells #[.int .i64 id, .int .i64 x.tm, .int .i64 x.k, .int .i64 x.a, .int .i64 x.b, .string (strOf x.name), .string (strOf x.text), .int .i64 pk, .int .i64 pn, .string (strOf ps), .slice pa pm pc] 31 (0, 0)) := by simpa using hx7
  have hy7 : w7.heap[gy]? = some (.cells #[.int .i64 id, .int .i64 y.tm, .int .i64 y.k, .int .i64 y.a, .int .i64 y.b, .string (strOf y.name), .string (strOf y.text), .int .i64 qk, .int .i64 qn, .string (strOf qs), .slice qa qm qc] 31 (0, 0)) := by simpa using hy7
  have zx := frozen_blk hb6
  have zy := frozen_blk hy6
  have x0 : w6.cell? ⟨gx, 0, none⟩ = some (.int .i64 x.id) := cell_blk hb6 0
  have y0 : w6.cell? ⟨gy, 0, none⟩ = some (.int .i64 y.id) := cell_blk hy6 0
  have hlx6 := blk_lt hb6
  have hly6 := blk_lt hy6
  have ho57 : Only (fun k => k = gx ∨ k = gy) w5 w7 := (hoc.mono (fun _ _ e => e.elim)).trans ho67 (fun _ _ e => e)
  have HX7 := hid hx7; have HY7 := hid hy7; have HO57 := hid ho57
  have HBA7 := hid (blk_only HBA5.out ho57 (by rintro (e | e) <;> omega)); have HBB7 := hid (blk_only HBB5.out ho57 (by rintro (e | e) <;> omega))
  have HO7 := hid (HO5.out.trans ho57 (fun i hi e => by rcases e with e | e <;> omega))
  have hs57 := ho57.size
  have HEX7 : Hid (EAt w7 (fun k => k ≠ gx ∧ k ≠ gy ∧ k < w5.heap.size) (x.wid id) [.int .i64 id, .int .i64 x.tm, .int .i64 x.k, .int .i64 x.a, .int .i64 x.b, .string (strOf x.name), .string (strOf x.text), .int .i64 pk, .int .i64 pn, .string (strOf ps), .slice pa pm pc]) := hid ⟨[.int .i64 pk, .int .i64 pn, .string (strOf ps), .slice pa pm pc], rfl, HVPX.out.only ho57 (fun k hk e => by rcases e with e | e; exact hk.1 e; exact hk.2.1 e)⟩
  have HEY7 : Hid (EAt w7 (fun k => k ≠ gx ∧ k ≠ gy ∧ k < w5.heap.size) (y.wid id) [.int .i64 id, .int .i64 y.tm, .int .i64 y.k, .int .i64 y.a, .int .i64 y.b, .string (strOf y.name), .string (strOf y.text), .int .i64 qk, .int .i64 qn, .string (strOf qs), .slice qa qm qc]) := hid ⟨[.int .i64 qk, .int .i64 qn, .string (strOf qs), .slice qa qm qc], rfl, HVPY.out.only ho57 (fun k hk e => by rcases e with e | e; exact hk.1 e; exact hk.2.1 e)⟩
  have hfbxy : (x.wid id).same (y.wid id) = b.fits (x.wid id) := Bool.eq_iff_iff.2 (by rw [HXY.out, HFB.out]; exact eq_comm)
  obtain ⟨fb, hfbv⟩ : ∃ z, b.fits (x.wid id) = z := ⟨_, rfl⟩
  rw [hfbv] at hfbxy
  have hfbi := HFB.out
  rw [hfbv] at hfbi
  have HFBI := hid hfbi
  have HC9 : Hid (∀ W, Only (fun _ => False) w7 W → Calls Tryz.prog 15 #[.agg (List.toArray [.int .i64 id, .int .i64 x.tm, .int .i64 x.k, .int .i64 x.a, .int .i64 x.b, .string (strOf x.name), .string (strOf x.text), .int .i64 pk, .int .i64 pn, .string (strOf ps), .slice pa pm pc])] W fun x w' => x = .returned (.int .i64 0) ∧ Only (fun _ => False) W w') := hid (fun W h => by have := r9check_c (w := W) (HEX7.out.same h) HXR.out; rwa [HXG.out] at this)
  have HFA9 : Hid (∀ W, Only (fun _ => False) w7 W → Calls Tryz.prog 16 #[.agg (List.toArray [.int .i64 a.k, .int .i64 a.tm, .int .i64 a.a, .int .i64 a.b, .string (strOf a.name), .int .i64 vk, .int .i64 vn, .string (strOf vs), .slice va vm vc]), .agg (List.toArray [.int .i64 id, .int .i64 x.tm, .int .i64 x.k, .int .i64 x.a, .int .i64 x.b, .string (strOf x.name), .string (strOf x.text), .int .i64 pk, .int .i64 pn, .string (strOf ps), .slice pa pm pc])] W fun x w' => x = .returned (.bool true) ∧ Only (fun _ => False) W w') := hid (fun W h => by
    have := cfits_c (w := W) (HA.out.same (HO7.out.trans h (fun _ _ e => e))) (HEX7.out.same h) (fun i hi => by have := HGG.out i hi; have := HO7.out.size; have := h.size; omega) (fun i hi => by have h1 := hi.2.2; have := h.size; omega) HGA.out HVX.out (by have := HSZ.out; omega) HGDA.out.k
    rwa [HFA.out] at this)
  have HFB9 : Hid (∀ W, Only (fun _ => False) w7 W → Calls Tryz.prog 16 #[.agg (List.toArray [.int .i64 b.k, .int .i64 b.tm, .int .i64 b.a, .int .i64 b.b, .string (strOf b.name), .int .i64 uk, .int .i64 un, .string (strOf us), .slice ua um uc]), .agg (List.toArray [.int .i64 id, .int .i64 x.tm, .int .i64 x.k, .int .i64 x.a, .int .i64 x.b, .string (strOf x.name), .string (strOf x.text), .int .i64 pk, .int .i64 pn, .string (strOf ps), .slice pa pm pc])] W fun x w' => x = .returned (.bool fb) ∧ Only (fun _ => False) W w') := hid (fun W h => by
    have := cfits_c (w := W) (HB.out.same (HO7.out.trans h (fun _ _ e => e))) (HEX7.out.same h) (fun i hi => by have := HGG.out i hi; have := HO7.out.size; have := h.size; omega) (fun i hi => by have h1 := hi.2.2; have := h.size; omega) HGB.out HVX.out (by have := HSZ.out; omega) HGDB.out.k
    rwa [hfbv] at this)
  have HSM9 : Hid (∀ W, Only (fun _ => False) w7 W → Calls Tryz.prog 8 #[.agg (List.toArray [.int .i64 id, .int .i64 x.tm, .int .i64 x.k, .int .i64 x.a, .int .i64 x.b, .string (strOf x.name), .string (strOf x.text), .int .i64 pk, .int .i64 pn, .string (strOf ps), .slice pa pm pc]), .agg (List.toArray [.int .i64 id, .int .i64 y.tm, .int .i64 y.k, .int .i64 y.a, .int .i64 y.b, .string (strOf y.name), .string (strOf y.text), .int .i64 qk, .int .i64 qn, .string (strOf qs), .slice qa qm qc])] W fun x w' => x = .returned (.bool fb) ∧ Only (fun _ => False) W w') := hid (fun W h => by
    have := r9same_c (w := W) (HEX7.out.same h) (HEY7.out.same h) HVX.out HVY.out HKX.out HKY.out
    rwa [hfbxy] at this)
  have HSS : Hid (∀ W, Only (fun _ => False) w7 W → Calls Tryz.prog 17 #[.agg (List.toArray [.int .i64 a.k, .int .i64 a.tm, .int .i64 a.a, .int .i64 a.b, .string (strOf a.name), .int .i64 vk, .int .i64 vn, .string (strOf vs), .slice va vm vc]), .agg (List.toArray [.int .i64 b.k, .int .i64 b.tm, .int .i64 b.a, .int .i64 b.b, .string (strOf b.name), .int .i64 uk, .int .i64 un, .string (strOf us), .slice ua um uc])] W fun x w' => x = .returned (.bool (a.same b)) ∧ Only (fun _ => False) W w') := hid (fun W h => csame_c (w := W) (HA.out.same (HO7.out.trans h (fun _ _ e => e))) (HB.out.same (HO7.out.trans h (fun _ _ e => e))) HGA.out.2.2.2.2.2.2.2 HGB.out.2.2.2.2.2.2.2 HCA.out HCB.out)
  have HG9 : Hid (∀ W, Only (fun _ => False) w7 W → W.cell? ⟨w.heap.size, 0, none⟩ = some (.int .i64 a.k) ∧ W.cell? ⟨w.heap.size, 1, none⟩ = some (.int .i64 a.tm) ∧ W.cell? ⟨w.heap.size, 2, none⟩ = some (.int .i64 a.a) ∧ W.cell? ⟨w.heap.size, 3, none⟩ = some (.int .i64 a.b) ∧ W.cell? ⟨w.heap.size, 4, none⟩ = some (.string (strOf a.name)) ∧ W.cell? ⟨w.heap.size, 5, none⟩ = some (.int .i64 vk) ∧ W.cell? ⟨w.heap.size, 6, none⟩ = some (.int .i64 vn) ∧ W.cell? ⟨w.heap.size, 7, none⟩ = some (.string (strOf vs)) ∧ W.cell? ⟨w.heap.size, 8, none⟩ = some (.slice va vm vc) ∧ W.cell? ⟨w.heap.size + 1, 0, none⟩ = some (.int .i64 b.k) ∧ W.cell? ⟨w.heap.size + 1, 1, none⟩ = some (.int .i64 b.tm) ∧ W.cell? ⟨w.heap.size + 1, 2, none⟩ = some (.int .i64 b.a) ∧ W.cell? ⟨w.heap.size + 1, 3, none⟩ = some (.int .i64 b.b) ∧ W.cell? ⟨w.heap.size + 1, 4, none⟩ = some (.string (strOf b.name)) ∧ W.cell? ⟨w.heap.size + 1, 5, none⟩ = some (.int .i64 uk) ∧ W.cell? ⟨w.heap.size + 1, 6, none⟩ = some (.int .i64 un) ∧ W.cell? ⟨w.heap.size + 1, 7, none⟩ = some (.string (strOf us)) ∧ W.cell? ⟨w.heap.size + 1, 8, none⟩ = some (.slice ua um uc) ∧ W.cell? ⟨gx, 0, none⟩ = some (.int .i64 id) ∧ W.cell? ⟨gx, 1, none⟩ = some (.int .i64 x.tm) ∧ W.cell? ⟨gx, 2, none⟩ = some (.int .i64 x.k) ∧ W.cell? ⟨gx, 3, none⟩ = some (.int .i64 x.a) ∧ W.cell? ⟨gx, 4, none⟩ = some (.int .i64 x.b) ∧ W.cell? ⟨gx, 5, none⟩ = some (.string (strOf x.name)) ∧ W.cell? ⟨gx, 6, none⟩ = some (.string (strOf x.text)) ∧ W.cell? ⟨gx, 7, none⟩ = some (.int .i64 pk) ∧ W.cell? ⟨gx, 8, none⟩ = some (.int .i64 pn) ∧ W.cell? ⟨gx, 9, none⟩ = some (.string (strOf ps)) ∧ W.cell? ⟨gx, 10, none⟩ = some (.slice pa pm pc) ∧ W.cell? ⟨gy, 0, none⟩ = some (.int .i64 id) ∧ W.cell? ⟨gy, 1, none⟩ = some (.int .i64 y.tm) ∧ W.cell? ⟨gy, 2, none⟩ = some (.int .i64 y.k) ∧ W.cell? ⟨gy, 3, none⟩ = some (.int .i64 y.a) ∧ W.cell? ⟨gy, 4, none⟩ = some (.int .i64 y.b) ∧ W.cell? ⟨gy, 5, none⟩ = some (.string (strOf y.name)) ∧ W.cell? ⟨gy, 6, none⟩ = some (.string (strOf y.text)) ∧ W.cell? ⟨gy, 7, none⟩ = some (.int .i64 qk) ∧ W.cell? ⟨gy, 8, none⟩ = some (.int .i64 qn) ∧ W.cell? ⟨gy, 9, none⟩ = some (.string (strOf qs)) ∧ W.cell? ⟨gy, 10, none⟩ = some (.slice qa qm qc)) := hid (fun W h => by have h1 := blk_only HBA7.out h (fun e => e); have h2 := blk_only HBB7.out h (fun e => e); have h3 := blk_only HX7.out h (fun e => e); have h4 := blk_only HY7.out h (fun e => e); exact ⟨cell_blk h1 0, cell_blk h1 1, cell_blk h1 2, cell_blk h1 3, cell_blk h1 4, cell_blk h1 5, cell_blk h1 6, cell_blk h1 7, cell_blk h1 8, cell_blk h2 0, cell_blk h2 1, cell_blk h2 2, cell_blk h2 3, cell_blk h2 4, cell_blk h2 5, cell_blk h2 6, cell_blk h2 7, cell_blk h2 8, cell_blk h3 0, cell_blk h3 1, cell_blk h3 2, cell_blk h3 3, cell_blk h3 4, cell_blk h3 5, cell_blk h3 6, cell_blk h3 7, cell_blk h3 8, cell_blk h3 9, cell_blk h3 10, cell_blk h4 0, cell_blk h4 1, cell_blk h4 2, cell_blk h4 3, cell_blk h4 4, cell_blk h4 5, cell_blk h4 6, cell_blk h4 7, cell_blk h4 8, cell_blk h4 9, cell_blk h4 10⟩)
  have HCN := hid (HC9.out w7.drew (Only.refl _ _).drew)
  have HOX := hid ((Only.refl (fun _ => False) w7).drew)
  have qfb : (fb != fb) = false := by simp
  clear hfbxy hfbv hfbi hb6 hy6 hx7 hy7 ho57 ho67 hoc hsz7
  clear c0 c1 c2 c3 c4 c5 c6 c7 c8 hlc x1 x2 x3 x4 x5 x6 x7 x8 x9 x10 hlx
  go_upto_region 9 with fail
  clear hw7 zx zy x0 y0 hlx6 hly6
  have c0 : w7.cell? ⟨w.heap.size, 0, none⟩ = some (.int .i64 a.k) := cell_blk HBA7.out 0
  have c1 : w7.cell? ⟨w.heap.size, 1, none⟩ = some (.int .i64 a.tm) := cell_blk HBA7.out 1
  have c2 : w7.cell? ⟨w.heap.size, 2, none⟩ = some (.int .i64 a.a) := cell_blk HBA7.out 2
  have c3 : w7.cell? ⟨w.heap.size, 3, none⟩ = some (.int .i64 a.b) := cell_blk HBA7.out 3
  have c4 : w7.cell? ⟨w.heap.size, 4, none⟩ = some (.string (strOf a.name)) := cell_blk HBA7.out 4
  have c5 : w7.cell? ⟨w.heap.size, 5, none⟩ = some (.int .i64 vk) := cell_blk HBA7.out 5
  have c6 : w7.cell? ⟨w.heap.size, 6, none⟩ = some (.int .i64 vn) := cell_blk HBA7.out 6
  have c7 : w7.cell? ⟨w.heap.size, 7, none⟩ = some (.string (strOf vs)) := cell_blk HBA7.out 7
  have c8 : w7.cell? ⟨w.heap.size, 8, none⟩ = some (.slice va vm vc) := cell_blk HBA7.out 8
  have hlc := blk_lt HBA7.out
  have d0 : w7.cell? ⟨w.heap.size + 1, 0, none⟩ = some (.int .i64 b.k) := cell_blk HBB7.out 0
  have d1 : w7.cell? ⟨w.heap.size + 1, 1, none⟩ = some (.int .i64 b.tm) := cell_blk HBB7.out 1
  have d2 : w7.cell? ⟨w.heap.size + 1, 2, none⟩ = some (.int .i64 b.a) := cell_blk HBB7.out 2
  have d3 : w7.cell? ⟨w.heap.size + 1, 3, none⟩ = some (.int .i64 b.b) := cell_blk HBB7.out 3
  have d4 : w7.cell? ⟨w.heap.size + 1, 4, none⟩ = some (.string (strOf b.name)) := cell_blk HBB7.out 4
  have d5 : w7.cell? ⟨w.heap.size + 1, 5, none⟩ = some (.int .i64 uk) := cell_blk HBB7.out 5
  have d6 : w7.cell? ⟨w.heap.size + 1, 6, none⟩ = some (.int .i64 un) := cell_blk HBB7.out 6
  have d7 : w7.cell? ⟨w.heap.size + 1, 7, none⟩ = some (.string (strOf us)) := cell_blk HBB7.out 7
  have d8 : w7.cell? ⟨w.heap.size + 1, 8, none⟩ = some (.slice ua um uc) := cell_blk HBB7.out 8
  have hld := blk_lt HBB7.out
  have x0 : w7.cell? ⟨gx, 0, none⟩ = some (.int .i64 id) := cell_blk HX7.out 0
  have x1 : w7.cell? ⟨gx, 1, none⟩ = some (.int .i64 x.tm) := cell_blk HX7.out 1
  have x2 : w7.cell? ⟨gx, 2, none⟩ = some (.int .i64 x.k) := cell_blk HX7.out 2
  have x3 : w7.cell? ⟨gx, 3, none⟩ = some (.int .i64 x.a) := cell_blk HX7.out 3
  have x4 : w7.cell? ⟨gx, 4, none⟩ = some (.int .i64 x.b) := cell_blk HX7.out 4
  have x5 : w7.cell? ⟨gx, 5, none⟩ = some (.string (strOf x.name)) := cell_blk HX7.out 5
  have x6 : w7.cell? ⟨gx, 6, none⟩ = some (.string (strOf x.text)) := cell_blk HX7.out 6
  have x7 : w7.cell? ⟨gx, 7, none⟩ = some (.int .i64 pk) := cell_blk HX7.out 7
  have x8 : w7.cell? ⟨gx, 8, none⟩ = some (.int .i64 pn) := cell_blk HX7.out 8
  have x9 : w7.cell? ⟨gx, 9, none⟩ = some (.string (strOf ps)) := cell_blk HX7.out 9
  have x10 : w7.cell? ⟨gx, 10, none⟩ = some (.slice pa pm pc) := cell_blk HX7.out 10
  have hlx := blk_lt HX7.out
  have y0 : w7.cell? ⟨gy, 0, none⟩ = some (.int .i64 id) := cell_blk HY7.out 0
  have y1 : w7.cell? ⟨gy, 1, none⟩ = some (.int .i64 y.tm) := cell_blk HY7.out 1
  have y2 : w7.cell? ⟨gy, 2, none⟩ = some (.int .i64 y.k) := cell_blk HY7.out 2
  have y3 : w7.cell? ⟨gy, 3, none⟩ = some (.int .i64 y.a) := cell_blk HY7.out 3
  have y4 : w7.cell? ⟨gy, 4, none⟩ = some (.int .i64 y.b) := cell_blk HY7.out 4
  have y5 : w7.cell? ⟨gy, 5, none⟩ = some (.string (strOf y.name)) := cell_blk HY7.out 5
  have y6 : w7.cell? ⟨gy, 6, none⟩ = some (.string (strOf y.text)) := cell_blk HY7.out 6
  have y7 : w7.cell? ⟨gy, 7, none⟩ = some (.int .i64 qk) := cell_blk HY7.out 7
  have y8 : w7.cell? ⟨gy, 8, none⟩ = some (.int .i64 qn) := cell_blk HY7.out 8
  have y9 : w7.cell? ⟨gy, 9, none⟩ = some (.string (strOf qs)) := cell_blk HY7.out 9
  have y10 : w7.cell? ⟨gy, 10, none⟩ = some (.slice qa qm qc) := cell_blk HY7.out 10
  have hly := blk_lt HY7.out
  go_cut [89] from 72 to 89 (fun v wx => v = .bool false ∧ Only (fun _ => False) w7 wx)
  case first =>
    go_region_held3 (fun W => W.cell? ⟨w.heap.size, 0, none⟩ = some (.int .i64 a.k) ∧ W.cell? ⟨w.heap.size, 1, none⟩ = some (.int .i64 a.tm) ∧ W.cell? ⟨w.heap.size, 2, none⟩ = some (.int .i64 a.a) ∧ W.cell? ⟨w.heap.size, 3, none⟩ = some (.int .i64 a.b) ∧ W.cell? ⟨w.heap.size, 4, none⟩ = some (.string (strOf a.name)) ∧ W.cell? ⟨w.heap.size, 5, none⟩ = some (.int .i64 vk) ∧ W.cell? ⟨w.heap.size, 6, none⟩ = some (.int .i64 vn) ∧ W.cell? ⟨w.heap.size, 7, none⟩ = some (.string (strOf vs)) ∧ W.cell? ⟨w.heap.size, 8, none⟩ = some (.slice va vm vc) ∧ W.cell? ⟨w.heap.size + 1, 0, none⟩ = some (.int .i64 b.k) ∧ W.cell? ⟨w.heap.size + 1, 1, none⟩ = some (.int .i64 b.tm) ∧ W.cell? ⟨w.heap.size + 1, 2, none⟩ = some (.int .i64 b.a) ∧ W.cell? ⟨w.heap.size + 1, 3, none⟩ = some (.int .i64 b.b) ∧ W.cell? ⟨w.heap.size + 1, 4, none⟩ = some (.string (strOf b.name)) ∧ W.cell? ⟨w.heap.size + 1, 5, none⟩ = some (.int .i64 uk) ∧ W.cell? ⟨w.heap.size + 1, 6, none⟩ = some (.int .i64 un) ∧ W.cell? ⟨w.heap.size + 1, 7, none⟩ = some (.string (strOf us)) ∧ W.cell? ⟨w.heap.size + 1, 8, none⟩ = some (.slice ua um uc) ∧ W.cell? ⟨gx, 0, none⟩ = some (.int .i64 id) ∧ W.cell? ⟨gx, 1, none⟩ = some (.int .i64 x.tm) ∧ W.cell? ⟨gx, 2, none⟩ = some (.int .i64 x.k) ∧ W.cell? ⟨gx, 3, none⟩ = some (.int .i64 x.a) ∧ W.cell? ⟨gx, 4, none⟩ = some (.int .i64 x.b) ∧ W.cell? ⟨gx, 5, none⟩ = some (.string (strOf x.name)) ∧ W.cell? ⟨gx, 6, none⟩ = some (.string (strOf x.text)) ∧ W.cell? ⟨gx, 7, none⟩ = some (.int .i64 pk) ∧ W.cell? ⟨gx, 8, none⟩ = some (.int .i64 pn) ∧ W.cell? ⟨gx, 9, none⟩ = some (.string (strOf ps)) ∧ W.cell? ⟨gx, 10, none⟩ = some (.slice pa pm pc) ∧ W.cell? ⟨gy, 0, none⟩ = some (.int .i64 id) ∧ W.cell? ⟨gy, 1, none⟩ = some (.int .i64 y.tm) ∧ W.cell? ⟨gy, 2, none⟩ = some (.int .i64 y.k) ∧ W.cell? ⟨gy, 3, none⟩ = some (.int .i64 y.a) ∧ W.cell? ⟨gy, 4, none⟩ = some (.int .i64 y.b) ∧ W.cell? ⟨gy, 5, none⟩ = some (.string (strOf y.name)) ∧ W.cell? ⟨gy, 6, none⟩ = some (.string (strOf y.text)) ∧ W.cell? ⟨gy, 7, none⟩ = some (.int .i64 qk) ∧ W.cell? ⟨gy, 8, none⟩ = some (.int .i64 qn) ∧ W.cell? ⟨gy, 9, none⟩ = some (.string (strOf qs)) ∧ W.cell? ⟨gy, 10, none⟩ = some (.slice qa qm qc))
      (first | with_reducible exact HSK.out | go_keep)
      (first
        | (go_at_call 15; (with_reducible refine HCN.out.mono ?_); rintro z wa ⟨rfl, hoa⟩; have hpa : Only (fun _ => False) w7 wa := HOX.out.trans hoa (fun _ _ e => e); have HSK := hid (HG9.out wa hpa); have HPA := hid hpa; have HCN := hid (HFA9.out wa hpa); clear hoa hpa)
        | (go_at_call 16; (with_reducible refine HCN.out.mono ?_); rintro z wb ⟨rfl, hob⟩; have hpb : Only (fun _ => False) w7 wb := HPA.out.trans hob (fun _ _ e => e); have HSK := hid (HG9.out wb hpb); have HPB := hid hpb; have HCN2 := hid (HFB9.out wb hpb); clear hob hpb)
        | (go_at_call 16; (with_reducible refine HCN2.out.mono ?_); rintro z wd ⟨rfl, hod⟩; have hpd : Only (fun _ => False) w7 wd := HPB.out.trans hod (fun _ _ e => e); have HSK := hid (HG9.out wd hpd); have HPD := hid hpd; have HCN := hid (HSM9.out wd hpd); clear hod hpd)
        | (go_at_call 8; (with_reducible refine HCN.out.mono ?_); rintro z we ⟨rfl, hoe⟩; have hpe : Only (fun _ => False) w7 we := HPD.out.trans hoe (fun _ _ e => e); have HSK := hid (HG9.out we hpe); have HPE := hid hpe; clear hoe hpe))
    all_goals
      go_wp2_with fail
      go_meet
      case rel => exact ⟨rfl, HPE.out⟩
  case rest =>
  obtain ⟨rfl, hoc⟩ := hcut
  obtain ⟨w8, hw8⟩ : ∃ x, x = wc := ⟨wc, rfl⟩
  subst hw8
  have HP8 := hid hoc
  have HBA8 := hid (blk_only HBA7.out hoc (fun e => e)); have HBB8 := hid (blk_only HBB7.out hoc (fun e => e)); have HX8 := hid (blk_only HX7.out hoc (fun e => e))
  clear hoc
  clear c0 c1 c2 c3 c4 c5 c6 c7 c8 hlc d0 d1 d2 d3 d4 d5 d6 d7 d8 hld x0 x1 x2 x3 x4 x5 x6 x7 x8 x9 x10 hlx y0 y1 y2 y3 y4 y5 y6 y7 y8 y9 y10 hly
  have c0 : w8.cell? ⟨w.heap.size, 0, none⟩ = some (.int .i64 a.k) := cell_blk HBA8.out 0
  have c1 : w8.cell? ⟨w.heap.size, 1, none⟩ = some (.int .i64 a.tm) := cell_blk HBA8.out 1
  have c2 : w8.cell? ⟨w.heap.size, 2, none⟩ = some (.int .i64 a.a) := cell_blk HBA8.out 2
  have c3 : w8.cell? ⟨w.heap.size, 3, none⟩ = some (.int .i64 a.b) := cell_blk HBA8.out 3
  have c4 : w8.cell? ⟨w.heap.size, 4, none⟩ = some (.string (strOf a.name)) := cell_blk HBA8.out 4
  have c5 : w8.cell? ⟨w.heap.size, 5, none⟩ = some (.int .i64 vk) := cell_blk HBA8.out 5
  have c6 : w8.cell? ⟨w.heap.size, 6, none⟩ = some (.int .i64 vn) := cell_blk HBA8.out 6
  have c7 : w8.cell? ⟨w.heap.size, 7, none⟩ = some (.string (strOf vs)) := cell_blk HBA8.out 7
  have c8 : w8.cell? ⟨w.heap.size, 8, none⟩ = some (.slice va vm vc) := cell_blk HBA8.out 8
  have hlc := blk_lt HBA8.out
  have d0 : w8.cell? ⟨w.heap.size + 1, 0, none⟩ = some (.int .i64 b.k) := cell_blk HBB8.out 0
  have d1 : w8.cell? ⟨w.heap.size + 1, 1, none⟩ = some (.int .i64 b.tm) := cell_blk HBB8.out 1
  have d2 : w8.cell? ⟨w.heap.size + 1, 2, none⟩ = some (.int .i64 b.a) := cell_blk HBB8.out 2
  have d3 : w8.cell? ⟨w.heap.size + 1, 3, none⟩ = some (.int .i64 b.b) := cell_blk HBB8.out 3
  have d4 : w8.cell? ⟨w.heap.size + 1, 4, none⟩ = some (.string (strOf b.name)) := cell_blk HBB8.out 4
  have d5 : w8.cell? ⟨w.heap.size + 1, 5, none⟩ = some (.int .i64 uk) := cell_blk HBB8.out 5
  have d6 : w8.cell? ⟨w.heap.size + 1, 6, none⟩ = some (.int .i64 un) := cell_blk HBB8.out 6
  have d7 : w8.cell? ⟨w.heap.size + 1, 7, none⟩ = some (.string (strOf us)) := cell_blk HBB8.out 7
  have d8 : w8.cell? ⟨w.heap.size + 1, 8, none⟩ = some (.slice ua um uc) := cell_blk HBB8.out 8
  have hld := blk_lt HBB8.out
  have x0 : w8.cell? ⟨gx, 0, none⟩ = some (.int .i64 id) := cell_blk HX8.out 0
  have x1 : w8.cell? ⟨gx, 1, none⟩ = some (.int .i64 x.tm) := cell_blk HX8.out 1
  have x2 : w8.cell? ⟨gx, 2, none⟩ = some (.int .i64 x.k) := cell_blk HX8.out 2
  have x3 : w8.cell? ⟨gx, 3, none⟩ = some (.int .i64 x.a) := cell_blk HX8.out 3
  have x4 : w8.cell? ⟨gx, 4, none⟩ = some (.int .i64 x.b) := cell_blk HX8.out 4
  have x5 : w8.cell? ⟨gx, 5, none⟩ = some (.string (strOf x.name)) := cell_blk HX8.out 5
  have x6 : w8.cell? ⟨gx, 6, none⟩ = some (.string (strOf x.text)) := cell_blk HX8.out 6
  have x7 : w8.cell? ⟨gx, 7, none⟩ = some (.int .i64 pk) := cell_blk HX8.out 7
  have x8 : w8.cell? ⟨gx, 8, none⟩ = some (.int .i64 pn) := cell_blk HX8.out 8
  have x9 : w8.cell? ⟨gx, 9, none⟩ = some (.string (strOf ps)) := cell_blk HX8.out 9
  have x10 : w8.cell? ⟨gx, 10, none⟩ = some (.slice pa pm pc) := cell_blk HX8.out 10
  have hlx := blk_lt HX8.out
  have HCF := hid (HFB9.out w8 HP8.out)
  go_wp2_with fail
  refine HCF.out.mono ?_
  rintro z w9 ⟨rfl, ho9⟩
  have HP9 := hid (HP8.out.trans ho9 (fun _ _ e => e))
  have HBA9 := hid (blk_only HBA8.out ho9 (fun e => e)); have HBB9 := hid (blk_only HBB8.out ho9 (fun e => e)); have HX9 := hid (blk_only HX8.out ho9 (fun e => e))
  have HSC := hid (HSS.out w9 HP9.out)
  clear ho9 HCF
  clear c0 c1 c2 c3 c4 c5 c6 c7 c8 hlc d0 d1 d2 d3 d4 d5 d6 d7 d8 hld x0 x1 x2 x3 x4 x5 x6 x7 x8 x9 x10 hlx
  have c0 : w9.cell? ⟨w.heap.size, 0, none⟩ = some (.int .i64 a.k) := cell_blk HBA9.out 0
  have c1 : w9.cell? ⟨w.heap.size, 1, none⟩ = some (.int .i64 a.tm) := cell_blk HBA9.out 1
  have c2 : w9.cell? ⟨w.heap.size, 2, none⟩ = some (.int .i64 a.a) := cell_blk HBA9.out 2
  have c3 : w9.cell? ⟨w.heap.size, 3, none⟩ = some (.int .i64 a.b) := cell_blk HBA9.out 3
  have c4 : w9.cell? ⟨w.heap.size, 4, none⟩ = some (.string (strOf a.name)) := cell_blk HBA9.out 4
  have c5 : w9.cell? ⟨w.heap.size, 5, none⟩ = some (.int .i64 vk) := cell_blk HBA9.out 5
  have c6 : w9.cell? ⟨w.heap.size, 6, none⟩ = some (.int .i64 vn) := cell_blk HBA9.out 6
  have c7 : w9.cell? ⟨w.heap.size, 7, none⟩ = some (.string (strOf vs)) := cell_blk HBA9.out 7
  have c8 : w9.cell? ⟨w.heap.size, 8, none⟩ = some (.slice va vm vc) := cell_blk HBA9.out 8
  have hlc := blk_lt HBA9.out
  have d0 : w9.cell? ⟨w.heap.size + 1, 0, none⟩ = some (.int .i64 b.k) := cell_blk HBB9.out 0
  have d1 : w9.cell? ⟨w.heap.size + 1, 1, none⟩ = some (.int .i64 b.tm) := cell_blk HBB9.out 1
  have d2 : w9.cell? ⟨w.heap.size + 1, 2, none⟩ = some (.int .i64 b.a) := cell_blk HBB9.out 2
  have d3 : w9.cell? ⟨w.heap.size + 1, 3, none⟩ = some (.int .i64 b.b) := cell_blk HBB9.out 3
  have d4 : w9.cell? ⟨w.heap.size + 1, 4, none⟩ = some (.string (strOf b.name)) := cell_blk HBB9.out 4
  have d5 : w9.cell? ⟨w.heap.size + 1, 5, none⟩ = some (.int .i64 uk) := cell_blk HBB9.out 5
  have d6 : w9.cell? ⟨w.heap.size + 1, 6, none⟩ = some (.int .i64 un) := cell_blk HBB9.out 6
  have d7 : w9.cell? ⟨w.heap.size + 1, 7, none⟩ = some (.string (strOf us)) := cell_blk HBB9.out 7
  have d8 : w9.cell? ⟨w.heap.size + 1, 8, none⟩ = some (.slice ua um uc) := cell_blk HBB9.out 8
  have hld := blk_lt HBB9.out
  have x0 : w9.cell? ⟨gx, 0, none⟩ = some (.int .i64 id) := cell_blk HX9.out 0
  have x1 : w9.cell? ⟨gx, 1, none⟩ = some (.int .i64 x.tm) := cell_blk HX9.out 1
  have x2 : w9.cell? ⟨gx, 2, none⟩ = some (.int .i64 x.k) := cell_blk HX9.out 2
  have x3 : w9.cell? ⟨gx, 3, none⟩ = some (.int .i64 x.a) := cell_blk HX9.out 3
  have x4 : w9.cell? ⟨gx, 4, none⟩ = some (.int .i64 x.b) := cell_blk HX9.out 4
  have x5 : w9.cell? ⟨gx, 5, none⟩ = some (.string (strOf x.name)) := cell_blk HX9.out 5
  have x6 : w9.cell? ⟨gx, 6, none⟩ = some (.string (strOf x.text)) := cell_blk HX9.out 6
  have x7 : w9.cell? ⟨gx, 7, none⟩ = some (.int .i64 pk) := cell_blk HX9.out 7
  have x8 : w9.cell? ⟨gx, 8, none⟩ = some (.int .i64 pn) := cell_blk HX9.out 8
  have x9 : w9.cell? ⟨gx, 9, none⟩ = some (.string (strOf ps)) := cell_blk HX9.out 9
  have x10 : w9.cell? ⟨gx, 10, none⟩ = some (.slice pa pm pc) := cell_blk HX9.out 10
  have hlx := blk_lt HX9.out
  obtain ⟨sb, hsb⟩ : ∃ z, a.same b = z := ⟨_, rfl⟩
  rw [hsb] at HSC
  have hsi := same_iff a b
  rw [hsb] at hsi
  have HSI := hid hsi
  clear hsb hsi
  cases fb with
  | false =>
    obtain rfl : sb = false := by
      cases sb with
      | false => rfl
      | true => have := HFBI.out.2 (HCG.out (HSI.out.1 rfl)).symm; cases this
    go_wp2_with fail
    refine HSC.out.mono ?_
    rintro z w10 ⟨rfl, ho10⟩
    have HO10 := hid (HO7.out.trans (HP9.out.trans ho10 (fun _ _ e => e)) (fun _ _ e => e))
    clear ho10
    go_wp2_with fail
    go_ret
    exact ⟨rfl, HO10.out⟩
  | true =>
    cases sb with
    | true =>
      go_wp2_with fail
      refine HSC.out.mono ?_
      rintro z w10 ⟨rfl, ho10⟩
      have HO10 := hid (HO7.out.trans (HP9.out.trans ho10 (fun _ _ e => e)) (fun _ _ e => e))
      clear ho10
      go_wp2_with fail
      go_ret
      exact ⟨rfl, HO10.out⟩
    | false =>
      have hk1 : a.k = 1 ∧ x.b = 4611686018427387903 := by
        rcases HSMM.out (HFBI.out.1 rfl).symm with h | h
        · have := HSI.out.2 h; cases this
        · exact h
      have qk : (a.k == 1) = true := by rw [hk1.1]; rfl
      have qb : (x.b == 4611686018427387903) = true := by rw [hk1.2]; rfl
      clear hk1
      go_wp2_with fail
      refine HSC.out.mono ?_
      rintro z w10 ⟨rfl, ho10⟩
      have HO10 := hid (HO7.out.trans (HP9.out.trans ho10 (fun _ _ e => e)) (fun _ _ e => e))
      have HBAx := hid (blk_only HBA9.out ho10 (fun e => e)); have HXx := hid (blk_only HX9.out ho10 (fun e => e))
      clear ho10
      clear c0 c1 c2 c3 c4 c5 c6 c7 c8 hlc d0 d1 d2 d3 d4 d5 d6 d7 d8 hld x0 x1 x2 x3 x4 x5 x6 x7 x8 x9 x10 hlx
      have c0 : w10.cell? ⟨w.heap.size, 0, none⟩ = some (.int .i64 a.k) := cell_blk HBAx.out 0
      have c1 : w10.cell? ⟨w.heap.size, 1, none⟩ = some (.int .i64 a.tm) := cell_blk HBAx.out 1
      have c2 : w10.cell? ⟨w.heap.size, 2, none⟩ = some (.int .i64 a.a) := cell_blk HBAx.out 2
      have c3 : w10.cell? ⟨w.heap.size, 3, none⟩ = some (.int .i64 a.b) := cell_blk HBAx.out 3
      have c4 : w10.cell? ⟨w.heap.size, 4, none⟩ = some (.string (strOf a.name)) := cell_blk HBAx.out 4
      have c5 : w10.cell? ⟨w.heap.size, 5, none⟩ = some (.int .i64 vk) := cell_blk HBAx.out 5
      have c6 : w10.cell? ⟨w.heap.size, 6, none⟩ = some (.int .i64 vn) := cell_blk HBAx.out 6
      have c7 : w10.cell? ⟨w.heap.size, 7, none⟩ = some (.string (strOf vs)) := cell_blk HBAx.out 7
      have c8 : w10.cell? ⟨w.heap.size, 8, none⟩ = some (.slice va vm vc) := cell_blk HBAx.out 8
      have hlc := blk_lt HBAx.out
      have x0 : w10.cell? ⟨gx, 0, none⟩ = some (.int .i64 id) := cell_blk HXx.out 0
      have x1 : w10.cell? ⟨gx, 1, none⟩ = some (.int .i64 x.tm) := cell_blk HXx.out 1
      have x2 : w10.cell? ⟨gx, 2, none⟩ = some (.int .i64 x.k) := cell_blk HXx.out 2
      have x3 : w10.cell? ⟨gx, 3, none⟩ = some (.int .i64 x.a) := cell_blk HXx.out 3
      have x4 : w10.cell? ⟨gx, 4, none⟩ = some (.int .i64 x.b) := cell_blk HXx.out 4
      have x5 : w10.cell? ⟨gx, 5, none⟩ = some (.string (strOf x.name)) := cell_blk HXx.out 5
      have x6 : w10.cell? ⟨gx, 6, none⟩ = some (.string (strOf x.text)) := cell_blk HXx.out 6
      have x7 : w10.cell? ⟨gx, 7, none⟩ = some (.int .i64 pk) := cell_blk HXx.out 7
      have x8 : w10.cell? ⟨gx, 8, none⟩ = some (.int .i64 pn) := cell_blk HXx.out 8
      have x9 : w10.cell? ⟨gx, 9, none⟩ = some (.string (strOf ps)) := cell_blk HXx.out 9
      have x10 : w10.cell? ⟨gx, 10, none⟩ = some (.slice pa pm pc) := cell_blk HXx.out 10
      have hlx := blk_lt HXx.out
      go_wp2_with fail
      go_ret
      exact ⟨rfl, HO10.out⟩
end
end Go.Proofs.YtihidpfkdpjdpaaGreatDoor
