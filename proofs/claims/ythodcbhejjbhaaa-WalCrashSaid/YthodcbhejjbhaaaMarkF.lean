/- A mark is put. -/
import Derived.Test.YthodcbhejjbhaaaMarkE
import Derived.Test.YthodcbhejjbhaaaDiskF
import Derived.Test.YthodcbhejjbhaaaDiskX
import Derived.Deep.DrawnRows
namespace Go.Proofs.Ythodcbhejjbhaaa
open Go.RowKit

def mkMark (s : Nat) (xs : List Nat) : MarkM := ⟨s, xs.getD 0 0, xs.getD 1 0, xs.getD 2 0, xs.getD 3 0, xs.getD 4 0, xs.getD 5 0⟩
def nextSeq (last top : Nat) : Nat := if 0 < last ∧ (top + 1) % 2 = last % 2 then top + 2 else top + 1
def nat64 (xs : List Nat) : List Value := xs.map fun x => Value.int .u64 (x : Nat)
@[simp] theorem length_nat64 (xs : List Nat) : (nat64 xs).length = xs.length := by simp [nat64]
def topMax : Nat := 18446744073709551613
def putMark (D : DiskM) (first : Int) (xs : List Nat) : MarkM := mkMark (nextSeq (lookR D first).1.s (lookR D first).2.1) xs
/-- A mark is put: the disk then, the mark, the error. -/
def putGo (D : DiskM) (first : Int) (m : MarkM) : DiskM × MarkM × Int :=
  if (D.write (first + (m.s % 2 : Nat)) (enc m)).2 ≠ 0 then ((D.write (first + (m.s % 2 : Nat)) (enc m)).1, MarkM.zero, (D.write (first + (m.s % 2 : Nat)) (enc m)).2)
  else if (D.write (first + (m.s % 2 : Nat)) (enc m)).1.flush.2 ≠ 0 then ((D.write (first + (m.s % 2 : Nat)) (enc m)).1.flush.1, MarkM.zero, (D.write (first + (m.s % 2 : Nat)) (enc m)).1.flush.2)
  else ((D.write (first + (m.s % 2 : Nat)) (enc m)).1.flush.1, m, 0)
def putR (D : DiskM) (first : Int) (xs : List Nat) : DiskM × MarkM × Int :=
  if (lookR D first).2.2 ≠ 0 then (D, MarkM.zero, (lookR D first).2.2)
  else if 6 < xs.length then (D, MarkM.zero, 2)
  else if topMax < (lookR D first).2.1 then (D, MarkM.zero, 3)
  else putGo D first (putMark D first xs)

theorem lay_mark (s : Nat) (xs : List Nat) (h : xs.length ≤ 6) : lay [Value.int .u64 (s : Nat), .int .u64 0, .int .u64 0, .int .u64 0, .int .u64 0, .int .u64 0, .int .u64 0] 1 (nat64 xs) = (mkMark s xs).V.toList := by
  match xs, h with
  | [], _ => rfl
  | [a], _ => rfl
  | [a, b], _ => rfl
  | [a, b, c], _ => rfl
  | [a, b, c, d], _ => rfl
  | [a, b, c, d, e], _ => rfl
  | [a, b, c, d, e, f], _ => rfl
  | _ :: _ :: _ :: _ :: _ :: _ :: _ :: l, h => simp at h
theorem mk_ok (s : Nat) (xs : List Nat) (hs : s < 18446744073709551616) (h : ∀ x ∈ xs, x < 18446744073709551616) : (mkMark s xs).ok := by
  have hg : ∀ i, xs.getD i 0 < 18446744073709551616 := fun i => by
    rw [List.getD_eq_getElem?_getD]
    cases hi : xs[i]? with
    | none => simp
    | some x => exact h x (List.mem_of_getElem? hi)
  intro n hn
  simp only [mkMark, MarkM.nums, List.mem_cons, List.not_mem_nil, or_false] at hn
  rcases hn with rfl | rfl | rfl | rfl | rfl | rfl | rfl
  · exact hs
  all_goals exact hg _

theorem set_first {w : World} {b : Nat} {a0 a1 a2 a3 a4 a5 a6 : Value} {T : TypeId} (h : w.heap[b]? = some (.cells #[a0, a1, a2, a3, a4, a5, a6] T (0, 0))) (v : Value) : (w.setCell ⟨b, 0, none⟩ v).heap[b]? = some (.cells #[v, a1, a2, a3, a4, a5, a6] T (0, 0)) := by
  have h0 := blk_set h 0 v
  simp only [List.setIfInBounds_toArray, List.set_cons_zero] at h0
  exact h0

section
variable {w : World} {b : Nat} {D : DiskM} {F : Nat → Prop}
set_option maxRecDepth 100000 in
set_option maxHeartbeats 1600000 in
theorem put_no (h : DiskAt w b D F) (first : Int) (hf : first ≤ 9223372036854775807) (v : Value) (xs : List Nat) (hv : SrcV w v (nat64 xs)) (hxl : xs.length ≤ 9223372036854775807)
    (hno : (lookR D first).2.2 ≠ 0 ∨ 6 < xs.length ∨ topMax < (lookR D first).2.1) :
    Calls Try.prog 61 #[.pointer (some ⟨b, 0, none⟩), .int .i64 first, v] w fun e w' => e = .returned (.tuple #[.agg MarkM.zero.V, .int .i64 (putR D first xs).2.2]) ∧ Only (fun _ => False) w w' ∧ (putR D first xs).1 = D ∧ (putR D first xs).2.1 = MarkM.zero := by
  have HA : ∀ ob, Hid (DiskAt (w.alloc ob) b D F) := fun ob => hid (h.only ((Only.refl (fun _ => False) w).alloc ob) (fun _ _ e => e))
  clear h
  obtain ⟨a, c, rfl, -⟩ := hv
  rw [length_nat64]
  have HLk := fun ob => hid (look_c (HA ob).out first hf)
  obtain ⟨G, hG⟩ : ∃ G, putR D first xs = G := ⟨_, rfl⟩
  have hG1 := hG
  unfold putR at hG1
  rw [hG]
  obtain ⟨m, hm⟩ : ∃ m, (lookR D first).1 = m := ⟨_, rfl⟩
  obtain ⟨top, htop⟩ : ∃ top, (lookR D first).2.1 = top := ⟨_, rfl⟩
  obtain ⟨err, herr⟩ : ∃ err, (lookR D first).2.2 = err := ⟨_, rfl⟩
  rw [herr, htop] at hG1 hno
  simp only [hm, htop, herr] at HLk
  clear hG hm htop herr
  have HS : ∀ w2 : World, Only (fun _ => False) (w.alloc (.cells MarkM.zero.V 85)) w2 → Hid (w2.heap[w.heap.size]? = some (.cells MarkM.zero.V 85 (0, 0))) := fun w2 ho => hid ((ho.block w.heap.size (by simp) (fun e => e)).trans (blk_new w _))
  by_cases he : err = 0
  · have he1 : (err == 0) = true := by simpa using he
    rw [if_neg (by simpa using he)] at hG1
    by_cases hx : 6 < (xs.length : Int)
    · rw [if_pos (by omega)] at hG1
      have HG2 := hid hG1
      clear hG1 hno he
      go_enter Try.func61, Try.ntmps61
      go_wp2_with (first | (go_at_call 50; refine (HLk _).out.mono ?_; rintro e w2 ⟨rfl, ho2⟩; have Hb2 := HS w2 ho2; have Ho2 := hid ho2; clear ho2) | (refine wpList_store_all rfl 85 (.tmp 8) (.tmp 18) rfl w2.heap.size m.V rfl rfl MarkM.zero.V 85 (blk_new w2 _) rfl info_mark (V_one _) ?_; intro w3 hb3 ho3 hs3; have c0 : w3.cell? ⟨w2.heap.size, 0, none⟩ = some (.int .u64 m.s) := cell_blk hb3 0; have Hb3 := hid hb3; have Hb3' := hid ((ho3.block w.heap.size (blk_lt (blk_alloc Hb2.out)) (by show ¬ w.heap.size = w2.heap.size; have := blk_lt Hb2.out; omega)).trans (blk_alloc Hb2.out)); have Ho3 := hid (Ho2.out.trans (((Only.refl (fun _ => False) w2).alloc _).trans ho3 (fun k hk e => by have e' : k = w2.heap.size := e; omega)) (fun _ _ e => e)); clear hb3 ho3 hs3) | (refine wpList_store_all rfl 85 (.tmp 6) (.tmp 30) rfl w.heap.size MarkM.zero.V rfl rfl MarkM.zero.V 85 Hb3'.out rfl info_mark (V_one _) ?_; intro w4 hb4 ho4 hs4; have Hb4 := hid hb4; have Ho4 := hid ho4; clear hb4 ho4 hs4))
      refine bodyPost_ret (results_cell1 (q := 7) rfl _ _ w.heap.size 85 MarkM.zero.V _ _ rfl Hb4.out Try.underlying85 rfl info_mark) rfl ⟨by rw [← HG2.out]; rfl, ?_, by rw [← HG2.out], by rw [← HG2.out]⟩
      exact (((Only.refl _ w).alloc _).trans Ho3.out (fun _ _ e => e)).trans Ho4.out (fun k hk e => absurd hk (by rw [e]; exact Nat.lt_irrefl _))
    · rw [if_neg (by omega), if_pos (by rcases hno with h | h | h; exact absurd he h; omega; exact h)] at hG1
      have HG2 := hid hG1
      have htop : ((18446744073709551613 : Int) < (top : Int)) := by
        have : topMax < top := by rcases hno with h | h | h; exact absurd he h; omega; exact h
        unfold topMax at this; omega
      clear hG1 hno he
      go_enter Try.func61, Try.ntmps61
      go_wp2_with (first | (go_at_call 50; refine (HLk _).out.mono ?_; rintro e w2 ⟨rfl, ho2⟩; have Hb2 := HS w2 ho2; have Ho2 := hid ho2; clear ho2) | (refine wpList_store_all rfl 85 (.tmp 8) (.tmp 18) rfl w2.heap.size m.V rfl rfl MarkM.zero.V 85 (blk_new w2 _) rfl info_mark (V_one _) ?_; intro w3 hb3 ho3 hs3; have c0 : w3.cell? ⟨w2.heap.size, 0, none⟩ = some (.int .u64 m.s) := cell_blk hb3 0; have Hb3 := hid hb3; have Hb3' := hid ((ho3.block w.heap.size (blk_lt (blk_alloc Hb2.out)) (by show ¬ w.heap.size = w2.heap.size; have := blk_lt Hb2.out; omega)).trans (blk_alloc Hb2.out)); have Ho3 := hid (Ho2.out.trans (((Only.refl (fun _ => False) w2).alloc _).trans ho3 (fun k hk e => by have e' : k = w2.heap.size := e; omega)) (fun _ _ e => e)); clear hb3 ho3 hs3) | (refine wpList_store_all rfl 85 (.tmp 6) (.tmp 34) rfl w.heap.size MarkM.zero.V rfl rfl MarkM.zero.V 85 Hb3'.out rfl info_mark (V_one _) ?_; intro w4 hb4 ho4 hs4; have Hb4 := hid hb4; have Ho4 := hid ho4; clear hb4 ho4 hs4))
      refine bodyPost_ret (results_cell1 (q := 7) rfl _ _ w.heap.size 85 MarkM.zero.V _ _ rfl Hb4.out Try.underlying85 rfl info_mark) rfl ⟨by rw [← HG2.out]; rfl, ?_, by rw [← HG2.out], by rw [← HG2.out]⟩
      exact (((Only.refl _ w).alloc _).trans Ho3.out (fun _ _ e => e)).trans Ho4.out (fun k hk e => absurd hk (by rw [e]; exact Nat.lt_irrefl _))
  · have he1 : (err == 0) = false := by simpa using he
    rw [if_pos (by simpa using he)] at hG1
    have HG2 := hid hG1
    clear hG1 hno
    go_enter Try.func61, Try.ntmps61
    go_wp2_with (first | (go_at_call 50; refine (HLk _).out.mono ?_; rintro e w2 ⟨rfl, ho2⟩; have Hb2 := HS w2 ho2; have Ho2 := hid ho2; clear ho2) | (refine wpList_store_all rfl 85 (.tmp 8) (.tmp 18) rfl w2.heap.size m.V rfl rfl MarkM.zero.V 85 (blk_new w2 _) rfl info_mark (V_one _) ?_; intro w3 hb3 ho3 hs3; have c0 : w3.cell? ⟨w2.heap.size, 0, none⟩ = some (.int .u64 m.s) := cell_blk hb3 0; have Hb3 := hid hb3; have Hb3' := hid ((ho3.block w.heap.size (blk_lt (blk_alloc Hb2.out)) (by show ¬ w.heap.size = w2.heap.size; have := blk_lt Hb2.out; omega)).trans (blk_alloc Hb2.out)); have Ho3 := hid (Ho2.out.trans (((Only.refl (fun _ => False) w2).alloc _).trans ho3 (fun k hk e => by have e' : k = w2.heap.size := e; omega)) (fun _ _ e => e)); clear hb3 ho3 hs3) | (refine wpList_store_all rfl 85 (.tmp 6) (.tmp 24) rfl w.heap.size MarkM.zero.V rfl rfl MarkM.zero.V 85 Hb3'.out rfl info_mark (V_one _) ?_; intro w4 hb4 ho4 hs4; have Hb4 := hid hb4; have Ho4 := hid ho4; clear hb4 ho4 hs4))
    refine bodyPost_ret (results_cell1 (q := 7) rfl _ _ w.heap.size 85 MarkM.zero.V _ _ rfl Hb4.out Try.underlying85 rfl info_mark) rfl ⟨by rw [← HG2.out]; rfl, ?_, by rw [← HG2.out], by rw [← HG2.out]⟩
    exact (((Only.refl _ w).alloc _).trans Ho3.out (fun _ _ e => e)).trans Ho4.out (fun k hk e => absurd hk (by rw [e]; exact Nat.lt_irrefl _))

theorem blkMark {w : World} {g : Nat} {s : Int} {n : Nat} {xs : List Nat} (hs : s = n) (h6 : xs.length ≤ 6) (h : w.heap[g]? = some (.cells (lay (#[.int .u64 s, .int .u64 0, .int .u64 0, .int .u64 0, .int .u64 0, .int .u64 0, .int .u64 0] : Array Value).toList 1 (nat64 xs)).toArray 85 (0, 0))) : w.heap[g]? = some (.cells (mkMark n xs).V 85 (0, 0)) := by
  subst hs
  rw [h]
  have := lay_mark n xs h6
  simp only [this, Array.toArray_toList]

/-- What stands behind the write: the disk, and two blocks of the call's own. -/
structure PutW (w w8 : World) (b : Nat) (WD : DiskM) (F F8 : Nat → Prop) (g1 g2 : Nat) (o1 o2 : Obj) : Prop where
  disk : DiskAt w8 b WD F8
  only : Only F w w8
  new : ∀ k, F8 k → F k ∨ w.heap.size ≤ k
  n1 : ¬ F8 g1
  n2 : ¬ F8 g2
  b1 : w8.heap[g1]? = some o1
  b2 : w8.heap[g2]? = some o2
  l1 : w.heap.size ≤ g1
theorem PutW.mk' {w w7 w8 : World} {b : Nat} {WD : DiskM} {F : Nat → Prop} {g1 g2 : Nat} {o1 o2 : Obj} (h : DStep w7 w8 b WD F) (ho : Only (fun _ => False) w w7) (hlt : ∀ k, F k → k < w.heap.size) (l1 : w.heap.size ≤ g1) (l2 : w.heap.size ≤ g2) (h1 : w7.heap[g1]? = some o1) (h2 : w7.heap[g2]? = some o2) :
    ∃ F8, PutW w w8 b WD F F8 g1 g2 o1 o2 := by
  obtain ⟨F8, hd, hon, hn⟩ := h
  have n1 : ¬ F g1 := fun e => by have := hlt _ e; omega
  have n2 : ¬ F g2 := fun e => by have := hlt _ e; omega
  refine ⟨F8, hd, (ho.mono (fun _ _ e => e.elim)).trans hon (fun _ _ e => e), fun k hk => ?_, fun e => ?_, fun e => ?_, blk_only h1 hon n1, blk_only h2 hon n2, l1⟩
  · rcases hn k hk with e | e
    · exact .inl e
    · have := ho.size; exact .inr (by omega)
  · rcases hn _ e with e | e
    · exact n1 e
    · have := blk_lt h1; omega
  · rcases hn _ e with e | e
    · exact n2 e
    · have := blk_lt h2; omega
theorem PutW.step {w w8 w9 : World} {b : Nat} {WD WD' : DiskM} {F F8 : Nat → Prop} {g1 g2 : Nat} {o1 o2 : Obj} (h : PutW w w8 b WD F F8 g1 g2 o1 o2) (hd : DiskAt w9 b WD' F8) (hon : Only F8 w8 w9) : PutW w w9 b WD' F F8 g1 g2 o1 o2 :=
  ⟨hd, h.only.trans hon (fun k hk e => (h.new k e).resolve_right (by omega)), h.new, h.n1, h.n2, blk_only h.b1 hon h.n1, blk_only h.b2 hon h.n2, h.l1⟩
theorem PutW.done {w w8 w9 : World} {b : Nat} {WD : DiskM} {F F8 : Nat → Prop} {g1 g2 : Nat} {o1 o2 : Obj} (h : PutW w w8 b WD F F8 g1 g2 o1 o2) (ho : Only (fun k => k = g1) w8 w9) : DStep w w9 b WD F :=
  ⟨F8, h.disk.only ho (fun k hk e => h.n1 (by have e' : k = g1 := e; rw [← e']; exact hk)), h.only.trans ho (fun k hk e => by have e' : k = g1 := e; have := h.l1; omega), h.new⟩

set_option maxRecDepth 100000 in
set_option maxHeartbeats 6400000 in
theorem put_go (h : DiskAt w b D F) (first : Nat) (hf : (first : Int) + 1 < D.n) (v : Value) (xs : List Nat) (hv : SrcV w v (nat64 xs)) (hx6 : xs.length ≤ 6) (hxs : ∀ x ∈ xs, x < 18446744073709551616)
    (he : (lookR D first).2.2 = 0) (ht : (lookR D first).2.1 ≤ topMax) :
    Calls Try.prog 61 #[.pointer (some ⟨b, 0, none⟩), .int .i64 first, v] w fun e w' => e = .returned (.tuple #[.agg (putGo D first (putMark D first xs)).2.1.V, .int .i64 (putGo D first (putMark D first xs)).2.2]) ∧ DStep w w' b (putGo D first (putMark D first xs)).1 F := by
  have HW : ∀ w1, Only (fun _ => False) w w1 → Hid (DiskAt w1 b D F) := fun w1 ho => hid (h.only ho (fun _ _ e => e))
  have Hlt : Hid (∀ k, F k → k < w.heap.size) := hid (fun k hk => h.lt hk)
  have hn0 := h.n0
  have HLk := fun ob => hid (look_c (HW (w.alloc ob) ((Only.refl _ _).alloc ob)).out first (by omega))
  clear h
  have HV := hid hv
  obtain ⟨va, vc, rfl, hva⟩ := hv
  rw [length_nat64] at HV ⊢
  clear hva
  obtain ⟨last, hm⟩ : ∃ m, (lookR D first).1 = m := ⟨_, rfl⟩
  obtain ⟨top, htop⟩ : ∃ top, (lookR D first).2.1 = top := ⟨_, rfl⟩
  rw [htop] at ht
  simp only [hm, htop, he] at HLk
  have hmk : putMark D first xs = mkMark (nextSeq last.s top) xs := by unfold putMark; rw [hm, htop]
  rw [hmk]
  clear hmk hm htop he
  unfold topMax at ht
  have Hxs := hid hxs
  clear hxs
  have HS : ∀ w2 : World, Only (fun _ => False) (w.alloc (.cells MarkM.zero.V 85)) w2 → Hid (w2.heap[w.heap.size]? = some (.cells MarkM.zero.V 85 (0, 0))) := fun w2 ho => hid ((ho.block w.heap.size (by simp) (fun e => e)).trans (blk_new w _))
  have HVs : ∀ w1, Only (fun _ => False) w w1 → 0 < (nat64 xs).length → ∃ ad, va = some ad ∧ ∀ j u, (nat64 xs)[j]? = some u → w1.cell? (ad.add j) = some u := fun w1 ho hpos => by
    obtain ⟨a, c, e, hc⟩ := HV.out
    simp only [Value.slice.injEq] at e
    obtain ⟨rfl, -, -⟩ := e
    obtain ⟨g, o, rfl, hc2⟩ := hc (List.length_pos_iff.1 hpos)
    refine ⟨_, rfl, fun j u hu => ?_⟩
    rw [addr_add]
    have h1 := hc2 j u hu
    exact (World.cell?_of_block (ho.block g (World.block_lt_of_cell? _ _ h1) (fun e => e))).trans h1
  have HVs := hid HVs
  have hnt : ¬ ((18446744073709551613 : Int) < (top : Int)) := by omega
  clear ht
  by_cases h0 : 0 < last.s
  · by_cases hp : (top + 1) % 2 = last.s % 2
    · have hq : (((top : Int) + 1) % 2 == (last.s : Int) % 2) = true := by rw [beq_iff_eq]; omega
      have hsq : nextSeq last.s top = top + 2 := if_pos ⟨h0, hp⟩
      obtain ⟨m, hmm⟩ : ∃ m, mkMark (top + 2) xs = m := ⟨_, rfl⟩
      rw [hsq, hmm]
      have Hmm := hid hmm
      clear hp hsq hmm
      go_enter Try.func61, Try.ntmps61
      go_wp2_with (first | (go_at_call 50; refine (HLk _).out.mono ?_; rintro e w2 ⟨rfl, ho2⟩; have Hb2 := HS w2 ho2; have Ho2 : Hid (Only (fun _ => False) w w2) := hid (((Only.refl (fun _ => False) w).alloc _).trans ho2 (fun _ _ e => e)); clear ho2) | (refine wpList_store_all rfl 85 (.tmp 8) (.tmp 18) rfl w2.heap.size last.V rfl rfl MarkM.zero.V 85 (blk_new w2 _) rfl info_mark (V_one _) ?_; intro w3 hb3 ho3 hs3; have c0 : w3.cell? ⟨w2.heap.size, 0, none⟩ = some (.int .u64 last.s) := cell_blk hb3 0; have Hb3 := hid hb3; have Hb3' := hid ((ho3.block w.heap.size (blk_lt (blk_alloc Hb2.out)) (by show ¬ w.heap.size = w2.heap.size; have := blk_lt Hb2.out; omega)).trans (blk_alloc Hb2.out)); have Hlt3 := hid (And.intro (blk_lt Hb2.out) (blk_lt hb3)); have Ho3 := hid (Ho2.out.trans (((Only.refl (fun _ => False) w2).alloc _).trans ho3 (fun k hk e => by have e' : k = w2.heap.size := e; omega)) (fun _ _ e => e)); clear hb3 ho3 hs3) | (refine wpList_store_all rfl 85 (.tmp 11) (.tmp 37) rfl w3.heap.size #[.int .u64 (top + 1), .int .u64 0, .int .u64 0, .int .u64 0, .int .u64 0, .int .u64 0, .int .u64 0] rfl rfl MarkM.zero.V 85 (blk_new w3 _) rfl info_mark (by simp [Value.oneCell']) ?_; intro w4 hb4 ho4 hs4; have c4 : w4.cell? ⟨w3.heap.size, 0, none⟩ = some (.int .u64 (top + 1)) := cell_blk hb4 0; have z4 := frozen_blk hb4; have c3 : w4.cell? ⟨w2.heap.size, 0, none⟩ = some (.int .u64 last.s) := (World.cell?_of_block ((ho4.block w2.heap.size (blk_lt (blk_alloc Hb3.out)) (by show ¬ w2.heap.size = w3.heap.size; have := Hlt3.out; omega)).trans (by rw [blk_alloc Hb3.out, Hb3.out]))).trans c0; have Hb4 := hid hb4; have Hb4' := hid ((ho4.block w.heap.size (blk_lt (blk_alloc Hb3'.out)) (by show ¬ w.heap.size = w3.heap.size; have := blk_lt Hb3'.out; omega)).trans (blk_alloc Hb3'.out)); have Ho4 := hid (Ho3.out.trans (((Only.refl (fun _ => False) w3).alloc _).trans ho4 (fun k hk e => by have e' : k = w3.heap.size := e; omega)) (fun _ _ e => e)); have Hlt4 := hid (blk_lt hb4); clear hb4 ho4 hs4) | (refine wpList_cpy_in rfl (.tmp 55) (.tmp 56) 142 142 rfl 51 Try.underlying142 (by kernel_rfl) w3.heap.size 1 6 6 rfl #[.int .u64 (top + 1 + 1), .int .u64 0, .int .u64 0, .int .u64 0, .int .u64 0, .int .u64 0, .int .u64 0] 85 (set_first Hb4.out (.int .u64 (top + 1 + 1))) va xs.length vc rfl (nat64 xs) (by rw [length_nat64]; omega) (HVs.out _ (Ho4.out.setCell ⟨w3.heap.size, 0, none⟩ (.int .u64 (top + 1 + 1)) (fun h => absurd h (by show ¬ w3.heap.size < w.heap.size; have := Ho3.out.size; omega)))) (by rw [length_nat64]; show 1 + xs.length ≤ 7; omega) (fun u hu => by obtain ⟨x, _, rfl⟩ := List.mem_map.1 hu; rfl) ?_; intro w5 hb5 ho5 hs5; have Hb5 := hid hb5; have Hb5' := hid ((ho5.block w.heap.size (blk_lt (blk_set_other Hb4'.out (by have := blk_lt Hb3'.out; omega))) (by show ¬ w.heap.size = w3.heap.size; have := blk_lt Hb3'.out; omega)).trans (blk_set_other Hb4'.out (by have := blk_lt Hb3'.out; omega))); have Ho5 := hid ((Ho4.out.setCell ⟨w3.heap.size, 0, none⟩ (.int .u64 (top + 1 + 1)) (fun h => absurd h (by show ¬ w3.heap.size < w.heap.size; have := Ho3.out.size; omega))).trans ho5 (fun k hk e => by have e' : k = w3.heap.size := e; have := Ho3.out.size; omega)); clear hb5 ho5 hs5))
      have hbm := blkMark (n := top + 2) (by omega) hx6 Hb5.out
      have hok := mk_ok (top + 2) xs (by omega) Hxs.out
      rw [Hmm.out] at hbm hok
      have hms : m.s = top + 2 := by rw [← Hmm.out]; rfl
      obtain ⟨sl, hsl⟩ : ∃ sl : Int, (first : Int) + ((m.s % 2 : Nat) : Int) = sl := ⟨_, rfl⟩
      have HSl : ∀ w1, Hid (Calls Try.prog 69 #[.int .i64 first, .int .u64 m.s] w1 fun e w' => e = .returned (.int .i64 sl) ∧ w1 = w') := fun w1 => hid (by rw [← hsl]; exact slot_c w1 first m.s (by omega) (by omega))
      have HBy : ∀ w1, Hid (Calls Try.prog 75 #[.agg #[.int .u64 m.s, .int .u64 m.w0, .int .u64 m.w1, .int .u64 m.w2, .int .u64 m.w3, .int .u64 m.w4, .int .u64 m.w5]] w1 fun e w' => ∃ g, e = .returned (.slice (some ⟨g, 0, none⟩) 128 128) ∧ w1.heap.size ≤ g ∧ Row w' g 5 128 (bytesV (enc m)) ∧ Only (fun _ => False) w1 w') := fun w1 => hid (bytes_c w1 m hok)
      obtain ⟨⟨WD, WE⟩, hWD⟩ : ∃ W, D.write ((first : Int) + ((m.s % 2 : Nat) : Int)) (enc m) = W := ⟨_, rfl⟩
      obtain ⟨⟨FD, FE⟩, hFD⟩ : ∃ W, WD.flush = W := ⟨_, rfl⟩
      have Hpg : Hid (putGo D first m = if WE ≠ 0 then (WD, MarkM.zero, WE) else if FE ≠ 0 then (FD, MarkM.zero, FE) else (FD, m, 0)) := hid (by unfold putGo; rw [hWD]; simp only [hFD])
      have HWr : ∀ w1 g, Only (fun _ => False) w w1 → Row w1 g 5 128 (bytesV (enc m)) → w.heap.size ≤ g → Hid (Calls Try.prog 72 #[.pointer (some ⟨b, 0, none⟩), .int .i64 sl, .slice (some ⟨g, 0, none⟩) 128 128] w1 fun e w' => e = .returned (.int .i64 WE) ∧ DStep w1 w' b WD F) := fun w1 g ho hr hg => by
        have h1 := write_c (HW w1 ho).out sl (.slice (some ⟨g, 0, none⟩) 128 128) (enc m) (by have := hr.src; rw [length_enc] at this; exact this) (fun g' o' c' e hF => by simp only [Value.slice.injEq, Option.some.injEq, Addr.mk.injEq] at e; have := Hlt.out g' hF; omega) (by simp)
        rw [← hsl, hWD, hsl] at h1
        exact hid h1
      have HFl : ∀ w1 F1, DiskAt w1 b WD F1 → Hid (Calls Try.prog 60 #[.pointer (some ⟨b, 0, none⟩)] w1 fun e w' => e = .returned (.int .i64 FE) ∧ DiskAt w' b FD F1 ∧ Only F1 w1 w') := fun w1 F1 hd => hid (by have := flush_c hd; rw [hFD] at this; exact this)
      have HWr := hid HWr; have HFl := hid HFl; have HBl := hid (blk_lt hbm)
      have HG1 := hid (show w.heap.size ≤ w3.heap.size from Ho3.out.size)
      have d0 : w5.cell? ⟨w3.heap.size, 0, none⟩ = some (.int .u64 m.s) := cell_blk hbm 0
      have d1 : w5.cell? ⟨w3.heap.size, 1, none⟩ = some (.int .u64 m.w0) := cell_blk hbm 1
      have d2 : w5.cell? ⟨w3.heap.size, 2, none⟩ = some (.int .u64 m.w1) := cell_blk hbm 2
      have d3 : w5.cell? ⟨w3.heap.size, 3, none⟩ = some (.int .u64 m.w2) := cell_blk hbm 3
      have d4 : w5.cell? ⟨w3.heap.size, 4, none⟩ = some (.int .u64 m.w3) := cell_blk hbm 4
      have d5 : w5.cell? ⟨w3.heap.size, 5, none⟩ = some (.int .u64 m.w4) := cell_blk hbm 5
      have d6 : w5.cell? ⟨w3.heap.size, 6, none⟩ = some (.int .u64 m.w5) := cell_blk hbm 6
      have Hbm := hid hbm
      clear hbm hok hms hsl hWD hFD z4 c3 c4 c0 HW HLk HS HVs hq
      by_cases hwe : WE = 0
      · have hwe1 : (WE == 0) = true := by simpa using hwe
        by_cases hfe : FE = 0
        · have Hp := hid (Hpg.out.trans (by rw [if_neg (by simpa using hwe), if_neg (by simpa using hfe)]))
          have hfe1 : (FE == 0) = true := by simpa using hfe
          clear Hpg hwe hfe
          go_region_held3 (fun W' => W'.cell? ⟨w3.heap.size, 0, none⟩ = some (.int .u64 m.s) ∧ W'.cell? ⟨w3.heap.size, 1, none⟩ = some (.int .u64 m.w0) ∧ W'.cell? ⟨w3.heap.size, 2, none⟩ = some (.int .u64 m.w1) ∧ W'.cell? ⟨w3.heap.size, 3, none⟩ = some (.int .u64 m.w2) ∧ W'.cell? ⟨w3.heap.size, 4, none⟩ = some (.int .u64 m.w3) ∧ W'.cell? ⟨w3.heap.size, 5, none⟩ = some (.int .u64 m.w4) ∧ W'.cell? ⟨w3.heap.size, 6, none⟩ = some (.int .u64 m.w5)) ((first | go_keep | exact ⟨(fun {o u} (c : w5.cell? ⟨w3.heap.size, o, none⟩ = some u) => (World.cell?_of_block (Ho7.out.block w3.heap.size HBl.out (fun e => e))).trans c) d0, (fun {o u} (c : w5.cell? ⟨w3.heap.size, o, none⟩ = some u) => (World.cell?_of_block (Ho7.out.block w3.heap.size HBl.out (fun e => e))).trans c) d1, (fun {o u} (c : w5.cell? ⟨w3.heap.size, o, none⟩ = some u) => (World.cell?_of_block (Ho7.out.block w3.heap.size HBl.out (fun e => e))).trans c) d2, (fun {o u} (c : w5.cell? ⟨w3.heap.size, o, none⟩ = some u) => (World.cell?_of_block (Ho7.out.block w3.heap.size HBl.out (fun e => e))).trans c) d3, (fun {o u} (c : w5.cell? ⟨w3.heap.size, o, none⟩ = some u) => (World.cell?_of_block (Ho7.out.block w3.heap.size HBl.out (fun e => e))).trans c) d4, (fun {o u} (c : w5.cell? ⟨w3.heap.size, o, none⟩ = some u) => (World.cell?_of_block (Ho7.out.block w3.heap.size HBl.out (fun e => e))).trans c) d5, (fun {o u} (c : w5.cell? ⟨w3.heap.size, o, none⟩ = some u) => (World.cell?_of_block (Ho7.out.block w3.heap.size HBl.out (fun e => e))).trans c) d6⟩ | exact ⟨(fun {o u} (c : w5.cell? ⟨w3.heap.size, o, none⟩ = some u) => (cell_blk Hp8.out.b2 o).trans ((cell_blk Hbm.out o).symm.trans c)) d0, (fun {o u} (c : w5.cell? ⟨w3.heap.size, o, none⟩ = some u) => (cell_blk Hp8.out.b2 o).trans ((cell_blk Hbm.out o).symm.trans c)) d1, (fun {o u} (c : w5.cell? ⟨w3.heap.size, o, none⟩ = some u) => (cell_blk Hp8.out.b2 o).trans ((cell_blk Hbm.out o).symm.trans c)) d2, (fun {o u} (c : w5.cell? ⟨w3.heap.size, o, none⟩ = some u) => (cell_blk Hp8.out.b2 o).trans ((cell_blk Hbm.out o).symm.trans c)) d3, (fun {o u} (c : w5.cell? ⟨w3.heap.size, o, none⟩ = some u) => (cell_blk Hp8.out.b2 o).trans ((cell_blk Hbm.out o).symm.trans c)) d4, (fun {o u} (c : w5.cell? ⟨w3.heap.size, o, none⟩ = some u) => (cell_blk Hp8.out.b2 o).trans ((cell_blk Hbm.out o).symm.trans c)) d5, (fun {o u} (c : w5.cell? ⟨w3.heap.size, o, none⟩ = some u) => (cell_blk Hp8.out.b2 o).trans ((cell_blk Hbm.out o).symm.trans c)) d6⟩)) ((first | (go_at_call 69; refine (HSl _).out.mono ?_; rintro e w' ⟨rfl, rfl⟩) | (go_at_call 75; refine (HBy _).out.mono ?_; rintro e w7 ⟨g, rfl, hg, hrow, ho7⟩; have Hg := hid hg; have Hrow := hid hrow; have Ho7 : Hid (Only (fun _ => False) w5 w7) := hid ((Only.refl (fun _ => False) w5).drew.trans ho7 (fun _ _ e => e)); clear hg hrow ho7) | (go_at_call 72; refine (HWr.out _ _ (Ho5.out.trans Ho7.out (fun _ _ e => e)) Hrow.out (Nat.le_trans Ho5.out.size Hg.out)).out.mono ?_; rintro e w8 ⟨rfl, hst⟩; obtain ⟨F8, hp8⟩ := PutW.mk' hst (Ho5.out.trans Ho7.out (fun _ _ e => e)) Hlt.out (Nat.le_refl _) HG1.out (blk_only Hb5'.out Ho7.out (fun e => e)) (blk_only Hbm.out Ho7.out (fun e => e)); have Hp8 := hid hp8; clear hst hp8)))
          go_wp2_with (first | (go_at_call 60; refine (HFl.out _ _ Hp8.out.disk).out.mono ?_; rintro e w9 ⟨rfl, hd9, ho9⟩; have Hp9 := hid (Hp8.out.step hd9 ho9); clear hd9 ho9) | (refine wpList_load_row rfl 85 (.tmp 11) rfl w3.heap.size rfl 85 m.V (0, 0) _ Hp9.out.b2 Try.underlying85 rfl info_mark ?_) | (refine wpList_store_all rfl 85 (.tmp 6) (.tmp 76) rfl w.heap.size m.V rfl rfl MarkM.zero.V 85 Hp9.out.b1 rfl info_mark (V_one _) ?_; intro w10 hb10 ho10 hs10; have Hb10 := hid hb10; have Hds := hid (Hp9.out.done ho10); clear hb10 ho10 hs10))
          refine bodyPost_ret (results_cell1 (q := 7) rfl _ _ w.heap.size 85 m.V _ _ rfl Hb10.out Try.underlying85 rfl info_mark) rfl ⟨by rw [Hp.out]; rfl, by rw [Hp.out]; exact Hds.out⟩
        · have Hp := hid (Hpg.out.trans (by rw [if_neg (by simpa using hwe), if_pos hfe]))
          have hfe1 : (FE == 0) = false := by simpa using hfe
          clear Hpg hwe hfe
          go_region_held3 (fun W' => W'.cell? ⟨w3.heap.size, 0, none⟩ = some (.int .u64 m.s) ∧ W'.cell? ⟨w3.heap.size, 1, none⟩ = some (.int .u64 m.w0) ∧ W'.cell? ⟨w3.heap.size, 2, none⟩ = some (.int .u64 m.w1) ∧ W'.cell? ⟨w3.heap.size, 3, none⟩ = some (.int .u64 m.w2) ∧ W'.cell? ⟨w3.heap.size, 4, none⟩ = some (.int .u64 m.w3) ∧ W'.cell? ⟨w3.heap.size, 5, none⟩ = some (.int .u64 m.w4) ∧ W'.cell? ⟨w3.heap.size, 6, none⟩ = some (.int .u64 m.w5)) ((first | go_keep | exact ⟨(fun {o u} (c : w5.cell? ⟨w3.heap.size, o, none⟩ = some u) => (World.cell?_of_block (Ho7.out.block w3.heap.size HBl.out (fun e => e))).trans c) d0, (fun {o u} (c : w5.cell? ⟨w3.heap.size, o, none⟩ = some u) => (World.cell?_of_block (Ho7.out.block w3.heap.size HBl.out (fun e => e))).trans c) d1, (fun {o u} (c : w5.cell? ⟨w3.heap.size, o, none⟩ = some u) => (World.cell?_of_block (Ho7.out.block w3.heap.size HBl.out (fun e => e))).trans c) d2, (fun {o u} (c : w5.cell? ⟨w3.heap.size, o, none⟩ = some u) => (World.cell?_of_block (Ho7.out.block w3.heap.size HBl.out (fun e => e))).trans c) d3, (fun {o u} (c : w5.cell? ⟨w3.heap.size, o, none⟩ = some u) => (World.cell?_of_block (Ho7.out.block w3.heap.size HBl.out (fun e => e))).trans c) d4, (fun {o u} (c : w5.cell? ⟨w3.heap.size, o, none⟩ = some u) => (World.cell?_of_block (Ho7.out.block w3.heap.size HBl.out (fun e => e))).trans c) d5, (fun {o u} (c : w5.cell? ⟨w3.heap.size, o, none⟩ = some u) => (World.cell?_of_block (Ho7.out.block w3.heap.size HBl.out (fun e => e))).trans c) d6⟩ | exact ⟨(fun {o u} (c : w5.cell? ⟨w3.heap.size, o, none⟩ = some u) => (cell_blk Hp8.out.b2 o).trans ((cell_blk Hbm.out o).symm.trans c)) d0, (fun {o u} (c : w5.cell? ⟨w3.heap.size, o, none⟩ = some u) => (cell_blk Hp8.out.b2 o).trans ((cell_blk Hbm.out o).symm.trans c)) d1, (fun {o u} (c : w5.cell? ⟨w3.heap.size, o, none⟩ = some u) => (cell_blk Hp8.out.b2 o).trans ((cell_blk Hbm.out o).symm.trans c)) d2, (fun {o u} (c : w5.cell? ⟨w3.heap.size, o, none⟩ = some u) => (cell_blk Hp8.out.b2 o).trans ((cell_blk Hbm.out o).symm.trans c)) d3, (fun {o u} (c : w5.cell? ⟨w3.heap.size, o, none⟩ = some u) => (cell_blk Hp8.out.b2 o).trans ((cell_blk Hbm.out o).symm.trans c)) d4, (fun {o u} (c : w5.cell? ⟨w3.heap.size, o, none⟩ = some u) => (cell_blk Hp8.out.b2 o).trans ((cell_blk Hbm.out o).symm.trans c)) d5, (fun {o u} (c : w5.cell? ⟨w3.heap.size, o, none⟩ = some u) => (cell_blk Hp8.out.b2 o).trans ((cell_blk Hbm.out o).symm.trans c)) d6⟩)) ((first | (go_at_call 69; refine (HSl _).out.mono ?_; rintro e w' ⟨rfl, rfl⟩) | (go_at_call 75; refine (HBy _).out.mono ?_; rintro e w7 ⟨g, rfl, hg, hrow, ho7⟩; have Hg := hid hg; have Hrow := hid hrow; have Ho7 : Hid (Only (fun _ => False) w5 w7) := hid ((Only.refl (fun _ => False) w5).drew.trans ho7 (fun _ _ e => e)); clear hg hrow ho7) | (go_at_call 72; refine (HWr.out _ _ (Ho5.out.trans Ho7.out (fun _ _ e => e)) Hrow.out (Nat.le_trans Ho5.out.size Hg.out)).out.mono ?_; rintro e w8 ⟨rfl, hst⟩; obtain ⟨F8, hp8⟩ := PutW.mk' hst (Ho5.out.trans Ho7.out (fun _ _ e => e)) Hlt.out (Nat.le_refl _) HG1.out (blk_only Hb5'.out Ho7.out (fun e => e)) (blk_only Hbm.out Ho7.out (fun e => e)); have Hp8 := hid hp8; clear hst hp8)))
          go_wp2_with (first | (go_at_call 60; refine (HFl.out _ _ Hp8.out.disk).out.mono ?_; rintro e w9 ⟨rfl, hd9, ho9⟩; have Hp9 := hid (Hp8.out.step hd9 ho9); clear hd9 ho9) | (refine wpList_store_all rfl 85 (.tmp 6) (.tmp 74) rfl w.heap.size MarkM.zero.V rfl rfl MarkM.zero.V 85 Hp9.out.b1 rfl info_mark (V_one _) ?_; intro w10 hb10 ho10 hs10; have Hb10 := hid hb10; have Hds := hid (Hp9.out.done ho10); clear hb10 ho10 hs10))
          refine bodyPost_ret (results_cell1 (q := 7) rfl _ _ w.heap.size 85 MarkM.zero.V _ _ rfl Hb10.out Try.underlying85 rfl info_mark) rfl ⟨by rw [Hp.out]; rfl, by rw [Hp.out]; exact Hds.out⟩
      · have Hp := hid (Hpg.out.trans (if_pos hwe))
        have hwe1 : (WE == 0) = false := by simpa using hwe
        clear Hpg hwe
        go_region_held3 (fun W' => W'.cell? ⟨w3.heap.size, 0, none⟩ = some (.int .u64 m.s) ∧ W'.cell? ⟨w3.heap.size, 1, none⟩ = some (.int .u64 m.w0) ∧ W'.cell? ⟨w3.heap.size, 2, none⟩ = some (.int .u64 m.w1) ∧ W'.cell? ⟨w3.heap.size, 3, none⟩ = some (.int .u64 m.w2) ∧ W'.cell? ⟨w3.heap.size, 4, none⟩ = some (.int .u64 m.w3) ∧ W'.cell? ⟨w3.heap.size, 5, none⟩ = some (.int .u64 m.w4) ∧ W'.cell? ⟨w3.heap.size, 6, none⟩ = some (.int .u64 m.w5)) ((first | go_keep | exact ⟨(fun {o u} (c : w5.cell? ⟨w3.heap.size, o, none⟩ = some u) => (World.cell?_of_block (Ho7.out.block w3.heap.size HBl.out (fun e => e))).trans c) d0, (fun {o u} (c : w5.cell? ⟨w3.heap.size, o, none⟩ = some u) => (World.cell?_of_block (Ho7.out.block w3.heap.size HBl.out (fun e => e))).trans c) d1, (fun {o u} (c : w5.cell? ⟨w3.heap.size, o, none⟩ = some u) => (World.cell?_of_block (Ho7.out.block w3.heap.size HBl.out (fun e => e))).trans c) d2, (fun {o u} (c : w5.cell? ⟨w3.heap.size, o, none⟩ = some u) => (World.cell?_of_block (Ho7.out.block w3.heap.size HBl.out (fun e => e))).trans c) d3, (fun {o u} (c : w5.cell? ⟨w3.heap.size, o, none⟩ = some u) => (World.cell?_of_block (Ho7.out.block w3.heap.size HBl.out (fun e => e))).trans c) d4, (fun {o u} (c : w5.cell? ⟨w3.heap.size, o, none⟩ = some u) => (World.cell?_of_block (Ho7.out.block w3.heap.size HBl.out (fun e => e))).trans c) d5, (fun {o u} (c : w5.cell? ⟨w3.heap.size, o, none⟩ = some u) => (World.cell?_of_block (Ho7.out.block w3.heap.size HBl.out (fun e => e))).trans c) d6⟩ | exact ⟨(fun {o u} (c : w5.cell? ⟨w3.heap.size, o, none⟩ = some u) => (cell_blk Hp8.out.b2 o).trans ((cell_blk Hbm.out o).symm.trans c)) d0, (fun {o u} (c : w5.cell? ⟨w3.heap.size, o, none⟩ = some u) => (cell_blk Hp8.out.b2 o).trans ((cell_blk Hbm.out o).symm.trans c)) d1, (fun {o u} (c : w5.cell? ⟨w3.heap.size, o, none⟩ = some u) => (cell_blk Hp8.out.b2 o).trans ((cell_blk Hbm.out o).symm.trans c)) d2, (fun {o u} (c : w5.cell? ⟨w3.heap.size, o, none⟩ = some u) => (cell_blk Hp8.out.b2 o).trans ((cell_blk Hbm.out o).symm.trans c)) d3, (fun {o u} (c : w5.cell? ⟨w3.heap.size, o, none⟩ = some u) => (cell_blk Hp8.out.b2 o).trans ((cell_blk Hbm.out o).symm.trans c)) d4, (fun {o u} (c : w5.cell? ⟨w3.heap.size, o, none⟩ = some u) => (cell_blk Hp8.out.b2 o).trans ((cell_blk Hbm.out o).symm.trans c)) d5, (fun {o u} (c : w5.cell? ⟨w3.heap.size, o, none⟩ = some u) => (cell_blk Hp8.out.b2 o).trans ((cell_blk Hbm.out o).symm.trans c)) d6⟩)) ((first | (go_at_call 69; refine (HSl _).out.mono ?_; rintro e w' ⟨rfl, rfl⟩) | (go_at_call 75; refine (HBy _).out.mono ?_; rintro e w7 ⟨g, rfl, hg, hrow, ho7⟩; have Hg := hid hg; have Hrow := hid hrow; have Ho7 : Hid (Only (fun _ => False) w5 w7) := hid ((Only.refl (fun _ => False) w5).drew.trans ho7 (fun _ _ e => e)); clear hg hrow ho7) | (go_at_call 72; refine (HWr.out _ _ (Ho5.out.trans Ho7.out (fun _ _ e => e)) Hrow.out (Nat.le_trans Ho5.out.size Hg.out)).out.mono ?_; rintro e w8 ⟨rfl, hst⟩; obtain ⟨F8, hp8⟩ := PutW.mk' hst (Ho5.out.trans Ho7.out (fun _ _ e => e)) Hlt.out (Nat.le_refl _) HG1.out (blk_only Hb5'.out Ho7.out (fun e => e)) (blk_only Hbm.out Ho7.out (fun e => e)); have Hp8 := hid hp8; clear hst hp8)))
        go_wp2_with (first | (refine wpList_store_all rfl 85 (.tmp 6) (.tmp 68) rfl w.heap.size MarkM.zero.V rfl rfl MarkM.zero.V 85 Hp8.out.b1 rfl info_mark (V_one _) ?_; intro w10 hb10 ho10 hs10; have Hb10 := hid hb10; have Hds := hid (Hp8.out.done ho10); clear hb10 ho10 hs10))
        refine bodyPost_ret (results_cell1 (q := 7) rfl _ _ w.heap.size 85 MarkM.zero.V _ _ rfl Hb10.out Try.underlying85 rfl info_mark) rfl ⟨by rw [Hp.out]; rfl, by rw [Hp.out]; exact Hds.out⟩
    · have hq : (((top : Int) + 1) % 2 == (last.s : Int) % 2) = false := by rw [beq_eq_false_iff_ne]; omega
      have hsq : nextSeq last.s top = top + 1 := if_neg (fun h => hp h.2)
      obtain ⟨m, hmm⟩ : ∃ m, mkMark (top + 1) xs = m := ⟨_, rfl⟩
      rw [hsq, hmm]
      have Hmm := hid hmm
      clear hp hsq hmm
      go_enter Try.func61, Try.ntmps61
      go_wp2_with (first | (go_at_call 50; refine (HLk _).out.mono ?_; rintro e w2 ⟨rfl, ho2⟩; have Hb2 := HS w2 ho2; have Ho2 : Hid (Only (fun _ => False) w w2) := hid (((Only.refl (fun _ => False) w).alloc _).trans ho2 (fun _ _ e => e)); clear ho2) | (refine wpList_store_all rfl 85 (.tmp 8) (.tmp 18) rfl w2.heap.size last.V rfl rfl MarkM.zero.V 85 (blk_new w2 _) rfl info_mark (V_one _) ?_; intro w3 hb3 ho3 hs3; have c0 : w3.cell? ⟨w2.heap.size, 0, none⟩ = some (.int .u64 last.s) := cell_blk hb3 0; have Hb3 := hid hb3; have Hb3' := hid ((ho3.block w.heap.size (blk_lt (blk_alloc Hb2.out)) (by show ¬ w.heap.size = w2.heap.size; have := blk_lt Hb2.out; omega)).trans (blk_alloc Hb2.out)); have Hlt3 := hid (And.intro (blk_lt Hb2.out) (blk_lt hb3)); have Ho3 := hid (Ho2.out.trans (((Only.refl (fun _ => False) w2).alloc _).trans ho3 (fun k hk e => by have e' : k = w2.heap.size := e; omega)) (fun _ _ e => e)); clear hb3 ho3 hs3) | (refine wpList_store_all rfl 85 (.tmp 11) (.tmp 37) rfl w3.heap.size #[.int .u64 (top + 1), .int .u64 0, .int .u64 0, .int .u64 0, .int .u64 0, .int .u64 0, .int .u64 0] rfl rfl MarkM.zero.V 85 (blk_new w3 _) rfl info_mark (by simp [Value.oneCell']) ?_; intro w4 hb4 ho4 hs4; have c4 : w4.cell? ⟨w3.heap.size, 0, none⟩ = some (.int .u64 (top + 1)) := cell_blk hb4 0; have z4 := frozen_blk hb4; have c3 : w4.cell? ⟨w2.heap.size, 0, none⟩ = some (.int .u64 last.s) := (World.cell?_of_block ((ho4.block w2.heap.size (blk_lt (blk_alloc Hb3.out)) (by show ¬ w2.heap.size = w3.heap.size; have := Hlt3.out; omega)).trans (by rw [blk_alloc Hb3.out, Hb3.out]))).trans c0; have Hb4 := hid hb4; have Hb4' := hid ((ho4.block w.heap.size (blk_lt (blk_alloc Hb3'.out)) (by show ¬ w.heap.size = w3.heap.size; have := blk_lt Hb3'.out; omega)).trans (blk_alloc Hb3'.out)); have Ho4 := hid (Ho3.out.trans (((Only.refl (fun _ => False) w3).alloc _).trans ho4 (fun k hk e => by have e' : k = w3.heap.size := e; omega)) (fun _ _ e => e)); have Hlt4 := hid (blk_lt hb4); clear hb4 ho4 hs4) | (refine wpList_cpy_in rfl (.tmp 55) (.tmp 56) 142 142 rfl 51 Try.underlying142 (by kernel_rfl) w3.heap.size 1 6 6 rfl #[.int .u64 (top + 1), .int .u64 0, .int .u64 0, .int .u64 0, .int .u64 0, .int .u64 0, .int .u64 0] 85 Hb4.out va xs.length vc rfl (nat64 xs) (by rw [length_nat64]; omega) (HVs.out _ Ho4.out) (by rw [length_nat64]; show 1 + xs.length ≤ 7; omega) (fun u hu => by obtain ⟨x, _, rfl⟩ := List.mem_map.1 hu; rfl) ?_; intro w5 hb5 ho5 hs5; have Hb5 := hid hb5; have Hb5' := hid ((ho5.block w.heap.size (blk_lt Hb4'.out) (by show ¬ w.heap.size = w3.heap.size; have := blk_lt Hb3'.out; omega)).trans Hb4'.out); have Ho5 := hid (Ho4.out.trans ho5 (fun k hk e => by have e' : k = w3.heap.size := e; have := Ho3.out.size; omega)); clear hb5 ho5 hs5))
      have hbm := blkMark (n := top + 1) (by omega) hx6 Hb5.out
      have hok := mk_ok (top + 1) xs (by omega) Hxs.out
      rw [Hmm.out] at hbm hok
      have hms : m.s = top + 1 := by rw [← Hmm.out]; rfl
      obtain ⟨sl, hsl⟩ : ∃ sl : Int, (first : Int) + ((m.s % 2 : Nat) : Int) = sl := ⟨_, rfl⟩
      have HSl : ∀ w1, Hid (Calls Try.prog 69 #[.int .i64 first, .int .u64 m.s] w1 fun e w' => e = .returned (.int .i64 sl) ∧ w1 = w') := fun w1 => hid (by rw [← hsl]; exact slot_c w1 first m.s (by omega) (by omega))
      have HBy : ∀ w1, Hid (Calls Try.prog 75 #[.agg #[.int .u64 m.s, .int .u64 m.w0, .int .u64 m.w1, .int .u64 m.w2, .int .u64 m.w3, .int .u64 m.w4, .int .u64 m.w5]] w1 fun e w' => ∃ g, e = .returned (.slice (some ⟨g, 0, none⟩) 128 128) ∧ w1.heap.size ≤ g ∧ Row w' g 5 128 (bytesV (enc m)) ∧ Only (fun _ => False) w1 w') := fun w1 => hid (bytes_c w1 m hok)
      obtain ⟨⟨WD, WE⟩, hWD⟩ : ∃ W, D.write ((first : Int) + ((m.s % 2 : Nat) : Int)) (enc m) = W := ⟨_, rfl⟩
      obtain ⟨⟨FD, FE⟩, hFD⟩ : ∃ W, WD.flush = W := ⟨_, rfl⟩
      have Hpg : Hid (putGo D first m = if WE ≠ 0 then (WD, MarkM.zero, WE) else if FE ≠ 0 then (FD, MarkM.zero, FE) else (FD, m, 0)) := hid (by unfold putGo; rw [hWD]; simp only [hFD])
      have HWr : ∀ w1 g, Only (fun _ => False) w w1 → Row w1 g 5 128 (bytesV (enc m)) → w.heap.size ≤ g → Hid (Calls Try.prog 72 #[.pointer (some ⟨b, 0, none⟩), .int .i64 sl, .slice (some ⟨g, 0, none⟩) 128 128] w1 fun e w' => e = .returned (.int .i64 WE) ∧ DStep w1 w' b WD F) := fun w1 g ho hr hg => by
        have h1 := write_c (HW w1 ho).out sl (.slice (some ⟨g, 0, none⟩) 128 128) (enc m) (by have := hr.src; rw [length_enc] at this; exact this) (fun g' o' c' e hF => by simp only [Value.slice.injEq, Option.some.injEq, Addr.mk.injEq] at e; have := Hlt.out g' hF; omega) (by simp)
        rw [← hsl, hWD, hsl] at h1
        exact hid h1
      have HFl : ∀ w1 F1, DiskAt w1 b WD F1 → Hid (Calls Try.prog 60 #[.pointer (some ⟨b, 0, none⟩)] w1 fun e w' => e = .returned (.int .i64 FE) ∧ DiskAt w' b FD F1 ∧ Only F1 w1 w') := fun w1 F1 hd => hid (by have := flush_c hd; rw [hFD] at this; exact this)
      have HWr := hid HWr; have HFl := hid HFl; have HBl := hid (blk_lt hbm)
      have HG1 := hid (show w.heap.size ≤ w3.heap.size from Ho3.out.size)
      have d0 : w5.cell? ⟨w3.heap.size, 0, none⟩ = some (.int .u64 m.s) := cell_blk hbm 0
      have d1 : w5.cell? ⟨w3.heap.size, 1, none⟩ = some (.int .u64 m.w0) := cell_blk hbm 1
      have d2 : w5.cell? ⟨w3.heap.size, 2, none⟩ = some (.int .u64 m.w1) := cell_blk hbm 2
      have d3 : w5.cell? ⟨w3.heap.size, 3, none⟩ = some (.int .u64 m.w2) := cell_blk hbm 3
      have d4 : w5.cell? ⟨w3.heap.size, 4, none⟩ = some (.int .u64 m.w3) := cell_blk hbm 4
      have d5 : w5.cell? ⟨w3.heap.size, 5, none⟩ = some (.int .u64 m.w4) := cell_blk hbm 5
      have d6 : w5.cell? ⟨w3.heap.size, 6, none⟩ = some (.int .u64 m.w5) := cell_blk hbm 6
      have Hbm := hid hbm
      clear hbm hok hms hsl hWD hFD z4 c3 c4 c0 HW HLk HS HVs hq
      by_cases hwe : WE = 0
      · have hwe1 : (WE == 0) = true := by simpa using hwe
        by_cases hfe : FE = 0
        · have Hp := hid (Hpg.out.trans (by rw [if_neg (by simpa using hwe), if_neg (by simpa using hfe)]))
          have hfe1 : (FE == 0) = true := by simpa using hfe
          clear Hpg hwe hfe
          go_region_held3 (fun W' => W'.cell? ⟨w3.heap.size, 0, none⟩ = some (.int .u64 m.s) ∧ W'.cell? ⟨w3.heap.size, 1, none⟩ = some (.int .u64 m.w0) ∧ W'.cell? ⟨w3.heap.size, 2, none⟩ = some (.int .u64 m.w1) ∧ W'.cell? ⟨w3.heap.size, 3, none⟩ = some (.int .u64 m.w2) ∧ W'.cell? ⟨w3.heap.size, 4, none⟩ = some (.int .u64 m.w3) ∧ W'.cell? ⟨w3.heap.size, 5, none⟩ = some (.int .u64 m.w4) ∧ W'.cell? ⟨w3.heap.size, 6, none⟩ = some (.int .u64 m.w5)) ((first | go_keep | exact ⟨(fun {o u} (c : w5.cell? ⟨w3.heap.size, o, none⟩ = some u) => (World.cell?_of_block (Ho7.out.block w3.heap.size HBl.out (fun e => e))).trans c) d0, (fun {o u} (c : w5.cell? ⟨w3.heap.size, o, none⟩ = some u) => (World.cell?_of_block (Ho7.out.block w3.heap.size HBl.out (fun e => e))).trans c) d1, (fun {o u} (c : w5.cell? ⟨w3.heap.size, o, none⟩ = some u) => (World.cell?_of_block (Ho7.out.block w3.heap.size HBl.out (fun e => e))).trans c) d2, (fun {o u} (c : w5.cell? ⟨w3.heap.size, o, none⟩ = some u) => (World.cell?_of_block (Ho7.out.block w3.heap.size HBl.out (fun e => e))).trans c) d3, (fun {o u} (c : w5.cell? ⟨w3.heap.size, o, none⟩ = some u) => (World.cell?_of_block (Ho7.out.block w3.heap.size HBl.out (fun e => e))).trans c) d4, (fun {o u} (c : w5.cell? ⟨w3.heap.size, o, none⟩ = some u) => (World.cell?_of_block (Ho7.out.block w3.heap.size HBl.out (fun e => e))).trans c) d5, (fun {o u} (c : w5.cell? ⟨w3.heap.size, o, none⟩ = some u) => (World.cell?_of_block (Ho7.out.block w3.heap.size HBl.out (fun e => e))).trans c) d6⟩ | exact ⟨(fun {o u} (c : w5.cell? ⟨w3.heap.size, o, none⟩ = some u) => (cell_blk Hp8.out.b2 o).trans ((cell_blk Hbm.out o).symm.trans c)) d0, (fun {o u} (c : w5.cell? ⟨w3.heap.size, o, none⟩ = some u) => (cell_blk Hp8.out.b2 o).trans ((cell_blk Hbm.out o).symm.trans c)) d1, (fun {o u} (c : w5.cell? ⟨w3.heap.size, o, none⟩ = some u) => (cell_blk Hp8.out.b2 o).trans ((cell_blk Hbm.out o).symm.trans c)) d2, (fun {o u} (c : w5.cell? ⟨w3.heap.size, o, none⟩ = some u) => (cell_blk Hp8.out.b2 o).trans ((cell_blk Hbm.out o).symm.trans c)) d3, (fun {o u} (c : w5.cell? ⟨w3.heap.size, o, none⟩ = some u) => (cell_blk Hp8.out.b2 o).trans ((cell_blk Hbm.out o).symm.trans c)) d4, (fun {o u} (c : w5.cell? ⟨w3.heap.size, o, none⟩ = some u) => (cell_blk Hp8.out.b2 o).trans ((cell_blk Hbm.out o).symm.trans c)) d5, (fun {o u} (c : w5.cell? ⟨w3.heap.size, o, none⟩ = some u) => (cell_blk Hp8.out.b2 o).trans ((cell_blk Hbm.out o).symm.trans c)) d6⟩)) ((first | (go_at_call 69; refine (HSl _).out.mono ?_; rintro e w' ⟨rfl, rfl⟩) | (go_at_call 75; refine (HBy _).out.mono ?_; rintro e w7 ⟨g, rfl, hg, hrow, ho7⟩; have Hg := hid hg; have Hrow := hid hrow; have Ho7 : Hid (Only (fun _ => False) w5 w7) := hid ((Only.refl (fun _ => False) w5).drew.trans ho7 (fun _ _ e => e)); clear hg hrow ho7) | (go_at_call 72; refine (HWr.out _ _ (Ho5.out.trans Ho7.out (fun _ _ e => e)) Hrow.out (Nat.le_trans Ho5.out.size Hg.out)).out.mono ?_; rintro e w8 ⟨rfl, hst⟩; obtain ⟨F8, hp8⟩ := PutW.mk' hst (Ho5.out.trans Ho7.out (fun _ _ e => e)) Hlt.out (Nat.le_refl _) HG1.out (blk_only Hb5'.out Ho7.out (fun e => e)) (blk_only Hbm.out Ho7.out (fun e => e)); have Hp8 := hid hp8; clear hst hp8)))
          go_wp2_with (first | (go_at_call 60; refine (HFl.out _ _ Hp8.out.disk).out.mono ?_; rintro e w9 ⟨rfl, hd9, ho9⟩; have Hp9 := hid (Hp8.out.step hd9 ho9); clear hd9 ho9) | (refine wpList_load_row rfl 85 (.tmp 11) rfl w3.heap.size rfl 85 m.V (0, 0) _ Hp9.out.b2 Try.underlying85 rfl info_mark ?_) | (refine wpList_store_all rfl 85 (.tmp 6) (.tmp 76) rfl w.heap.size m.V rfl rfl MarkM.zero.V 85 Hp9.out.b1 rfl info_mark (V_one _) ?_; intro w10 hb10 ho10 hs10; have Hb10 := hid hb10; have Hds := hid (Hp9.out.done ho10); clear hb10 ho10 hs10))
          refine bodyPost_ret (results_cell1 (q := 7) rfl _ _ w.heap.size 85 m.V _ _ rfl Hb10.out Try.underlying85 rfl info_mark) rfl ⟨by rw [Hp.out]; rfl, by rw [Hp.out]; exact Hds.out⟩
        · have Hp := hid (Hpg.out.trans (by rw [if_neg (by simpa using hwe), if_pos hfe]))
          have hfe1 : (FE == 0) = false := by simpa using hfe
          clear Hpg hwe hfe
          go_region_held3 (fun W' => W'.cell? ⟨w3.heap.size, 0, none⟩ = some (.int .u64 m.s) ∧ W'.cell? ⟨w3.heap.size, 1, none⟩ = some (.int .u64 m.w0) ∧ W'.cell? ⟨w3.heap.size, 2, none⟩ = some (.int .u64 m.w1) ∧ W'.cell? ⟨w3.heap.size, 3, none⟩ = some (.int .u64 m.w2) ∧ W'.cell? ⟨w3.heap.size, 4, none⟩ = some (.int .u64 m.w3) ∧ W'.cell? ⟨w3.heap.size, 5, none⟩ = some (.int .u64 m.w4) ∧ W'.cell? ⟨w3.heap.size, 6, none⟩ = some (.int .u64 m.w5)) ((first | go_keep | exact ⟨(fun {o u} (c : w5.cell? ⟨w3.heap.size, o, none⟩ = some u) => (World.cell?_of_block (Ho7.out.block w3.heap.size HBl.out (fun e => e))).trans c) d0, (fun {o u} (c : w5.cell? ⟨w3.heap.size, o, none⟩ = some u) => (World.cell?_of_block (Ho7.out.block w3.heap.size HBl.out (fun e => e))).trans c) d1, (fun {o u} (c : w5.cell? ⟨w3.heap.size, o, none⟩ = some u) => (World.cell?_of_block (Ho7.out.block w3.heap.size HBl.out (fun e => e))).trans c) d2, (fun {o u} (c : w5.cell? ⟨w3.heap.size, o, none⟩ = some u) => (World.cell?_of_block (Ho7.out.block w3.heap.size HBl.out (fun e => e))).trans c) d3, (fun {o u} (c : w5.cell? ⟨w3.heap.size, o, none⟩ = some u) => (World.cell?_of_block (Ho7.out.block w3.heap.size HBl.out (fun e => e))).trans c) d4, (fun {o u} (c : w5.cell? ⟨w3.heap.size, o, none⟩ = some u) => (World.cell?_of_block (Ho7.out.block w3.heap.size HBl.out (fun e => e))).trans c) d5, (fun {o u} (c : w5.cell? ⟨w3.heap.size, o, none⟩ = some u) => (World.cell?_of_block (Ho7.out.block w3.heap.size HBl.out (fun e => e))).trans c) d6⟩ | exact ⟨(fun {o u} (c : w5.cell? ⟨w3.heap.size, o, none⟩ = some u) => (cell_blk Hp8.out.b2 o).trans ((cell_blk Hbm.out o).symm.trans c)) d0, (fun {o u} (c : w5.cell? ⟨w3.heap.size, o, none⟩ = some u) => (cell_blk Hp8.out.b2 o).trans ((cell_blk Hbm.out o).symm.trans c)) d1, (fun {o u} (c : w5.cell? ⟨w3.heap.size, o, none⟩ = some u) => (cell_blk Hp8.out.b2 o).trans ((cell_blk Hbm.out o).symm.trans c)) d2, (fun {o u} (c : w5.cell? ⟨w3.heap.size, o, none⟩ = some u) => (cell_blk Hp8.out.b2 o).trans ((cell_blk Hbm.out o).symm.trans c)) d3, (fun {o u} (c : w5.cell? ⟨w3.heap.size, o, none⟩ = some u) => (cell_blk Hp8.out.b2 o).trans ((cell_blk Hbm.out o).symm.trans c)) d4, (fun {o u} (c : w5.cell? ⟨w3.heap.size, o, none⟩ = some u) => (cell_blk Hp8.out.b2 o).trans ((cell_blk Hbm.out o).symm.trans c)) d5, (fun {o u} (c : w5.cell? ⟨w3.heap.size, o, none⟩ = some u) => (cell_blk Hp8.out.b2 o).trans ((cell_blk Hbm.out o).symm.trans c)) d6⟩)) ((first | (go_at_call 69; refine (HSl _).out.mono ?_; rintro e w' ⟨rfl, rfl⟩) | (go_at_call 75; refine (HBy _).out.mono ?_; rintro e w7 ⟨g, rfl, hg, hrow, ho7⟩; have Hg := hid hg; have Hrow := hid hrow; have Ho7 : Hid (Only (fun _ => False) w5 w7) := hid ((Only.refl (fun _ => False) w5).drew.trans ho7 (fun _ _ e => e)); clear hg hrow ho7) | (go_at_call 72; refine (HWr.out _ _ (Ho5.out.trans Ho7.out (fun _ _ e => e)) Hrow.out (Nat.le_trans Ho5.out.size Hg.out)).out.mono ?_; rintro e w8 ⟨rfl, hst⟩; obtain ⟨F8, hp8⟩ := PutW.mk' hst (Ho5.out.trans Ho7.out (fun _ _ e => e)) Hlt.out (Nat.le_refl _) HG1.out (blk_only Hb5'.out Ho7.out (fun e => e)) (blk_only Hbm.out Ho7.out (fun e => e)); have Hp8 := hid hp8; clear hst hp8)))
          go_wp2_with (first | (go_at_call 60; refine (HFl.out _ _ Hp8.out.disk).out.mono ?_; rintro e w9 ⟨rfl, hd9, ho9⟩; have Hp9 := hid (Hp8.out.step hd9 ho9); clear hd9 ho9) | (refine wpList_store_all rfl 85 (.tmp 6) (.tmp 74) rfl w.heap.size MarkM.zero.V rfl rfl MarkM.zero.V 85 Hp9.out.b1 rfl info_mark (V_one _) ?_; intro w10 hb10 ho10 hs10; have Hb10 := hid hb10; have Hds := hid (Hp9.out.done ho10); clear hb10 ho10 hs10))
          refine bodyPost_ret (results_cell1 (q := 7) rfl _ _ w.heap.size 85 MarkM.zero.V _ _ rfl Hb10.out Try.underlying85 rfl info_mark) rfl ⟨by rw [Hp.out]; rfl, by rw [Hp.out]; exact Hds.out⟩
      · have Hp := hid (Hpg.out.trans (if_pos hwe))
        have hwe1 : (WE == 0) = false := by simpa using hwe
        clear Hpg hwe
        go_region_held3 (fun W' => W'.cell? ⟨w3.heap.size, 0, none⟩ = some (.int .u64 m.s) ∧ W'.cell? ⟨w3.heap.size, 1, none⟩ = some (.int .u64 m.w0) ∧ W'.cell? ⟨w3.heap.size, 2, none⟩ = some (.int .u64 m.w1) ∧ W'.cell? ⟨w3.heap.size, 3, none⟩ = some (.int .u64 m.w2) ∧ W'.cell? ⟨w3.heap.size, 4, none⟩ = some (.int .u64 m.w3) ∧ W'.cell? ⟨w3.heap.size, 5, none⟩ = some (.int .u64 m.w4) ∧ W'.cell? ⟨w3.heap.size, 6, none⟩ = some (.int .u64 m.w5)) ((first | go_keep | exact ⟨(fun {o u} (c : w5.cell? ⟨w3.heap.size, o, none⟩ = some u) => (World.cell?_of_block (Ho7.out.block w3.heap.size HBl.out (fun e => e))).trans c) d0, (fun {o u} (c : w5.cell? ⟨w3.heap.size, o, none⟩ = some u) => (World.cell?_of_block (Ho7.out.block w3.heap.size HBl.out (fun e => e))).trans c) d1, (fun {o u} (c : w5.cell? ⟨w3.heap.size, o, none⟩ = some u) => (World.cell?_of_block (Ho7.out.block w3.heap.size HBl.out (fun e => e))).trans c) d2, (fun {o u} (c : w5.cell? ⟨w3.heap.size, o, none⟩ = some u) => (World.cell?_of_block (Ho7.out.block w3.heap.size HBl.out (fun e => e))).trans c) d3, (fun {o u} (c : w5.cell? ⟨w3.heap.size, o, none⟩ = some u) => (World.cell?_of_block (Ho7.out.block w3.heap.size HBl.out (fun e => e))).trans c) d4, (fun {o u} (c : w5.cell? ⟨w3.heap.size, o, none⟩ = some u) => (World.cell?_of_block (Ho7.out.block w3.heap.size HBl.out (fun e => e))).trans c) d5, (fun {o u} (c : w5.cell? ⟨w3.heap.size, o, none⟩ = some u) => (World.cell?_of_block (Ho7.out.block w3.heap.size HBl.out (fun e => e))).trans c) d6⟩ | exact ⟨(fun {o u} (c : w5.cell? ⟨w3.heap.size, o, none⟩ = some u) => (cell_blk Hp8.out.b2 o).trans ((cell_blk Hbm.out o).symm.trans c)) d0, (fun {o u} (c : w5.cell? ⟨w3.heap.size, o, none⟩ = some u) => (cell_blk Hp8.out.b2 o).trans ((cell_blk Hbm.out o).symm.trans c)) d1, (fun {o u} (c : w5.cell? ⟨w3.heap.size, o, none⟩ = some u) => (cell_blk Hp8.out.b2 o).trans ((cell_blk Hbm.out o).symm.trans c)) d2, (fun {o u} (c : w5.cell? ⟨w3.heap.size, o, none⟩ = some u) => (cell_blk Hp8.out.b2 o).trans ((cell_blk Hbm.out o).symm.trans c)) d3, (fun {o u} (c : w5.cell? ⟨w3.heap.size, o, none⟩ = some u) => (cell_blk Hp8.out.b2 o).trans ((cell_blk Hbm.out o).symm.trans c)) d4, (fun {o u} (c : w5.cell? ⟨w3.heap.size, o, none⟩ = some u) => (cell_blk Hp8.out.b2 o).trans ((cell_blk Hbm.out o).symm.trans c)) d5, (fun {o u} (c : w5.cell? ⟨w3.heap.size, o, none⟩ = some u) => (cell_blk Hp8.out.b2 o).trans ((cell_blk Hbm.out o).symm.trans c)) d6⟩)) ((first | (go_at_call 69; refine (HSl _).out.mono ?_; rintro e w' ⟨rfl, rfl⟩) | (go_at_call 75; refine (HBy _).out.mono ?_; rintro e w7 ⟨g, rfl, hg, hrow, ho7⟩; have Hg := hid hg; have Hrow := hid hrow; have Ho7 : Hid (Only (fun _ => False) w5 w7) := hid ((Only.refl (fun _ => False) w5).drew.trans ho7 (fun _ _ e => e)); clear hg hrow ho7) | (go_at_call 72; refine (HWr.out _ _ (Ho5.out.trans Ho7.out (fun _ _ e => e)) Hrow.out (Nat.le_trans Ho5.out.size Hg.out)).out.mono ?_; rintro e w8 ⟨rfl, hst⟩; obtain ⟨F8, hp8⟩ := PutW.mk' hst (Ho5.out.trans Ho7.out (fun _ _ e => e)) Hlt.out (Nat.le_refl _) HG1.out (blk_only Hb5'.out Ho7.out (fun e => e)) (blk_only Hbm.out Ho7.out (fun e => e)); have Hp8 := hid hp8; clear hst hp8)))
        go_wp2_with (first | (refine wpList_store_all rfl 85 (.tmp 6) (.tmp 68) rfl w.heap.size MarkM.zero.V rfl rfl MarkM.zero.V 85 Hp8.out.b1 rfl info_mark (V_one _) ?_; intro w10 hb10 ho10 hs10; have Hb10 := hid hb10; have Hds := hid (Hp8.out.done ho10); clear hb10 ho10 hs10))
        refine bodyPost_ret (results_cell1 (q := 7) rfl _ _ w.heap.size 85 MarkM.zero.V _ _ rfl Hb10.out Try.underlying85 rfl info_mark) rfl ⟨by rw [Hp.out]; rfl, by rw [Hp.out]; exact Hds.out⟩
  · have hsq : nextSeq last.s top = top + 1 := if_neg (fun h => h0 h.1)
    have hq : True := trivial
    obtain ⟨m, hmm⟩ : ∃ m, mkMark (top + 1) xs = m := ⟨_, rfl⟩
    rw [hsq, hmm]
    have Hmm := hid hmm
    clear hsq hmm
    go_enter Try.func61, Try.ntmps61
    go_wp2_with (first | (go_at_call 50; refine (HLk _).out.mono ?_; rintro e w2 ⟨rfl, ho2⟩; have Hb2 := HS w2 ho2; have Ho2 : Hid (Only (fun _ => False) w w2) := hid (((Only.refl (fun _ => False) w).alloc _).trans ho2 (fun _ _ e => e)); clear ho2) | (refine wpList_store_all rfl 85 (.tmp 8) (.tmp 18) rfl w2.heap.size last.V rfl rfl MarkM.zero.V 85 (blk_new w2 _) rfl info_mark (V_one _) ?_; intro w3 hb3 ho3 hs3; have c0 : w3.cell? ⟨w2.heap.size, 0, none⟩ = some (.int .u64 last.s) := cell_blk hb3 0; have Hb3 := hid hb3; have Hb3' := hid ((ho3.block w.heap.size (blk_lt (blk_alloc Hb2.out)) (by show ¬ w.heap.size = w2.heap.size; have := blk_lt Hb2.out; omega)).trans (blk_alloc Hb2.out)); have Hlt3 := hid (And.intro (blk_lt Hb2.out) (blk_lt hb3)); have Ho3 := hid (Ho2.out.trans (((Only.refl (fun _ => False) w2).alloc _).trans ho3 (fun k hk e => by have e' : k = w2.heap.size := e; omega)) (fun _ _ e => e)); clear hb3 ho3 hs3) | (refine wpList_store_all rfl 85 (.tmp 11) (.tmp 37) rfl w3.heap.size #[.int .u64 (top + 1), .int .u64 0, .int .u64 0, .int .u64 0, .int .u64 0, .int .u64 0, .int .u64 0] rfl rfl MarkM.zero.V 85 (blk_new w3 _) rfl info_mark (by simp [Value.oneCell']) ?_; intro w4 hb4 ho4 hs4; have c4 : w4.cell? ⟨w3.heap.size, 0, none⟩ = some (.int .u64 (top + 1)) := cell_blk hb4 0; have z4 := frozen_blk hb4; have c3 : w4.cell? ⟨w2.heap.size, 0, none⟩ = some (.int .u64 last.s) := (World.cell?_of_block ((ho4.block w2.heap.size (blk_lt (blk_alloc Hb3.out)) (by show ¬ w2.heap.size = w3.heap.size; have := Hlt3.out; omega)).trans (by rw [blk_alloc Hb3.out, Hb3.out]))).trans c0; have Hb4 := hid hb4; have Hb4' := hid ((ho4.block w.heap.size (blk_lt (blk_alloc Hb3'.out)) (by show ¬ w.heap.size = w3.heap.size; have := blk_lt Hb3'.out; omega)).trans (blk_alloc Hb3'.out)); have Ho4 := hid (Ho3.out.trans (((Only.refl (fun _ => False) w3).alloc _).trans ho4 (fun k hk e => by have e' : k = w3.heap.size := e; omega)) (fun _ _ e => e)); have Hlt4 := hid (blk_lt hb4); clear hb4 ho4 hs4) | (refine wpList_cpy_in rfl (.tmp 55) (.tmp 56) 142 142 rfl 51 Try.underlying142 (by kernel_rfl) w3.heap.size 1 6 6 rfl #[.int .u64 (top + 1), .int .u64 0, .int .u64 0, .int .u64 0, .int .u64 0, .int .u64 0, .int .u64 0] 85 Hb4.out va xs.length vc rfl (nat64 xs) (by rw [length_nat64]; omega) (HVs.out _ Ho4.out) (by rw [length_nat64]; show 1 + xs.length ≤ 7; omega) (fun u hu => by obtain ⟨x, _, rfl⟩ := List.mem_map.1 hu; rfl) ?_; intro w5 hb5 ho5 hs5; have Hb5 := hid hb5; have Hb5' := hid ((ho5.block w.heap.size (blk_lt Hb4'.out) (by show ¬ w.heap.size = w3.heap.size; have := blk_lt Hb3'.out; omega)).trans Hb4'.out); have Ho5 := hid (Ho4.out.trans ho5 (fun k hk e => by have e' : k = w3.heap.size := e; have := Ho3.out.size; omega)); clear hb5 ho5 hs5))
    have hbm := blkMark (n := top + 1) (by omega) hx6 Hb5.out
    have hok := mk_ok (top + 1) xs (by omega) Hxs.out
    rw [Hmm.out] at hbm hok
    have hms : m.s = top + 1 := by rw [← Hmm.out]; rfl
    obtain ⟨sl, hsl⟩ : ∃ sl : Int, (first : Int) + ((m.s % 2 : Nat) : Int) = sl := ⟨_, rfl⟩
    have HSl : ∀ w1, Hid (Calls Try.prog 69 #[.int .i64 first, .int .u64 m.s] w1 fun e w' => e = .returned (.int .i64 sl) ∧ w1 = w') := fun w1 => hid (by rw [← hsl]; exact slot_c w1 first m.s (by omega) (by omega))
    have HBy : ∀ w1, Hid (Calls Try.prog 75 #[.agg #[.int .u64 m.s, .int .u64 m.w0, .int .u64 m.w1, .int .u64 m.w2, .int .u64 m.w3, .int .u64 m.w4, .int .u64 m.w5]] w1 fun e w' => ∃ g, e = .returned (.slice (some ⟨g, 0, none⟩) 128 128) ∧ w1.heap.size ≤ g ∧ Row w' g 5 128 (bytesV (enc m)) ∧ Only (fun _ => False) w1 w') := fun w1 => hid (bytes_c w1 m hok)
    obtain ⟨⟨WD, WE⟩, hWD⟩ : ∃ W, D.write ((first : Int) + ((m.s % 2 : Nat) : Int)) (enc m) = W := ⟨_, rfl⟩
    obtain ⟨⟨FD, FE⟩, hFD⟩ : ∃ W, WD.flush = W := ⟨_, rfl⟩
    have Hpg : Hid (putGo D first m = if WE ≠ 0 then (WD, MarkM.zero, WE) else if FE ≠ 0 then (FD, MarkM.zero, FE) else (FD, m, 0)) := hid (by unfold putGo; rw [hWD]; simp only [hFD])
    have HWr : ∀ w1 g, Only (fun _ => False) w w1 → Row w1 g 5 128 (bytesV (enc m)) → w.heap.size ≤ g → Hid (Calls Try.prog 72 #[.pointer (some ⟨b, 0, none⟩), .int .i64 sl, .slice (some ⟨g, 0, none⟩) 128 128] w1 fun e w' => e = .returned (.int .i64 WE) ∧ DStep w1 w' b WD F) := fun w1 g ho hr hg => by
      have h1 := write_c (HW w1 ho).out sl (.slice (some ⟨g, 0, none⟩) 128 128) (enc m) (by have := hr.src; rw [length_enc] at this; exact this) (fun g' o' c' e hF => by simp only [Value.slice.injEq, Option.some.injEq, Addr.mk.injEq] at e; have := Hlt.out g' hF; omega) (by simp)
      rw [← hsl, hWD, hsl] at h1
      exact hid h1
    have HFl : ∀ w1 F1, DiskAt w1 b WD F1 → Hid (Calls Try.prog 60 #[.pointer (some ⟨b, 0, none⟩)] w1 fun e w' => e = .returned (.int .i64 FE) ∧ DiskAt w' b FD F1 ∧ Only F1 w1 w') := fun w1 F1 hd => hid (by have := flush_c hd; rw [hFD] at this; exact this)
    have HWr := hid HWr; have HFl := hid HFl; have HBl := hid (blk_lt hbm)
    have HG1 := hid (show w.heap.size ≤ w3.heap.size from Ho3.out.size)
    have d0 : w5.cell? ⟨w3.heap.size, 0, none⟩ = some (.int .u64 m.s) := cell_blk hbm 0
    have d1 : w5.cell? ⟨w3.heap.size, 1, none⟩ = some (.int .u64 m.w0) := cell_blk hbm 1
    have d2 : w5.cell? ⟨w3.heap.size, 2, none⟩ = some (.int .u64 m.w1) := cell_blk hbm 2
    have d3 : w5.cell? ⟨w3.heap.size, 3, none⟩ = some (.int .u64 m.w2) := cell_blk hbm 3
    have d4 : w5.cell? ⟨w3.heap.size, 4, none⟩ = some (.int .u64 m.w3) := cell_blk hbm 4
    have d5 : w5.cell? ⟨w3.heap.size, 5, none⟩ = some (.int .u64 m.w4) := cell_blk hbm 5
    have d6 : w5.cell? ⟨w3.heap.size, 6, none⟩ = some (.int .u64 m.w5) := cell_blk hbm 6
    have Hbm := hid hbm
    clear hbm hok hms hsl hWD hFD z4 c3 c4 c0 HW HLk HS HVs hq
    by_cases hwe : WE = 0
    · have hwe1 : (WE == 0) = true := by simpa using hwe
      by_cases hfe : FE = 0
      · have Hp := hid (Hpg.out.trans (by rw [if_neg (by simpa using hwe), if_neg (by simpa using hfe)]))
        have hfe1 : (FE == 0) = true := by simpa using hfe
        clear Hpg hwe hfe
        go_region_held3 (fun W' => W'.cell? ⟨w3.heap.size, 0, none⟩ = some (.int .u64 m.s) ∧ W'.cell? ⟨w3.heap.size, 1, none⟩ = some (.int .u64 m.w0) ∧ W'.cell? ⟨w3.heap.size, 2, none⟩ = some (.int .u64 m.w1) ∧ W'.cell? ⟨w3.heap.size, 3, none⟩ = some (.int .u64 m.w2) ∧ W'.cell? ⟨w3.heap.size, 4, none⟩ = some (.int .u64 m.w3) ∧ W'.cell? ⟨w3.heap.size, 5, none⟩ = some (.int .u64 m.w4) ∧ W'.cell? ⟨w3.heap.size, 6, none⟩ = some (.int .u64 m.w5)) ((first | go_keep | exact ⟨(fun {o u} (c : w5.cell? ⟨w3.heap.size, o, none⟩ = some u) => (World.cell?_of_block (Ho7.out.block w3.heap.size HBl.out (fun e => e))).trans c) d0, (fun {o u} (c : w5.cell? ⟨w3.heap.size, o, none⟩ = some u) => (World.cell?_of_block (Ho7.out.block w3.heap.size HBl.out (fun e => e))).trans c) d1, (fun {o u} (c : w5.cell? ⟨w3.heap.size, o, none⟩ = some u) => (World.cell?_of_block (Ho7.out.block w3.heap.size HBl.out (fun e => e))).trans c) d2, (fun {o u} (c : w5.cell? ⟨w3.heap.size, o, none⟩ = some u) => (World.cell?_of_block (Ho7.out.block w3.heap.size HBl.out (fun e => e))).trans c) d3, (fun {o u} (c : w5.cell? ⟨w3.heap.size, o, none⟩ = some u) => (World.cell?_of_block (Ho7.out.block w3.heap.size HBl.out (fun e => e))).trans c) d4, (fun {o u} (c : w5.cell? ⟨w3.heap.size, o, none⟩ = some u) => (World.cell?_of_block (Ho7.out.block w3.heap.size HBl.out (fun e => e))).trans c) d5, (fun {o u} (c : w5.cell? ⟨w3.heap.size, o, none⟩ = some u) => (World.cell?_of_block (Ho7.out.block w3.heap.size HBl.out (fun e => e))).trans c) d6⟩ | exact ⟨(fun {o u} (c : w5.cell? ⟨w3.heap.size, o, none⟩ = some u) => (cell_blk Hp8.out.b2 o).trans ((cell_blk Hbm.out o).symm.trans c)) d0, (fun {o u} (c : w5.cell? ⟨w3.heap.size, o, none⟩ = some u) => (cell_blk Hp8.out.b2 o).trans ((cell_blk Hbm.out o).symm.trans c)) d1, (fun {o u} (c : w5.cell? ⟨w3.heap.size, o, none⟩ = some u) => (cell_blk Hp8.out.b2 o).trans ((cell_blk Hbm.out o).symm.trans c)) d2, (fun {o u} (c : w5.cell? ⟨w3.heap.size, o, none⟩ = some u) => (cell_blk Hp8.out.b2 o).trans ((cell_blk Hbm.out o).symm.trans c)) d3, (fun {o u} (c : w5.cell? ⟨w3.heap.size, o, none⟩ = some u) => (cell_blk Hp8.out.b2 o).trans ((cell_blk Hbm.out o).symm.trans c)) d4, (fun {o u} (c : w5.cell? ⟨w3.heap.size, o, none⟩ = some u) => (cell_blk Hp8.out.b2 o).trans ((cell_blk Hbm.out o).symm.trans c)) d5, (fun {o u} (c : w5.cell? ⟨w3.heap.size, o, none⟩ = some u) => (cell_blk Hp8.out.b2 o).trans ((cell_blk Hbm.out o).symm.trans c)) d6⟩)) ((first | (go_at_call 69; refine (HSl _).out.mono ?_; rintro e w' ⟨rfl, rfl⟩) | (go_at_call 75; refine (HBy _).out.mono ?_; rintro e w7 ⟨g, rfl, hg, hrow, ho7⟩; have Hg := hid hg; have Hrow := hid hrow; have Ho7 : Hid (Only (fun _ => False) w5 w7) := hid ((Only.refl (fun _ => False) w5).drew.trans ho7 (fun _ _ e => e)); clear hg hrow ho7) | (go_at_call 72; refine (HWr.out _ _ (Ho5.out.trans Ho7.out (fun _ _ e => e)) Hrow.out (Nat.le_trans Ho5.out.size Hg.out)).out.mono ?_; rintro e w8 ⟨rfl, hst⟩; obtain ⟨F8, hp8⟩ := PutW.mk' hst (Ho5.out.trans Ho7.out (fun _ _ e => e)) Hlt.out (Nat.le_refl _) HG1.out (blk_only Hb5'.out Ho7.out (fun e => e)) (blk_only Hbm.out Ho7.out (fun e => e)); have Hp8 := hid hp8; clear hst hp8)))
        go_wp2_with (first | (go_at_call 60; refine (HFl.out _ _ Hp8.out.disk).out.mono ?_; rintro e w9 ⟨rfl, hd9, ho9⟩; have Hp9 := hid (Hp8.out.step hd9 ho9); clear hd9 ho9) | (refine wpList_load_row rfl 85 (.tmp 11) rfl w3.heap.size rfl 85 m.V (0, 0) _ Hp9.out.b2 Try.underlying85 rfl info_mark ?_) | (refine wpList_store_all rfl 85 (.tmp 6) (.tmp 76) rfl w.heap.size m.V rfl rfl MarkM.zero.V 85 Hp9.out.b1 rfl info_mark (V_one _) ?_; intro w10 hb10 ho10 hs10; have Hb10 := hid hb10; have Hds := hid (Hp9.out.done ho10); clear hb10 ho10 hs10))
        refine bodyPost_ret (results_cell1 (q := 7) rfl _ _ w.heap.size 85 m.V _ _ rfl Hb10.out Try.underlying85 rfl info_mark) rfl ⟨by rw [Hp.out]; rfl, by rw [Hp.out]; exact Hds.out⟩
      · have Hp := hid (Hpg.out.trans (by rw [if_neg (by simpa using hwe), if_pos hfe]))
        have hfe1 : (FE == 0) = false := by simpa using hfe
        clear Hpg hwe hfe
        go_region_held3 (fun W' => W'.cell? ⟨w3.heap.size, 0, none⟩ = some (.int .u64 m.s) ∧ W'.cell? ⟨w3.heap.size, 1, none⟩ = some (.int .u64 m.w0) ∧ W'.cell? ⟨w3.heap.size, 2, none⟩ = some (.int .u64 m.w1) ∧ W'.cell? ⟨w3.heap.size, 3, none⟩ = some (.int .u64 m.w2) ∧ W'.cell? ⟨w3.heap.size, 4, none⟩ = some (.int .u64 m.w3) ∧ W'.cell? ⟨w3.heap.size, 5, none⟩ = some (.int .u64 m.w4) ∧ W'.cell? ⟨w3.heap.size, 6, none⟩ = some (.int .u64 m.w5)) ((first | go_keep | exact ⟨(fun {o u} (c : w5.cell? ⟨w3.heap.size, o, none⟩ = some u) => (World.cell?_of_block (Ho7.out.block w3.heap.size HBl.out (fun e => e))).trans c) d0, (fun {o u} (c : w5.cell? ⟨w3.heap.size, o, none⟩ = some u) => (World.cell?_of_block (Ho7.out.block w3.heap.size HBl.out (fun e => e))).trans c) d1, (fun {o u} (c : w5.cell? ⟨w3.heap.size, o, none⟩ = some u) => (World.cell?_of_block (Ho7.out.block w3.heap.size HBl.out (fun e => e))).trans c) d2, (fun {o u} (c : w5.cell? ⟨w3.heap.size, o, none⟩ = some u) => (World.cell?_of_block (Ho7.out.block w3.heap.size HBl.out (fun e => e))).trans c) d3, (fun {o u} (c : w5.cell? ⟨w3.heap.size, o, none⟩ = some u) => (World.cell?_of_block (Ho7.out.block w3.heap.size HBl.out (fun e => e))).trans c) d4, (fun {o u} (c : w5.cell? ⟨w3.heap.size, o, none⟩ = some u) => (World.cell?_of_block (Ho7.out.block w3.heap.size HBl.out (fun e => e))).trans c) d5, (fun {o u} (c : w5.cell? ⟨w3.heap.size, o, none⟩ = some u) => (World.cell?_of_block (Ho7.out.block w3.heap.size HBl.out (fun e => e))).trans c) d6⟩ | exact ⟨(fun {o u} (c : w5.cell? ⟨w3.heap.size, o, none⟩ = some u) => (cell_blk Hp8.out.b2 o).trans ((cell_blk Hbm.out o).symm.trans c)) d0, (fun {o u} (c : w5.cell? ⟨w3.heap.size, o, none⟩ = some u) => (cell_blk Hp8.out.b2 o).trans ((cell_blk Hbm.out o).symm.trans c)) d1, (fun {o u} (c : w5.cell? ⟨w3.heap.size, o, none⟩ = some u) => (cell_blk Hp8.out.b2 o).trans ((cell_blk Hbm.out o).symm.trans c)) d2, (fun {o u} (c : w5.cell? ⟨w3.heap.size, o, none⟩ = some u) => (cell_blk Hp8.out.b2 o).trans ((cell_blk Hbm.out o).symm.trans c)) d3, (fun {o u} (c : w5.cell? ⟨w3.heap.size, o, none⟩ = some u) => (cell_blk Hp8.out.b2 o).trans ((cell_blk Hbm.out o).symm.trans c)) d4, (fun {o u} (c : w5.cell? ⟨w3.heap.size, o, none⟩ = some u) => (cell_blk Hp8.out.b2 o).trans ((cell_blk Hbm.out o).symm.trans c)) d5, (fun {o u} (c : w5.cell? ⟨w3.heap.size, o, none⟩ = some u) => (cell_blk Hp8.out.b2 o).trans ((cell_blk Hbm.out o).symm.trans c)) d6⟩)) ((first | (go_at_call 69; refine (HSl _).out.mono ?_; rintro e w' ⟨rfl, rfl⟩) | (go_at_call 75; refine (HBy _).out.mono ?_; rintro e w7 ⟨g, rfl, hg, hrow, ho7⟩; have Hg := hid hg; have Hrow := hid hrow; have Ho7 : Hid (Only (fun _ => False) w5 w7) := hid ((Only.refl (fun _ => False) w5).drew.trans ho7 (fun _ _ e => e)); clear hg hrow ho7) | (go_at_call 72; refine (HWr.out _ _ (Ho5.out.trans Ho7.out (fun _ _ e => e)) Hrow.out (Nat.le_trans Ho5.out.size Hg.out)).out.mono ?_; rintro e w8 ⟨rfl, hst⟩; obtain ⟨F8, hp8⟩ := PutW.mk' hst (Ho5.out.trans Ho7.out (fun _ _ e => e)) Hlt.out (Nat.le_refl _) HG1.out (blk_only Hb5'.out Ho7.out (fun e => e)) (blk_only Hbm.out Ho7.out (fun e => e)); have Hp8 := hid hp8; clear hst hp8)))
        go_wp2_with (first | (go_at_call 60; refine (HFl.out _ _ Hp8.out.disk).out.mono ?_; rintro e w9 ⟨rfl, hd9, ho9⟩; have Hp9 := hid (Hp8.out.step hd9 ho9); clear hd9 ho9) | (refine wpList_store_all rfl 85 (.tmp 6) (.tmp 74) rfl w.heap.size MarkM.zero.V rfl rfl MarkM.zero.V 85 Hp9.out.b1 rfl info_mark (V_one _) ?_; intro w10 hb10 ho10 hs10; have Hb10 := hid hb10; have Hds := hid (Hp9.out.done ho10); clear hb10 ho10 hs10))
        refine bodyPost_ret (results_cell1 (q := 7) rfl _ _ w.heap.size 85 MarkM.zero.V _ _ rfl Hb10.out Try.underlying85 rfl info_mark) rfl ⟨by rw [Hp.out]; rfl, by rw [Hp.out]; exact Hds.out⟩
    · have Hp := hid (Hpg.out.trans (if_pos hwe))
      have hwe1 : (WE == 0) = false := by simpa using hwe
      clear Hpg hwe
      go_region_held3 (fun W' => W'.cell? ⟨w3.heap.size, 0, none⟩ = some (.int .u64 m.s) ∧ W'.cell? ⟨w3.heap.size, 1, none⟩ = some (.int .u64 m.w0) ∧ W'.cell? ⟨w3.heap.size, 2, none⟩ = some (.int .u64 m.w1) ∧ W'.cell? ⟨w3.heap.size, 3, none⟩ = some (.int .u64 m.w2) ∧ W'.cell? ⟨w3.heap.size, 4, none⟩ = some (.int .u64 m.w3) ∧ W'.cell? ⟨w3.heap.size, 5, none⟩ = some (.int .u64 m.w4) ∧ W'.cell? ⟨w3.heap.size, 6, none⟩ = some (.int .u64 m.w5)) ((first | go_keep | exact ⟨(fun {o u} (c : w5.cell? ⟨w3.heap.size, o, none⟩ = some u) => (World.cell?_of_block (Ho7.out.block w3.heap.size HBl.out (fun e => e))).trans c) d0, (fun {o u} (c : w5.cell? ⟨w3.heap.size, o, none⟩ = some u) => (World.cell?_of_block (Ho7.out.block w3.heap.size HBl.out (fun e => e))).trans c) d1, (fun {o u} (c : w5.cell? ⟨w3.heap.size, o, none⟩ = some u) => (World.cell?_of_block (Ho7.out.block w3.heap.size HBl.out (fun e => e))).trans c) d2, (fun {o u} (c : w5.cell? ⟨w3.heap.size, o, none⟩ = some u) => (World.cell?_of_block (Ho7.out.block w3.heap.size HBl.out (fun e => e))).trans c) d3, (fun {o u} (c : w5.cell? ⟨w3.heap.size, o, none⟩ = some u) => (World.cell?_of_block (Ho7.out.block w3.heap.size HBl.out (fun e => e))).trans c) d4, (fun {o u} (c : w5.cell? ⟨w3.heap.size, o, none⟩ = some u) => (World.cell?_of_block (Ho7.out.block w3.heap.size HBl.out (fun e => e))).trans c) d5, (fun {o u} (c : w5.cell? ⟨w3.heap.size, o, none⟩ = some u) => (World.cell?_of_block (Ho7.out.block w3.heap.size HBl.out (fun e => e))).trans c) d6⟩ | exact ⟨(fun {o u} (c : w5.cell? ⟨w3.heap.size, o, none⟩ = some u) => (cell_blk Hp8.out.b2 o).trans ((cell_blk Hbm.out o).symm.trans c)) d0, (fun {o u} (c : w5.cell? ⟨w3.heap.size, o, none⟩ = some u) => (cell_blk Hp8.out.b2 o).trans ((cell_blk Hbm.out o).symm.trans c)) d1, (fun {o u} (c : w5.cell? ⟨w3.heap.size, o, none⟩ = some u) => (cell_blk Hp8.out.b2 o).trans ((cell_blk Hbm.out o).symm.trans c)) d2, (fun {o u} (c : w5.cell? ⟨w3.heap.size, o, none⟩ = some u) => (cell_blk Hp8.out.b2 o).trans ((cell_blk Hbm.out o).symm.trans c)) d3, (fun {o u} (c : w5.cell? ⟨w3.heap.size, o, none⟩ = some u) => (cell_blk Hp8.out.b2 o).trans ((cell_blk Hbm.out o).symm.trans c)) d4, (fun {o u} (c : w5.cell? ⟨w3.heap.size, o, none⟩ = some u) => (cell_blk Hp8.out.b2 o).trans ((cell_blk Hbm.out o).symm.trans c)) d5, (fun {o u} (c : w5.cell? ⟨w3.heap.size, o, none⟩ = some u) => (cell_blk Hp8.out.b2 o).trans ((cell_blk Hbm.out o).symm.trans c)) d6⟩)) ((first | (go_at_call 69; refine (HSl _).out.mono ?_; rintro e w' ⟨rfl, rfl⟩) | (go_at_call 75; refine (HBy _).out.mono ?_; rintro e w7 ⟨g, rfl, hg, hrow, ho7⟩; have Hg := hid hg; have Hrow := hid hrow; have Ho7 : Hid (Only (fun _ => False) w5 w7) := hid ((Only.refl (fun _ => False) w5).drew.trans ho7 (fun _ _ e => e)); clear hg hrow ho7) | (go_at_call 72; refine (HWr.out _ _ (Ho5.out.trans Ho7.out (fun _ _ e => e)) Hrow.out (Nat.le_trans Ho5.out.size Hg.out)).out.mono ?_; rintro e w8 ⟨rfl, hst⟩; obtain ⟨F8, hp8⟩ := PutW.mk' hst (Ho5.out.trans Ho7.out (fun _ _ e => e)) Hlt.out (Nat.le_refl _) HG1.out (blk_only Hb5'.out Ho7.out (fun e => e)) (blk_only Hbm.out Ho7.out (fun e => e)); have Hp8 := hid hp8; clear hst hp8)))
      go_wp2_with (first | (refine wpList_store_all rfl 85 (.tmp 6) (.tmp 68) rfl w.heap.size MarkM.zero.V rfl rfl MarkM.zero.V 85 Hp8.out.b1 rfl info_mark (V_one _) ?_; intro w10 hb10 ho10 hs10; have Hb10 := hid hb10; have Hds := hid (Hp8.out.done ho10); clear hb10 ho10 hs10))
      refine bodyPost_ret (results_cell1 (q := 7) rfl _ _ w.heap.size 85 MarkM.zero.V _ _ rfl Hb10.out Try.underlying85 rfl info_mark) rfl ⟨by rw [Hp.out]; rfl, by rw [Hp.out]; exact Hds.out⟩

/-- A mark is put, whatever comes of it. -/
theorem put_c (h : DiskAt w b D F) (first : Int) (hf : first ≤ 9223372036854775807) (v : Value) (xs : List Nat) (hv : SrcV w v (nat64 xs)) (hxl : xs.length ≤ 9223372036854775807) (hxs : ∀ x ∈ xs, x < 18446744073709551616) :
    Calls Try.prog 61 #[.pointer (some ⟨b, 0, none⟩), .int .i64 first, v] w fun e w' => e = .returned (.tuple #[.agg (putR D first xs).2.1.V, .int .i64 (putR D first xs).2.2]) ∧ DStep w w' b (putR D first xs).1 F := by
  by_cases hno : (lookR D first).2.2 ≠ 0 ∨ 6 < xs.length ∨ topMax < (lookR D first).2.1
  · refine (put_no h first hf v xs hv hxl hno).mono ?_
    rintro e w' ⟨rfl, ho, e1, e2⟩
    rw [e1, e2]
    exact ⟨rfl, (h.only ho (fun _ _ e => e)).step (ho.mono (fun _ _ e => e.elim))⟩
  · have h1 : (lookR D first).2.2 = 0 := by
      rcases Classical.em ((lookR D first).2.2 = 0) with e | e
      · exact e
      · exact absurd (.inl e) hno
    have hr : putR D first xs = putGo D first (putMark D first xs) := by
      unfold putR
      rw [if_neg (by simpa using h1), if_neg (fun e => hno (.inr (.inl e))), if_neg (fun e => hno (.inr (.inr e)))]
    have hge : ¬ (first < 0 ∨ (D.n : Int) - 1 ≤ first ∨ D.down = true) := by
      intro e
      unfold lookR at h1
      rw [if_pos e] at h1
      unfold lookErr at h1
      simp only at h1
      split at h1 <;> cases h1
    obtain ⟨f, rfl⟩ : ∃ f : Nat, first = f := ⟨first.toNat, by omega⟩
    rw [hr]
    exact put_go h f (by omega) v xs hv (by omega) hxs h1 (by omega)
end
end Go.Proofs.Ythodcbhejjbhaaa
