/- HistoryOwn: plain laws; where the lists of events that were handed out may be written. -/
import Derived.Test.YtnoopajedgllhaaHsM
import Derived.Test.YtnoopajedgllhaaHsL
namespace Go.Proofs.Ytnoopajedgllhaa
open Go.RowKit
theorem verR_self : ∀ (l : List EM) (n : Nat) (s : List UInt8), (∀ i e, l[i]? = some e → e.id = ((n + i + 1 : Nat) : Int) ∧ e.Good) → verR (sumS s l) n s l = 0
  | [], n, s, _ => by rw [verR]; exact if_pos rfl
  | e :: l, n, s, h => by
    obtain ⟨h1, h2⟩ := h 0 e rfl
    rw [verR, if_neg (fun g => g h1), if_neg (fun g => g (good_chk h2))]
    exact verR_self l (n + 1) (link s e) fun i x hi => by
      have := h (i + 1) x (by simpa using hi)
      rw [show n + (i + 1) + 1 = n + 1 + i + 1 from by omega] at this
      exact this
theorem verR_ok {es : List EM} (h : HOk es) (s : List UInt8) : verR (sumS s es) 0 s es = 0 := verR_self es 0 s fun i e hi => by
  obtain ⟨h1, h2, -⟩ := h i e hi
  exact ⟨by rw [Nat.zero_add]; exact h1, h2⟩
section
variable {w : World} {B : Nat → Prop} {n cap : Nat} {xs : List Value} {es : List EM} {ad : Option Addr}
/-- Where an event's list lies: its cells may be written. -/
theorem OutE.spots (h : OutE B w ad n cap xs es) {i : Nat} {e : EM} (hi : es[i]? = some e) : ∃ q va vm vc, ad = some ⟨q, 0, none⟩ ∧ q < w.heap.size ∧ B q ∧ w.cell? ⟨q, i * 11 + 10, none⟩ = some (.slice va vm vc) ∧ vm ≤ e.v.sz ∧ (0 < vm → ∃ g o arr T, va = some ⟨g, o, none⟩ ∧ w.heap[g]? = some (.cells arr T (0, 0)) ∧ o + 4 * vm ≤ arr.size ∧ B g ∧ g < w.heap.size ∧ g ≠ q ∧ Value.slice (some ⟨g, o, none⟩) vm vc ∈ xs) := by
  have hil : i < es.length := by
    rcases Nat.lt_or_ge i es.length with g | g
    · exact g
    · rw [List.getElem?_eq_none g] at hi; cases hi
  obtain ⟨q, hq, hc⟩ := h.gr.cells (by rw [h.len]; omega)
  obtain ⟨ds, h3, h4⟩ := EXs.at' h.exs i e hi
  obtain ⟨vk, vn, vs, va, vm, vc, rfl, hV⟩ := h4.form
  have h10 := h3 10 _ rfl
  obtain ⟨ev, hev⟩ : ∃ t, e.v = t := ⟨_, rfl⟩
  rw [hev] at hV ⊢
  obtain ⟨k, m, s, l⟩ := ev
  obtain ⟨a, cp, g, o, heq, hne, hls⟩ := hV
  simp only [List.cons.injEq, Value.slice.injEq, and_true] at heq
  obtain ⟨-, -, -, rfl, rfl, rfl⟩ := heq
  refine ⟨q, _, _, _, hq, h.gr.lt hq, h.new q hq, hc _ _ h10, by rw [VT.sz]; have := szL_len l; omega, fun hm => ?_⟩
  obtain ⟨rfl, hB, hgs, hgq⟩ := hne (List.length_pos_iff.1 hm)
  have hmem : Value.slice (some ⟨g, o, none⟩) l.length vc ∈ xs := List.mem_of_getElem? h10
  obtain ⟨-, -, -, arr, T, hb⟩ := h.soft g o _ _ hmem
  refine ⟨g, o, arr, T, rfl, hb, ?_, hB, hgs, fun e => hgq (by rw [hq, e]), hmem⟩
  obtain ⟨t, ht⟩ : ∃ t, l[l.length - 1]? = some t := ⟨_, List.getElem?_eq_getElem (by omega)⟩
  obtain ⟨cs', hc1, hc2⟩ := hls.get ht
  obtain ⟨zk, zn, zs, za, zm, zc, rfl⟩ := hc2.form
  have h5 := hc1 3 _ rfl
  rw [cell_blk hb] at h5
  have := (Array.getElem?_eq_some_iff.1 h5).1
  omega
/-- The blocks of the lists of events that were handed out. -/
def SoftB (xs : List Value) (q : Nat) : Prop := ∃ o m c, Value.slice (some ⟨q, o, none⟩) m c ∈ xs
theorem OutE.softB (h : OutE B w ad n cap xs es) {q : Nat} (hq : SoftB xs q) : B q ∧ q < w.heap.size ∧ ad ≠ some ⟨q, 0, none⟩ := by
  obtain ⟨o, m, c, hm⟩ := hq
  obtain ⟨h1, h2, h3, -⟩ := h.soft q o m c hm
  exact ⟨h1, h2, h3⟩
/-- The blocks that were written keep their shape. -/
def Kept (Z : Nat → Prop) (w w' : World) : Prop := Only Z w w' ∧ ∀ g arr T, Z g → w.heap[g]? = some (.cells arr T (0, 0)) → ∃ arr', w'.heap[g]? = some (.cells arr' T (0, 0)) ∧ arr'.size = arr.size
theorem Kept.refl (Z : Nat → Prop) (w : World) : Kept Z w w := ⟨Only.refl _ _, fun _ arr _ _ h => ⟨arr, h, rfl⟩⟩
theorem Kept.same {Z : Nat → Prop} {w w1 w2 : World} (h : Kept Z w w1) (ho : Only (fun _ => False) w1 w2) : Kept Z w w2 := ⟨h.1.trans ho (fun _ _ e => e.elim), fun g arr T hZ hb => by
  obtain ⟨arr', h1, h2⟩ := h.2 g arr T hZ hb
  exact ⟨arr', blk_only h1 ho (fun e => e), h2⟩⟩
theorem Kept.step {Z : Nat → Prop} {w w1 w2 : World} (h : Kept Z w w1) {g : Nat} {a1 a2 : Array Value} {T : TypeId} (hZ : Z g) (h1 : w1.heap[g]? = some (.cells a1 T (0, 0))) (h2 : w2.heap[g]? = some (.cells a2 T (0, 0))) (ho : Only (fun k => k = g) w1 w2) (hs : a2.size = a1.size) : Kept Z w w2 :=
  ⟨h.1.trans (ho.mono (fun k _ e => by have e' : k = g := e; rw [e']; exact hZ)) (fun _ _ e => e), fun g' arr T' hZ' hb => by
    obtain ⟨arr', h3, h4⟩ := h.2 g' arr T' hZ' hb
    by_cases e : g' = g
    · subst e
      rw [h1] at h3
      simp only [Option.some.injEq, Obj.cells.injEq, and_true] at h3
      obtain ⟨rfl, rfl⟩ := h3
      exact ⟨a2, h2, by rw [hs, h4]⟩
    · exact ⟨arr', blk_only h3 ho e, h4⟩⟩
set_option maxRecDepth 100000 in
theorem of_c (n : Int) : Calls Try.prog 23 #[.int .i64 n] w fun x w' => x = .returned (.agg #[.int .i64 1, .int .i64 n, .string ⟨#[]⟩, .slice none 0 0]) ∧ Only (fun _ => False) w w' := by
  go_enter Try.func23, Try.ntmps23
  go_wp2_with fail
  refine bodyPost_ret (results_cell_row rfl _ _ w.heap.size 42 #[.int .i64 1, .int .i64 n, .string ⟨#[]⟩, .slice none 0 0] (0, 0) _ rfl (by simpa using blk_new w (.cells #[.int .i64 1, .int .i64 n, .string ⟨#[]⟩, .slice none 0 0] 42)) Try.underlying42 rfl info_val) rfl ⟨rfl, only_new w _⟩
end
end Go.Proofs.Ytnoopajedgllhaa
