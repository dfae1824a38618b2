/- command.read. -/
import Derived.Test.YtfmdngeooelcpaaGreatCmW
import Derived.Test.YtfmdngeooelcpaaGreatValH
namespace Go.Proofs.YtfmdngeooelcpaaGreat
open Go.RowKit
abbrev czero : Array Value := #[.int .i64 0, .int .i64 0, .int .i64 0, .int .i64 0, .string (strOf []), .int .i64 0, .int .i64 0, .string (strOf []), .slice none 0 0]
/-- In the middle of reading a command. -/
structure CMid (w wr : World) (b g n0 n1 n2 : Nat) (fs : Array Value) (x : EM × RdM) : Prop where
  rd : Rd wr b g x.2
  h0 : wr.heap[n0]? = some (.cells czero 38 (0, 0))
  h1 : ∃ vc, wr.heap[n1]? = some (.cells (x.1.ccells vc).toArray 38 (0, 0)) ∧ VAt wr (fun q => n2 < q ∧ q < wr.heap.size) x.1.v vc
  h2 : wr.heap[n2]? = some (.cells fs 93 (0, 0))
  o : Only (fun j => j = b) w wr
  hn0 : w.heap.size ≤ n0
  hnn : n0 < n1
  hn2 : n1 < n2
  hb : b < w.heap.size ∧ g < w.heap.size
theorem CMid.step {w wr wy : World} {b g n0 n1 n2 : Nat} {fs : Array Value} {x : EM × RdM} {r' : RdM} (h : CMid w wr b g n0 n1 n2 fs x) (hr : Rd wy b g r') (ho : Only (fun j => j = b) wr wy) : CMid w wy b g n0 n1 n2 fs (x.1, r') := by
  obtain ⟨vc, h1, h2⟩ := h.h1
  have := h.hn0; have := h.hnn; have := h.hn2; have := h.hb
  exact ⟨hr, blk_only h.h0 ho (by show ¬ n0 = b; omega), ⟨vc, blk_only h1 ho (by show ¬ n1 = b; omega), (h2.only ho (fun k hk e => by have e' : k = b := e; omega)).mono (fun k hk => ⟨hk.1, Nat.lt_of_lt_of_le hk.2 ho.size⟩)⟩, blk_only h.h2 ho (by show ¬ n2 = b; omega), h.o.trans ho (fun _ _ e => e), h.hn0, h.hnn, h.hn2, h.hb⟩
theorem CMid.set {w wr : World} {b g n0 n1 n2 : Nat} {fs : Array Value} {x : EM × RdM} (h : CMid w wr b g n0 n1 n2 fs x) (i : Nat) (v : Value) (e' : EM) (hv : e'.v = x.1.v) (hc : ∀ vc, ((x.1.ccells vc).toArray.setIfInBounds i v) = (e'.ccells vc).toArray) : CMid w (wr.setCell ⟨n1, i, none⟩ v) b g n0 n1 n2 fs (e', x.2) := by
  obtain ⟨vc, h1, h2⟩ := h.h1
  have := h.hn0; have := h.hnn; have := h.hn2; have := h.hb
  refine ⟨h.rd.only (only_set n1 i v) (by show ¬ b = n1; omega) (by show ¬ g = n1; omega), blk_only h.h0 (only_set n1 i v) (by show ¬ n0 = n1; omega), ⟨vc, ?_, ?_⟩, blk_only h.h2 (only_set n1 i v) (by show ¬ n2 = n1; omega), h.o.trans (only_set n1 i v) (fun k hk e => by have e' : k = n1 := e; omega), h.hn0, h.hnn, h.hn2, h.hb⟩
  · rw [← hc vc]; exact blk_set h1 i v
  · rw [hv]; exact (h2.only (only_set n1 i v) (fun k hk e => by have e' : k = n1 := e; omega)).mono (fun k hk => ⟨hk.1, by simp; exact hk.2⟩)
theorem CMid.form {w wr : World} {b g n0 n1 n2 : Nat} {fs : Array Value} {x : EM × RdM} (h : CMid w wr b g n0 n1 n2 fs x) : ∃ k n s a m c, wr.heap[n1]? = some (.cells #[.int .i64 x.1.k, .int .i64 x.1.tm, .int .i64 x.1.a, .int .i64 x.1.b, .string (strOf x.1.name), .int .i64 k, .int .i64 n, .string (strOf s), .slice a m c] 38 (0, 0)) ∧ VAt wr (fun q => n2 < q ∧ q < wr.heap.size) x.1.v [.int .i64 k, .int .i64 n, .string (strOf s), .slice a m c] := by
  obtain ⟨vc, h1, h2⟩ := h.h1
  obtain ⟨k, n, s, a, m, c, rfl⟩ := h2.form
  exact ⟨k, n, s, a, m, c, h1, h2⟩
theorem flds_of (k : Int) : cFlds k = (if fA k then [65] else []) ++ ((if fB k then [66] else []) ++ ((if fN k then [78] else []) ++ (if fV k then [86] else []))) := by
  rcases c_k7 k with rfl | rfl | rfl | rfl | rfl | rfl | h
  all_goals try decide
  have hA := (fA_mem k).1; have hB := (fB_mem k).1; have hN := (fN_mem k).1; have hV := (fV_mem k).1
  have h0 : cFlds k = [] := by unfold cFlds; rw [if_neg h]
  rw [h0] at hA hB hN hV ⊢
  rw [hA (by simp), hB (by simp), hN (by simp), hV (by simp)]; rfl
section
variable {w : World} {b g : Nat} {r : RdM}

end
end Go.Proofs.YtfmdngeooelcpaaGreat
