/- The law's own list of operations: fits. -/
import Derived.Test.YthodcbhejjbhaaaDiskL
namespace Go.Proofs.Ythodcbhejjbhaaa
open Go.RowKit

structure OpM where
  kind : Int
  n : Int
  at' : Int
  x : Int
  raw : Bool
  dv : Value
  data : List UInt8
  kv : Value
  keep : List Int
def OpM.cells (o : OpM) : List Value := [.int .i64 o.kind, .int .i64 o.n, .int .i64 o.at', .int .u8 o.x, .bool o.raw, o.dv, o.kv]

/-- A slice value that reads as these operations; all that it holds lies below B. -/
structure OpAt (w : World) (B : Nat) (o : OpM) : Prop where
  data : Src w o.dv o.data
  keep : SrcV w o.kv (intsV o.keep)
  dlt : ∀ g of c, o.dv = .slice (some ⟨g, of, none⟩) o.data.length c → o.data ≠ [] → g < B
  klt : ∀ g of c, o.kv = .slice (some ⟨g, of, none⟩) o.keep.length c → o.keep ≠ [] → g < B
  dlen : o.data.length ≤ 9223372036854775807
  klen : o.keep.length ≤ 9223372036854775807
  n0 : -9223372036854775808 ≤ o.n ∧ o.n ≤ 9223372036854775807
  x0 : 0 ≤ o.x ∧ o.x ≤ 255

def OpsAt (w : World) (B : Nat) (v : Value) (l : List OpM) : Prop :=
  ∃ a c, v = .slice a l.length c ∧ l.length ≤ 9223372036854775807 ∧ ∀ i o, l[i]? = some o → OpAt w B o ∧ ∃ g of, a = some ⟨g, of, none⟩ ∧ g < B ∧ ∀ j u, o.cells[j]? = some u → w.cell? ⟨g, of + i * 7 + j, none⟩ = some u

def OpM.ok (o : OpM) : Bool := !(decide (300 < o.data.length) || decide (20 < o.keep.length) || (!o.raw && decide (128 < o.data.length)))
def fitsB (l : List OpM) : Bool := decide (l.length ≤ 30) && l.all OpM.ok

theorem OpAt.only {w w' : World} {B : Nat} {o : OpM} {G : Nat → Prop} (h : OpAt w B o) (ho : Only G w w') (hG : ∀ k, k < B → ¬ G k) : OpAt w' B o :=
  ⟨h.data.only ho (fun hne g of c e => hG g (h.dlt g of c e hne)), h.keep.only ho (fun hne g of c e _ => hG g (h.klt g of c (by simpa using e) (by rintro e'; apply hne; rw [e']; rfl))), h.dlt, h.klt, h.dlen, h.klen, h.n0, h.x0⟩
theorem OpsAt.only {w w' : World} {B : Nat} {v : Value} {l : List OpM} {G : Nat → Prop} (h : OpsAt w B v l) (ho : Only G w w') (hB : B ≤ w.heap.size) (hG : ∀ k, k < B → ¬ G k) : OpsAt w' B v l := by
  obtain ⟨a, c, rfl, hll, hl⟩ := h
  refine ⟨a, c, rfl, hll, fun i o hi => ?_⟩
  obtain ⟨hat, g, of, rfl, hg, hc⟩ := hl i o hi
  refine ⟨hat.only ho hG, g, of, rfl, hg, fun j u hj => ?_⟩
  rw [← hc j u hj]
  exact World.cell?_of_block (ho.block g (by omega) (hG g hg))

theorem ok_of {o : OpM} (h1 : (o.data.length : Int) ≤ 300) (h2 : (o.keep.length : Int) ≤ 20) (h3 : o.raw = true ∨ (o.data.length : Int) ≤ 128) : o.ok = true := by
  unfold OpM.ok
  have e1 : decide (300 < o.data.length) = false := by simp; omega
  have e2 : decide (20 < o.keep.length) = false := by simp; omega
  rw [e1, e2]
  rcases h3 with h3 | h3
  · simp [h3]
  · have e3 : decide (128 < o.data.length) = false := by simp; omega
    simp [e3]
theorem not_fits {l : List OpM} {k : Nat} {o : OpM} (h : l[k]? = some o) (h1 : 300 < (o.data.length : Int) ∨ 20 < (o.keep.length : Int) ∨ (¬ o.raw = true ∧ 128 < (o.data.length : Int))) : fitsB l = false := by
  have : o.ok = false := by
    unfold OpM.ok
    rcases h1 with h1 | h1 | ⟨h1, h2⟩
    · simp; omega
    · simp; omega
    · have : o.raw = false := by simpa using h1
      simp [this]; omega
  have hm : o ∈ l := List.mem_of_getElem? h
  have : l.all OpM.ok = false := by rw [List.all_eq_false]; exact ⟨o, hm, by simp [this]⟩
  simp [fitsB, this]
theorem fits_of {l : List OpM} (h : ¬ 30 < l.length) (h1 : ∀ (j : Nat) (o : OpM), j < l.length → l[j]? = some o → o.ok = true) : fitsB l = true := by
  have : l.all OpM.ok = true := by
    rw [List.all_eq_true]
    intro o ho
    obtain ⟨j, hj, rfl⟩ := List.mem_iff_getElem.1 ho
    exact h1 j _ hj (List.getElem?_eq_getElem hj)
  simp [fitsB, this]; omega

theorem step_ok {l : List OpM} {k : Nat} {o : OpM} (hk : k < l.length) (h : ∀ (j : Nat) (o : OpM), j < k → l[j]? = some o → o.ok = true) (ho : o = l[k]) (hok : o.ok = true) : ∀ (j : Nat) (o : OpM), j < k + 1 → l[j]? = some o → o.ok = true := by
  intro j o' hj e
  by_cases hjk : j = k
  · subst hjk
    rw [List.getElem?_eq_getElem hk, ← ho] at e
    cases e; exact hok
  · exact h j o' (by omega) e

theorem SrcV.len {w : World} {v : Value} {l : List Value} (h : SrcV w v l) : ∃ a c, v = .slice a l.length c := let ⟨a, c, e, _⟩ := h; ⟨a, c, e⟩

end Go.Proofs.Ythodcbhejjbhaaa
