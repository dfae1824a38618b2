/- Facts of slots in a drawn region: a constant, a row of bytes, parts. -/
import Derived.Test.YtepndjojodbhdaaRegion
import Derived.Test.YtepndjojodbhdaaRingA
namespace Go.Proofs.Ytepndjojodbhdaa
open Go.RowKit

inductive Fk
  | const (v : Value)
  | row (l : List UInt8)
  | parts (ps : List (List UInt8))
def Fk.p : Fk → World → (Nat → Prop) → Value → Prop
  | .const c, _, _, v => v = c
  | .row l, w, N, v => ∃ g, v = .slice (some ⟨g, 0, none⟩) l.length l.length ∧ (∀ i u, (bytesV l)[i]? = some u → w.cell? ⟨g, i, none⟩ = some u) ∧ g < w.heap.size ∧ ¬ N g
  | .parts ps, w, N, v => PartsAt w v ps N

theorem Row.fact {w : World} {g : Nat} {l : List UInt8} {N : Nat → Prop} (h : Row w g 5 l.length (bytesV l)) (hg : ¬ N g) : (Fk.row l).p w N (.slice (some ⟨g, 0, none⟩) l.length l.length) :=
  ⟨g, rfl, fun i u hu => by have := h.news i u hu; rw [addr_add, Nat.zero_add] at this; exact this, h.lt, hg⟩

section
variable {w w' : World} {N N' G : Nat → Prop}
theorem Fk.step (k : Fk) {v : Value} (h : k.p w N v) (hsz : w.heap.size ≤ w'.heap.size) (hcell : ∀ g o, g < w.heap.size → ¬ N g → w'.cell? ⟨g, o, none⟩ = w.cell? ⟨g, o, none⟩) (hN : ∀ j, j < w.heap.size → N' j → N j) : k.p w' N' v := by
  cases k with
  | const c => exact h
  | row l =>
    obtain ⟨g, e, hr, hl, hn⟩ := h
    exact ⟨g, e, fun i u hu => (hcell g i hl hn).trans (hr i u hu), Nat.lt_of_lt_of_le hl hsz, fun hg => hn (hN g hl hg)⟩
  | parts ps =>
    obtain ⟨a, c, rfl, hl, hp⟩ := h
    refine ⟨a, c, rfl, hl, fun i l hi => ?_⟩
    obtain ⟨g, o, pa, pc, rfl, hg, hc, hs, hn, hb⟩ := hp i l hi
    have hgl := World.block_lt_of_cell? _ _ hc
    refine ⟨g, o, pa, pc, rfl, fun e => hg (hN g hgl e), (hcell g _ hgl hg).trans hc, ?_, fun hne g' o' e hN' => ?_, hb⟩
    · obtain ⟨a', c', e, hs2⟩ := hs
      simp only [Value.slice.injEq] at e
      obtain ⟨rfl, -, rfl⟩ := e
      refine ⟨pa, pc, rfl, fun hne => ?_⟩
      obtain ⟨g', o', rfl, hc'⟩ := hs2 hne
      refine ⟨g', o', rfl, fun j u hj => ?_⟩
      have h1 := hc' j u hj
      exact (hcell g' _ (World.block_lt_of_cell? _ _ h1) (hn hne g' o' rfl)).trans h1
    · subst e
      exact hn hne g' o' rfl (hN g' (hs.lt rfl hne) hN')
theorem Only.cells (ho : Only G w w') (hG : ∀ j, j < w.heap.size → G j → N j) : ∀ g o, g < w.heap.size → ¬ N g → w'.cell? ⟨g, o, none⟩ = w.cell? ⟨g, o, none⟩ :=
  fun g _ hg hn => World.cell?_of_block (ho.block g hg (fun e => hn (hG g hg e)))

def AllF (fs : List (Nat × Fk)) (L : Nat → Bool) (a : Act) (w : World) (N : Nat → Prop) : Prop := ∀ n d k, fs[n]? = some (d, k) → L n = true → k.p w N (a.eval (.tmp d))
theorem AllF.step {fs : List (Nat × Fk)} {L : Nat → Bool} {a : Act} (h : AllF fs L a w N) (hnd : (fs.map Prod.fst).Nodup) (hsz : w.heap.size ≤ w'.heap.size) (hcell : ∀ g o, g < w.heap.size → ¬ N g → w'.cell? ⟨g, o, none⟩ = w.cell? ⟨g, o, none⟩) (hN : ∀ j, j < w.heap.size → N' j → N j) (n d : Nat) (v : Value) (hd : d < a.tmps.size) (k : Fk)
    (hk : fs[n]? = some (d, k)) (hp : k.p w' N' v) : AllF fs (fun j => j == n || L j) (a.put (some d) v) w' N' := by
  intro n' d' k' hm hL
  rw [eval_put _ _ _ _ hd]
  by_cases hn : n' = n
  · subst hn
    rw [hk] at hm
    simp only [Option.some.injEq, Prod.mk.injEq] at hm
    obtain ⟨rfl, rfl⟩ := hm
    rw [if_pos rfl]; exact hp
  · have hd' : d' ≠ d := by
      rintro rfl
      have h1 : (fs.map Prod.fst)[n]? = some d' := by rw [List.getElem?_map, hk]; rfl
      have h2 : (fs.map Prod.fst)[n']? = some d' := by rw [List.getElem?_map, hm]; rfl
      obtain ⟨l1, e1⟩ := List.getElem?_eq_some_iff.1 h1
      obtain ⟨l2, e2⟩ := List.getElem?_eq_some_iff.1 h2
      exact hn ((List.getElem_inj hnd).1 (e2.trans e1.symm))
    rw [if_neg hd']
    have hL' : L n' = true := by simpa [hn] using hL
    exact k'.step (h n' d' k' hm hL') hsz hcell hN
end
end Go.Proofs.Ytepndjojodbhdaa
