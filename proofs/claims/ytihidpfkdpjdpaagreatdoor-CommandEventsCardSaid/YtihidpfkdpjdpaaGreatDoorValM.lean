/- Values that are made; rows of values. -/
import Derived.Test.YtihidpfkdpjdpaaGreatDoorValK
namespace Go.Proofs.YtihidpfkdpjdpaaGreatDoor
open Go.RowKit

theorem elV : Elem Tryz.prog 22 24 4 56 := .mk Tryz.underlying22 (z := .agg #[.int .i64 0, .int .i64 0, .string ⟨#[]⟩, .slice none 0 0]) (by kernel_rfl) rfl
/-- Cells, one value behind the other. -/
def VXs (w : World) (G : Nat → Prop) : List VT → List Value → Prop
  | [], xs => xs = []
  | t :: ts, xs => ∃ cs ys, xs = cs ++ ys ∧ VAt w G t cs ∧ VXs w G ts ys
section
variable {w w' : World} {G F : Nat → Prop}
theorem VXs.only (ho : Only F w w') (hd : ∀ k, G k → ¬ F k) : ∀ {l : List VT} {xs : List Value}, VXs w G l xs → VXs w' G l xs
  | [], _, h => h
  | _ :: _, _, ⟨cs, ys, e, h1, h2⟩ => ⟨cs, ys, e, h1.only ho hd, VXs.only ho hd h2⟩
theorem VXs.mono {G' : Nat → Prop} (hd : ∀ k, G k → G' k) : ∀ {l : List VT} {xs : List Value}, VXs w G l xs → VXs w G' l xs
  | [], _, h => h
  | _ :: _, _, ⟨cs, ys, e, h1, h2⟩ => ⟨cs, ys, e, h1.mono hd, VXs.mono hd h2⟩
theorem VXs.snoc {t : VT} {cs : List Value} (ht : VAt w G t cs) : ∀ {l : List VT} {xs : List Value}, VXs w G l xs → VXs w G (l ++ [t]) (xs ++ cs)
  | [], _, h => by
    have h' : _ = ([] : List Value) := h
    subst h'
    exact ⟨cs, [], by simp, ht, rfl⟩
  | _ :: _, _, ⟨cs', ys, e, h1, h2⟩ => ⟨cs', ys ++ cs, by rw [e, List.append_assoc], h1, VXs.snoc ht h2⟩
theorem VXs.ls {g : Nat} : ∀ {l : List VT} {xs : List Value} {o : Nat}, VXs w G l xs → (∀ j u, xs[j]? = some u → w.cell? ⟨g, o + j, none⟩ = some u) → VLs w G l g o
  | [], _, _, _, _ => by rw [VLs]; trivial
  | t :: ts, xs, o, ⟨cs, ys, e, h1, h2⟩, hc => by
    rw [VLs]
    refine ⟨⟨cs, fun j u hj => hc j u ?_, h1⟩, VXs.ls (o := o + 4) h2 (fun j u hj => ?_)⟩
    · rw [e, List.getElem?_append_left (by rcases Nat.lt_or_ge j cs.length with g | g; exact g; rw [List.getElem?_eq_none g] at hj; cases hj)]; exact hj
    · have := hc (4 + j) u (by rw [e, List.getElem?_append_right (by rw [h1.len]; omega), h1.len]; rw [show 4 + j - 4 = j from by omega]; exact hj)
      rw [Nat.add_assoc]; exact this
end
/-- Blocks that a call has made. -/
def New (w w' : World) (k : Nat) : Prop := w.heap.size ≤ k ∧ k < w'.heap.size
/-- A new value. -/
def Made (w : World) (t : VT) (e : Ending) (w' : World) : Prop := ∃ cs, e = .returned (.agg cs.toArray) ∧ VAt w' (New w w') t cs ∧ Only (fun _ => False) w w'
theorem info_val : (Tryz.prog.info? 24).map (·.size) = some 4 := by kernel_rfl
theorem clL_take {l : List VT} {j : Nat} {t : VT} (h : l[j]? = some t) : VT.clL (l.take (j + 1)) = VT.clL (l.take j) ++ [t.cl] := by
  rw [List.take_add_one, h]
  have app : ∀ a b : List VT, VT.clL (a ++ b) = VT.clL a ++ VT.clL b := by
    intro a b
    induction a with
    | nil => rw [VT.clL]; rfl
    | cons x xs ih => rw [List.cons_append, VT.clL, VT.clL, ih]; rfl
  rw [app]
  show _ ++ VT.clL [t] = _
  rw [VT.clL, VT.clL]
theorem szL_len : ∀ l : List VT, l.length ≤ VT.szL l
  | [] => by simp
  | t :: ts => by rw [VT.szL, List.length_cons]; have := szL_len ts; have := sz_pos t; omega
theorem val_one (k n : Int) (s : ByteArray) (a : Option Addr) (m c : Nat) : (#[Value.int .i64 k, .int .i64 n, .string s, .slice a m c] : Array Value).all (·.oneCell') = true := by simp [Value.oneCell']
theorem blk_mid (w : World) (A B C : Obj) : (((w.alloc A).alloc B).alloc C).heap[w.heap.size + 1]? = some B := by
  have := blk_alloc (o' := C) (blk_new (w.alloc A) B)
  rw [World.size_alloc] at this; exact this
theorem only3 (w : World) (A B C : Obj) : Only (fun _ => False) w (((w.alloc A).alloc B).alloc C) := ((only_new w A).trans (only_new _ B) (fun _ _ e => e)).trans (only_new _ C) (fun _ _ e => e)
end Go.Proofs.YtihidpfkdpjdpaaGreatDoor
