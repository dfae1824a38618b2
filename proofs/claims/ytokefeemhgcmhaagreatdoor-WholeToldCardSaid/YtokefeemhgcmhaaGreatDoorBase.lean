/- Plain laws about worlds: what a call may turn (Only), rows of bytes, blocks. No program. -/
import Derived.WalkKit
import Derived.WalkLawsBesides
import Derived.WalkSpells
namespace Go.Proofs.YtokefeemhgcmhaaGreatDoor
open Go.RowKit

/-- A fact hidden from the walk: '.out' has it again. -/
theorem hid {p : Prop} (h : p) : Hid p := h

/-- All blocks that were there, but those of F, are as they were; the streams are as they were. -/
structure Only (F : Nat → Prop) (w w' : World) : Prop where
  os : w'.os = w.os
  tape : w'.tape = w.tape
  output : w'.output = w.output
  size : w.heap.size ≤ w'.heap.size
  block : ∀ k, k < w.heap.size → ¬ F k → w'.heap[k]? = w.heap[k]?

theorem Only.refl (F : Nat → Prop) (w : World) : Only F w w := ⟨rfl, rfl, rfl, Nat.le_refl _, fun _ _ _ => rfl⟩
theorem Only.trans {F G : Nat → Prop} {a b c : World} (h : Only F a b) (g : Only G b c) (hg : ∀ k, k < a.heap.size → G k → F k) : Only F a c :=
  ⟨g.os.trans h.os, g.tape.trans h.tape, g.output.trans h.output, Nat.le_trans h.size g.size,
   fun k hk hf => (g.block k (Nat.lt_of_lt_of_le hk h.size) (fun e => hf (hg k hk e))).trans (h.block k hk hf)⟩
theorem Only.mono {F G : Nat → Prop} {a b : World} (h : Only F a b) (hg : ∀ k, k < a.heap.size → F k → G k) : Only G a b :=
  ⟨h.os, h.tape, h.output, h.size, fun k hk hf => h.block k hk (fun e => hf (hg k hk e))⟩
theorem Only.drew {F : Nat → Prop} {a w : World} (h : Only F a w) : Only F a w.drew := ⟨h.os, h.tape, h.output, h.size, h.block⟩
theorem Only.alloc {F : Nat → Prop} {a w : World} (h : Only F a w) (o : Obj) : Only F a (w.alloc o) :=
  ⟨h.os, h.tape, h.output, by simpa using Nat.le_succ_of_le h.size, fun k hk hf => by
    have := h.size
    rw [Below.heap_alloc _ _ _ (by omega)]; exact h.block k hk hf⟩
theorem Only.setCell {F : Nat → Prop} {a w : World} (h : Only F a w) (p : Addr) (v : Value) (hp : p.block < a.heap.size → F p.block) : Only F a (w.setCell p v) :=
  ⟨h.os, h.tape, h.output, by simpa using h.size, fun k hk hf => by
    rw [Below.heap_setCell _ _ _ _ (fun e => by subst e; exact hf (hp hk))]; exact h.block k hk hf⟩
/-- A block is another one. -/
def setObj (w : World) (r : Nat) (o : Obj) : World := { w with heap := w.heap.setIfInBounds r o }
theorem setObj_same {w : World} {r : Nat} {o : Obj} (h : r < w.heap.size) : (setObj w r o).heap[r]? = some o := by simp [setObj, h]
theorem setObj_other {w : World} {r k : Nat} {o : Obj} (h : k ≠ r) : (setObj w r o).heap[k]? = w.heap[k]? := by
  simp only [setObj, Array.getElem?_setIfInBounds]; rw [if_neg (fun e => h e.symm)]
@[simp] theorem setObj_size {w : World} {r : Nat} {o : Obj} : (setObj w r o).heap.size = w.heap.size := by simp [setObj]
theorem Only.setObj {F : Nat → Prop} {a w : World} (h : Only F a w) (r : Nat) (o : Obj) (hp : r < a.heap.size → F r) : Only F a (setObj w r o) :=
  ⟨h.os, h.tape, h.output, by simpa using h.size, fun k hk hf => by
    rw [setObj_other (fun e => by subst e; exact hf (hp hk))]; exact h.block k hk hf⟩
theorem Only.setRow {F : Nat → Prop} {a w : World} (h : Only F a w) (r : Nat) (c : Array Value) (hp : r < a.heap.size → F r) : Only F a (w.setRow r c) :=
  ⟨h.os, h.tape, h.output, by simpa [World.setRow] using h.size, fun k hk hf => by
    rw [setRow_other w r k c (fun e => by subst e; exact hf (hp hk))]; exact h.block k hk hf⟩
theorem Only.below {F : Nat → Prop} {a w : World} {B : Nat} (h : Only F a w) (hB : B ≤ a.heap.size) (hF : ∀ k, k < B → ¬ F k) : Below B a w :=
  ⟨h.os, h.tape, h.output, h.size, fun k hk => h.block k (by omega) (hF k hk)⟩

/-- What a block is behind the steps of a walk. -/
theorem blk_lt {w : World} {k : Nat} {o : Obj} (h : w.heap[k]? = some o) : k < w.heap.size := by
  rcases Nat.lt_or_ge k w.heap.size with g | g
  · exact g
  · simp [Array.getElem?_eq_none g] at h
theorem blk_alloc {w : World} {k : Nat} {o o' : Obj} (h : w.heap[k]? = some o) : (w.alloc o').heap[k]? = some o := by
  rw [Below.heap_alloc _ _ _ (blk_lt h)]; exact h
theorem blk_new (w : World) (o : Obj) : (w.alloc o).heap[w.heap.size]? = some o := by
  show (w.heap.push o)[w.heap.size]? = _
  simp
theorem blk_drew {w : World} {k : Nat} : w.drew.heap[k]? = w.heap[k]? := rfl
theorem blk_set {w : World} {b : Nat} {cs : Array Value} {T : TypeId} {fr : Nat × Nat} (h : w.heap[b]? = some (.cells cs T fr)) (o : Nat) (v : Value) :
    (w.setCell ⟨b, o, none⟩ v).heap[b]? = some (.cells (cs.setIfInBounds o v) T fr) := by
  simp only [World.setCell, Array.getElem?_modify, h, if_true, Option.map_some]
  rfl
theorem blk_set_other {w : World} {b k : Nat} {ob : Obj} {v : Value} {o : Nat} (h : w.heap[k]? = some ob) (hk : k ≠ b) : (w.setCell ⟨b, o, none⟩ v).heap[k]? = some ob := by
  rw [Below.heap_setCell _ _ _ _ hk]; exact h
theorem blk_only {F : Nat → Prop} {w w' : World} {k : Nat} {o : Obj} (h : w.heap[k]? = some o) (g : Only F w w') (hF : ¬ F k) : w'.heap[k]? = some o :=
  (g.block k (blk_lt h) hF).trans h
theorem cell_blk {w : World} {b : Nat} {cs : Array Value} {T : TypeId} {fr : Nat × Nat} (h : w.heap[b]? = some (.cells cs T fr)) (o : Nat) : w.cell? ⟨b, o, none⟩ = cs[o]? := by simp [World.cell?, h]
theorem frozen_blk {w : World} {b : Nat} {cs : Array Value} {T : TypeId} (h : w.heap[b]? = some (.cells cs T (0, 0))) (o : Nat) : w.frozen? ⟨b, o, none⟩ = false := by simp [World.frozen?, h]

/-- Bytes as cells. -/
def bytesV (l : List UInt8) : List Value := l.map fun x => .int .u8 x.toNat
@[simp] theorem length_bytesV (l : List UInt8) : (bytesV l).length = l.length := by simp [bytesV]
theorem oneCell_bytesV (l : List UInt8) : ∀ u ∈ bytesV l, u.oneCell' = true := by
  intro u hu; obtain ⟨x, _, rfl⟩ := List.mem_map.1 hu; rfl
theorem bytesV_get (l : List UInt8) (i : Nat) : (bytesV l)[i]? = (l[i]?).map fun x => Value.int .u8 x.toNat := by simp [bytesV]

/-- Block g is a row of cells of type e, of capacity cap, that begins with xs; nothing of it is frozen. -/
def Row (w : World) (g : Nat) (e : TypeId) (cap : Nat) (xs : List Value) : Prop :=
  ∃ pad : List Value, w.heap[g]? = some (.cells (xs ++ pad).toArray e (0, 0)) ∧ xs.length + pad.length = cap

theorem Row.lt {w : World} {g : Nat} {e : TypeId} {cap : Nat} {xs : List Value} (h : Row w g e cap xs) : g < w.heap.size := let ⟨_, h, _⟩ := h; blk_lt h
theorem Row.of_eq {w w' : World} {g : Nat} {e : TypeId} {cap : Nat} {xs : List Value} (h : Row w g e cap xs) (k : w'.heap[g]? = w.heap[g]?) : Row w' g e cap xs :=
  let ⟨p, a, b⟩ := h; ⟨p, k.trans a, b⟩
theorem Row.only {F : Nat → Prop} {w w' : World} {g : Nat} {e : TypeId} {cap : Nat} {xs : List Value} (h : Row w g e cap xs) (k : Only F w w') (hF : ¬ F g) : Row w' g e cap xs :=
  h.of_eq (k.block g h.lt hF)
theorem Row.alloc {w : World} {g : Nat} {e : TypeId} {cap : Nat} {xs : List Value} (h : Row w g e cap xs) (o : Obj) : Row (w.alloc o) g e cap xs :=
  h.of_eq (Below.heap_alloc _ _ _ h.lt)
theorem Row.setCell_other {w : World} {g : Nat} {e : TypeId} {cap : Nat} {xs : List Value} (h : Row w g e cap xs) (p : Addr) (v : Value) (hp : g ≠ p.block) : Row (w.setCell p v) g e cap xs :=
  h.of_eq (Below.heap_setCell _ _ _ _ hp)
theorem Row.setObj_other {w : World} {g : Nat} {e : TypeId} {cap : Nat} {xs : List Value} (h : Row w g e cap xs) (r : Nat) (o : Obj) (hp : g ≠ r) : Row (setObj w r o) g e cap xs :=
  h.of_eq (Go.Proofs.YtokefeemhgcmhaaGreatDoor.setObj_other hp)
theorem Row.drew {w : World} {g : Nat} {e : TypeId} {cap : Nat} {xs : List Value} (h : Row w g e cap xs) : Row w.drew g e cap xs := h
theorem Row.new (w : World) (xs : List Value) (e : TypeId) : Row (w.alloc (.cells xs.toArray e)) w.heap.size e xs.length xs := ⟨[], by simpa using blk_new w _, by simp⟩
theorem Row.new_pad (w : World) (xs pad : List Value) (e : TypeId) (cap : Nat) (h : xs.length + pad.length = cap) : Row (w.alloc (.cells (xs ++ pad).toArray e)) w.heap.size e cap xs := ⟨pad, blk_new w _, h⟩
theorem Row.le {w : World} {g : Nat} {e : TypeId} {cap : Nat} {xs : List Value} (h : Row w g e cap xs) : xs.length ≤ cap := by obtain ⟨_, _, h⟩ := h; omega
theorem Row.cell {w : World} {g : Nat} {e : TypeId} {cap : Nat} {xs : List Value} (h : Row w g e cap xs) (i : Nat) (hi : i < xs.length) : w.cell? ⟨g, i, none⟩ = xs[i]? := by
  obtain ⟨p, h, _⟩ := h
  rw [cell_blk h]; simp [List.getElem?_append_left hi]
theorem Row.frozen {w : World} {g : Nat} {e : TypeId} {cap : Nat} {xs : List Value} (h : Row w g e cap xs) (i : Nat) : w.frozen? ⟨g, i, none⟩ = false := by
  obtain ⟨p, h, _⟩ := h; exact frozen_blk h i
theorem Row.set {w : World} {g : Nat} {e : TypeId} {cap : Nat} {xs : List Value} (h : Row w g e cap xs) (i : Nat) (v : Value) (hi : i < xs.length) : Row (w.setCell ⟨g, i, none⟩ v) g e cap (xs.set i v) := by
  obtain ⟨p, h, hc⟩ := h
  refine ⟨p, ?_, by simpa using hc⟩
  rw [blk_set h]
  simp [List.set_append_left _ _ hi]

/-- The same cells where the walk asks for them, one by one. -/
theorem Row.news {w : World} {g : Nat} {e : TypeId} {cap : Nat} {xs : List Value} (h : Row w g e cap xs) : ∀ j v, xs[j]? = some v → w.cell? ((⟨g, 0, none⟩ : Addr).add j) = some v := by
  intro j v hj
  have hlt : j < xs.length := by
    rcases Nat.lt_or_ge j xs.length with g | g
    · exact g
    · simp [List.getElem?_eq_none g] at hj
  have := h.cell j hlt
  rw [hj] at this
  rw [← this]; by_cases h0 : j = 0 <;> simp [Addr.add, h0]
end Go.Proofs.YtokefeemhgcmhaaGreatDoor
