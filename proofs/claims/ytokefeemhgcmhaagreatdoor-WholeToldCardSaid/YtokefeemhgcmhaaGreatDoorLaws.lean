/- Plain laws of operations, for any program: append, copy, maps keyed by int at the raw block. -/
import Derived.Test.YtokefeemhgcmhaaGreatDoorBase
import Derived.Maps.RangeRun
import Derived.Laws.CopyOwn
namespace Go.Proofs.YtokefeemhgcmhaaGreatDoor
open Go.RowKit

section
variable {P : Program} {ops : Array Oper} {rest : List Oper} {o : Oper} {a : Act} {Q : Exit → Act → World → Prop} {w : World}

theorem step_of {K : Act → World → Prop} {E : Prop} (hg : o.guard = none) (h : o.wp P a w K Q) : if Region.wanted o (yielded ops a.tmps) = true then o.wp P a w K Q else E := by
  rw [if_pos (by simp [Region.wanted, hg])]; exact h

theorem addr_add (g o j : Nat) : ((⟨g, o, none⟩ : Addr).add j) = ⟨g, o + j, none⟩ := by by_cases h0 : j = 0 <;> simp [Addr.add, h0]

/-- append onto a row that the program has made. -/
theorem wp_app {K : Act → World → Prop} (s x : Operand) (t : TypeId)
    (ho : o.op = .call { callee := .builtin .append, args := #[s, x], argTypes := #[t, t] })
    (e : TypeId) (i : TypeInfo) (z : Value) (size bytes : Nat) (ht : P.underlying t = some (.slice e)) (hi : P.info? e = some i) (hz : i.zero = some z)
    (hsize : i.size = size) (hby : i.bytes = bytes) (hzs : z.cells.size = size)
    (g n cap : Nat) (xs : List Value) (hs : a.eval s = .slice (some ⟨g, 0, none⟩) n cap) (hrow : Row w g e (cap * size) xs) (hxs : xs.length = n * size)
    (ad : Addr) (m c : Nat) (hx : a.eval x = .slice (some ad) m c) (news : List Value) (hl : news.length = m * size) (hnews : ∀ j u, news[j]? = some u → w.cell? (ad.add j) = some u) (h1 : ∀ u ∈ news, u.oneCell' = true)
    (h63 : n + m ≤ 9223372036854775807) (hbytes : (n + m) * bytes ≤ 140737488355328)
    (h : ∀ g' cap' w', n + m ≤ cap' → Row w' g' e (cap' * size) (xs ++ news) → (g' = g ∨ g' = w.heap.size) → Only (fun k => k = g) w w' → K (a.put o.dst (.slice (some ⟨g', 0, none⟩) (n + m) cap')) w') :
    o.wp P a w K Q := by
  subst hsize
  subst hby
  obtain ⟨pad, hg, hcap⟩ := hrow
  by_cases hroom : n + m ≤ cap
  · have hfit : n * i.size + news.length ≤ (xs ++ pad).toArray.size := by
      simp only [List.size_toArray, List.length_append, hcap, hl, ← Nat.add_mul]; exact Nat.mul_le_mul_right _ hroom
    have hr := run_append_room (P := P) w t o.type e i ht hi g n cap _ hg ad m c news hl hnews h1 hroom hfit
    unfold Oper.wp execOp
    simp only [ho, resolve, invoke, builtin, Sem.run_bind, Sem.run_pure, Result.andThen_ok, List.map_toArray, List.map_cons, List.map_nil, hs, hx, hr]
    refine (h g cap _ hroom ?_ (.inl rfl) ((Only.refl _ _).setRow _ _ (fun _ => rfl)))
    refine ⟨pad.drop news.length, ?_, ?_⟩
    · rw [setRow_heap w g _ _ e _ hg, ← hxs]
      congr 2
      simp
    · have h2 : (n + m) * i.size ≤ cap * i.size := Nat.mul_le_mul_right _ hroom
      rw [Nat.add_mul] at h2
      rw [List.length_append, List.length_drop, hxs, hl]
      rw [hxs] at hcap
      omega
  · have holds : ∀ j u, xs[j]? = some u → w.cell? ((⟨g, 0, none⟩ : Addr).add j) = some u := Row.news ⟨pad, hg, hcap⟩
    have hr := run_append_grow (P := P) w t o.type e i z ht hi hz ⟨g, 0, none⟩ n cap xs hxs holds ad m c news hl hnews (by omega) (by omega) (growslice_fits (by omega) hbytes)
    unfold Oper.wp execOp
    simp only [ho, resolve, invoke, builtin, Sem.run_bind, Sem.run_pure, Result.andThen_ok, List.map_toArray, List.map_cons, List.map_nil, hs, hx, hr]
    have hge := grownCap_ge w (n + m) cap e
    refine (h _ _ _ hge ?_ (.inr rfl) ((Only.refl _ _).drew.alloc _))
    refine ⟨(Builtin.zeroCells z.cells (grownCap w (n + m) cap e - (n + m))).toList, ?_, ?_⟩
    · have := blk_new w.drew (.cells (xs.toArray ++ news.toArray ++ Builtin.zeroCells z.cells (grownCap w (n + m) cap e - (n + m))) e)
      refine this.trans ?_
      congr 2
      apply Array.ext'
      simp
    · simp only [List.length_append, Array.length_toList, size_zeroCells, hzs, hl, hxs, ← Nat.add_mul]
      congr 1
      omega

theorem wpList_app (hgd : o.guard = none) (s x : Operand) (t : TypeId)
    (ho : o.op = .call { callee := .builtin .append, args := #[s, x], argTypes := #[t, t] })
    (e : TypeId) (i : TypeInfo) (z : Value) (size bytes : Nat) (ht : P.underlying t = some (.slice e)) (hi : P.info? e = some i) (hz : i.zero = some z)
    (hsize : i.size = size) (hby : i.bytes = bytes) (hzs : z.cells.size = size)
    (g n cap : Nat) (xs : List Value) (hs : a.eval s = .slice (some ⟨g, 0, none⟩) n cap) (hrow : Row w g e (cap * size) xs) (hxs : xs.length = n * size)
    (ad : Addr) (m c : Nat) (hx : a.eval x = .slice (some ad) m c) (news : List Value) (hl : news.length = m * size) (hnews : ∀ j u, news[j]? = some u → w.cell? (ad.add j) = some u) (h1 : ∀ u ∈ news, u.oneCell' = true)
    (h63 : n + m ≤ 9223372036854775807) (hbytes : (n + m) * bytes ≤ 140737488355328)
    (h : ∀ g' cap' w', n + m ≤ cap' → Row w' g' e (cap' * size) (xs ++ news) → (g' = g ∨ g' = w.heap.size) → Only (fun k => k = g) w w' → wpList P ops Q rest (a.put o.dst (.slice (some ⟨g', 0, none⟩) (n + m) cap')) w') :
    wpList P ops Q (o :: rest) a w :=
  wpList_plain hgd fun _ hK => wp_app s x t ho e i z size bytes ht hi hz hsize hby hzs g n cap xs hs hrow hxs ad m c hx news hl hnews h1 h63 hbytes (fun x0 x1 x2 x3 x4 x5 x6 => hK _ _ (h x0 x1 x2 x3 x4 x5 x6))

/-- append onto the nil slice, of at least one element. -/
theorem wp_app_nil {K : Act → World → Prop} (s x : Operand) (t : TypeId)
    (ho : o.op = .call { callee := .builtin .append, args := #[s, x], argTypes := #[t, t] })
    (e : TypeId) (i : TypeInfo) (z : Value) (size bytes : Nat) (ht : P.underlying t = some (.slice e)) (hi : P.info? e = some i) (hz : i.zero = some z)
    (hsize : i.size = size) (hby : i.bytes = bytes) (hzs : z.cells.size = size) (hs : a.eval s = .slice none 0 0)
    (ad : Addr) (m c : Nat) (hx : a.eval x = .slice (some ad) m c) (news : List Value) (hl : news.length = m * size) (hnews : ∀ j u, news[j]? = some u → w.cell? (ad.add j) = some u)
    (hm : 0 < m) (h63 : m ≤ 9223372036854775807) (hbytes : m * bytes ≤ 140737488355328)
    (h : ∀ cap' w', m ≤ cap' → Row w' w.heap.size e (cap' * size) news → Only (fun _ => False) w w' → K (a.put o.dst (.slice (some ⟨w.heap.size, 0, none⟩) m cap')) w') :
    o.wp P a w K Q := by
  subst hsize
  subst hby
  have hr := run_append_nil (P := P) w t o.type e i z ht hi hz ad m c news hl hnews hm (by omega) (by omega)
  unfold Oper.wp execOp
  simp only [ho, resolve, invoke, builtin, Sem.run_bind, Sem.run_pure, Result.andThen_ok, List.map_toArray, List.map_cons, List.map_nil, hs, hx, hr]
  have hge := grownCap_ge w m 0 e
  refine (h _ _ hge ?_ ((Only.refl _ _).drew.alloc _))
  refine ⟨(Builtin.zeroCells z.cells (grownCap w m 0 e - m)).toList, ?_, ?_⟩
  · have := blk_new w.drew (.cells (news.toArray ++ Builtin.zeroCells z.cells (grownCap w m 0 e - m)) e)
    refine this.trans ?_
    congr 2
    apply Array.ext'
    simp
  · simp only [Array.length_toList, size_zeroCells, hzs, hl, ← Nat.add_mul]
    congr 1
    omega

theorem wpList_app_nil (hgd : o.guard = none) (s x : Operand) (t : TypeId)
    (ho : o.op = .call { callee := .builtin .append, args := #[s, x], argTypes := #[t, t] })
    (e : TypeId) (i : TypeInfo) (z : Value) (size bytes : Nat) (ht : P.underlying t = some (.slice e)) (hi : P.info? e = some i) (hz : i.zero = some z)
    (hsize : i.size = size) (hby : i.bytes = bytes) (hzs : z.cells.size = size) (hs : a.eval s = .slice none 0 0)
    (ad : Addr) (m c : Nat) (hx : a.eval x = .slice (some ad) m c) (news : List Value) (hl : news.length = m * size) (hnews : ∀ j u, news[j]? = some u → w.cell? (ad.add j) = some u)
    (hm : 0 < m) (h63 : m ≤ 9223372036854775807) (hbytes : m * bytes ≤ 140737488355328)
    (h : ∀ cap' w', m ≤ cap' → Row w' w.heap.size e (cap' * size) news → Only (fun _ => False) w w' → wpList P ops Q rest (a.put o.dst (.slice (some ⟨w.heap.size, 0, none⟩) m cap')) w') :
    wpList P ops Q (o :: rest) a w :=
  wpList_plain hgd fun _ hK => wp_app_nil s x t ho e i z size bytes ht hi hz hsize hby hzs hs ad m c hx news hl hnews hm h63 hbytes (fun x0 x1 x2 x3 x4 => hK _ _ (h x0 x1 x2 x3 x4))

/-- append of nothing: the same slice. -/
theorem wp_app_none {K : Act → World → Prop} (s x : Operand) (t : TypeId)
    (ho : o.op = .call { callee := .builtin .append, args := #[s, x], argTypes := #[t, t] })
    (e : TypeId) (i : TypeInfo) (ht : P.underlying t = some (.slice e)) (hi : P.info? e = some i)
    (b : Option Addr) (n cap : Nat) (hs : a.eval s = .slice b n cap) (hn : n ≤ cap) (ad : Option Addr) (c : Nat) (hx : a.eval x = .slice ad 0 c)
    (h : K (a.put o.dst (.slice b n cap)) w) :
    o.wp P a w K Q := by
  have hr : (Builtin.append_ #[t, t] o.type #[.slice b n cap, .slice ad 0 c]).run P w = .ok (.slice b n cap) w := by
    cases b <;> cases ad <;> simp [Builtin.append_, run_underlying ht, sizeOf, typeInfo, hi, Builtin.lenOf, hn, Builtin.firstCells, loadCells, loadCellsFrom, storeCells]
  unfold Oper.wp execOp
  simp only [ho, resolve, invoke, builtin, Sem.run_bind, Sem.run_pure, Result.andThen_ok, List.map_toArray, List.map_cons, List.map_nil, hs, hx, hr]
  exact h

theorem wpList_app_none (hgd : o.guard = none) (s x : Operand) (t : TypeId)
    (ho : o.op = .call { callee := .builtin .append, args := #[s, x], argTypes := #[t, t] })
    (e : TypeId) (i : TypeInfo) (ht : P.underlying t = some (.slice e)) (hi : P.info? e = some i)
    (b : Option Addr) (n cap : Nat) (hs : a.eval s = .slice b n cap) (hn : n ≤ cap) (ad : Option Addr) (c : Nat) (hx : a.eval x = .slice ad 0 c)
    (h : wpList P ops Q rest (a.put o.dst (.slice b n cap)) w) :
    wpList P ops Q (o :: rest) a w :=
  wpList_plain hgd fun _ hK => wp_app_none s x t ho e i ht hi b n cap hs hn ad c hx (hK _ _ h)

/-- append onto a row that the program has made, of whatever: of nothing, too. -/
theorem wp_appS {K : Act → World → Prop} (s x : Operand) (t : TypeId)
    (ho : o.op = .call { callee := .builtin .append, args := #[s, x], argTypes := #[t, t] })
    (e : TypeId) (i : TypeInfo) (z : Value) (size bytes : Nat) (ht : P.underlying t = some (.slice e)) (hi : P.info? e = some i) (hz : i.zero = some z)
    (hsize : i.size = size) (hby : i.bytes = bytes) (hzs : z.cells.size = size)
    (g n cap : Nat) (xs : List Value) (hs : a.eval s = .slice (some ⟨g, 0, none⟩) n cap) (hncap : n ≤ cap) (hrow : Row w g e (cap * size) xs) (hxs : xs.length = n * size)
    (ao : Option Addr) (m c : Nat) (hx : a.eval x = .slice ao m c) (news : List Value) (hl : news.length = m * size) (hnews : 0 < m → ∃ ad, ao = some ad ∧ ∀ j u, news[j]? = some u → w.cell? (ad.add j) = some u) (h1 : ∀ u ∈ news, u.oneCell' = true)
    (h63 : n + m ≤ 9223372036854775807) (hbytes : (n + m) * bytes ≤ 140737488355328)
    (h : ∀ g' cap' w', n + m ≤ cap' → Row w' g' e (cap' * size) (xs ++ news) → (g' = g ∨ g' = w.heap.size) → Only (fun k => k = g) w w' → K (a.put o.dst (.slice (some ⟨g', 0, none⟩) (n + m) cap')) w') :
    o.wp P a w K Q := by
  rcases Nat.eq_zero_or_pos m with rfl | hm
  · obtain rfl : news = [] := List.eq_nil_of_length_eq_zero (by simpa using hl)
    refine wp_app_none s x t ho e i ht hi (some ⟨g, 0, none⟩) n cap hs hncap ao c hx ?_
    exact h g cap w hncap (by simpa using hrow) (.inl rfl) (Only.refl _ _)
  · obtain ⟨ad, rfl, hc⟩ := hnews hm
    exact wp_app s x t ho e i z size bytes ht hi hz hsize hby hzs g n cap xs hs hrow hxs ad m c hx news hl hc h1 h63 hbytes h
theorem wpList_appS (hgd : o.guard = none) (s x : Operand) (t : TypeId)
    (ho : o.op = .call { callee := .builtin .append, args := #[s, x], argTypes := #[t, t] })
    (e : TypeId) (i : TypeInfo) (z : Value) (size bytes : Nat) (ht : P.underlying t = some (.slice e)) (hi : P.info? e = some i) (hz : i.zero = some z)
    (hsize : i.size = size) (hby : i.bytes = bytes) (hzs : z.cells.size = size)
    (g n cap : Nat) (xs : List Value) (hs : a.eval s = .slice (some ⟨g, 0, none⟩) n cap) (hncap : n ≤ cap) (hrow : Row w g e (cap * size) xs) (hxs : xs.length = n * size)
    (ao : Option Addr) (m c : Nat) (hx : a.eval x = .slice ao m c) (news : List Value) (hl : news.length = m * size) (hnews : 0 < m → ∃ ad, ao = some ad ∧ ∀ j u, news[j]? = some u → w.cell? (ad.add j) = some u) (h1 : ∀ u ∈ news, u.oneCell' = true)
    (h63 : n + m ≤ 9223372036854775807) (hbytes : (n + m) * bytes ≤ 140737488355328)
    (h : ∀ g' cap' w', n + m ≤ cap' → Row w' g' e (cap' * size) (xs ++ news) → (g' = g ∨ g' = w.heap.size) → Only (fun k => k = g) w w' → wpList P ops Q rest (a.put o.dst (.slice (some ⟨g', 0, none⟩) (n + m) cap')) w') :
    wpList P ops Q (o :: rest) a w :=
  wpList_plain hgd fun _ hK => wp_appS s x t ho e i z size bytes ht hi hz hsize hby hzs g n cap xs hs hncap hrow hxs ao m c hx news hl hnews h1 h63 hbytes (fun x0 x1 x2 x3 x4 x5 x6 => hK _ _ (h x0 x1 x2 x3 x4 x5 x6))

/-- xs from place off on is ys. -/
def lay {α : Type} (xs : List α) (off : Nat) (ys : List α) : List α := xs.take off ++ (ys ++ xs.drop (off + ys.length))
theorem length_lay {α : Type} (xs : List α) (off : Nat) (ys : List α) (h : off + ys.length ≤ xs.length) : (lay xs off ys).length = xs.length := by simp [lay]; omega

/-- copy into a row that the program has made. -/
theorem wp_cpy {K : Act → World → Prop} (d s : Operand) (dT sT : TypeId)
    (ho : o.op = .call { callee := .builtin .copy, args := #[d, s], argTypes := #[dT, sT] }) (e : TypeId) (hu : P.underlying dT = some (.slice e)) (hsz : (P.info? e).map (·.size) = some 1)
    (g off dLen dCap : Nat) (hd : a.eval d = .slice (some ⟨g, off, none⟩) dLen dCap) (cap : Nat) (xs : List Value) (hrow : Row w g e cap xs)
    (sp : Option Addr) (sLen sCap : Nat) (hs : a.eval s = .slice sp sLen sCap) (cs : List Value) (hn : cs.length = min sLen dLen)
    (hsrc : 0 < cs.length → ∃ ad, sp = some ad ∧ ∀ j v, cs[j]? = some v → w.cell? (ad.add j) = some v)
    (hfit : off + cs.length ≤ xs.length) (h1 : ∀ v ∈ cs, v.oneCell' = true)
    (h : ∀ w', Row w' g e cap (lay xs off cs) → Only (fun k => k = g) w w' → w'.heap.size = w.heap.size → K (a.put o.dst (.int .i64 cs.length)) w') :
    o.wp P a w K Q := by
  obtain ⟨pad, hg, hcap⟩ := hrow
  obtain ⟨i, hi, hi1⟩ := Option.map_eq_some_iff.1 hsz
  have hmin : min sLen dLen = cs.length := hn.symm
  have hmin' : Nat.min sLen dLen = cs.length := hn.symm
  have hfc : (Builtin.firstCells 1 cs.length (.slice sp sLen sCap)).run P w = .ok cs.toArray w := by
    rcases Nat.eq_zero_or_pos cs.length with h0 | h0
    · obtain rfl : cs = [] := List.eq_nil_of_length_eq_zero h0
      cases sp <;> simp [Builtin.firstCells, loadCells, loadCellsFrom]
    · obtain ⟨ad, rfl, hc⟩ := hsrc h0
      exact run_firstCells_some (P := P) w 1 cs.length ad sLen sCap cs (by simp) hc
  have hst := run_storeCells_at P g off e cs 0 _ w hg (by simp; omega) h1
  have hr : (Builtin.copy_ #[dT, sT] o.type #[.slice (some ⟨g, off, none⟩) dLen dCap, .slice sp sLen sCap]).run P w = .ok (.int .i64 cs.length) (w.setRow g (List.take (off + 0) (xs ++ pad) ++ cs ++ List.drop (off + 0 + cs.length) (xs ++ pad)).toArray) := by
    simp only [Nat.add_zero] at hst ⊢
    simp [Builtin.copy_, run_underlying hu, sizeOf, typeInfo, hi, hi1, Builtin.lenOf, hmin', hfc, hst, goInt]
  unfold Oper.wp execOp
  simp only [ho, resolve, invoke, builtin, Sem.run_bind, Sem.run_pure, Result.andThen_ok, List.map_toArray, List.map_cons, List.map_nil, hd, hs, hr]
  refine (h _ ⟨pad, ?_, by rw [length_lay _ _ _ hfit]; exact hcap⟩ ((Only.refl _ _).setRow _ _ (fun _ => rfl)) (by simp [World.setRow]))
  rw [setRow_heap w g _ _ e _ hg]
  congr 2
  simp only [Nat.add_zero, lay, List.take_append_of_le_length (show off ≤ xs.length by omega), List.drop_append_of_le_length hfit, List.append_assoc]

theorem wpList_cpy (hgd : o.guard = none) (d s : Operand) (dT sT : TypeId)
    (ho : o.op = .call { callee := .builtin .copy, args := #[d, s], argTypes := #[dT, sT] }) (e : TypeId) (hu : P.underlying dT = some (.slice e)) (hsz : (P.info? e).map (·.size) = some 1)
    (g off dLen dCap : Nat) (hd : a.eval d = .slice (some ⟨g, off, none⟩) dLen dCap) (cap : Nat) (xs : List Value) (hrow : Row w g e cap xs)
    (sp : Option Addr) (sLen sCap : Nat) (hs : a.eval s = .slice sp sLen sCap) (cs : List Value) (hn : cs.length = min sLen dLen)
    (hsrc : 0 < cs.length → ∃ ad, sp = some ad ∧ ∀ j v, cs[j]? = some v → w.cell? (ad.add j) = some v)
    (hfit : off + cs.length ≤ xs.length) (h1 : ∀ v ∈ cs, v.oneCell' = true)
    (h : ∀ w', Row w' g e cap (lay xs off cs) → Only (fun k => k = g) w w' → w'.heap.size = w.heap.size → wpList P ops Q rest (a.put o.dst (.int .i64 cs.length)) w') :
    wpList P ops Q (o :: rest) a w :=
  wpList_plain hgd fun _ hK => wp_cpy d s dT sT ho e hu hsz g off dLen dCap hd cap xs hrow sp sLen sCap hs cs hn hsrc hfit h1 (fun x0 x1 x2 x3 => hK _ _ (h x0 x1 x2 x3))

end

/-- An entry of a map keyed by int: the key, the element, its stamp. -/
structure ME where
  k : Int
  v : Value
  t : Nat
def ME.to (e : ME) : MapEntry := { key := .int .i64 e.k, val := e.v, born := e.t }
/-- Block m is a map of these entries. -/
structure IMap (w : World) (m : Nat) (es : List ME) (clock : Nat) : Prop where
  blk : w.heap[m]? = some (.map (es.map ME.to).toArray clock)
  keys : (es.map ME.k).Nodup
  stamps : (es.map ME.t).Nodup
  old : ∀ e ∈ es, e.t < clock

def meGet (es : List ME) (k : Int) : Option Value := (es.find? (·.k == k)).map ME.v
def mePut (es : List ME) (k : Int) (v : Value) (clock : Nat) : List ME :=
  if es.any (·.k == k) then es.map (fun e => if e.k == k then { e with v := v } else e) else es ++ [⟨k, v, clock⟩]
def meClock (es : List ME) (k : Int) (clock : Nat) : Nat := if es.any (·.k == k) then clock else clock + 1

theorem findNow_me (k : Int) : ∀ (es : List ME) (i : Nat), Instr.findNow (.int .i64) (.int .i64 k) (es.map ME.to) i = some ((es.findIdx? (·.k == k)).bind fun j => (es[j]?).map fun e => (i + j, e.v))
  | [], i => by simp [Instr.findNow]
  | e :: es, i => by
    have hb : (k == e.k) = (e.k == k) := by rw [Bool.eq_iff_iff, beq_iff_eq, beq_iff_eq]; exact eq_comm
    simp only [List.map_cons, ME.to, Instr.findNow, Instr.sameNow, if_true, List.findIdx?_cons, hb]
    by_cases h : e.k = k
    · simp [h]
    · have h' : (e.k == k) = false := by simpa using h
      simp only [h', Bool.false_eq_true, if_false]
      have ih := findNow_me k es (i + 1)
      rw [ih]
      cases es.findIdx? (·.k == k) <;> simp [Nat.add_assoc, Nat.add_comm 1]

section
variable {P : Program} {w : World} {m : Nat} {es : List ME} {clock : Nat}

theorem IMap.run_lookup (h : IMap w m es clock) (t k e : TypeId) (ht : P.underlying t = some (.map k e)) (hk : P.underlying k = some (.int .i64)) (z : Value) (hz : (zeroValue e).run P w = .ok z w) (x : Int) :
    (Instr.lookup t (.map (some m)) (.int .i64 x) true).run P w = .ok (.tuple #[(meGet es x).getD z, .bool (meGet es x).isSome]) w := by
  have hf := findNow_me x es 0
  simp only [Nat.zero_add] at hf
  have hc : ∀ em, (Instr.checkKey em 10000 k (.int .i64 x)).run P w = .ok () w := fun em => MapKept.run_checkKey hk (by simp [MapKept.IsKey]) em 9999
  have e2 : (es.findIdx? (·.k == x)).bind (fun j => (es[j]?).map fun e => (j, e.v)) = none ∧ es.find? (·.k == x) = none ∨ ∃ j v, (es.findIdx? (·.k == x)).bind (fun j => (es[j]?).map fun e => (j, e.v)) = some (j, v) ∧ (es.find? (·.k == x)).map ME.v = some v := by
    cases hidx : es.findIdx? (·.k == x) with
    | none => left; refine ⟨rfl, ?_⟩; rw [List.findIdx?_eq_none_iff] at hidx; rw [List.find?_eq_none]; intro y hy; simpa using hidx y hy
    | some j =>
      right
      obtain ⟨hj, hp, hlt⟩ := List.findIdx?_eq_some_iff_getElem.1 hidx
      refine ⟨j, es[j].v, by simp [List.getElem?_eq_getElem hj], ?_⟩
      have : es.find? (·.k == x) = some es[j] := by
        rw [List.find?_eq_some_iff_getElem]
        exact ⟨hp, j, hj, rfl, fun i hi => by simpa using hlt i hi⟩
      simp [this]
  rcases e2 with ⟨e3, e4⟩ | ⟨j, v, e3, e4⟩
  · rw [e3] at hf
    simp [Instr.lookup, run_underlying ht, MapKept.run_getObj_map h.blk, hc, Instr.findKey, run_underlying hk, hf, hz, meGet, e4]
  · rw [e3] at hf
    simp [Instr.lookup, run_underlying ht, MapKept.run_getObj_map h.blk, hc, Instr.findKey, run_underlying hk, hf, meGet, e4]

theorem modify_me (k : Int) (v : Value) : ∀ (es : List ME), (es.map ME.k).Nodup → ∀ j, es.findIdx? (·.k == k) = some j →
    (es.map ME.to).modify j (fun e => { e with key := .int .i64 k, val := v }) = (es.map (fun e => if e.k == k then { e with v := v } else e)).map ME.to
  | [], _, j, h => by simp at h
  | e :: es, hn, j, h => by
    rw [List.findIdx?_cons] at h
    by_cases hk : e.k = k
    · simp only [hk, beq_self_eq_true, if_true, Option.some.injEq] at h
      subst h
      have hno : ∀ e' ∈ es, ¬ e'.k = k := fun e' he' hk' => by
        have := (List.nodup_cons.1 (by simpa using hn : (e.k :: es.map ME.k).Nodup)).1
        exact this (by rw [hk, ← hk']; exact List.mem_map_of_mem he')
      simp only [List.map_cons, List.modify_zero_cons, hk, beq_self_eq_true, if_true, ME.to, List.map_map]
      congr 1
      · refine List.map_congr_left fun e' he' => ?_
        have := hno e' he'
        simp [this]
    · have h' : (e.k == k) = false := by simpa using hk
      simp only [h', Bool.false_eq_true, if_false] at h
      cases hj : es.findIdx? (·.k == k) with
      | none => simp [hj] at h
      | some j' =>
        simp only [hj, Option.map_some, Option.some.injEq] at h
        subst h
        have ih := modify_me k v es (by have := (by simpa using hn : (e.k :: es.map ME.k).Nodup); exact (List.nodup_cons.1 this).2) j' hj
        simp only [List.map_cons, List.modify_succ_cons, h', Bool.false_eq_true, if_false, ih]

theorem IMap.run_update (h : IMap w m es clock) (t k e : TypeId) (ht : P.underlying t = some (.map k e)) (hk : P.underlying k = some (.int .i64)) (x : Int) (v : Value) :
    ∃ w', (Instr.mapUpdate t (.map (some m)) (.int .i64 x) v).run P w = .ok () w' ∧ IMap w' m (mePut es x v clock) (meClock es x clock) ∧ Only (fun b => b = m) w w' ∧ w'.heap.size = w.heap.size := by
  have hf := findNow_me x es 0
  simp only [Nat.zero_add] at hf
  have hc : ∀ em, (Instr.checkKey em 10000 k (.int .i64 x)).run P w = .ok () w := fun em => MapKept.run_checkKey hk (by simp [MapKept.IsKey]) em 9999
  have hlt := blk_lt h.blk
  cases hidx : es.findIdx? (·.k == x) with
  | none =>
    rw [hidx] at hf
    have hno : ∀ y ∈ es, ¬ y.k = x := fun y hy => by simpa using List.findIdx?_eq_none_iff.1 hidx y hy
    have hany : es.any (·.k == x) = false := by rw [List.any_eq_false]; intro y hy; simpa using hno y hy
    refine ⟨setObj w m (.map ((es.map ME.to).toArray.push { key := .int .i64 x, val := v, born := clock }) (clock + 1)), ?_, ⟨?_, ?_, ?_, ?_⟩, (Only.refl _ _).setObj _ _ (fun _ => rfl), setObj_size⟩
    · simp [Instr.mapUpdate, run_underlying ht, MapKept.run_getObj_map h.blk, hc, Instr.findKey, run_underlying hk, hf, MapKept.run_setObj_map _ h.blk, setObj]
    · rw [setObj_same hlt]; simp [mePut, meClock, hany, ME.to]
    · simp only [mePut, hany, Bool.false_eq_true, if_false, List.map_append, List.map_cons, List.map_nil]
      rw [List.nodup_append]
      refine ⟨h.keys, by simp, ?_⟩
      intro y hy z hz
      obtain ⟨e', he', rfl⟩ := List.mem_map.1 hy
      obtain rfl : z = x := by simpa using hz
      exact hno e' he'
    · simp only [mePut, hany, Bool.false_eq_true, if_false, List.map_append, List.map_cons, List.map_nil]
      rw [List.nodup_append]
      refine ⟨h.stamps, by simp, ?_⟩
      intro y hy z hz
      obtain ⟨e', he', rfl⟩ := List.mem_map.1 hy
      obtain rfl : z = clock := by simpa using hz
      have := h.old e' he'
      omega
    · intro y hy
      simp only [mePut, meClock, hany, Bool.false_eq_true, if_false, List.mem_append, List.mem_singleton] at hy ⊢
      rcases hy with hy | rfl
      · have := h.old y hy; omega
      · simp
  | some j =>
    rw [hidx] at hf
    obtain ⟨hj, hp, hl⟩ := List.findIdx?_eq_some_iff_getElem.1 hidx
    have hp' : es[j].k = x := by simpa using hp
    have hany : es.any (·.k == x) = true := by rw [List.any_eq_true]; exact ⟨es[j], List.getElem_mem hj, hp⟩
    have hks : (Instr.keyThatStays ((((es.map ME.to).toArray[j]?).map (·.key)).getD (.int .i64 x)) (.int .i64 x)).run P w = .ok (.int .i64 x) w := by
      simp [List.getElem?_eq_getElem hj, ME.to, hp', Instr.keyThatStays, Instr.sameBits]
    simp only [Option.bind_some, List.getElem?_eq_getElem hj, Option.map_some] at hf
    refine ⟨setObj w m (.map ((es.map ME.to).toArray.modify j fun e => { e with key := .int .i64 x, val := v }) clock), ?_, ⟨?_, ?_, ?_, ?_⟩, (Only.refl _ _).setObj _ _ (fun _ => rfl), setObj_size⟩
    · simp only [Instr.mapUpdate, Sem.run_bind, run_underlying ht, MapKept.run_getObj_map h.blk, hc, Instr.findKey, run_underlying hk, hf, Result.andThen_ok, hks, Sem.run_pure, MapKept.run_setObj_map _ h.blk]
      rfl
    · rw [setObj_same hlt]; simp only [mePut, meClock, hany, if_true, List.modify_toArray, modify_me x v es h.keys j hidx]
    · have : (mePut es x v clock).map ME.k = es.map ME.k := by
        simp only [mePut, hany, if_true, List.map_map]
        refine List.map_congr_left fun e' _ => ?_
        by_cases h0 : e'.k = x <;> simp [h0]
      rw [this]; exact h.keys
    · have : (mePut es x v clock).map ME.t = es.map ME.t := by
        simp only [mePut, hany, if_true, List.map_map]
        refine List.map_congr_left fun e' _ => ?_
        by_cases h0 : e'.k = x <;> simp [h0]
      rw [this]; exact h.stamps
    · intro y hy
      simp only [mePut, meClock, hany, if_true] at hy ⊢
      obtain ⟨e', he', rfl⟩ := List.mem_map.1 hy
      have := h.old e' he'
      by_cases h0 : e'.k = x <;> simp [h0, this]

theorem meGet_put (es : List ME) (k : Int) (v : Value) (c : Nat) (j : Int) : meGet (mePut es k v c) j = if j = k then some v else meGet es j := by
  unfold mePut meGet
  by_cases hany : es.any (·.k == k) = true
  · rw [if_pos hany]
    induction es with
    | nil => simp at hany
    | cons e es ih =>
      by_cases hk : e.k = k
      · by_cases hj : j = k
        · subst hj; simp [hk]
        · have h2 : ¬ k = j := fun h => hj h.symm
          by_cases ha : es.any (·.k == k) = true
          · have := ih ha
            simp only [List.map_cons, hk, beq_self_eq_true, if_true, List.find?_cons, beq_eq_false_iff_ne.2 h2, hj, if_false] at this ⊢
            exact this
          · have hno : ∀ e' ∈ es, ¬ e'.k = k := fun e' he' hk' => ha (by rw [List.any_eq_true]; exact ⟨e', he', by simpa using hk'⟩)
            have hm : es.map (fun e => if e.k == k then { e with v := v } else e) = es := by
              conv => rhs; rw [← List.map_id es]
              refine List.map_congr_left fun e' he' => ?_
              simp [hno e' he']
            simp only [List.map_cons, hk, beq_self_eq_true, if_true, List.find?_cons, beq_eq_false_iff_ne.2 h2, hj, if_false, hm]
      · have ha : es.any (·.k == k) = true := by simpa [hk] using hany
        have := ih ha
        by_cases hj : e.k = j
        · have h2 : ¬ j = k := fun h => hk (hj.trans h)
          simp [hj, h2]
        · simp only [List.map_cons, beq_eq_false_iff_ne.2 hk, Bool.false_eq_true, if_false, List.find?_cons, beq_eq_false_iff_ne.2 hj]
          exact this
  · rw [if_neg hany]
    have hno : ∀ e' ∈ es, ¬ e'.k = k := fun e' he' hk' => hany (by rw [List.any_eq_true]; exact ⟨e', he', by simpa using hk'⟩)
    by_cases hj : j = k
    · subst hj
      have : es.find? (·.k == j) = none := by rw [List.find?_eq_none]; intro y hy; simpa using hno y hy
      simp [List.find?_append, this]
    · have h2 : ¬ k = j := fun h => hj h.symm
      simp [List.find?_append, hj, h2]

theorem IMap.run_clear (h : IMap w m es clock) (t k e : TypeId) (ht : P.underlying t = some (.map k e)) :
    ∃ w', (∀ ty, (Builtin.clear_ #[t] ty #[.map (some m)]).run P w = .ok (.tuple #[]) w') ∧ IMap w' m [] clock ∧ Only (fun b => b = m) w w' ∧ w'.heap.size = w.heap.size := by
  refine ⟨setObj w m (.map #[] clock), fun ty => ?_, ⟨by rw [setObj_same (blk_lt h.blk)]; rfl, by simp, by simp, by simp⟩, (Only.refl _ _).setObj _ _ (fun _ => rfl), setObj_size⟩
  simp [Builtin.clear_, run_underlying ht, MapKept.run_getObj_map h.blk, MapKept.run_setObj_map _ h.blk, setObj]

theorem IMap.only {F : Nat → Prop} {w' : World} (h : IMap w m es clock) (g : Only F w w') (hF : ¬ F m) : IMap w' m es clock := ⟨blk_only h.blk g hF, h.keys, h.stamps, h.old⟩
end
end Go.Proofs.YtokefeemhgcmhaaGreatDoor
