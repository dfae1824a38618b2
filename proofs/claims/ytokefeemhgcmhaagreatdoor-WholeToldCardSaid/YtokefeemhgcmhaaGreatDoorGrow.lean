/- Slices of the program's own that grow, whatever their elements; slices that are read; bytes as strings. -/
import Derived.Test.YtokefeemhgcmhaaGreatDoorProg
import Derived.Test.YtokefeemhgcmhaaGreatDoorLaws
import Derived.Test.YtokefeemhgcmhaaGreatDoorRegion
import Derived.Lib.AppendStr
namespace Go.Proofs.YtokefeemhgcmhaaGreatDoor
open Go.RowKit

theorem only_set {w : World} (b o : Nat) (v : Value) : Only (fun k => k = b) w (w.setCell ⟨b, o, none⟩ v) := (Only.refl _ _).setCell _ _ (fun _ => rfl)
theorem only_drewN (w : World) (q : Nat) : Only (fun _ => False) w (w.drewN q) := ⟨rfl, rfl, rfl, Nat.le_refl _, fun _ _ _ => rfl⟩
theorem only_new (w : World) (o : Obj) : Only (fun _ => False) w (w.alloc o) := (Only.refl _ _).alloc _

/-- A slice value that reads as these bytes. -/
def Src (w : World) (v : Value) (l : List UInt8) : Prop :=
  ∃ a c, v = .slice a l.length c ∧ (l ≠ [] → ∃ g o, a = some ⟨g, o, none⟩ ∧ ∀ i u, (bytesV l)[i]? = some u → w.cell? ⟨g, o + i, none⟩ = some u)
theorem Src.len {w : World} {v : Value} {l : List UInt8} (h : Src w v l) : ∃ a c, v = .slice a l.length c := let ⟨a, c, e, _⟩ := h; ⟨a, c, e⟩
theorem Src.only {w w' : World} {v : Value} {l : List UInt8} {G : Nat → Prop} (h : Src w v l) (ho : Only G w w') (hG : l ≠ [] → ∀ g o c, v = .slice (some ⟨g, o, none⟩) l.length c → ¬ G g) : Src w' v l := by
  obtain ⟨a, c, rfl, h⟩ := h
  refine ⟨a, c, rfl, fun hne => ?_⟩
  obtain ⟨g, o, rfl, hc⟩ := h hne
  refine ⟨g, o, rfl, fun i u hu => ?_⟩
  have h1 := hc i u hu
  rw [← h1]
  exact World.cell?_of_block (ho.block g (World.block_lt_of_cell? _ _ h1) (hG hne g o c rfl))
theorem Src.same {w w' : World} {v : Value} {l : List UInt8} (h : Src w v l) (ho : Only (fun _ => False) w w') : Src w' v l := h.only ho (fun _ _ _ _ _ e => e)
theorem Row.src {w : World} {g c : Nat} {l : List UInt8} (h : Row w g 5 c (bytesV l)) : Src w (.slice (some ⟨g, 0, none⟩) l.length c) l := by
  refine ⟨_, _, rfl, fun _ => ⟨g, 0, rfl, fun i u hu => ?_⟩⟩
  rw [Nat.zero_add, h.cell i (by rcases Nat.lt_or_ge i (bytesV l).length with g | g; exact g; simp [List.getElem?_eq_none g] at hu), hu]
theorem bytesV_append (l m : List UInt8) : bytesV (l ++ m) = bytesV l ++ bytesV m := by simp [bytesV]

def strOf (l : List UInt8) : ByteArray := ⟨l.toArray⟩
theorem strOf_inj {a b : List UInt8} (h : strOf a = strOf b) : a = b := by
  have := congrArg (fun s : ByteArray => s.data.toList) h
  simpa [strOf] using this
theorem strOf_list (l : List UInt8) : (strOf l).toList = l := by rw [ByteArray.toList_eq]; simp [strOf]
theorem strOf_size (l : List UInt8) : (strOf l).size = l.length := rfl
theorem strOf_cells (l : List UInt8) : Lib.strCells (strOf l) = bytesV l := by simp [Lib.strCells, strOf, bytesV]
theorem strOf_of (s : ByteArray) : s = strOf s.data.toList := by apply ByteArray.ext; simp [strOf]
theorem strOf_data (l : List UInt8) : (strOf l).data.toList = l := by simp [strOf]

set_option maxRecDepth 100000 in
theorem conv_str {w : World} {v : Value} {l : List UInt8} (h : Src w v l) : (convert 33 9 v).run Tryz.prog w = .ok (.string (strOf l)) w := by
  obtain ⟨a, c, rfl, hs⟩ := h
  by_cases hne : l = []
  · subst hne
    cases a with
    | none => exact run_convert_bytes_nil (P := Tryz.prog) w 33 5 Tryz.underlying33 Tryz.underlying5 _ _ 9 Tryz.underlying9
    | some a =>
      rw [run_convert_bytes_string w 33 9 5 _ _ _ Tryz.underlying33 Tryz.underlying5 Tryz.underlying9]
      simp [Conv.bytesToString, loadCells, loadCellsFrom]
      rfl
  · obtain ⟨g, o, rfl, hc⟩ := hs hne
    have := run_convert_bytes_arg (P := Tryz.prog) w 33 5 Tryz.underlying33 Tryz.underlying5 g o l.length c (l.map fun x => (x.toNat : Int)) (by simp) (fun i hi => by
      rw [hc i (.int .u8 (l[i]).toNat) (by rw [bytesV_get, List.getElem?_eq_getElem hi]; rfl)]
      simp [hi]) 9 Tryz.underlying9
    rw [this]
    congr 2
    simp only [strOfNums, strOf, List.map_map]
    congr 2
    conv => rhs; rw [← List.map_id l]
    exact List.map_congr_left fun x _ => by simp

/-- A slice type's elements. -/
def Elem (P : Program) (t e : TypeId) (size bytes : Nat) : Prop :=
  ∃ i z, P.underlying t = some (.slice e) ∧ P.info? e = some i ∧ i.zero = some z ∧ i.size = size ∧ i.bytes = bytes ∧ z.cells.size = size
theorem Elem.mk {P : Program} {t e : TypeId} {size bytes : Nat} {z : Value} (ht : P.underlying t = some (.slice e)) (h : (P.info? e).map (fun i => (i.zero, i.size, i.bytes)) = some (some z, size, bytes)) (hz : z.cells.size = size) : Elem P t e size bytes := by
  obtain ⟨i, hi, h1, h2, h3⟩ := info_parts h
  exact ⟨i, z, ht, hi, h1, h2, h3, hz⟩
theorem el8 : Elem Tryz.prog 33 5 1 1 := .mk Tryz.underlying33 (z := .int .u8 0) (by kernel_rfl) rfl

/-- A slice of the program's own: nil, or a row; n elements of so many cells each. -/
def Gr (w : World) (e : TypeId) (size : Nat) (ao : Option Addr) (n cap : Nat) (xs : List Value) : Prop :=
  xs.length = n * size ∧ n ≤ cap ∧ ((ao = none ∧ cap = 0) ∨ ∃ g, ao = some ⟨g, 0, none⟩ ∧ Row w g e (cap * size) xs)
/-- Cells that are read as a slice's. -/
def SrcG (w : World) (ax : Option Addr) (m size : Nat) (news : List Value) : Prop :=
  news.length = m * size ∧ (0 < m → ∃ ad, ax = some ad ∧ ∀ j u, news[j]? = some u → w.cell? (ad.add j) = some u) ∧ ∀ u ∈ news, u.oneCell' = true
section
variable {P : Program} {w w' : World} {e : TypeId} {size n cap : Nat} {ao : Option Addr} {xs : List Value} {F : Nat → Prop}
theorem Gr.nil : Gr w e size none 0 0 [] := ⟨by simp, Nat.le_refl _, .inl ⟨rfl, rfl⟩⟩
theorem Gr.only (h : Gr w e size ao n cap xs) (ho : Only F w w') (hF : ∀ g, ao = some ⟨g, 0, none⟩ → ¬ F g) : Gr w' e size ao n cap xs := by
  obtain ⟨h1, h2, h3⟩ := h
  refine ⟨h1, h2, ?_⟩
  rcases h3 with h3 | ⟨g, rfl, hr⟩
  · exact .inl h3
  · exact .inr ⟨g, rfl, hr.only ho (hF g rfl)⟩
theorem Gr.lt (h : Gr w e size ao n cap xs) {g : Nat} (hg : ao = some ⟨g, 0, none⟩) : g < w.heap.size := by
  rcases h.2.2 with ⟨h3, -⟩ | ⟨g', h3, hr⟩
  · rw [h3] at hg; cases hg
  · rw [hg] at h3
    simp only [Option.some.injEq, Addr.mk.injEq, and_true] at h3
    rw [h3]; exact hr.lt
theorem Gr.addr (h : Gr w e size ao n cap xs) : ao = none ∨ ∃ g, ao = some ⟨g, 0, none⟩ := by
  rcases h.2.2 with ⟨h3, -⟩ | ⟨g', h3, hr⟩
  · exact .inl h3
  · exact .inr ⟨g', h3⟩
theorem Gr.cells (h : Gr w e size ao n cap xs) (hn : 0 < n) : ∃ g, ao = some ⟨g, 0, none⟩ ∧ ∀ j u, xs[j]? = some u → w.cell? ⟨g, j, none⟩ = some u := by
  rcases h.2.2 with ⟨-, h3⟩ | ⟨g', h3, hr⟩
  · have := h.2.1; omega
  · refine ⟨g', h3, fun j u hj => ?_⟩
    have := hr.news j u hj
    rw [addr_add, Nat.zero_add] at this; exact this
theorem Gr.src {l : List UInt8} {n : Nat} (h : Gr w 5 1 ao n cap (bytesV l)) : Src w (.slice ao n cap) l := by
  have hn : n = l.length := by have := h.1; simp at this; omega
  subst hn
  refine ⟨ao, cap, rfl, fun hne => ?_⟩
  obtain ⟨g, rfl, hc⟩ := h.cells (List.length_pos_iff.2 hne)
  exact ⟨g, 0, rfl, fun i u hu => by rw [Nat.zero_add]; exact hc i u hu⟩
theorem Src.g {v : Value} {l : List UInt8} (h : Src w v l) : ∃ a c, v = .slice a l.length c ∧ SrcG w a l.length 1 (bytesV l) := by
  obtain ⟨a, c, rfl, hs⟩ := h
  refine ⟨a, c, rfl, by simp, fun h0 => ?_, oneCell_bytesV l⟩
  obtain ⟨g, o, rfl, hc⟩ := hs (List.length_pos_iff.1 h0)
  refine ⟨_, rfl, fun j u hj => ?_⟩
  rw [addr_add]; exact hc j u hj
/-- New cells in a block of their own. -/
theorem SrcG.new {g m size : Nat} {news : List Value} {T : TypeId} {fr : Nat × Nat} (h : w.heap[g]? = some (.cells news.toArray T fr)) (hl : news.length = m * size) (h1 : ∀ u ∈ news, u.oneCell' = true) : SrcG w (some ⟨g, 0, none⟩) m size news := by
  refine ⟨hl, fun _ => ⟨_, rfl, fun j u hj => ?_⟩, h1⟩
  rw [addr_add, Nat.zero_add, cell_blk h]
  simpa using hj

theorem wp_gr {o : Oper} {a : Act} {Q : Exit → Act → World → Prop} {K : Act → World → Prop} {t : TypeId} {bytes : Nat} (E : Elem P t e size bytes) (s x : Operand)
    (ho : o.op = .call { callee := .builtin .append, args := #[s, x], argTypes := #[t, t] }) (hg : Gr w e size ao n cap xs) (hs : a.eval s = .slice ao n cap)
    (ax : Option Addr) (m c : Nat) (hx : a.eval x = .slice ax m c) (news : List Value) (hsrc : SrcG w ax m size news) (h63 : n + m ≤ 9223372036854775807) (hbytes : (n + m) * bytes ≤ 140737488355328)
    (h : ∀ ao' cap' w', Gr w' e size ao' (n + m) cap' (xs ++ news) → (ao' = ao ∨ ao' = some ⟨w.heap.size, 0, none⟩) → Only (fun k => ao = some ⟨k, 0, none⟩) w w' → K (a.put o.dst (.slice ao' (n + m) cap')) w') :
    o.wp P a w K Q := by
  obtain ⟨i, z, ht, hi, hz, hsz, hby, hzs⟩ := E
  obtain ⟨h1, h2, h3⟩ := hg
  have hlen : (xs ++ news).length = (n + m) * size := by rw [List.length_append, h1, hsrc.1, Nat.add_mul]
  rcases Nat.eq_zero_or_pos m with rfl | hm
  · obtain rfl : news = [] := List.eq_nil_of_length_eq_zero (by have := hsrc.1; simpa using this)
    refine wp_app_none s x t ho e i ht hi ao n cap hs h2 ax c hx ?_
    exact h ao cap w ⟨hlen, h2, by simpa using h3⟩ (.inl rfl) (Only.refl _ _)
  · obtain ⟨ad, rfl, hc⟩ := hsrc.2.1 hm
    rcases h3 with ⟨rfl, rfl⟩ | ⟨g, rfl, hr⟩
    · obtain rfl : n = 0 := by omega
      obtain rfl : xs = [] := List.eq_nil_of_length_eq_zero (by simpa using h1)
      refine wp_app_nil s x t ho e i z size bytes ht hi hz hsz hby hzs hs ad m c hx news hsrc.1 hc hm (by omega) (by simpa using hbytes) ?_
      intro cap' w' g1 g2 g3
      rw [Nat.zero_add] at h hlen
      exact h _ cap' w' ⟨by simpa using hlen, g1, .inr ⟨_, rfl, by simpa using g2⟩⟩ (.inr rfl) (g3.mono (fun _ _ e => e.elim))
    · refine wp_app s x t ho e i z size bytes ht hi hz hsz hby hzs g n cap xs hs hr h1 ad m c hx news hsrc.1 hc hsrc.2.2 h63 hbytes ?_
      intro g' cap' w' g1 g2 g3 g4
      refine h _ cap' w' ⟨hlen, g1, .inr ⟨g', rfl, g2⟩⟩ (g3.imp (fun e => by rw [e]) (fun e => by rw [e])) (g4.mono (fun k _ e => by rw [e]))
theorem wpList_gr {ops : Array Oper} {rest : List Oper} {o : Oper} {a : Act} {Q : Exit → Act → World → Prop} {t : TypeId} {bytes : Nat} (hgd : o.guard = none) (E : Elem P t e size bytes) (s x : Operand)
    (ho : o.op = .call { callee := .builtin .append, args := #[s, x], argTypes := #[t, t] }) (hg : Gr w e size ao n cap xs) (hs : a.eval s = .slice ao n cap)
    (ax : Option Addr) (m c : Nat) (hx : a.eval x = .slice ax m c) (news : List Value) (hsrc : SrcG w ax m size news) (h63 : n + m ≤ 9223372036854775807) (hbytes : (n + m) * bytes ≤ 140737488355328)
    (h : ∀ ao' cap' w', Gr w' e size ao' (n + m) cap' (xs ++ news) → (ao' = ao ∨ ao' = some ⟨w.heap.size, 0, none⟩) → Only (fun k => ao = some ⟨k, 0, none⟩) w w' → wpList P ops Q rest (a.put o.dst (.slice ao' (n + m) cap')) w') :
    wpList P ops Q (o :: rest) a w :=
  wpList_plain hgd fun _ hK => wp_gr E s x ho hg hs ax m c hx news hsrc h63 hbytes (fun x0 x1 x2 x3 x4 x5 => hK _ _ (h x0 x1 x2 x3 x4 x5))

/-- append(b, s...): a string's bytes. -/
theorem wp_grS {o : Oper} {a : Act} {Q : Exit → Act → World → Prop} {K : Act → World → Prop} {t u : TypeId} (E : Elem P t e 1 1) (hu : P.underlying u = some .string) (s x : Operand)
    (ho : o.op = .call { callee := .builtin .append, args := #[s, x], argTypes := #[t, u] }) (l : List UInt8) (hz8 : (P.info? e).map (fun i => i.zero) = some (some (.int .u8 0))) (hg : Gr w e 1 ao n cap xs) (hs : a.eval s = .slice ao n cap)
    (hx : a.eval x = .string (strOf l)) (h63 : n + l.length ≤ 140737488355328)
    (h : ∀ ao' cap' w', Gr w' e 1 ao' (n + l.length) cap' (xs ++ bytesV l) → (ao' = ao ∨ ao' = some ⟨w.heap.size, 0, none⟩) → Only (fun k => ao = some ⟨k, 0, none⟩) w w' → K (a.put o.dst (.slice ao' (n + l.length) cap')) w') :
    o.wp P a w K Q := by
  obtain ⟨i, z, ht, hi, hz, hsz, hby, hzs⟩ := E
  obtain ⟨h1, h2, h3⟩ := hg
  have hz' : z = .int .u8 0 := by rw [hi] at hz8; simp [hz] at hz8; exact hz8
  subst hz'
  have hlen : (xs ++ bytesV l).length = (n + l.length) * 1 := by rw [List.length_append, h1, length_bytesV]; omega
  have hk : (strOf l).size = l.length := rfl
  suffices hrun : ∃ ao' cap' w', (Builtin.append_ #[t, u] o.type #[.slice ao n cap, .string (strOf l)]).run P w = .ok (.slice ao' (n + l.length) cap') w' ∧ Gr w' e 1 ao' (n + l.length) cap' (xs ++ bytesV l) ∧ (ao' = ao ∨ ao' = some ⟨w.heap.size, 0, none⟩) ∧ Only (fun k => ao = some ⟨k, 0, none⟩) w w' by
    obtain ⟨ao', cap', w', hr, g1, g2, g3⟩ := hrun
    unfold Oper.wp execOp
    simp only [ho, resolve, invoke, builtin, Sem.run_bind, Sem.run_pure, Result.andThen_ok, List.map_toArray, List.map_cons, List.map_nil, hs, hx, hr]
    exact h _ _ _ g1 g2 g3
  rcases h3 with ⟨rfl, rfl⟩ | ⟨g, rfl, hr⟩
  · obtain rfl : n = 0 := by omega
    obtain rfl : xs = [] := List.eq_nil_of_length_eq_zero (by simpa using h1)
    rcases Nat.eq_zero_or_pos l.length with h0 | h0
    · obtain rfl : l = [] := List.eq_nil_of_length_eq_zero h0
      refine ⟨none, 0, w, ?_, ⟨by simp [bytesV], Nat.le_refl _, .inl ⟨rfl, rfl⟩⟩, .inl rfl, Only.refl _ _⟩
      have hf := Lib.run_firstCells_string (P := P) w 1 (strOf [])
      have hs0 : (strOf []).size = 0 := rfl
      rw [hs0] at hf
      simp [Builtin.append_, run_underlying ht, run_underlying hu, sizeOf, typeInfo, hi, hsz, Builtin.lenOf, hs0, hf]
    · have hr := run_append_nil_string (P := P) w t u o.type e i (.int .u8 0) ht hu hi hz (strOf l) (by omega) (by omega) (by rw [hby]; omega)
      have hge := grownCap_ge w l.length 0 e
      rw [hk] at hr
      refine ⟨some ⟨w.heap.size, 0, none⟩, grownCap w l.length 0 e, _, by rw [Nat.zero_add]; exact hr, ⟨by simp, by omega, .inr ⟨_, rfl, ?_⟩⟩, .inr rfl, (Only.refl _ _).drew.alloc _⟩
      refine ⟨(Builtin.zeroCells (Value.int .u8 0).cells (grownCap w l.length 0 e - l.length)).toList, ?_, ?_⟩
      · have := blk_new w.drew (.cells ((strOf l).data.map (fun b => Value.int .u8 b.toNat) ++ Builtin.zeroCells (Value.int .u8 0).cells (grownCap w l.length 0 e - l.length)) e)
        refine this.trans ?_
        congr 2
        apply Array.ext'
        simp [strOf, bytesV]
      · have hz1 : (Value.int IntKind.u8 0).cells.size = 1 := rfl
        simp only [Array.length_toList, size_zeroCells, hz1, List.nil_append, length_bytesV]
        omega
  · obtain ⟨pad, hg, hcap⟩ := hr
    by_cases hroom : n + l.length ≤ cap
    · have hr := Lib.run_append_room_string (P := P) w t u o.type e i ht hu hi hsz g n cap _ hg (strOf l) hroom (by simp only [List.size_toArray, List.length_append, hk]; omega)
      rw [hk, strOf_cells] at hr
      refine ⟨_, _, _, hr, ⟨hlen, hroom, .inr ⟨g, rfl, pad.drop l.length, ?_, ?_⟩⟩, .inl rfl, ((Only.refl _ _).setRow _ _ (fun _ => rfl))⟩
      · rw [setRow_heap w g _ _ e _ hg]
        have hn : xs.length = n := by omega
        congr 2
        rw [← hn]
        simp [List.drop_append]
      · simp only [List.length_append, length_bytesV, List.length_drop]; omega
    · have hrow : Row w g e (cap * 1) xs := ⟨pad, hg, hcap⟩
      have hr := Lib.run_append_grow_string (P := P) w t u o.type e i (.int .u8 0) ht hu hi hz ⟨g, 0, none⟩ n cap xs (by rw [hsz]; exact h1) hrow.news (strOf l) (by omega) (by omega) (by rw [hby]; exact growslice_fits (by omega) (by omega))
      rw [hk, strOf_cells] at hr
      have hge := grownCap_ge w (n + l.length) cap e
      refine ⟨_, _, _, hr, ⟨hlen, hge, .inr ⟨_, rfl, ?_⟩⟩, .inr rfl, (Only.refl _ _).drew.alloc _⟩
      refine ⟨(Builtin.zeroCells (Value.int .u8 0).cells (grownCap w (n + l.length) cap e - (n + l.length))).toList, ?_, ?_⟩
      · have := blk_new w.drew (.cells (xs.toArray ++ (bytesV l).toArray ++ Builtin.zeroCells (Value.int .u8 0).cells (grownCap w (n + l.length) cap e - (n + l.length))) e)
        refine this.trans ?_
        congr 2
        apply Array.ext'
        simp
      · have hz1 : (Value.int IntKind.u8 0).cells.size = 1 := rfl
        simp only [Array.length_toList, size_zeroCells, hz1, List.length_append, length_bytesV]
        omega
theorem wpList_grS {ops : Array Oper} {rest : List Oper} {o : Oper} {a : Act} {Q : Exit → Act → World → Prop} {t u : TypeId} (hgd : o.guard = none) (E : Elem P t e 1 1) (hu : P.underlying u = some .string) (s x : Operand)
    (ho : o.op = .call { callee := .builtin .append, args := #[s, x], argTypes := #[t, u] }) (l : List UInt8) (hz8 : (P.info? e).map (fun i => i.zero) = some (some (.int .u8 0))) (hg : Gr w e 1 ao n cap xs) (hs : a.eval s = .slice ao n cap)
    (hx : a.eval x = .string (strOf l)) (h63 : n + l.length ≤ 140737488355328)
    (h : ∀ ao' cap' w', Gr w' e 1 ao' (n + l.length) cap' (xs ++ bytesV l) → (ao' = ao ∨ ao' = some ⟨w.heap.size, 0, none⟩) → Only (fun k => ao = some ⟨k, 0, none⟩) w w' → wpList P ops Q rest (a.put o.dst (.slice ao' (n + l.length) cap')) w') :
    wpList P ops Q (o :: rest) a w :=
  wpList_plain hgd fun _ hK => wp_grS E hu s x ho l hz8 hg hs hx h63 (fun x0 x1 x2 x3 x4 x5 => hK _ _ (h x0 x1 x2 x3 x4 x5))
end
end Go.Proofs.YtokefeemhgcmhaaGreatDoor
