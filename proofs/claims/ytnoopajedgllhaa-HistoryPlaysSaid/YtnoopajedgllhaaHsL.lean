/- foliotlaw18: plain laws; what an argument reads as. -/
import Derived.Test.YtnoopajedgllhaaHsK
import Derived.Test.YtnoopajedgllhaaFitsH
namespace Go.Proofs.Ytnoopajedgllhaa
open Go.RowKit Go.ChangeShapes Go.WideShapes Go.ChangeAt
/-- Cells that are read as a slice of one cell an element. -/
def SrcV (w : World) (v : Value) (xs : List Value) : Prop :=
  ∃ a c, v = .slice a xs.length c ∧ (xs ≠ [] → ∃ g o, a = some ⟨g, o, none⟩ ∧ ∀ i u, xs[i]? = some u → w.cell? ⟨g, o + i, none⟩ = some u)
def intsV (l : List Int) : List Value := l.map (Value.int .i64)
@[simp] theorem length_intsV (l : List Int) : (intsV l).length = l.length := by simp [intsV]
theorem intsV_get (l : List Int) (i : Nat) : (intsV l)[i]? = (l[i]?).map (Value.int .i64) := by simp [intsV]
mutual
theorem fit_sz : ∀ (t : VT) (d : Nat) (x : Int), (t.fit d x).1 = true → (t.sz : Int) = x - (t.fit d x).2
  | .mk k n s l, d, x, h => by
    rw [VT.fit] at h ⊢
    rw [VT.sz]
    by_cases g : x - 1 < 0 ∨ 12 < d ∨ 1100 < s.length
    · rw [if_pos g] at h; simp at h
    · rw [if_neg g] at h ⊢
      have := fitL_sz l (d + 1) (x - 1) h
      omega
theorem fitL_sz : ∀ (l : List VT) (d : Nat) (x : Int), (VT.fitL d x l).1 = true → (VT.szL l : Int) = x - (VT.fitL d x l).2
  | [], d, x, h => by rw [VT.fitL, VT.szL]; simp
  | t :: ts, d, x, h => by
    rw [VT.fitL] at h ⊢
    rw [VT.szL]
    by_cases g : (t.fit d x).1 = true
    · rw [if_pos g] at h ⊢
      have h1 := fit_sz t d x g
      have h2 := fitL_sz ts d _ h
      omega
    · rw [if_neg g] at h; simp at h
end
theorem sm_sz : ∀ {l : List EM} {x : Int}, 0 ≤ x → smB l x = true → ∀ e ∈ l, (e.v.sz : Int) ≤ x
  | [], _, _, _, e, he => by simp at he
  | a :: l, x, hx, h, e, he => by
    rw [smB] at h
    by_cases g : 200 < a.name.length ∨ 200 < a.text.length
    · rw [if_pos g] at h; simp at h
    rw [if_neg g] at h
    by_cases g2 : (a.v.fit 0 x).1 = true
    · rw [if_pos g2] at h
      have h1 := fit_sz a.v 0 x g2
      have h2 := fit_rng a.v 0 x hx
      rcases List.mem_cons.1 he with rfl | he
      · have := h2.2.2 g2; omega
      · have := sm_sz (h2.2.2 g2) h e he; omega
    · rw [if_neg g2] at h; simp at h
theorem esame_self (e : EM) : e.same e = true := by unfold EM.same; simp [cmp_self]
theorem samL_self : ∀ l : List EM, samL l l = true
  | [] => rfl
  | e :: l => by rw [samL, esame_self, samL_self l]; rfl
theorem good_kd {e : EM} (h : e.Good) : e.v.kd := by
  obtain ⟨q, hw, -⟩ := chk_walk h.v
  exact walk_kd _ _ _ _ hw
theorem hok_kd {es : List EM} (h : HOk es) : ∀ e ∈ es, e.v.rg ∧ e.v.kd := fun e he => by
  obtain ⟨i, hi, rfl⟩ := List.mem_iff_getElem.1 he
  have := h i _ (List.getElem?_eq_getElem hi)
  exact ⟨this.2.2.1.2.2.2.2.2.2.2, good_kd this.2.1⟩
section
variable {w : World} {B : Nat → Prop} {n cap q : Nat} {xs : List Value} {es : List EM} {ad : Option Addr}
/-- A part of a list of events. -/
theorem OutE.sub (h : OutE B w (some ⟨q, 0, none⟩) n cap xs es) (a b c : Nat) (hab : a + b ≤ n) : EvsV w (fun k => B k ∧ k < w.heap.size) (.slice (some ⟨q, a * 11, none⟩) b c) ((es.drop a).take b) := by
  have hl := h.len
  have hlen : ((es.drop a).take b).length = b := by rw [List.length_take, List.length_drop]; omega
  have hql := h.gr.lt rfl
  refine ⟨some ⟨q, a * 11, none⟩, c, q, a * 11, by rw [hlen], fun _ => ⟨rfl, h.new q rfl, hql⟩, fun i e hi => ?_⟩
  have hib : i < b := by
    rcases Nat.lt_or_ge i b with g | g
    · exact g
    · rw [List.getElem?_eq_none (by rw [hlen]; exact g)] at hi; cases hi
  rw [List.getElem?_take_of_lt hib, List.getElem?_drop] at hi
  obtain ⟨q', hq', hcells⟩ := h.gr.cells (by omega)
  simp only [Option.some.injEq, Addr.mk.injEq, and_true] at hq'
  subst hq'
  obtain ⟨ds, h3, h4⟩ := EXs.at' h.exs (a + i) e hi
  exact ⟨ds, fun j u hj => by rw [← Nat.add_mul]; exact hcells _ _ (h3 j u hj), h4.mono fun k hk => ⟨hk.1, hk.2.1⟩⟩
theorem evs_nil (G : Nat → Prop) (a : Option Addr) (c : Nat) : EvsV w G (.slice a 0 c) [] := ⟨a, c, 0, 0, rfl, by simp, by simp⟩
end
section
variable {H : Type} {enc : TypeId × Value → H} {W : World} {base : Nat} {spare : Nat → Bool} {held : Bool} {fuel : Nat} {x : DataW H × List MemPlace} {v : Value}
theorem read_evs (h : DataW.trod enc Try.prog W base spare held fuel 22 [v] = some x) : ∃ es : List EM, EvsV W (fun k => k < W.heap.size) v es ∧ (∀ e ∈ es, e.rg) ∧ es.length ≤ 9223372036854775807 := by
  rcases DataW.trod_slice Try.underlying22 h with ⟨hcs, _⟩ | ⟨ad, len, cap, elems, rest, m, hm, hcs, _, _, hlc, hmx, hel, hee, _, _⟩
  · simp at hcs; subst hcs
    exact ⟨[], ⟨none, 0, 0, 0, rfl, by simp, by simp⟩, by simp, by simp⟩
  · simp at hcs; subst hcs
    have hex : ∀ i, ∃ e : EM, i < len → ∃ cs', (∀ j u, cs'[j]? = some u → W.cell? ((ad.add (i * 11)).add j) = some u) ∧ EAt W (fun k => k < W.heap.size) e cs' ∧ e.rg := by
      intro i
      by_cases hi : i < len
      · have h1 := hee i hi
        rw [List.getElem?_eq_getElem (by omega), ocells44] at h1
        obtain ⟨cs', hc1, hc2⟩ := Option.bind_eq_some_iff.1 h1
        obtain ⟨t, ht1, ht2⟩ := read_ev hc2
        obtain ⟨_, hl4, hc⟩ := World.cells?_some hc1
        refine ⟨t, fun _ => ⟨cs', fun j u hj => ?_, ht1, ht2⟩⟩
        have hj4 : j < 11 := by
          rcases Nat.lt_or_ge j 11 with h | h
          · exact h
          · rw [List.getElem?_eq_none (by omega)] at hj; cases hj
        rw [hc j hj4]; exact hj
      · exact ⟨.zero, fun h => absurd h hi⟩
    obtain ⟨f, hf⟩ := Classical.axiomOfChoice hex
    have hg : ((List.range len).map f) ≠ [] → ∃ g o, ad = ⟨g, o, none⟩ ∧ g < W.heap.size := by
      intro hne
      have h0 : 0 < len := by
        rcases Nat.eq_zero_or_pos len with h | h
        · subst h; exact absurd rfl hne
        · exact h
      obtain ⟨cs', h1, h2, -⟩ := hf 0 h0
      obtain ⟨vk, vn, vs, va, vm, vc, rfl, -⟩ := h2.form
      have h3 := h1 0 _ rfl
      have hs : ad.spot = none := by have := World.cell?_spot h3; simpa [Addr.add] using this
      obtain ⟨g, o, s⟩ := ad
      simp only at hs
      subst hs
      exact ⟨g, o, rfl, World.block_lt_of_cell? _ _ h3⟩
    refine ⟨(List.range len).map f, ?_, fun e he => ?_, by simp; unfold maxLen at hmx; omega⟩
    · by_cases hne : ((List.range len).map f) = []
      · exact ⟨some ad, cap, 0, 0, by simp, fun e => absurd hne e, fun i e hi => by rw [hne] at hi; simp at hi⟩
      · obtain ⟨g, o, rfl, hgl⟩ := hg hne
        refine ⟨some ⟨g, o, none⟩, cap, g, o, by simp, fun _ => ⟨rfl, hgl⟩, fun i e hi => ?_⟩
        have hil : i < len := by
          rcases Nat.lt_or_ge i len with h | h
          · exact h
          · rw [List.getElem?_eq_none (by simpa using h)] at hi; cases hi
        simp only [List.getElem?_map, List.getElem?_range hil, Option.map_some, Option.some.injEq] at hi
        subst hi
        obtain ⟨cs', h1, h2, -⟩ := hf i hil
        exact ⟨cs', fun j u hj => by have := h1 j u hj; rwa [addr_add, addr_add] at this, h2⟩
    · obtain ⟨i, hi, rfl⟩ := List.mem_map.1 he
      obtain ⟨-, -, -, h3⟩ := hf i (by simpa using hi)
      exact h3
/-- []int. -/
theorem read_ints (h : DataW.trod enc Try.prog W base spare held fuel 23 [v] = some x) : ∃ l : List Int, SrcV W v (intsV l) ∧ l.length ≤ 9223372036854775807 := by
  rcases open_ints Try.underlying23 Try.underlying3 (by kernel_rfl) h with ⟨hcs, _⟩ | ⟨a, l, c, zs, hcs, _, hl, hm, hz, _, hcell, hwz⟩
  · simp at hcs; subst hcs
    exact ⟨[], ⟨none, 0, rfl, by simp [intsV]⟩, by simp⟩
  · simp at hcs; subst hcs
    have hzl : l ≤ zs.length := by rw [hz]; split <;> omega
    have hlen : (zs.take l).length = l := by simp; omega
    refine ⟨zs.take l, ⟨some a, c, by rw [length_intsV, hlen], ?_⟩, by rw [hlen]; unfold maxLen at hm; omega⟩
    refine src_of (xs := intsV (zs.take l)) (fun i u hu => ?_)
    rw [intsV_get] at hu
    by_cases hi : i < l
    · rw [hcell i (by omega)]
      simp only [List.getElem?_take_of_lt hi, List.getElem?_eq_getElem (show i < zs.length by omega), Option.map_some, Option.some.injEq] at hu
      subst hu
      simp [show i < zs.length by omega]
    · rw [List.getElem?_eq_none (by omega)] at hu; cases hu
end
end Go.Proofs.Ytnoopajedgllhaa
