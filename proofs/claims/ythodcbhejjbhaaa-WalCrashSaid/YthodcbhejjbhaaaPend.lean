/- The disk: Pending. -/
import Derived.Test.YthodcbhejjbhaaaSort
import Derived.Test.YthodcbhejjbhaaaDiskX
import Derived.Test.YthodcbhejjbhaaaFuse
namespace Go.Proofs.Ythodcbhejjbhaaa
open Go.RowKit

def sortI (l : List Int) : List Int := l.mergeSort fun x y => decide (x ≤ y)
theorem sortI_perm (l : List Int) : (sortI l).Perm l := List.mergeSort_perm _ _
theorem sortI_len (l : List Int) : (sortI l).length = l.length := (sortI_perm l).length_eq
theorem sortI_le (l : List Int) : (sortI l).Pairwise (· ≤ ·) := by
  have := List.pairwise_mergeSort (le := fun x y : Int => decide (x ≤ y)) (fun a b c h1 h2 => by simp at *; omega) (fun a b => by simp; omega) l
  exact this.imp (by simp)

open Go.Sort in
theorem sort_c {w : World} {g cap : Nat} {zs : List Int} (h : Row w g 3 cap (intsV zs)) (hl : zs.length ≤ 1000000) :
    Calls Try.prog 46 #[.slice (some ⟨g, 0, none⟩) zs.length cap] w fun e w' => e = .returned (.tuple #[]) ∧ Row w' g 3 cap (intsV (sortI zs)) ∧ Only (fun k => k = g) w w' := by
  have hH : Holds (Value.int .i64) w g 0 zs.toArray := by
    intro j hj
    have hj' : j < zs.length := by simpa using hj
    refine ⟨?_, by rw [Nat.zero_add]; exact h.frozen j⟩
    rw [Nat.zero_add, h.cell j (by simpa using hj'), intsV_get, List.getElem?_eq_getElem hj']
    simp [hj']
  refine (Try.slices_Sort_int g 0 cap zs w hH h.lt (by omega)).mono ?_
  rintro e w' ⟨rfl, n, os, rfl⟩
  obtain ⟨pad, hg, hc⟩ := h
  have hlt := blk_lt hg
  refine ⟨rfl, ⟨pad, ?_, by rw [length_intsV, sortI_len]; rw [length_intsV] at hc; exact hc⟩, ?_⟩
  · rw [heap_grow_old _ _ (by rw [size_putRow]; exact hlt)]
    unfold putRow mapBlock
    show (Array.modify w.heap g _)[g]? = _
    rw [Array.getElem?_modify, if_pos rfl, hg]
    simp only [Option.map_some, onCells]
    congr 2
    apply Array.ext_getElem?
    intro k
    have hsl : (List.mergeSort zs fun x y => decide (x ≤ y)).length = zs.length := sortI_len zs
    simp only [putCells, Array.getElem?_mapIdx, List.getElem?_toArray, List.size_toArray, Nat.zero_le, true_and, Nat.zero_add, Nat.sub_zero, hsl]
    by_cases hk : k < zs.length
    · rw [List.getElem?_append_left (by simpa using hk), List.getElem?_append_left (by rw [length_intsV, sortI_len]; exact hk), intsV_get, intsV_get, List.getElem?_eq_getElem hk, List.getElem?_eq_getElem (show k < (sortI zs).length by rw [sortI_len]; exact hk)]
      simp only [Option.map_some, hk, if_true]
      congr 2
      rw [getElem!_pos _ k (by rw [List.size_toArray, hsl]; exact hk)]
      rfl
    · rw [List.getElem?_append_right (by simp; omega), List.getElem?_append_right (by rw [length_intsV, sortI_len]; omega), length_intsV, length_intsV, sortI_len]
      simp [hk]
  · refine ⟨rfl, rfl, rfl, by rw [size_grow, size_putRow]; exact Nat.le_add_right _ _, fun k hk hkg => ?_⟩
    rw [heap_grow_old _ _ (by rw [size_putRow]; exact hk)]
    unfold putRow mapBlock
    show (Array.modify w.heap g _)[k]? = _
    rw [Array.getElem?_modify, if_neg (fun e => hkg e.symm)]

theorem infoI : (Try.prog.info? 3).map (fun i => (i.zero, i.size, i.bytes)) = some (some (.int .i64 0), 1, 8) := by kernel_rfl
/-- A slice of ints that grows from nil. -/
def IOut (w : World) (ao : Option Addr) (cap : Nat) (xs : List Int) (lo : Nat) : Prop :=
  (ao = none ∧ cap = 0 ∧ xs = []) ∨ ∃ g, ao = some ⟨g, 0, none⟩ ∧ lo ≤ g ∧ Row w g 3 cap (intsV xs)
theorem IOut.only {w w' : World} {ao : Option Addr} {cap : Nat} {xs : List Int} {lo : Nat} {F : Nat → Prop} (h : IOut w ao cap xs lo) (ho : Only F w w') (hF : ∀ k, k < w.heap.size → lo ≤ k → ¬ F k) : IOut w' ao cap xs lo := by
  rcases h with h | ⟨g, rfl, hg, hr⟩
  · exact .inl h
  · exact .inr ⟨g, rfl, hg, hr.only ho (hF g hr.lt hg)⟩
theorem IOut.src {w : World} {ao : Option Addr} {cap : Nat} {xs : List Int} {lo : Nat} (h : IOut w ao cap xs lo) : SrcV w (.slice ao xs.length cap) (intsV xs) := by
  rcases h with ⟨rfl, rfl, rfl⟩ | ⟨g, rfl, hg, hr⟩
  · exact ⟨none, 0, rfl, fun e => absurd rfl e⟩
  · refine ⟨_, cap, by rw [length_intsV], fun _ => ⟨g, 0, rfl, fun i u hu => ?_⟩⟩
    have := hr.news i u hu
    rw [addr_add] at this
    exact this
section
variable {ops : Array Oper} {rest : List Oper} {a : Act} {w : World} {o : Oper} {Q : Exit → Act → World → Prop}
theorem wp_addi {K : Act → World → Prop} (s x : Operand) (ho : o.op = .call { callee := .builtin .append, args := #[s, x], argTypes := #[75, 75] })
    (bo : Option Addr) (cap lo n : Nat) (xs : List Int) (hn : xs.length = n) (hs : a.eval s = .slice bo n cap) (hrow : IOut w bo cap xs lo) (hlo : lo ≤ w.heap.size)
    (gx : Nat) (z : Int) (hx : a.eval x = .slice (some ⟨gx, 0, none⟩) 1 1) (hcell : w.cell? ⟨gx, 0, none⟩ = some (.int .i64 z)) (hb : n ≤ 1000000)
    (h : ∀ bo' cap' w', IOut w' bo' cap' (xs ++ [z]) lo → Only (fun k => lo ≤ k) w w' → K (a.put o.dst (.slice bo' (n + 1) cap')) w') :
    o.wp Try.prog a w K Q := by
  subst hn
  obtain ⟨i0, hi, hz0, hz1, hz2⟩ := info_parts infoI
  have hnews : ∀ j u, (intsV [z])[j]? = some u → w.cell? ((⟨gx, 0, none⟩ : Addr).add j) = some u := by
    intro j u hu
    match j with
    | 0 => simp [intsV] at hu; subst hu; exact hcell
    | j + 1 => simp [intsV] at hu
  rcases hrow with ⟨rfl, rfl, rfl⟩ | ⟨g, rfl, hg, hrow⟩
  · refine wp_app_nil s x _ ho 3 i0 (.int .i64 0) 1 8 Try.underlying75 hi hz0 hz1 hz2 rfl hs ⟨gx, 0, none⟩ 1 1 hx (intsV [z]) (by simp) hnews (by omega) (by omega) (by omega) ?_
    intro cap' w' h1 h2 h3
    rw [Nat.mul_one] at h2
    exact h _ cap' w' (.inr ⟨_, rfl, hlo, h2⟩) (h3.mono (fun _ _ e => e.elim))
  · refine wp_app s x _ ho 3 i0 (.int .i64 0) 1 8 Try.underlying75 hi hz0 hz1 hz2 rfl g xs.length cap (intsV xs) hs (by rw [Nat.mul_one]; exact hrow) (by simp) ⟨gx, 0, none⟩ 1 1 hx (intsV [z]) (by simp) hnews (fun u hu => by simp [intsV] at hu; subst hu; rfl) (by omega) (by omega) ?_
    intro g' cap' w' h1 h2 h3 h4
    have e : intsV xs ++ intsV [z] = intsV (xs ++ [z]) := by simp [intsV]
    rw [Nat.mul_one, e] at h2
    exact h _ cap' w' (.inr ⟨g', rfl, by omega, h2⟩) (h4.mono (fun k _ e => e ▸ hg))
theorem wpList_addi (hgd : o.guard = none) (s x : Operand) (ho : o.op = .call { callee := .builtin .append, args := #[s, x], argTypes := #[75, 75] })
    (bo : Option Addr) (cap lo n : Nat) (xs : List Int) (hn : xs.length = n) (hs : a.eval s = .slice bo n cap) (hrow : IOut w bo cap xs lo) (hlo : lo ≤ w.heap.size)
    (gx : Nat) (z : Int) (hx : a.eval x = .slice (some ⟨gx, 0, none⟩) 1 1) (hcell : w.cell? ⟨gx, 0, none⟩ = some (.int .i64 z)) (hb : n ≤ 1000000)
    (h : ∀ bo' cap' w', IOut w' bo' cap' (xs ++ [z]) lo → Only (fun k => lo ≤ k) w w' → wpList Try.prog ops Q rest (a.put o.dst (.slice bo' (n + 1) cap')) w') :
    wpList Try.prog ops Q (o :: rest) a w :=
  wpList_plain hgd fun _ hK => wp_addi s x ho bo cap lo n xs hn hs hrow hlo gx z hx hcell hb (fun x0 x1 x2 x3 x4 => hK _ _ (h x0 x1 x2 x3 x4))
end

theorem nodup_lt : ∀ (n : Nat) (l : List Nat), l.Nodup → (∀ x ∈ l, x < n) → l.length ≤ n
  | 0, l, _, h => by
    cases l with
    | nil => exact Nat.le_refl _
    | cons x l => exact absurd (h x (List.mem_cons_self)) (Nat.not_lt_zero _)
  | n + 1, l, hn, h => by
    by_cases hm : n ∈ l
    · have ih := nodup_lt n (l.erase n) (hn.erase n) (fun x hx => by
        have h1 := List.mem_of_mem_erase hx
        have h2 : x ≠ n := fun e => (List.Nodup.not_mem_erase hn) (e ▸ hx)
        have := h x h1; omega)
      rw [List.length_erase_of_mem hm] at ih
      omega
    · have ih := nodup_lt n l hn (fun x hx => by
        have h2 : x ≠ n := fun e => hm (e ▸ hx)
        have := h x hx; omega)
      omega

/-- The sectors that aren't durable, rising. -/
def PendOf (D : DiskM) (ks : List Int) : Prop := ks.Pairwise (· < ·) ∧ ∀ k : Int, k ∈ ks ↔ ∃ j : Nat, k = j ∧ D.pend j ≠ none

/-- In the middle of Pending's loop. -/
structure PInv (pe : List Pend) (seen : List Nat) (l : List Int) : Prop where
  nodup : l.Nodup
  of : ∀ x ∈ l, ∃ p ∈ pe, (p.k : Int) = x ∧ p.t ∈ seen
  all : ∀ p ∈ pe, p.t ∈ seen → (p.k : Int) ∈ l
theorem PInv.start (pe : List Pend) : PInv pe [] [] := ⟨by simp, by simp, by simp⟩
theorem map_inj_mem {α β : Type} (f : α → β) : ∀ {l : List α} {x y : α}, (l.map f).Nodup → x ∈ l → y ∈ l → f x = f y → x = y
  | [], _, _, _, h, _, _ => by cases h
  | a :: l, x, y, hn, hx, hy, e => by
    rw [List.map_cons, List.nodup_cons] at hn
    rcases List.mem_cons.1 hx with hx1 | hx1
    · rcases List.mem_cons.1 hy with hy1 | hy1
      · rw [hx1, hy1]
      · exact absurd (by rw [← hx1, e]; exact List.mem_map_of_mem hy1) hn.1
    · rcases List.mem_cons.1 hy with hy1 | hy1
      · exact absurd (by rw [← hy1, ← e]; exact List.mem_map_of_mem hx1) hn.1
      · exact map_inj_mem f hn.2 hx1 hy1 e
theorem PInv.next {pe : List Pend} {seen : List Nat} {l : List Int} (h : PInv pe seen l) (hk : ((pe.map Pend.me).map ME.k).Nodup) (ht : ((pe.map Pend.me).map ME.t).Nodup) {p : Pend} (hp : p ∈ pe) (hs : p.t ∉ seen) : PInv pe (seen ++ [p.t]) (l ++ [(p.k : Int)]) := by
  refine ⟨?_, ?_, ?_⟩
  · rw [List.nodup_append]
    refine ⟨h.nodup, by simp, ?_⟩
    intro x hx y hy
    obtain rfl : y = (p.k : Int) := by simpa using hy
    rintro rfl
    obtain ⟨q, hq, e, hqs⟩ := h.of _ hx
    have : q = p := map_inj_mem (fun p : Pend => (p.k : Int)) (by simpa [Pend.me, Function.comp_def] using hk) hq hp e
    exact hs (this ▸ hqs)
  · intro x hx
    rcases List.mem_append.1 hx with hx | hx
    · obtain ⟨q, hq, e, hqs⟩ := h.of x hx
      exact ⟨q, hq, e, List.mem_append_left _ hqs⟩
    · obtain rfl : x = (p.k : Int) := by simpa using hx
      exact ⟨p, hp, rfl, by simp⟩
  · intro q hq hqs
    rcases List.mem_append.1 hqs with hqs | hqs
    · exact List.mem_append_left _ (h.all q hq hqs)
    · have e : q.t = p.t := by simpa using hqs
      have : q = p := map_inj_mem (fun p : Pend => p.t) (by simpa [Pend.me, Function.comp_def] using ht) hq hp e
      subst this
      simp
theorem PInv.done {w : World} {b : Nat} {D : DiskM} {gs cap ms : Nat} {sg sc : Nat → Nat} {pe : List Pend} {clock : Nat} {ρ : Nat → Role} {seen : List Nat} {l : List Int} (hr : DiskRep w b D gs cap ms sg sc pe clock ρ) (h : PInv pe seen l) (hall : ∀ p ∈ pe, p.t ∈ seen) : PendOf D (sortI l) := by
  refine ⟨?_, fun k => ?_⟩
  · have h1 := sortI_le l
    have h2 : (sortI l).Nodup := (sortI_perm l).nodup_iff.2 h.nodup
    exact h1.imp₂ (fun {a b} (h1 : a ≤ b) (h2 : a ≠ b) => by omega) h2
  · rw [(sortI_perm l).mem_iff]
    constructor
    · intro hk
      obtain ⟨p, hp, e, -⟩ := h.of k hk
      obtain ⟨-, -, -, -, hs⟩ := hr.pen p hp
      exact ⟨p.k, e.symm, by rw [hs]; simp⟩
    · rintro ⟨j, rfl, hj⟩
      cases hd : D.pend j with
      | none => exact absurd hd hj
      | some x =>
        obtain ⟨p, hp, rfl⟩ := hr.all j x hd
        exact h.all p hp (hall p hp)
theorem PInv.len {w : World} {b : Nat} {D : DiskM} {gs cap ms : Nat} {sg sc : Nat → Nat} {pe : List Pend} {clock : Nat} {ρ : Nat → Role} {seen : List Nat} {l : List Int} (hr : DiskRep w b D gs cap ms sg sc pe clock ρ) (h : PInv pe seen l) : l.length ≤ 4096 := by
  have hnat : ∀ x ∈ l, 0 ≤ x ∧ x.toNat < D.n := fun x hx => by
    obtain ⟨p, hp, e, -⟩ := h.of x hx
    have := (hr.pen p hp).1
    omega
  have h1 : (l.map Int.toNat).Nodup := by
    refine List.Pairwise.map _ (R := fun a b : Int => a ∈ l ∧ b ∈ l ∧ a ≠ b) ?_ ?_
    · rintro a b ⟨ha, hb, hab⟩ e
      have := hnat a ha; have := hnat b hb; omega
    · exact (List.Pairwise.and_mem.1 h.nodup)
  have h2 := nodup_lt D.n (l.map Int.toNat) h1 (fun x hx => by
    obtain ⟨y, hy, rfl⟩ := List.mem_map.1 hx
    exact (hnat y hy).2)
  have := hr.n0
  simp at h2; omega

section
variable {w : World} {b : Nat} {D : DiskM} {F : Nat → Prop}
set_option maxRecDepth 100000 in
set_option maxHeartbeats 1600000 in
theorem pending_c (h : DiskAt w b D F) :
    Calls Try.prog 27 #[.pointer (some ⟨b, 0, none⟩)] w fun e w' => ∃ bo cap ks, e = .returned (.slice bo ks.length cap) ∧ IOut w' bo cap ks w.heap.size ∧ Only (fun _ => False) w w' ∧ PendOf D ks ∧ ks.length ≤ 4096 := by
  obtain ⟨gs, cap, ms, sg, sc, pe, clock, ρ, hr, hq1, hq2⟩ := h
  have hc3 : w.cell? ⟨b, 2, none⟩ = some (.slice (some ⟨gs, 0, none⟩) D.n cap) := cell_blk hr.blk 2
  have hc := cell_blk hr.blk
  have HR := hid hr; have HM := hid hr.map
  unfold diskCells at hc
  clear hr hq1 hq2 hc3
  go_enter Try.func27, Try.ntmps27
  go_wp2_with (at_range; refine wpList_range_raw rfl _ 70 rfl 3 33 Try.underlying70 rfl HM.out ?_; intro w3 hit3 ho3 hs3 hm3)
  have HI3 := hid hit3; have HO3 := hid ho3; have HS3 := hid hs3; have HM3 := hid hm3
  clear hit3 ho3 hs3 hm3 hc
  go_frame
  go_loopw [3, 4] (fun v _ wr => ∃ (seen : List Nat) (c0 : Nat) (bo : Option Addr) (cp : Nat) (l : List Int), v = .slice bo l.length cp ∧ IOut wr bo cp l (w.heap.size + 1) ∧ PInv pe seen l ∧ wr.heap[w.heap.size]? = some (.mapIter (some ms) clock seen.toArray c0) ∧ clock ≤ c0 ∧ IMap wr ms (pe.map Pend.me) clock ∧ w.heap.size + 1 ≤ wr.heap.size ∧ Only (fun _ => False) w wr) (fun _ _ wr => mapLeft wr w.heap.size ms)
  case atStart => exact ⟨[], clock, none, 0, [], rfl, .inl ⟨rfl, rfl, rfl⟩, PInv.start pe, HI3.out, Nat.le_refl _, HM3.out, by rw [HS3.out]; exact Nat.le_refl _, HO3.out⟩
  case round =>
    obtain ⟨seen, c0, bo, cp, l, rfl, hio, hpi, hit, hc0, hm, hlo, ho⟩ := hrel
    have Hio := hid hio; have Hpi := hid hpi; have Hit := hid hit; have Hc0 := hid hc0; have Hm := hid hm; have Ho := hid ho; have Hlo := hid hlo
    clear hio hpi hit hc0 hm ho hlo
    go_wp2_with (at_next; refine wpList_next_raw rfl _ rfl rfl clock c0 seen Hit.out Hm.out HM.out.old Hc0.out ?_ ?_)
    · intro hall
      have Hall := hid hall
      have hdone := PInv.done HR.out Hpi.out (fun p hp => hall p hp)
      have hlen := PInv.len HR.out Hpi.out
      have Hdone := hid hdone; have Hlen := hid hlen
      clear hall hdone hlen
      have hio := Hio.out
      have HSort : Hid (Calls Try.prog 46 #[.slice bo l.length cp] wr fun e w' => e = .returned (.tuple #[]) ∧ IOut w' bo cp (sortI l) (w.heap.size + 1) ∧ Only (fun k => w.heap.size + 1 ≤ k) wr w') := hid (by
        rcases hio with ⟨rfl, rfl, rfl⟩ | ⟨g, rfl, hg, hrow⟩
        · refine (Try.slices_Sort_int_none none 0 wr).mono ?_
          rintro e w' ⟨rfl, rfl⟩
          exact ⟨rfl, .inl ⟨rfl, rfl, by simp [sortI]⟩, Only.refl _ _⟩
        · refine (sort_c hrow (by have := Hlen.out; omega)).mono ?_
          rintro e w' ⟨rfl, hr, ho⟩
          exact ⟨rfl, .inr ⟨g, rfl, hg, hr⟩, ho.mono (fun k _ e => by have e' : k = g := e; omega)⟩)
      clear hio
      go_wp2_with (first | (go_at_call 46; refine HSort.out.mono ?_; rintro e w4 ⟨rfl, hio4, ho4⟩; have Hio4 := hid hio4; have Ho4 := hid ho4; clear hio4 ho4))
      go_ret
      refine ⟨bo, cp, sortI l, by rw [sortI_len]; rfl, ?_, ?_, Hdone.out, by rw [sortI_len]; exact Hlen.out⟩
      · rcases Hio4.out with h | ⟨g, e, hg, hr⟩
        · exact .inl h
        · exact .inr ⟨g, e, by omega, hr⟩
      · exact Ho.out.trans Ho4.out (fun k hk e => by have e' : w.heap.size + 1 ≤ k := e; omega)
    · intro p hp hne w4 hit4 ho4 hs4 hm4 hlt hen
      simp only [Pend.me, secV] at hen hne
      have Hp := hid hp; have Hne := hid hne; have Hit4 := hid hit4; have Ho4 := hid ho4; have Hm4 := hid hm4; have Hlt := hid hlt; have Hs4 := hid hs4
      have Hl4 := hid (PInv.len HR.out Hpi.out)
      have Hio4 := hid (Hio.out.only (F := fun k => k = w.heap.size) ho4 (fun k hk h e => by have e' : k = w.heap.size := e; omega))
      clear hp hne hit4 ho4 hm4 hlt hs4
      simp only [Pend.me, secV]
      go_wp2_with (first | (refine wpList_addi rfl (.tmp 14) (.tmp 16) rfl bo cp (w.heap.size + 1) l.length l rfl rfl (Hio4.out.only ((Only.refl (fun _ => False) w4).alloc _) (fun _ _ _ e => e)) (by have := Hlo.out; have := Hs4.out; simp; omega) w4.heap.size p.k rfl (cell_blk (blk_new w4 _) 0) (by have := Hl4.out; omega) ?_; intro bo' cap' w5 hio5 ho5; have Hio5 := hid hio5; have Ho5 := hid (((Only.refl (fun k => w.heap.size + 1 ≤ k) w4).alloc _).trans ho5 (fun _ _ e => e)); clear hio5 ho5))
      have hms : ms < w.heap.size := blk_lt HM.out.blk
      have hit5 := (Ho5.out.block w.heap.size (blk_lt Hit4.out) (by show ¬ w.heap.size + 1 ≤ w.heap.size; omega)).trans Hit4.out
      have hm5 := Hm4.out.only Ho5.out (by show ¬ w.heap.size + 1 ≤ ms; omega)
      refine ⟨⟨seen ++ [p.t], clock, bo', cap', l ++ [(p.k : Int)], by simp, Hio5.out, Hpi.out.next HM.out.keys HM.out.stamps Hp.out Hne.out, hit5, Nat.le_refl _, hm5, Nat.le_trans Hlo.out (Nat.le_trans (Nat.le_of_eq Hs4.out.symm) Ho5.out.size), ?_⟩, ?_⟩
      · exact (Ho.out.trans Ho4.out (fun k hk e => by have e' : k = w.heap.size := e; omega)).trans Ho5.out (fun k hk e => by have e' : w.heap.size + 1 ≤ k := e; omega)
      · rw [mapLeft_congr (w' := w5) (w := w4) (hit5.trans Hit4.out.symm) (hm5.blk.trans Hm4.out.blk.symm)]
        exact Hlt.out
end
end Go.Proofs.Ythodcbhejjbhaaa
