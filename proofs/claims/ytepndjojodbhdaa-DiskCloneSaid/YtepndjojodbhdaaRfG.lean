/- The disk's reference: Get, Put. -/
import Derived.Test.YtepndjojodbhdaaRfA
namespace Go.Proofs.Ytepndjojodbhdaa
open Go.RowKit

section
variable {w : World} {cs : Array Value} {r : RM} {G : Nat → Prop}
theorem RM.get_down (h : r.down = true) (n : Int) : r.get n = ([], 50) := by unfold RM.get; rw [h]; rfl
theorem RM.get_out (h : r.down = false) {n : Int} (hn : n < 0 ∨ (r.sure.length : Int) ≤ n) : r.get n = ([], 1) := by unfold RM.get; rw [h, if_neg (by simp), if_pos hn]
theorem RM.get_in (h : r.down = false) {n : Int} (hn : ¬ (n < 0 ∨ (r.sure.length : Int) ≤ n)) : r.get n = (((r.last n).getD (r.sure.getD n.toNat [])), 0) := by unfold RM.get; rw [h, if_neg (by simp), if_neg hn]
set_option maxRecDepth 100000 in
set_option maxHeartbeats 1600000 in
theorem rget_c (h : RefAt w cs r G) (hl : r.ws.length ≤ 1000000) (n : Int) :
    Calls Try.prog 94 #[.agg cs, .int .i64 n] w fun e w' => e = .returned (.tuple #[.string (strOf (r.get n).1), .int .i64 (r.get n).2]) ∧ Only (fun _ => False) w w' := by
  have HLa : ∀ ob, Hid (Calls Try.prog 114 #[.agg cs, .int .i64 n] (w.alloc ob) fun e w' => e = .returned (.tuple #[.string (strOf ((r.last n).getD [])), .bool (r.last n).isSome]) ∧ Only (fun _ => False) (w.alloc ob) w') := fun ob => hid (rlast_c (h.only ((Only.refl (fun _ => False) w).alloc ob) (fun _ _ e => e)) hl n)
  obtain ⟨sa, sc, wa, wc, rfl, h1, h2, h3, h4⟩ := h.ex
  have H1 := hid h1
  have HLa := hid HLa
  unfold RM.cells at HLa ⊢
  clear h h1 h2 h3 h4
  cases hd : r.down with
  | true =>
    have Hg := hid (RM.get_down hd n)
    rw [hd] at HLa
    clear hd
    go_enter Try.func94, Try.ntmps94
    go_wp2_with fail
    go_ret2
    rw [Hg.out]
    exact ⟨rfl, (Only.refl _ _).alloc _⟩
  | false =>
    by_cases hn : n < 0 ∨ (r.sure.length : Int) ≤ n
    · have Hg := hid (RM.get_out hd hn)
      rw [hd] at HLa
      clear hd
      by_cases hn0 : n < 0
      · clear hn
        go_enter Try.func94, Try.ntmps94
        go_wp2_with fail
        go_ret2
        rw [Hg.out]
        exact ⟨rfl, (Only.refl _ _).alloc _⟩
      · have hn1 : (r.sure.length : Int) ≤ n := by omega
        clear hn
        go_enter Try.func94, Try.ntmps94
        go_wp2_with fail
        go_ret2
        rw [Hg.out]
        exact ⟨rfl, (Only.refl _ _).alloc _⟩
    · have Hg := hid (RM.get_in hd hn)
      rw [hd] at HLa
      clear hd
      have hn0 : 0 ≤ n := by omega
      have hn1 : n < r.sure.length := by omega
      clear hn
      have hcell : ∀ j, j < r.sure.length → ∃ g o, sa = some ⟨g, o, none⟩ ∧ w.cell? ⟨g, o + j, none⟩ = some (.string (strOf (r.sure.getD j []))) := fun j hj => by
        obtain ⟨a', c', e, hq⟩ := H1.out
        simp only [Value.slice.injEq] at e
        obtain ⟨rfl, -, -⟩ := e
        have hne : strs r.sure ≠ [] := by
          intro e
          have := congrArg List.length e
          rw [length_strs, List.length_nil] at this
          omega
        obtain ⟨g, o, e2, hq2⟩ := hq hne
        refine ⟨g, o, e2, hq2 j _ ?_⟩
        simp [strs, List.getElem?_eq_getElem hj]
      obtain ⟨g, o, rfl, hc⟩ := hcell n.toNat (by omega)
      have hgl := World.block_lt_of_cell? _ _ hc
      clear hcell
      obtain ⟨s, hse⟩ : ∃ s, r.sure.getD n.toNat [] = s := ⟨_, rfl⟩
      rw [hse] at hc Hg
      clear hse
      cases hla : r.last n with
      | some b =>
        rw [hla] at HLa Hg
        go_enter Try.func94, Try.ntmps94
        go_wp2_with (go_at_call 114; refine (HLa.out _).out.mono ?_; rintro e w2 ⟨rfl, ho2⟩)
        go_ret2
        rw [Hg.out]
        exact ⟨rfl, ((Only.refl _ _).alloc _).trans ho2 (fun _ _ e => e)⟩
      | none =>
        rw [hla] at HLa Hg
        go_enter Try.func94, Try.ntmps94
        go_wp2_with (go_at_call 114; refine (HLa.out _).out.mono ?_; rintro e w2 ⟨rfl, ho2⟩; have hc2 : w2.cell? ⟨g, o + n.toNat, none⟩ = some (.string (strOf s)) := cellG (((Only.refl (fun _ => False) w).alloc _).trans ho2 (fun _ _ e => e)) hgl (fun e => e) hc; have hb2 := cell_blk (blk_only (blk_new w _) ho2 (fun e => e)))
        go_ret2
        rw [Hg.out]
        exact ⟨rfl, ((Only.refl _ _).alloc _).trans ho2 (fun _ _ e => e)⟩
/-- The writes' cells. -/
def prs (l : List (Int × List UInt8)) : List Value := l.flatMap fun p => [.int .i64 p.1, .string (strOf p.2)]
theorem length_prs (l : List (Int × List UInt8)) : (prs l).length = l.length * 2 := by
  induction l with
  | nil => rfl
  | cons p l ih =>
    unfold prs at *
    rw [List.flatMap_cons, List.length_append, ih, List.length_cons]
    simp; omega
theorem prs_get : ∀ (l : List (Int × List UInt8)) (i : Nat) (p : Int × List UInt8), l[i]? = some p → (prs l)[i * 2]? = some (.int .i64 p.1) ∧ (prs l)[i * 2 + 1]? = some (.string (strOf p.2))
  | [], i, p, h => by simp at h
  | q :: l, 0, p, h => by
    simp only [List.getElem?_cons_zero, Option.some.injEq] at h
    subst h
    exact ⟨rfl, rfl⟩
  | q :: l, i + 1, p, h => by
    have ih := prs_get l i p (by simpa using h)
    have e : prs (q :: l) = (.int .i64 q.1) :: (.string (strOf q.2)) :: prs l := rfl
    rw [e, show (i + 1) * 2 = i * 2 + 1 + 1 from by omega]
    exact ih
theorem prs_of {l : List (Int × List UInt8)} {j : Nat} {u : Value} (h : (prs l)[j]? = some u) : ∃ p, l[j / 2]? = some p ∧ ((j % 2 = 0 ∧ u = .int .i64 p.1) ∨ (j % 2 = 1 ∧ u = .string (strOf p.2))) := by
  have hj : j < l.length * 2 := by
    rcases Nat.lt_or_ge j (prs l).length with g | g
    · rw [length_prs] at g; exact g
    · rw [List.getElem?_eq_none g] at h; cases h
  obtain ⟨p, hp⟩ : ∃ p, l[j / 2]? = some p := ⟨_, List.getElem?_eq_getElem (by omega)⟩
  obtain ⟨e1, e2⟩ := prs_get l (j / 2) p hp
  refine ⟨p, hp, ?_⟩
  rcases Nat.mod_two_eq_zero_or_one j with hm | hm
  · left
    rw [show j / 2 * 2 = j from by omega, h] at e1
    exact ⟨hm, Option.some.inj e1⟩
  · right
    rw [show j / 2 * 2 + 1 = j from by omega, h] at e2
    exact ⟨hm, Option.some.inj e2⟩
theorem prs_one (l : List (Int × List UInt8)) : ∀ u ∈ prs l, u.oneCell' = true := by
  intro u hu
  unfold prs at hu
  obtain ⟨p, -, hp⟩ := List.mem_flatMap.1 hu
  simp only [List.mem_cons, List.not_mem_nil, or_false] at hp
  rcases hp with rfl | rfl <;> rfl
theorem SrcP.adds {a : Option Addr} {n c : Nat} {l : List (Int × List UInt8)} (h : SrcP w (.slice a n c) l) (hn : l.length = n) : 0 < n → ∃ ad, a = some ad ∧ ∀ j u, (prs l)[j]? = some u → w.cell? (ad.add j) = some u := fun h0 => by
  obtain ⟨a', c', e, hs⟩ := h
  simp only [Value.slice.injEq] at e
  obtain ⟨rfl, -, -⟩ := e
  obtain ⟨g, o, rfl, hc⟩ := hs (by intro e; rw [e] at hn; simp at hn; omega)
  refine ⟨_, rfl, fun j u hu => ?_⟩
  obtain ⟨p, hp, hu⟩ := prs_of hu
  obtain ⟨c1, c2⟩ := hc _ p hp
  rw [addr_add]
  rcases hu with ⟨hm, rfl⟩ | ⟨hm, rfl⟩
  · rw [show j / 2 * 2 = j from by omega] at c1; exact c1
  · rw [show o + j / 2 * 2 + 1 = o + j from by omega] at c2; exact c2
theorem Row.srcP {g cap : Nat} {T : TypeId} {l : List (Int × List UInt8)} {c : Nat} (h : Row w g T cap (prs l)) : SrcP w (.slice (some ⟨g, 0, none⟩) l.length c) l := by
  refine ⟨_, _, rfl, fun _ => ⟨g, 0, rfl, fun i p hp => ?_⟩⟩
  obtain ⟨e1, e2⟩ := prs_get l i p hp
  have h1 := h.news _ _ e1
  have h2 := h.news _ _ e2
  rw [addr_add] at h1 h2
  exact ⟨h1, by rw [show 0 + i * 2 + 1 = 0 + (i * 2 + 1) from by omega]; exact h2⟩
theorem infoW : (Try.prog.info? 178).map (fun i => (i.zero, i.size, i.bytes)) = some (some (.agg #[.int .i64 0, .string ⟨#[]⟩]), 2, 24) := by kernel_rfl
end
end Go.Proofs.Ytepndjojodbhdaa
