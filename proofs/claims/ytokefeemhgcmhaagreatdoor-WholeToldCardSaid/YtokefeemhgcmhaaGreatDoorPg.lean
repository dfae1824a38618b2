/- A drawn region with guards: the first operations by facts, the last in their order. -/
import Derived.Test.YtokefeemhgcmhaaGreatDoorPt
namespace Go.Proofs.YtokefeemhgcmhaaGreatDoor
open Go.RowKit
section
variable {P : Program} {ops : Array Oper} {Q : Exit → Act → World → Prop} {fs : List (Nat × PtF)} {J : (Nat → Bool) → World → Prop} {a0 : Act}
/-- The guard of an operation: none, or on operation g, of which the answer is known. -/
def PgG (ops : Array Oper) (fs : List (Nat × PtF)) (o : Oper) (yes : Bool) : Prop :=
  (o.guard = none ∧ yes = true) ∨ ∃ g b e x os, o.guard = some (g, b) ∧ ops.toList.drop g = x :: os ∧ x.dst = some e ∧ fs[g]? = some (e, fun _ v => v = .bool (b == yes)) ∧ (o.after.toList.any fun d => Region.binds .any d && decide (d.on = g)) = true
theorem PgG.wanted {o : Oper} {yes : Bool} (h : PgG ops fs o yes) {L : Nat → Bool} {a : Act} {w : World} (hI : PtI fs J a0 L a w) (hd : (o.after.toList.all fun e => !Region.binds .any e || L e.on) = true) : Region.wanted o (yielded ops a.tmps) = yes := by
  rcases h with ⟨h1, h2⟩ | ⟨g, b, e, x, os, h1, h2, h3, h4, h5⟩
  · subst h2; simp [Region.wanted, h1]
  · have hf : a.eval (.tmp e) = .bool (b == yes) := hI.fact g e _ h4 (dep_of hd g h5)
    have hx : ops[g]? = some x := by
      have h6 : (ops.toList.drop g)[0]? = some x := by rw [h2]; rfl
      rw [List.getElem?_drop, Nat.add_zero] at h6
      simpa using h6
    have ht : a.tmps[e]? = some (.bool (b == yes)) := by
      simp only [Act.eval, Array.getD_eq_getD_getElem?] at hf
      cases hc : a.tmps[e]? with
      | none => rw [hc] at hf; simp [undef] at hf
      | some v => rw [hc] at hf; simp at hf; rw [hf]
    simp only [Region.wanted, h1, yielded, hx, Option.bind_some, h3, ht]
    cases b <;> cases yes <;> rfl
/-- Each operation's duty: it is run, or its guard says no. -/
def PgAllS (P : Program) (ops : Array Oper) (Q : Exit → Act → World → Prop) (fs : List (Nat × PtF)) (J : (Nat → Bool) → World → Prop) (a0 : Act) : Nat → List Oper → List (Nat × PtF) → Prop
  | _, [], [] => True
  | n, o :: os, (d, p) :: ps => o.dst = some d ∧ ((PgG ops fs o true ∧ PtS P Q fs J a0 n o d p) ∨ (PgG ops fs o false ∧ (∀ w, p w undef) ∧ ∀ L W, J L W → J (fun j => j == n || L j) W)) ∧ PgAllS P ops Q fs J a0 (n + 1) os ps
  | _, _, _ => False
theorem PgAllS.nil {n : Nat} {l : List Oper} (hl : l = []) : PgAllS P ops Q fs J a0 n l [] := by subst hl; exact trivial
theorem PgAllS.cons {n : Nat} {o : Oper} {os l : List Oper} {d : Nat} {p : PtF} {ps : List (Nat × PtF)} (hl : l = o :: os) (h1 : o.dst = some d) (hg : PgG ops fs o true) (h2 : PtS P Q fs J a0 n o d p) (h3 : PgAllS P ops Q fs J a0 (n + 1) os ps) : PgAllS P ops Q fs J a0 n l ((d, p) :: ps) := by subst hl; exact ⟨h1, .inl ⟨hg, h2⟩, h3⟩
theorem PgAllS.skip {n : Nat} {o : Oper} {os l : List Oper} {d : Nat} {p : PtF} {ps : List (Nat × PtF)} (hl : l = o :: os) (h1 : o.dst = some d) (hg : PgG ops fs o false) (hp : ∀ w, p w undef) (hJ : ∀ L W, J L W → J (fun j => j == n || L j) W) (h3 : PgAllS P ops Q fs J a0 (n + 1) os ps) : PgAllS P ops Q fs J a0 n l ((d, p) :: ps) := by subst hl; exact ⟨h1, .inr ⟨hg, hp, hJ⟩, h3⟩
theorem PgAllS.get : ∀ (os : List Oper) (ps : List (Nat × PtF)) (m : Nat), PgAllS P ops Q fs J a0 m os ps → ∀ (n : Nat) (o : Oper), os[n]? = some o → ∃ d p, ps[n]? = some (d, p) ∧ o.dst = some d ∧ ((PgG ops fs o true ∧ PtS P Q fs J a0 (m + n) o d p) ∨ (PgG ops fs o false ∧ (∀ w, p w undef) ∧ ∀ L W, J L W → J (fun j => j == (m + n) || L j) W))
  | [], [], _, _, n, o, h => by simp at h
  | [], _ :: _, _, h, _, _, _ => h.elim
  | _ :: _, [], _, h, _, _, _ => h.elim
  | o' :: os, (d, p) :: ps, m, hh, 0, o, h => by
    simp only [List.getElem?_cons_zero, Option.some.injEq] at h
    subst h; exact ⟨d, p, rfl, hh.1, hh.2.1⟩
  | o' :: os, (d, p) :: ps, m, hh, n + 1, o, h => by
    simp only [List.getElem?_cons_succ] at h
    have := PgAllS.get os ps (m + 1) hh.2.2 n o h
    rw [show m + (n + 1) = m + 1 + n from by omega]
    exact this
theorem PgAllS.len : ∀ (os : List Oper) (ps : List (Nat × PtF)) (m : Nat), PgAllS P ops Q fs J a0 m os ps → ps.length = os.length
  | [], [], _, _ => rfl
  | [], _ :: _, _, h => h.elim
  | _ :: _, [], _, h => h.elim
  | o :: os, x :: ps, m, h => by rw [List.length_cons, List.length_cons, PgAllS.len os ps (m + 1) h.2.2]
theorem region_pg {id : Nat} {a0 : Act} {w0 : World} (m : Nat) (fl : List Nat) (hm : P.follows .mixedOrders = true) (hb : edgesBack ops = true) (hf : (tailForced ops m fl && decide (m ≤ ops.size) && floatOk ops m fl) = true)
    (fs : List (Nat × PtF)) (J : (Nat → Bool) → World → Prop) (hnd : (fs.map Prod.fst).Nodup) (hlt : ∀ d ∈ fs.map Prod.fst, d < a0.tmps.size) (h0 : J (fun _ => false) w0.drew)
    (hQ : fl = [] ∨ ∀ (c : _) (a : Act) (d : Option Tmp) (v : Value) (w : World), Q (.panic c) (a.put d v) w → Q (.panic c) a w) (hfl : PtFls P ops fs J a0 fl)
    (hs : PgAllS P ops Q fs J a0 0 (ops.toList.take m) fs) (hq : ∀ L a w, Alike (fs.map Prod.fst) a0 a → J L w → PtAll a w fs → wpList P ops Q (ops.toList.drop m) a w) : (Code.region id ops true).wp P Q a0 w0 := by
  have hput : ∀ (n d : Nat) (p : PtF) (L : Nat → Bool) (a : Act) (w w' : World) (v : Value), fs[n]? = some (d, p) → PtI fs J a0 L a w → J (fun j => j == n || L j) w' → PtKeep fs L n w w' → p w' v → PtI fs J a0 (fun j => j == n || L j) (a.put (some d) v) w' := by
    intro n d p L a w w' v hnp hI hj hr hp
    have hmem : d ∈ fs.map Prod.fst := List.mem_map.2 ⟨(d, p), List.mem_of_getElem? hnp, rfl⟩
    refine ⟨hI.alike.put d v hmem, hj, fun n' d' p' hm' hL => ?_⟩
    rw [eval_put _ _ _ _ (by rw [hI.alike.size]; exact hlt d hmem)]
    by_cases e : n' = n
    · subst e
      rw [hnp] at hm'
      simp only [Option.some.injEq, Prod.mk.injEq] at hm'
      obtain ⟨rfl, rfl⟩ := hm'
      rw [if_pos rfl]; exact hp
    · have hd' : d' ≠ d := by
        rintro rfl
        have h1 : (fs.map Prod.fst)[n]? = some d' := by rw [List.getElem?_map, hnp]; rfl
        have h2 : (fs.map Prod.fst)[n']? = some d' := by rw [List.getElem?_map, hm']; rfl
        obtain ⟨l1, e1⟩ := List.getElem?_eq_some_iff.1 h1
        obtain ⟨l2, e2⟩ := List.getElem?_eq_some_iff.1 h2
        exact e ((List.getElem_inj hnd).1 (e2.trans e1.symm))
      rw [if_neg hd']
      have hL' : L n' = true := by simpa [e] using hL
      exact hr n' d' p' hm' e hL' _ (hI.fact n' d' p' hm' hL')
  have hsteps : ∀ (n : Nat) (o : Oper), (ops.toList.take m)[n]? = some o → StepI P ops Q (PtI fs J a0) n o := by
    intro n o hn L a w K hI hLn hdeps hK
    obtain ⟨d, p, hnp, hdst, hS⟩ := PgAllS.get _ _ 0 hs n o hn
    rw [Nat.zero_add] at hS
    rcases hS with ⟨hg, hS⟩ | ⟨hg, hp, hJ⟩
    · rw [if_pos (hg.wanted hI hdeps)]
      exact hS L a w K hI hLn hdeps (fun v w' hj hr hp => hK _ _ (hput n d p L a w w' v hnp hI hj hr hp))
    · rw [if_neg (by rw [hg.wanted hI hdeps]; simp), hdst]
      exact hK _ _ (hput n d p L a w w undef hnp hI (hJ _ _ hI.j) PtKeep.refl (hp w))
  have hall : ∀ (l : List Oper) (k : Nat), (∀ (n : Nat) (o : Oper), l[n]? = some o → StepI P ops Q (PtI fs J a0) (k + n) o) → AllSteps P ops Q (PtI fs J a0) k l := by
    intro l
    induction l with
    | nil => intro _ _; exact trivial
    | cons o l ih => intro k h; exact ⟨h 0 o rfl, ih (k + 1) fun n o' hn => by have := h (n + 1) o' hn; rwa [show k + (n + 1) = k + 1 + n from by omega] at this⟩
  have hl := PgAllS.len _ _ _ hs
  refine region_tail m fl hm hb hf (PtI fs J) hQ ?_ ⟨Alike.refl _ _, h0, fun _ _ _ _ h => by cases h⟩ (hall _ 0 (fun n o hn => by rw [Nat.zero_add]; exact hsteps n o hn)) (fun L a w hI hL => hq L a w hI.alike hI.j (ptAll_of fs fun n d p hn => hI.fact n d p hn (hL n ?_)))
  case refine_1 =>
    intro L a w n o hnf ho hI hLn hdeps
    obtain ⟨o', d, p, ho', hnp, hdst, hJ, hS⟩ := PtFls.get fl hfl n hnf
    rw [ho] at ho'
    obtain rfl := Option.some.inj ho'
    obtain ⟨v, hv, hp⟩ := hS L a w hI hdeps
    refine ⟨v, hv, ?_⟩
    rw [hdst]
    exact hput n d p L a w w v hnp hI (hJ _ _ hI.j) PtKeep.refl (hp w)
  have h1 : n < fs.length := by
    rcases Nat.lt_or_ge n fs.length with h | h
    · exact h
    · rw [List.getElem?_eq_none h] at hn; cases hn
  have h2 : (ops.toList.take m).length ≤ m := List.length_take_le _ _
  omega
end
end Go.Proofs.YtokefeemhgcmhaaGreatDoor
