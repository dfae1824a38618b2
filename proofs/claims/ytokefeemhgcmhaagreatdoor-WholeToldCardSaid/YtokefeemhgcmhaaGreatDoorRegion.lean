/- A region that draws its order, by an invariant over what has been done. -/
import Derived.Test.YtokefeemhgcmhaaGreatDoorLaws
import Derived.RegionTactic
namespace Go.Proofs.YtokefeemhgcmhaaGreatDoor
open Go.RowKit

/-- Every binding edge of a region goes back to an operation before it. -/
def edgesBack (ops : Array Oper) : Bool := (List.range ops.size).all fun i => ((ops[i]?).map fun o => o.after.toList.all fun e => !Region.binds .any e || decide (e.on < i)).getD true

/-- From wherever the invariant holds, operation n is run and the invariant holds with n done. -/
def StepI (P : Program) (ops : Array Oper) (Q : Exit → Act → World → Prop) (I : (Nat → Bool) → Act → World → Prop) (n : Nat) (o : Oper) : Prop :=
  ∀ L a w (K : Act → World → Prop), I L a w → L n = false → (o.after.toList.all fun e => !Region.binds .any e || L e.on) = true → (∀ a w, I (fun j => j == n || L j) a w → K a w) →
    if Region.wanted o (yielded ops a.tmps) = true then Oper.wp P o a w K Q else K (a.put o.dst undef) w
def AllSteps (P : Program) (ops : Array Oper) (Q : Exit → Act → World → Prop) (I : (Nat → Bool) → Act → World → Prop) : Nat → List Oper → Prop
  | _, [] => True
  | n, o :: os => StepI P ops Q I n o ∧ AllSteps P ops Q I (n + 1) os

section
variable {P : Program} {ops : Array Oper} {Q : Exit → Act → World → Prop} {I : (Nat → Bool) → Act → World → Prop}
theorem AllSteps.nil {n : Nat} : AllSteps P ops Q I n [] := trivial
theorem AllSteps.cons {n : Nat} {l os : List Oper} {o : Oper} (h : l = o :: os) (h1 : StepI P ops Q I n o) (h2 : AllSteps P ops Q I (n + 1) os) : AllSteps P ops Q I n l := by subst h; exact ⟨h1, h2⟩
theorem AllSteps.get : ∀ (l : List Oper) (n : Nat), AllSteps P ops Q I n l → ∀ i o, l[i]? = some o → StepI P ops Q I (n + i) o
  | [], _, _, i, o, h => by simp at h
  | o' :: os, n, hh, 0, o, h => by
    simp only [List.getElem?_cons_zero, Option.some.injEq] at h
    subst h; exact hh.1
  | o' :: os, n, hh, i + 1, o, h => by
    simp only [List.getElem?_cons_succ] at h
    have := AllSteps.get os (n + 1) hh.2 i o h
    rw [Nat.add_assoc, Nat.add_comm 1 i] at this
    exact this

theorem getD_set (l : Array Bool) (i j : Nat) (hi : i < l.size) : (l.setIfInBounds i true).getD j false = (j == i || l.getD j false) := by
  by_cases hj : j = i
  · subst hj; simp [Array.getD_eq_getD_getElem?, hi]
  · have : ¬ i = j := fun e => hj e.symm
    simp [Array.getD_eq_getD_getElem?, hj, this]

theorem wpAny_inv (hs : ∀ i o, ops[i]? = some o → StepI P ops Q I i o) (hb : edgesBack ops = true) (hq : ∀ L a w, I L a w → (∀ i, i < ops.size → L i = true) → Q .normal a w) :
    ∀ (fuel : Nat) (listed : Array Bool) (a : Act) (w : World), listed.size = ops.size → listed.toList.count false ≤ fuel → I (fun i => listed.getD i false) a w → wpAny P .any ops Q fuel listed a w := by
  have hall : ∀ (listed : Array Bool), listed.size = ops.size → Region.ready .any ops listed = [] → ∀ i, i < ops.size → listed.getD i false = true := by
    intro listed hsz hr i
    induction i using Nat.strongRecOn with
    | _ i ih =>
      intro hi
      cases hd : listed.getD i false with
      | true => rfl
      | false =>
        exfalso
        have hmem : i ∈ Region.ready .any ops listed := by
          unfold Region.ready
          rw [List.mem_filter]
          refine ⟨List.mem_range.2 hi, ?_⟩
          have h1 : listed.getD i true = false := by
            rw [Array.getD_eq_getD_getElem?] at hd ⊢
            rw [Array.getElem?_eq_getElem (by omega)] at hd ⊢
            simpa using hd
          rw [h1, Array.getElem?_eq_getElem hi]
          simp only [Bool.not_false, Bool.true_and, Option.map_some, Option.getD_some]
          rw [Array.all_eq_true_iff_forall_mem]
          intro e he
          have h2 := List.all_eq_true.1 hb i (List.mem_range.2 hi)
          rw [Array.getElem?_eq_getElem hi] at h2
          simp only [Option.map_some, Option.getD_some] at h2
          have h3 := List.all_eq_true.1 h2 e (Array.mem_toList_iff.2 he)
          cases hbi : Region.binds .any e with
          | false => simp
          | true =>
            rw [hbi] at h3
            simp only [Bool.not_true, Bool.false_or, decide_eq_true_eq] at h3
            simp [ih e.on h3 (by omega)]
        rw [hr] at hmem
        cases hmem
  intro fuel
  induction fuel with
  | zero =>
    intro listed a w hsz hc hI
    have hno : ∀ i, i < ops.size → listed.getD i false = true := by
      intro i hi
      have h0 : listed.toList.count false = 0 := by omega
      rw [List.count_eq_zero] at h0
      rw [Array.getD_eq_getD_getElem?, Array.getElem?_eq_getElem (by omega)]
      cases hx : listed[i]'(by omega) with
      | true => rfl
      | false => exact absurd (by rw [← hx]; exact Array.mem_toList_iff.2 (Array.getElem_mem _)) h0
    refine ⟨?_, hq _ _ _ hI hno⟩
    unfold Region.ready
    rw [List.filter_eq_nil_iff]
    intro i hi
    have h1 := hno i (List.mem_range.1 hi)
    have h2 : listed.getD i true = true := by
      rw [Array.getD_eq_getD_getElem?] at h1 ⊢
      rw [Array.getElem?_eq_getElem (by have := List.mem_range.1 hi; omega)] at h1 ⊢
      simpa using h1
    simp [h2]
  | succ fuel ih =>
    intro listed a w hsz hc hI
    refine ⟨fun hr => hq _ _ _ hI (hall listed hsz hr), fun i hi => ?_⟩
    unfold Region.ready at hi
    rw [List.mem_filter] at hi
    have hlt := List.mem_range.1 hi.1
    have hi2 := hi.2
    rw [Array.getElem?_eq_getElem hlt] at hi2
    simp only [Option.map_some, Option.getD_some, Bool.and_eq_true, Bool.not_eq_true'] at hi2
    have hd : listed.getD i false = false := by
      have := hi2.1
      rw [Array.getD_eq_getD_getElem?] at this ⊢
      rw [Array.getElem?_eq_getElem (by omega)] at this ⊢
      simpa using this
    refine wpOp_step (Array.getElem?_eq_getElem hlt) (fun K hK => ?_)
    refine hs i _ (Array.getElem?_eq_getElem hlt) _ a w K hI hd ?_ (fun a' w' hI' => hK a' w' (ih _ a' w' (by simpa using hsz) ?_ ?_))
    · have := hi2.2
      rw [Array.all_eq_true_iff_forall_mem] at this
      rw [List.all_eq_true]
      intro e he
      exact this e (Array.mem_toList_iff.1 he)
    · have hil : i < listed.toList.length := by simpa [hsz] using hlt
      rw [Array.toList_setIfInBounds, List.count_set hil]
      have hx : listed.toList[i] = false := by
        rw [Array.getD_eq_getD_getElem?, Array.getElem?_eq_getElem (by omega)] at hd
        simpa using hd
      have hpos : 0 < listed.toList.count false := List.count_pos_iff.2 (by rw [← hx]; exact List.getElem_mem hil)
      rw [hx]
      change listed.toList.count false - 1 + 0 ≤ fuel
      omega
    · have : (fun j => (listed.setIfInBounds i true).getD j false) = fun j => j == i || listed.getD j false := funext fun j => getD_set listed i j (by omega)
      rw [this]; exact hI'

theorem region_inv {id : Nat} {a0 : Act} {w0 : World} (hm : P.follows .mixedOrders = true) (hb : edgesBack ops = true) (I : Act → (Nat → Bool) → Act → World → Prop)
    (h0 : I a0 (fun _ => false) a0 w0.drew) (hs : AllSteps P ops Q (I a0) 0 ops.toList) (hq : ∀ L a w, I a0 L a w → (∀ i, i < ops.size → L i = true) → Q .normal a w) : (Code.region id ops true).wp P Q a0 w0 := by
  refine wp_region_any hm (wpAny_inv (I := I a0) (fun i o ho => ?_) hb hq ops.size _ a0 _ (by simp) (by simp) ?_)
  · have := AllSteps.get ops.toList 0 hs i o (by simpa using ho)
    rwa [Nat.zero_add] at this
  · have : (fun i => (Array.replicate ops.size false).getD i false) = fun _ => false := by
      funext i
      rw [Array.getD_eq_getD_getElem?, Array.getElem?_replicate]
      split <;> rfl
    rw [this]; exact h0

/-- The frame a is the frame a0 but for these slots. -/
structure Alike (ks : List Nat) (a0 a : Act) : Prop where
  defers : a.defers = a0.defers
  size : a.tmps.size = a0.tmps.size
  same : ∀ k, k ∉ ks → a.tmps[k]? = a0.tmps[k]?
theorem Alike.refl (ks : List Nat) (a : Act) : Alike ks a a := ⟨rfl, rfl, fun _ _ => rfl⟩
theorem Alike.put {ks : List Nat} {a0 a : Act} (h : Alike ks a0 a) (d : Nat) (v : Value) (hd : d ∈ ks) : Alike ks a0 (a.put (some d) v) := by
  refine ⟨h.defers, by simp [Act.put, h.size], fun k hk => ?_⟩
  have : ¬ d = k := fun e => hk (e ▸ hd)
  simp only [Act.put, Array.getElem?_setIfInBounds_ne this]
  exact h.same k hk
theorem Alike.eval {ks : List Nat} {a0 a : Act} (h : Alike ks a0 a) (k : Nat) (hk : k ∉ ks) : a.eval (.tmp k) = a0.eval (.tmp k) := by
  simp only [Act.eval, Array.getD_eq_getD_getElem?, h.same k hk]
theorem eval_put (a : Act) (d k : Nat) (v : Value) (hd : d < a.tmps.size) : (a.put (some d) v).eval (.tmp k) = if k = d then v else a.eval (.tmp k) := by
  simp only [Act.eval, Act.put, Array.getD_eq_getD_getElem?]
  by_cases h : k = d
  · subst h; simp [hd]
  · have : ¬ d = k := fun e => h e.symm
    simp [h, this]

/-- a0 with these slots as in a. -/
def Act.turned (a0 : Act) (a : Act) : List Nat → Act
  | [] => a0
  | k :: ks => (Act.turned a0 a ks).put (some k) (a.eval (.tmp k))
theorem turned_size (a0 a : Act) : ∀ ks, (Act.turned a0 a ks).tmps.size = a0.tmps.size
  | [] => rfl
  | k :: ks => by simp [Act.turned, Act.put, turned_size a0 a ks]
theorem turned_defers (a0 a : Act) : ∀ ks, (Act.turned a0 a ks).defers = a0.defers
  | [] => rfl
  | k :: ks => by simp only [Act.turned, Act.put]; exact turned_defers a0 a ks
theorem turned_get (a0 a : Act) : ∀ ks j, j < a0.tmps.size → (Act.turned a0 a ks).tmps[j]? = if j ∈ ks then some (a.eval (.tmp j)) else a0.tmps[j]?
  | [], j, _ => by simp [Act.turned]
  | k :: ks, j, hj => by
    have hsz := turned_size a0 a ks
    simp only [Act.turned, Act.put]
    by_cases h : k = j
    · subst h
      rw [Array.getElem?_setIfInBounds_self_of_lt (by omega)]
      simp
    · rw [Array.getElem?_setIfInBounds_ne h, turned_get a0 a ks j hj]
      have : ¬ j = k := fun e => h e.symm
      simp [this]
theorem Alike.turned {ks : List Nat} {a0 a : Act} (h : Alike ks a0 a) : a = Act.turned a0 a ks := by
  have e1 : a.tmps = (Act.turned a0 a ks).tmps := by
    apply Array.ext
    · rw [turned_size, h.size]
    · intro j hj hj2
      have h1 := turned_get a0 a ks j (by rw [← h.size]; exact hj)
      rw [Array.getElem?_eq_getElem hj2] at h1
      by_cases hk : j ∈ ks
      · rw [if_pos hk] at h1
        rw [Option.some.inj h1]
        simp [Act.eval, Array.getD_eq_getD_getElem?, hj]
      · rw [if_neg hk, ← h.same j hk, Array.getElem?_eq_getElem hj] at h1
        exact (Option.some.inj h1).symm
  have e2 : a.defers = (Act.turned a0 a ks).defers := by rw [turned_defers, h.defers]
  have : ∀ x y : Act, x.tmps = y.tmps → x.defers = y.defers → x = y := by rintro ⟨⟩ ⟨⟩ h1 h2; simp_all
  exact this _ _ e1 e2

theorem wp_value {o : Oper} {a : Act} {w w' : World} {K : Act → World → Prop} {v : Value} (hrun : (execOp a.eval o).run P w = .ok (.value v) w') (h : K (a.put o.dst v) w') : o.wp P a w K Q := by
  unfold Oper.wp; rw [hrun]; exact h
theorem wp_callc {o : Oper} {a : Act} {w : World} {K : Act → World → Prop} {f : FuncId} {args : Array Value} (hrun : (execOp a.eval o).run P w = .ok (.enter f args) w) (h : Calls P f args w fun e w'' => ∃ v, e = .returned v ∧ K (a.put o.dst v) w'') : o.wp P a w K Q := by
  unfold Oper.wp
  rw [hrun, Oper.upon_enter]
  refine h.mono fun e w'' hh => ?_
  obtain ⟨v, rfl, hk⟩ := hh
  exact hk
end
end Go.Proofs.YtokefeemhgcmhaaGreatDoor
