/- A region that draws its order, of which the last operations are forced: the first by facts, in whatever order, the last in theirs. -/
import Derived.Test.YtokefeemhgcmhaaGreatDoorRegion
import Derived.Deep.RegionHeld3
namespace Go.Proofs.YtokefeemhgcmhaaGreatDoor
open Go.RowKit

/-- What an operation waits for; and what these wait for, down from place k. -/
def depsB (ops : Array Oper) (k : Nat) : List Nat := ((ops[k]?).map fun o => (o.after.toList.filter fun e => Region.binds .any e).map fun e => e.on).getD []
def closeB (ops : Array Oper) : Nat → List Nat → List Nat
  | 0, S => S
  | k + 1, S => closeB ops k (if S.contains k = true then S ++ depsB ops k else S)
/-- The operation at place m waits, directly or not, for all that stand before it, but for those that float; each behind it for the one before it. -/
def tailForced (ops : Array Oper) (m : Nat) (fl : List Nat) : Bool := (decide (m = ops.size) || (fun S => (List.range m).all fun j => fl.contains j || S.contains j) (closeB ops m (depsB ops m))) && (List.range ops.size).all fun i => decide (i ≤ m) || (depsB ops i).contains (i - 1)
/-- Those that float may be done at once: whatever doesn't wait for them has nothing to do with their slots. -/
def floatOk (ops : Array Oper) (m : Nat) (fl : List Nat) : Bool :=
  (fl.all fun i => decide (i < m) && ((ops[i]?).map fun o => o.guard.isNone && (List.range ops.size).all fun j => j == i || ((ops[j]?).map fun q => (q.after.toList.any fun e => Region.binds .any e && decide (e.on = i)) || (o.after.toList.any fun e => Region.binds .any e && decide (e.on = j)) || o.apart ops q).getD true).getD false) &&
  (ops.toList.all fun o => match o.op with | .select _ _ => false | _ => true)
section
variable {P : Program} {ops : Array Oper} {Q : Exit → Act → World → Prop} {I : (Nat → Bool) → Act → World → Prop} {m : Nat}
theorem ready_iff {listed : Array Bool} {i : Nat} : i ∈ Region.ready .any ops listed ↔ i < ops.size ∧ listed.getD i true = false ∧ ∃ o, ops[i]? = some o ∧ ∀ e ∈ o.after.toList, Region.binds .any e = true → listed.getD e.on false = true := by
  unfold Region.ready
  rw [List.mem_filter, List.mem_range]
  constructor
  · rintro ⟨h1, h2⟩
    rw [Array.getElem?_eq_getElem h1] at h2
    simp only [Option.map_some, Option.getD_some, Bool.and_eq_true, Bool.not_eq_true'] at h2
    refine ⟨h1, h2.1, _, Array.getElem?_eq_getElem h1, fun e he hb => ?_⟩
    have h3 := h2.2
    rw [Array.all_eq_true_iff_forall_mem] at h3
    have := h3 e (Array.mem_toList_iff.1 he)
    rw [hb] at this
    simpa using this
  · rintro ⟨h1, h2, o, ho, h3⟩
    refine ⟨h1, ?_⟩
    rw [h2, ho]
    simp only [Bool.not_false, Bool.true_and, Option.map_some, Option.getD_some]
    rw [Array.all_eq_true_iff_forall_mem]
    intro e he
    cases hb : Region.binds .any e with
    | false => simp
    | true => simp [h3 e (Array.mem_toList_iff.2 he) hb]
theorem mem_deps {i j : Nat} {o : Oper} (ho : ops[i]? = some o) (h : j ∈ depsB ops i) : ∃ e ∈ o.after.toList, Region.binds .any e = true ∧ e.on = j := by
  unfold depsB at h
  rw [ho] at h
  simp only [Option.map_some, Option.getD_some] at h
  obtain ⟨e, he, rfl⟩ := List.mem_map.1 h
  obtain ⟨h1, h2⟩ := List.mem_filter.1 he
  exact ⟨e, h1, by simpa using h2, rfl⟩
theorem tf_prev {fl : List Nat} (hf : tailForced ops m fl = true) {i : Nat} {o : Oper} (ho : ops[i]? = some o) (hi : m < i) : ∃ e ∈ o.after.toList, Region.binds .any e = true ∧ e.on = i - 1 := by
  have hlt : i < ops.size := by
    rcases Nat.lt_or_ge i ops.size with h | h
    · exact h
    · rw [Array.getElem?_eq_none h] at ho; cases ho
  have h1 := List.all_eq_true.1 ((Bool.and_eq_true _ _).mp hf).2 i (List.mem_range.2 hlt)
  simp only [Bool.or_eq_true, decide_eq_true_eq] at h1
  rcases h1 with h1 | h1
  · omega
  · exact mem_deps ho (by simpa using h1)
/-- What is listed waits for nothing that isn't. -/
def Cl (ops : Array Oper) (L : Nat → Bool) : Prop := ∀ (i : Nat) (o : Oper), ops[i]? = some o → L i = true → ∀ e ∈ o.after.toList, Region.binds .any e = true → L e.on = true
theorem Cl.set {L : Nat → Bool} (h : Cl ops L) {i : Nat} {o : Oper} (ho : ops[i]? = some o) (hd : ∀ e ∈ o.after.toList, Region.binds .any e = true → L e.on = true) : Cl ops (fun j => j == i || L j) := by
  intro k q hq hk e he hbi
  have hk' : k = i ∨ L k = true := by simpa using hk
  have : L e.on = true := by
    rcases hk' with rfl | hk'
    · rw [ho] at hq
      obtain rfl := Option.some.inj hq
      exact hd e he hbi
    · exact h k q hq hk' e he hbi
  simp [this]
theorem Cl.deps {L : Nat → Bool} (h : Cl ops L) {i : Nat} (hi : L i = true) : ∀ j ∈ depsB ops i, L j = true := by
  intro j hj
  cases ho : ops[i]? with
  | none => unfold depsB at hj; rw [ho] at hj; simp at hj
  | some o =>
    obtain ⟨e, he, hbi, rfl⟩ := mem_deps ho hj
    exact h i o ho hi e he hbi
theorem Cl.close {L : Nat → Bool} (h : Cl ops L) : ∀ (k : Nat) (S : List Nat), (∀ j ∈ S, L j = true) → ∀ j ∈ closeB ops k S, L j = true
  | 0, _, hS => hS
  | k + 1, S, hS => by
    rw [closeB]
    refine Cl.close h k _ ?_
    by_cases hc : S.contains k = true
    · rw [if_pos hc]
      intro j hj
      rcases List.mem_append.1 hj with g | g
      · exact hS j g
      · exact h.deps (hS k (by simpa using hc)) j g
    · rw [if_neg hc]; exact hS
theorem tf_close {fl : List Nat} (hf : tailForced ops m fl = true) {L : Nat → Bool} (h : Cl ops L) {o : Oper} (ho : ops[m]? = some o) (hd : ∀ e ∈ o.after.toList, Region.binds .any e = true → L e.on = true) {j : Nat} (hj : j < m) (hfl : fl.contains j = false) : L j = true := by
  have hlt : m < ops.size := by
    rcases Nat.lt_or_ge m ops.size with h | h
    · exact h
    · rw [Array.getElem?_eq_none h] at ho; cases ho
  have h1 := (Bool.or_eq_true _ _).mp ((Bool.and_eq_true _ _).mp hf).1
  rcases h1 with h1 | h1
  · have := of_decide_eq_true h1; omega
  · have h2 := List.all_eq_true.1 h1 j (List.mem_range.2 hj)
    rw [hfl, Bool.false_or] at h2
    refine h.close m _ (fun k hk => ?_) j (by simpa using h2)
    obtain ⟨e, he, hbi, rfl⟩ := mem_deps ho hk
    exact hd e he hbi
theorem back_dep (hb : edgesBack ops = true) {i : Nat} {o : Oper} (ho : ops[i]? = some o) {e : Edge} (he : e ∈ o.after.toList) (hbi : Region.binds .any e = true) : e.on < i := by
  have hlt : i < ops.size := by
    rcases Nat.lt_or_ge i ops.size with h | h
    · exact h
    · rw [Array.getElem?_eq_none h] at ho; cases ho
  have h1 := List.all_eq_true.1 hb i (List.mem_range.2 hlt)
  rw [ho] at h1
  simp only [Option.map_some, Option.getD_some] at h1
  have h2 := List.all_eq_true.1 h1 e he
  rw [hbi] at h2
  simpa using h2
theorem wpAny_tail {fl : List Nat} (hb : edgesBack ops = true) (hf : tailForced ops m fl = true) : ∀ (fuel k : Nat) (listed : Array Bool) (a : Act) (w : World), m ≤ k → k ≤ ops.size → listed.size = ops.size → (∀ i, i < ops.size → listed.getD i false = decide (i < k)) → ops.size - k ≤ fuel → wpList P ops Q (ops.toList.drop k) a w → wpAny P .any ops Q fuel listed a w := by
  have hgd : ∀ (listed : Array Bool) (i : Nat), listed.size = ops.size → i < ops.size → listed.getD i true = listed.getD i false := fun listed i hs hi => by
    rw [Array.getD_eq_getD_getElem?, Array.getD_eq_getD_getElem?, Array.getElem?_eq_getElem (by omega)]; rfl
  have hdone : ∀ (k : Nat) (listed : Array Bool) (a : Act) (w : World), ops.size ≤ k → listed.size = ops.size → (∀ i, i < ops.size → listed.getD i false = decide (i < k)) → wpList P ops Q (ops.toList.drop k) a w → Region.ready .any ops listed = [] ∧ Q .normal a w := by
    intro k listed a w hk hs hl h
    constructor
    · cases hr : Region.ready .any ops listed with
      | nil => rfl
      | cons i rs =>
        have hi := (ready_iff (ops := ops)).1 (by rw [hr]; exact List.mem_cons_self : i ∈ Region.ready .any ops listed)
        have h2 := hi.2.1
        rw [hgd _ _ hs hi.1, hl i hi.1] at h2
        have := hi.1
        simp only [decide_eq_false_iff_not] at h2
        omega
    · rw [List.drop_of_length_le (by simpa using hk)] at h
      exact h
  intro fuel
  induction fuel with
  | zero =>
    intro k listed a w hmk hk hs hl hfu h
    exact hdone k listed a w (by omega) hs hl h
  | succ fuel ih =>
    intro k listed a w hmk hk hs hl hfu h
    rcases Nat.lt_or_ge k ops.size with hlt | hge
    · have hrk : ∀ i, i ∈ Region.ready .any ops listed → i = k := by
        intro i hi
        obtain ⟨h1, h2, o, ho, h3⟩ := ready_iff.1 hi
        rw [hgd _ _ hs h1, hl i h1, decide_eq_false_iff_not] at h2
        rcases Nat.lt_or_ge k i with g | g
        · obtain ⟨e, he, hbi, hon⟩ := tf_prev hf ho (by omega)
          have h4 := h3 e he hbi
          rw [hon, hl (i - 1) (by omega), decide_eq_true_eq] at h4
          omega
        · omega
      have hmem : k ∈ Region.ready .any ops listed := by
        refine ready_iff.2 ⟨hlt, by rw [hgd _ _ hs hlt, hl k hlt]; simp, _, Array.getElem?_eq_getElem hlt, fun e he hbi => ?_⟩
        have := back_dep hb (Array.getElem?_eq_getElem hlt) he hbi
        rw [hl e.on (by omega)]
        simpa using this
      refine ⟨fun hr => (by rw [hr] at hmem; cases hmem), fun i hi => ?_⟩
      obtain rfl := hrk i hi
      have hdr : ops.toList.drop i = ops[i] :: ops.toList.drop (i + 1) := by
        rw [List.drop_eq_getElem_cons (by simpa using hlt)]; simp
      rw [hdr] at h
      have h' : wpOp P ops Q i (wpList P ops Q (ops.toList.drop (i + 1))) a w := by
        unfold wpOp
        rw [Array.getElem?_eq_getElem hlt]
        exact h
      refine wpOp_mono (fun a' w' hh => ih (i + 1) _ a' w' (by omega) hlt (by simpa using hs) (fun j hj => ?_) (by omega) hh) h'
      rw [getD_set _ _ _ (by omega), hl j hj]
      by_cases e : j = i
      · subst e; simp
      · have hd : (j == i) = false := by simpa using e
        rw [hd, Bool.false_or]
        exact decide_eq_decide.2 (by omega)
    · have := hdone k listed a w hge hs hl h
      refine ⟨fun _ => this.2, fun i hi => ?_⟩
      rw [this.1] at hi; cases hi
theorem wpAny_invT {fl : List Nat} (hs : ∀ i o, i < m → ops[i]? = some o → StepI P ops Q I i o) (hb : edgesBack ops = true) (hf : tailForced ops m fl = true) (hm : m ≤ ops.size) (hfo : floatOk ops m fl = true)
    (hQ : fl = [] ∨ ∀ (c : _) (a : Act) (d : Option Tmp) (v : Value) (w : World), Q (.panic c) (a.put d v) w → Q (.panic c) a w)
    (hy : ∀ L a w i o, fl.contains i = true → ops[i]? = some o → I L a w → L i = false → (o.after.toList.all fun e => !Region.binds .any e || L e.on) = true → ∃ v, (∀ W, (execOp a.eval o).run P W = .ok (.value v) W) ∧ I (fun j => j == i || L j) (a.put o.dst v) w) (hq : ∀ L a w, I L a w → (∀ i, i < m → L i = true) → wpList P ops Q (ops.toList.drop m) a w) :
    ∀ (fuel : Nat) (listed : Array Bool) (a : Act) (w : World), listed.size = ops.size → (∀ i, m ≤ i → listed.getD i false = false) → listed.toList.count false ≤ fuel → Cl ops (fun i => listed.getD i false) → I (fun i => listed.getD i false) a w → wpAny P .any ops Q fuel listed a w := by
  have hgd : ∀ (listed : Array Bool) (i : Nat), listed.size = ops.size → i < ops.size → listed.getD i true = listed.getD i false := fun listed i hs hi => by
    rw [Array.getD_eq_getD_getElem?, Array.getD_eq_getD_getElem?, Array.getElem?_eq_getElem (by omega)]; rfl
  have hflm : ∀ j, fl.contains j = true → j < m := fun j hj => by
    simp only [floatOk, Bool.and_eq_true] at hfo
    have h1 := List.all_eq_true.1 hfo.1 j (by simpa using hj)
    simp only [Bool.and_eq_true, decide_eq_true_eq] at h1
    exact h1.1
  have hsel : ∀ (j : Nat) (o : Oper) cs b, ops[j]? = some o → o.op ≠ .select cs b := fun j o cs b ho e => by
    simp only [floatOk, Bool.and_eq_true] at hfo
    have h1 := List.all_eq_true.1 hfo.2 o (Array.mem_toList_iff.2 (Array.mem_of_getElem? ho))
    rw [e] at h1
    exact absurd h1 (by simp)
  have hap : ∀ (i j : Nat) (o q : Oper), fl.contains i = true → ops[i]? = some o → ops[j]? = some q → j ≠ i → (∀ e ∈ q.after, Region.binds .any e = true → e.on ≠ i) → (∀ e ∈ o.after.toList, Region.binds .any e = true → e.on ≠ j) → o.apart ops q = true := fun i j o q hi ho hq hne hno hno2 => by
    simp only [floatOk, Bool.and_eq_true] at hfo
    have h1 := List.all_eq_true.1 hfo.1 i (by simpa using hi)
    rw [ho] at h1
    simp only [Option.map_some, Option.getD_some, Bool.and_eq_true] at h1
    have hjl : j < ops.size := by
      rcases Nat.lt_or_ge j ops.size with h | h
      · exact h
      · rw [Array.getElem?_eq_none h] at hq; cases hq
    have h2 := List.all_eq_true.1 h1.2.2 j (List.mem_range.2 hjl)
    rw [hq] at h2
    simp only [Option.map_some, Option.getD_some, Bool.or_eq_true, beq_iff_eq] at h2
    rcases h2 with h2 | (h2 | h2) | h2
    · exact absurd h2 hne
    · obtain ⟨e, he, h3⟩ := List.any_eq_true.1 h2
      simp only [Bool.and_eq_true, decide_eq_true_eq] at h3
      exact absurd h3.2 (hno e (Array.mem_toList_iff.1 he) h3.1)
    · obtain ⟨e, he, h3⟩ := List.any_eq_true.1 h2
      simp only [Bool.and_eq_true, decide_eq_true_eq] at h3
      exact absurd h3.2 (hno2 e he h3.1)
    · exact h2
  have hgu : ∀ (i : Nat) (o : Oper), fl.contains i = true → ops[i]? = some o → o.guard = none := fun i o hi ho => by
    simp only [floatOk, Bool.and_eq_true] at hfo
    have h1 := List.all_eq_true.1 hfo.1 i (by simpa using hi)
    rw [ho] at h1
    simp only [Option.map_some, Option.getD_some, Bool.and_eq_true] at h1
    simpa using h1.2.1
  intro fuel
  induction fuel with
  | zero =>
    intro listed a w hsz hT hc hcl hI
    have hno : ∀ i, i < ops.size → listed.getD i false = true := by
      intro i hi
      have h0 : listed.toList.count false = 0 := by omega
      rw [List.count_eq_zero] at h0
      rw [Array.getD_eq_getD_getElem?, Array.getElem?_eq_getElem (by omega)]
      cases hx : listed[i]'(by omega) with
      | true => rfl
      | false => exact absurd (by rw [← hx]; exact Array.mem_toList_iff.2 (Array.getElem_mem _)) h0
    have hme : m = ops.size := by
      rcases Nat.lt_or_ge m ops.size with h | h
      · have h1 := hT m (Nat.le_refl _)
        rw [hno m h] at h1; cases h1
      · omega
    exact wpAny_tail hb hf 0 m listed a w (Nat.le_refl _) hm hsz (fun i hi => by rw [hno i hi]; exact (decide_eq_true (by omega)).symm) (by omega) (hq _ a w hI (fun i hi => hno i (by omega)))
  | succ fuel ih =>
    intro listed a w hsz hT hc hcl hI
    by_cases hall : ∀ i, i < m → listed.getD i false = true
    · refine wpAny_tail hb hf (fuel + 1) m listed a w (Nat.le_refl _) hm hsz (fun i hi => ?_) ?_ (hq _ a w hI hall)
      · rcases Nat.lt_or_ge i m with g | g
        · rw [hall i g]; exact (decide_eq_true g).symm
        · rw [hT i g]; exact (decide_eq_false (by omega)).symm
      · refine Nat.le_trans ?_ hc
        have h1 : listed.toList.drop m = List.replicate (ops.size - m) false := by
          refine List.eq_replicate_iff.2 ⟨by simp [hsz], fun b hb' => ?_⟩
          obtain ⟨j, hj, rfl⟩ := List.mem_iff_getElem.1 hb'
          rw [List.length_drop, Array.length_toList] at hj
          have h2 := hT (m + j) (by omega)
          rw [Array.getD_eq_getD_getElem?, Array.getElem?_eq_getElem (by omega)] at h2
          rw [List.getElem_drop]
          simpa using h2
        rw [← List.take_append_drop m listed.toList, List.count_append, h1, List.count_replicate_self]
        omega
    · by_cases hfa : ∀ i, i < m → fl.contains i = false → listed.getD i false = true
      · -- those that float alone are left: the least of them is done at once
        have hleast : ∃ i, i < m ∧ listed.getD i false = false ∧ ∀ j, j < i → listed.getD j false = true := by
          have key : ∀ n, (∀ j, j < n → listed.getD j false = true) ∨ ∃ i, i < n ∧ listed.getD i false = false ∧ ∀ j, j < i → listed.getD j false = true := by
            intro n
            induction n with
            | zero => exact .inl fun j hj => by omega
            | succ n ihn =>
              rcases ihn with h | ⟨i, h1, h2, h3⟩
              · cases hd : listed.getD n false with
                | true =>
                  refine .inl fun j hj => ?_
                  rcases Nat.lt_or_ge j n with g | g
                  · exact h j g
                  · rw [show j = n from by omega]; exact hd
                | false => exact .inr ⟨n, Nat.lt_succ_self n, hd, h⟩
              · exact .inr ⟨i, by omega, h2, h3⟩
          rcases key m with h | h
          · exact absurd h hall
          · exact h
        obtain ⟨i, him, hid, hbel⟩ := hleast
        have hfi : fl.contains i = true := by
          cases hc' : fl.contains i with
          | true => rfl
          | false => rw [hfa i him hc'] at hid; cases hid
        have hil0 : i < ops.size := by omega
        have ho : ops[i]? = some ops[i] := Array.getElem?_eq_getElem hil0
        have hdeps : ((ops[i]).after.toList.all fun e => !Region.binds .any e || listed.getD e.on false) = true := by
          rw [List.all_eq_true]
          intro e he
          cases hbi : Region.binds .any e with
          | false => simp
          | true => simp [hbel e.on (back_dep hb ho he hbi)]
        obtain ⟨v, hv, hI'⟩ := hy _ a w i _ hfi ho hI hid hdeps
        refine wpAny_first ho hsel (fun c a' w' h => by rcases hQ with hQ | hQ; exact absurd hfi (by rw [hQ]; simp); exact hQ c a' _ v w' h) fuel listed a w (fun j oj hj hne hjl hno => hap i j _ _ hfi ho hj hne hno (fun e he hbi hej => by
          have hjs : j < ops.size := by
            rcases Nat.lt_or_ge j ops.size with h | h
            · exact h
            · rw [Array.getElem?_eq_none h] at hj; cases hj
          have h1 := hbel e.on (back_dep hb ho he hbi)
          rw [hej, ← hgd _ _ hsz hjs, hjl] at h1; cases h1)) ?_ (.inl ⟨by simp [Region.wanted, hgu i _ hfi ho], hv⟩) (ih _ _ w (by simpa using hsz) (fun j hj => ?_) ?_ ?_ ?_)
        · refine ready_iff.2 ⟨hil0, by rw [hgd _ _ hsz hil0]; exact hid, _, ho, fun e he hbi => hbel e.on (back_dep hb ho he hbi)⟩
        · rw [getD_set _ _ _ (by omega), hT j hj]
          have : (j == i) = false := by simp; omega
          rw [this]; rfl
        · have hil : i < listed.toList.length := by simpa [hsz] using hil0
          rw [Array.toList_setIfInBounds, List.count_set hil]
          have hx : listed.toList[i] = false := by
            rw [Array.getD_eq_getD_getElem?, Array.getElem?_eq_getElem (by omega)] at hid
            simpa using hid
          have hpos : 0 < listed.toList.count false := List.count_pos_iff.2 (by rw [← hx]; exact List.getElem_mem hil)
          rw [hx]
          change listed.toList.count false - 1 + 0 ≤ fuel
          omega
        · have : (fun j => (listed.setIfInBounds i true).getD j false) = fun j => j == i || listed.getD j false := funext fun j => getD_set listed i j (by omega)
          rw [this]; exact hcl.set ho fun e he hbi => hbel e.on (back_dep hb ho he hbi)
        · have : (fun j => (listed.setIfInBounds i true).getD j false) = fun j => j == i || listed.getD j false := funext fun j => getD_set listed i j (by omega)
          rw [this]; exact hI'
      obtain ⟨i0, hi0⟩ := Classical.not_forall.1 hfa
      obtain ⟨hi0m, hi0'⟩ := Classical.not_imp.1 hi0
      obtain ⟨hi0n, hi0f⟩ := Classical.not_imp.1 hi0'
      have hi0f : listed.getD i0 false = false := by simpa using hi0f
      -- the least that isn't done may come up
      have hne : Region.ready .any ops listed ≠ [] := by
        intro hr
        have key : ∀ i, i < ops.size → listed.getD i false = true := by
          intro i
          induction i using Nat.strongRecOn with
          | _ i ih2 =>
            intro hi
            cases hd : listed.getD i false with
            | true => rfl
            | false =>
              exfalso
              have hmem : i ∈ Region.ready .any ops listed := ready_iff.2 ⟨hi, by rw [hgd _ _ hsz hi]; exact hd, _, Array.getElem?_eq_getElem hi, fun e he hbi => by
                have := back_dep hb (Array.getElem?_eq_getElem hi) he hbi
                exact ih2 e.on this (by omega)⟩
              rw [hr] at hmem; cases hmem
        rw [key i0 (by omega)] at hi0f; cases hi0f
      refine ⟨fun hr => absurd hr hne, fun i hi => ?_⟩
      obtain ⟨h1, h2, o, ho, h3⟩ := ready_iff.1 hi
      have him : i < m := by
        rcases Nat.lt_or_ge i m with g | g
        · exact g
        · exfalso
          rcases Nat.lt_or_ge m i with g' | g'
          · obtain ⟨e, he, hbi, hon⟩ := tf_prev hf ho g'
            have h4 := h3 e he hbi
            rw [hon, hT (i - 1) (by omega)] at h4; cases h4
          · obtain rfl : i = m := by omega
            have h4 := tf_close hf hcl ho h3 hi0m hi0n
            rw [hi0f] at h4; cases h4
      have hd : listed.getD i false = false := by rw [← hgd _ _ hsz h1]; exact h2
      refine wpOp_step ho (fun K hK => ?_)
      refine hs i o him ho _ a w K hI hd ?_ (fun a' w' hI' => hK a' w' (ih _ a' w' (by simpa using hsz) (fun j hj => ?_) ?_ ?_ ?_))
      · rw [List.all_eq_true]
        intro e he
        cases hbi : Region.binds .any e with
        | false => simp
        | true => simp [h3 e he hbi]
      · rw [getD_set _ _ _ (by omega), hT j hj]
        have : (j == i) = false := by simp; omega
        rw [this]; rfl
      · have hil : i < listed.toList.length := by simpa [hsz] using h1
        rw [Array.toList_setIfInBounds, List.count_set hil]
        have hx : listed.toList[i] = false := by
          rw [Array.getD_eq_getD_getElem?, Array.getElem?_eq_getElem (by omega)] at hd
          simpa using hd
        have hpos : 0 < listed.toList.count false := List.count_pos_iff.2 (by rw [← hx]; exact List.getElem_mem hil)
        rw [hx]
        change listed.toList.count false - 1 + 0 ≤ fuel
        omega
      · have : (fun j => (listed.setIfInBounds i true).getD j false) = fun j => j == i || listed.getD j false := funext fun j => getD_set listed i j (by omega)
        rw [this]; exact hcl.set ho h3
      · have : (fun j => (listed.setIfInBounds i true).getD j false) = fun j => j == i || listed.getD j false := funext fun j => getD_set listed i j (by omega)
        rw [this]; exact hI'
theorem region_tail {id : Nat} {a0 : Act} {w0 : World} (m : Nat) (fl : List Nat) (hm : P.follows .mixedOrders = true) (hb : edgesBack ops = true) (hf : (tailForced ops m fl && decide (m ≤ ops.size) && floatOk ops m fl) = true) (I : Act → (Nat → Bool) → Act → World → Prop)
    (hQ : fl = [] ∨ ∀ (c : _) (a : Act) (d : Option Tmp) (v : Value) (w : World), Q (.panic c) (a.put d v) w → Q (.panic c) a w)
    (hy : ∀ L a w i o, fl.contains i = true → ops[i]? = some o → I a0 L a w → L i = false → (o.after.toList.all fun e => !Region.binds .any e || L e.on) = true → ∃ v, (∀ W, (execOp a.eval o).run P W = .ok (.value v) W) ∧ I a0 (fun j => j == i || L j) (a.put o.dst v) w)
    (h0 : I a0 (fun _ => false) a0 w0.drew) (hs : AllSteps P ops Q (I a0) 0 (ops.toList.take m)) (hq : ∀ L a w, I a0 L a w → (∀ i, i < m → L i = true) → wpList P ops Q (ops.toList.drop m) a w) : (Code.region id ops true).wp P Q a0 w0 := by
  simp only [Bool.and_eq_true, decide_eq_true_eq] at hf
  refine wp_region_any hm (wpAny_invT (I := I a0) (m := m) (fun i o hi ho => ?_) hb hf.1.1 hf.1.2 hf.2 hQ hy hq ops.size _ a0 _ (by simp) (fun i _ => ?_) (by simp) ?_ ?_)
  · have := AllSteps.get (ops.toList.take m) 0 hs i o (by rw [List.getElem?_take_of_lt hi]; simpa using ho)
    rwa [Nat.zero_add] at this
  · rw [Array.getD_eq_getD_getElem?, Array.getElem?_replicate]
    split <;> rfl
  · have : (fun i => (Array.replicate ops.size false).getD i false) = fun _ => false := by
      funext i
      rw [Array.getD_eq_getD_getElem?, Array.getElem?_replicate]
      split <;> rfl
    rw [this]; intro i o _ h; cases h
  · have : (fun i => (Array.replicate ops.size false).getD i false) = fun _ => false := by
      funext i
      rw [Array.getD_eq_getD_getElem?, Array.getElem?_replicate]
      split <;> rfl
    rw [this]; exact h0

theorem pt_mv {P : Program} {o : Oper} {a : Act} (W : World) (x : Operand) (ho : o.op = .move x ∨ o.op = .assign x) (v : Value) (hx : a.eval x = v) : (execOp a.eval o).run P W = .ok (.value v) W := by
  subst hx
  unfold execOp
  rcases ho with ho | ho <;> simp only [ho] <;> rfl
/-- A fact on a world and a value. -/
abbrev PtF := World → Value → Prop
/-- What is known while a region is under way: the frame is as it was but for the listed slots, J holds of the world, and of each listed operation its fact holds. -/
structure PtI (fs : List (Nat × PtF)) (J : (Nat → Bool) → World → Prop) (a0 : Act) (L : Nat → Bool) (a : Act) (w : World) : Prop where
  alike : Alike (fs.map Prod.fst) a0 a
  j : J L w
  fact : ∀ (n d : Nat) (p : PtF), fs[n]? = some (d, p) → L n = true → p w (a.eval (.tmp d))
theorem PtI.ev {fs : List (Nat × PtF)} {J : (Nat → Bool) → World → Prop} {w : World} {a0 a : Act} {L : Nat → Bool} (h : PtI fs J a0 L a w) (k : Nat) (hk : k ∉ fs.map Prod.fst) {v : Value} (hv : a0.eval (.tmp k) = v) : a.eval (.tmp k) = v := (h.alike.eval k hk).trans hv
/-- What holds of all of them. -/
def PtAll (a : Act) (w : World) : List (Nat × PtF) → Prop
  | [] => True
  | (d, p) :: fs => p w (a.eval (.tmp d)) ∧ PtAll a w fs
theorem ptAll_of {a : Act} {w : World} : ∀ (fs : List (Nat × PtF)), (∀ (n d : Nat) (p : PtF), fs[n]? = some (d, p) → p w (a.eval (.tmp d))) → PtAll a w fs
  | [], _ => trivial
  | (d, p) :: fs, h => ⟨h 0 d p rfl, ptAll_of fs fun n d' p' hn => h (n + 1) d' p' hn⟩
/-- The others' facts stay true. -/
def PtKeep (fs : List (Nat × PtF)) (L : Nat → Bool) (n : Nat) (w w' : World) : Prop := ∀ (k d : Nat) (q : PtF), fs[k]? = some (d, q) → k ≠ n → L k = true → ∀ v, q w v → q w' v
theorem PtKeep.refl {fs : List (Nat × PtF)} {L : Nat → Bool} {n : Nat} {w : World} : PtKeep fs L n w w := fun _ _ _ _ _ _ _ h => h
/-- All facts but the n-th are stable. -/
def PtStab (R : World → World → Prop) (n : Nat) : Nat → List (Nat × PtF) → Prop
  | _, [] => True
  | i, (_, p) :: fs => (i ≠ n → ∀ w w' v, R w w' → p w v → p w' v) ∧ PtStab R n (i + 1) fs
theorem PtStab.get {R : World → World → Prop} {n : Nat} : ∀ (fs : List (Nat × PtF)) (i : Nat), PtStab R n i fs → ∀ (k d : Nat) (q : PtF), fs[k]? = some (d, q) → i + k ≠ n → ∀ w w' v, R w w' → q w v → q w' v
  | [], _, _, k, d, q, h => by simp at h
  | (d', p) :: fs, i, hh, 0, d, q, h => by
    simp only [List.getElem?_cons_zero, Option.some.injEq, Prod.mk.injEq] at h
    obtain ⟨-, rfl⟩ := h
    exact fun hne => hh.1 (by omega)
  | x :: fs, i, hh, k + 1, d, q, h => by
    simp only [List.getElem?_cons_succ] at h
    intro hne
    exact PtStab.get fs (i + 1) hh.2 k d q h (by omega)
theorem PtStab.keep {R : World → World → Prop} {n : Nat} {fs : List (Nat × PtF)} {L : Nat → Bool} {w w' : World} (h : PtStab R n 0 fs) (hr : R w w') : PtKeep fs L n w w' := fun k d q hk hne _ v hv => PtStab.get fs 0 h k d q hk (by omega) w w' v hr hv
/-- All facts are stable. -/
def PtStabs (R : World → World → Prop) : List (Nat × PtF) → Prop
  | [] => True
  | (_, p) :: fs => (∀ w w' v, R w w' → p w v → p w' v) ∧ PtStabs R fs
theorem PtStabs.get {R : World → World → Prop} : ∀ (fs : List (Nat × PtF)), PtStabs R fs → ∀ (k d : Nat) (q : PtF), fs[k]? = some (d, q) → ∀ w w' v, R w w' → q w v → q w' v
  | [], _, k, d, q, h => by simp at h
  | (d', p) :: fs, hh, 0, d, q, h => by
    simp only [List.getElem?_cons_zero, Option.some.injEq, Prod.mk.injEq] at h
    obtain ⟨-, rfl⟩ := h
    exact hh.1
  | x :: fs, hh, k + 1, d, q, h => by
    simp only [List.getElem?_cons_succ] at h
    exact PtStabs.get fs hh.2 k d q h
theorem PtStabs.keep {R : World → World → Prop} {n : Nat} {fs : List (Nat × PtF)} {L : Nat → Bool} {w w' : World} (h : PtStabs R fs) (hr : R w w') : PtKeep fs L n w w' := fun k d q hk _ _ v hv => PtStabs.get fs h k d q hk w w' v hr hv
/-- One operation's duty. -/
def PtS (P : Program) (Q : Exit → Act → World → Prop) (fs : List (Nat × PtF)) (J : (Nat → Bool) → World → Prop) (a0 : Act) (n : Nat) (o : Oper) (d : Nat) (p : PtF) : Prop :=
  ∀ L a w (K : Act → World → Prop), PtI fs J a0 L a w → L n = false → (o.after.toList.all fun e => !Region.binds .any e || L e.on) = true → (∀ v w', J (fun j => j == n || L j) w' → PtKeep fs L n w w' → p w' v → K (a.put (some d) v) w') → o.wp P a w K Q
def PtAllS (P : Program) (Q : Exit → Act → World → Prop) (fs : List (Nat × PtF)) (J : (Nat → Bool) → World → Prop) (a0 : Act) : Nat → List Oper → List (Nat × PtF) → Prop
  | _, [], [] => True
  | n, o :: os, (d, p) :: ps => (o.dst = some d ∧ o.guard = none) ∧ PtS P Q fs J a0 n o d p ∧ PtAllS P Q fs J a0 (n + 1) os ps
  | _, _, _ => False
section
variable {fs : List (Nat × PtF)} {J : (Nat → Bool) → World → Prop} {a0 : Act}
theorem PtAllS.nil {n : Nat} {l : List Oper} (hl : l = []) : PtAllS P Q fs J a0 n l [] := by subst hl; exact trivial
theorem PtAllS.cons {n : Nat} {o : Oper} {os l : List Oper} {d : Nat} {p : PtF} {ps : List (Nat × PtF)} (hl : l = o :: os) (h1 : o.dst = some d ∧ o.guard = none) (h2 : PtS P Q fs J a0 n o d p) (h3 : PtAllS P Q fs J a0 (n + 1) os ps) : PtAllS P Q fs J a0 n l ((d, p) :: ps) := by subst hl; exact ⟨h1, h2, h3⟩
theorem PtAllS.get : ∀ (os : List Oper) (ps : List (Nat × PtF)) (m : Nat), PtAllS P Q fs J a0 m os ps → ∀ (n : Nat) (o : Oper), os[n]? = some o → ∃ d p, ps[n]? = some (d, p) ∧ o.dst = some d ∧ o.guard = none ∧ PtS P Q fs J a0 (m + n) o d p
  | [], [], _, _, n, o, h => by simp at h
  | [], _ :: _, _, h, _, _, _ => h.elim
  | _ :: _, [], _, h, _, _, _ => h.elim
  | o' :: os, (d, p) :: ps, m, hh, 0, o, h => by
    simp only [List.getElem?_cons_zero, Option.some.injEq] at h
    subst h; exact ⟨d, p, rfl, hh.1.1, hh.1.2, hh.2.1⟩
  | o' :: os, (d, p) :: ps, m, hh, n + 1, o, h => by
    simp only [List.getElem?_cons_succ] at h
    have := PtAllS.get os ps (m + 1) hh.2.2 n o h
    rw [show m + (n + 1) = m + 1 + n from by omega]
    exact this
theorem PtAllS.len : ∀ (os : List Oper) (ps : List (Nat × PtF)) (m : Nat), PtAllS P Q fs J a0 m os ps → ps.length = os.length
  | [], [], _, _ => rfl
  | [], _ :: _, _, h => h.elim
  | _ :: _, [], _, h => h.elim
  | o :: os, x :: ps, m, h => by rw [List.length_cons, List.length_cons, PtAllS.len os ps (m + 1) h.2.2]
end
/-- The duty of those that float. -/
def PtFls (P : Program) (ops : Array Oper) (fs : List (Nat × PtF)) (J : (Nat → Bool) → World → Prop) (a0 : Act) : List Nat → Prop
  | [] => True
  | n :: ns => (∃ o os d p, ops.toList.drop n = o :: os ∧ fs[n]? = some (d, p) ∧ o.dst = some d ∧ (∀ L W, J L W → J (fun j => j == n || L j) W) ∧
      ∀ L a W, PtI fs J a0 L a W → (o.after.toList.all fun e => !Region.binds .any e || L e.on) = true → ∃ v, (∀ W, (execOp a.eval o).run P W = .ok (.value v) W) ∧ ∀ W, p W v) ∧ PtFls P ops fs J a0 ns
theorem PtFls.get {fs : List (Nat × PtF)} {J : (Nat → Bool) → World → Prop} {a0 : Act} : ∀ (fl : List Nat), PtFls P ops fs J a0 fl → ∀ n, fl.contains n = true → ∃ o d p, ops[n]? = some o ∧ fs[n]? = some (d, p) ∧ o.dst = some d ∧ (∀ L W, J L W → J (fun j => j == n || L j) W) ∧
      ∀ L a W, PtI fs J a0 L a W → (o.after.toList.all fun e => !Region.binds .any e || L e.on) = true → ∃ v, (∀ W, (execOp a.eval o).run P W = .ok (.value v) W) ∧ ∀ W, p W v
  | [], _, n, h => by simp at h
  | k :: ks, hh, n, h => by
    rw [List.contains_cons, Bool.or_eq_true, beq_iff_eq] at h
    rcases h with rfl | h
    · obtain ⟨o, os, d, p, h1, h2⟩ := hh.1
      refine ⟨o, d, p, ?_, h2⟩
      have h3 : (ops.toList.drop n)[0]? = some o := by rw [h1]; rfl
      rw [List.getElem?_drop, Nat.add_zero] at h3
      simpa using h3
    · exact PtFls.get ks hh.2 n h
/-- A drawn region: the first operations by facts, the last in their order. -/
theorem region_pt {id : Nat} {a0 : Act} {w0 : World} (m : Nat) (fl : List Nat) (hm : P.follows .mixedOrders = true) (hb : edgesBack ops = true) (hf : (tailForced ops m fl && decide (m ≤ ops.size) && floatOk ops m fl) = true)
    (fs : List (Nat × PtF)) (J : (Nat → Bool) → World → Prop) (hnd : (fs.map Prod.fst).Nodup) (hlt : ∀ d ∈ fs.map Prod.fst, d < a0.tmps.size) (h0 : J (fun _ => false) w0.drew)
    (hQ : fl = [] ∨ ∀ (c : _) (a : Act) (d : Option Tmp) (v : Value) (w : World), Q (.panic c) (a.put d v) w → Q (.panic c) a w) (hfl : PtFls P ops fs J a0 fl)
    (hs : PtAllS P Q fs J a0 0 (ops.toList.take m) fs) (hq : ∀ L a w, Alike (fs.map Prod.fst) a0 a → J L w → PtAll a w fs → wpList P ops Q (ops.toList.drop m) a w) : (Code.region id ops true).wp P Q a0 w0 := by
  have hsteps : ∀ (n : Nat) (o : Oper), (ops.toList.take m)[n]? = some o → StepI P ops Q (PtI fs J a0) n o := by
    intro n o hn L a w K hI hLn hdeps hK
    obtain ⟨d, p, hnp, hdst, hg, hS⟩ := PtAllS.get _ _ 0 hs n o hn
    rw [Nat.zero_add] at hS
    have hmem : d ∈ fs.map Prod.fst := List.mem_map.2 ⟨(d, p), List.mem_of_getElem? hnp, rfl⟩
    refine step_of hg (hS L a w K hI hLn hdeps (fun v w' hj hr hp => hK _ _ ⟨hI.alike.put d v hmem, hj, fun n' d' p' hm' hL => ?_⟩))
    rw [eval_put _ _ _ _ (by rw [hI.alike.size]; exact hlt d hmem)]
    by_cases e : n' = n
    · subst e
      rw [hnp] at hm'
      simp only [Option.some.injEq, Prod.mk.injEq] at hm'
      obtain ⟨rfl, rfl⟩ := hm'
      rw [if_pos rfl]; exact hp
    · have hd' : d' ≠ d := by
        rintro rfl
        have h1 : (fs.map Prod.fst)[n]? = some d' := by rw [List.getElem?_map, hnp]; rfl
        have h2 : (fs.map Prod.fst)[n']? = some d' := by rw [List.getElem?_map, hm']; rfl
        obtain ⟨l1, e1⟩ := List.getElem?_eq_some_iff.1 h1
        obtain ⟨l2, e2⟩ := List.getElem?_eq_some_iff.1 h2
        exact e ((List.getElem_inj hnd).1 (e2.trans e1.symm))
      rw [if_neg hd']
      have hL' : L n' = true := by simpa [e] using hL
      exact hr n' d' p' hm' e hL' _ (hI.fact n' d' p' hm' hL')
  have hall : ∀ (l : List Oper) (k : Nat), (∀ (n : Nat) (o : Oper), l[n]? = some o → StepI P ops Q (PtI fs J a0) (k + n) o) → AllSteps P ops Q (PtI fs J a0) k l := by
    intro l
    induction l with
    | nil => intro _ _; exact trivial
    | cons o l ih => intro k h; exact ⟨h 0 o rfl, ih (k + 1) fun n o' hn => by have := h (n + 1) o' hn; rwa [show k + (n + 1) = k + 1 + n from by omega] at this⟩
  have hl := PtAllS.len _ _ _ hs
  refine region_tail m fl hm hb hf (PtI fs J) hQ ?_ ⟨Alike.refl _ _, h0, fun _ _ _ _ h => by cases h⟩ (hall _ 0 (fun n o hn => by rw [Nat.zero_add]; exact hsteps n o hn)) (fun L a w hI hL => hq L a w hI.alike hI.j (ptAll_of fs fun n d p hn => hI.fact n d p hn (hL n ?_)))
  case refine_1 =>
    intro L a w n o hnf ho hI hLn hdeps
    obtain ⟨o', d, p, ho', hnp, hdst, hJ, hS⟩ := PtFls.get fl hfl n hnf
    rw [ho] at ho'
    obtain rfl := Option.some.inj ho'
    obtain ⟨v, hv, hp⟩ := hS L a w hI hdeps
    have hmem : d ∈ fs.map Prod.fst := List.mem_map.2 ⟨(d, p), List.mem_of_getElem? hnp, rfl⟩
    refine ⟨v, hv, by rw [hdst]; exact hI.alike.put d v hmem, hJ _ _ hI.j, fun n' d' p' hm' hL => ?_⟩
    rw [hdst, eval_put _ _ _ _ (by rw [hI.alike.size]; exact hlt d hmem)]
    by_cases e : n' = n
    · subst e
      rw [hnp] at hm'
      simp only [Option.some.injEq, Prod.mk.injEq] at hm'
      obtain ⟨rfl, rfl⟩ := hm'
      rw [if_pos rfl]; exact hp w
    · have hd' : d' ≠ d := by
        rintro rfl
        have h1 : (fs.map Prod.fst)[n]? = some d' := by rw [List.getElem?_map, hnp]; rfl
        have h2 : (fs.map Prod.fst)[n']? = some d' := by rw [List.getElem?_map, hm']; rfl
        obtain ⟨l1, e1⟩ := List.getElem?_eq_some_iff.1 h1
        obtain ⟨l2, e2⟩ := List.getElem?_eq_some_iff.1 h2
        exact e ((List.getElem_inj hnd).1 (e2.trans e1.symm))
      rw [if_neg hd']
      exact hI.fact n' d' p' hm' (by simpa [e] using hL)
  have h1 : n < fs.length := by
    rcases Nat.lt_or_ge n fs.length with h | h
    · exact h
    · rw [List.getElem?_eq_none h] at hn; cases hn
  have h2 : (ops.toList.take m).length ≤ m := List.length_take_le _ _
  omega
/-- What is listed. -/
theorem dep_of {o : Oper} {L : Nat → Bool} (h : (o.after.toList.all fun e => !Region.binds .any e || L e.on) = true) (k : Nat) (hk : (o.after.toList.any fun e => Region.binds .any e && decide (e.on = k)) = true) : L k = true := by
  obtain ⟨e, he, h1⟩ := List.any_eq_true.1 hk
  simp only [Bool.and_eq_true, decide_eq_true_eq] at h1
  have h2 := List.all_eq_true.1 h e he
  rw [h1.1, h1.2] at h2
  simpa using h2
/-- The operations, one by one. -/
theorem isAgg_no {ty : TypeId} {d : TypeDesc} {W : World} (hu : P.underlying ty = some d) (hd : (match d with | .struct _ | .array _ _ => false | _ => true) = true) : (isAgg ty).run P W = .ok false W := by
  unfold isAgg
  rw [Sem.run_bind, run_underlying hu W]
  cases d <;> simp_all
theorem pt_load {o : Oper} {a : Act} {W : World} {K : Act → World → Prop} (ty : TypeId) (x : Operand) (ho : o.op = .load ty x) (ad : Addr) (u : Value) (d : TypeDesc) (hx : a.eval x = .pointer (some ad)) (hc : W.cell? ad = some u) (hu : P.underlying ty = some d)
    (hd : (match d with | .struct _ | .array _ _ => false | _ => true) = true) (h : K (a.put o.dst u) W) : o.wp P a W K Q := by
  unfold Oper.wp execOp
  simp [ho, hx, Instr.loadAt, Instr.sureAddr, loadVar, Sem.run_bind, isAgg_no hu hd, hc]
  exact h
theorem pt_val {o : Oper} {a : Act} {W : World} {K : Act → World → Prop} {v : Value} (hrun : (execOp a.eval o).run P W = .ok (.value v) W) (h : K (a.put o.dst v) W) : o.wp P a W K Q := wp_value hrun h
theorem pt_move {o : Oper} {a : Act} {W : World} {K : Act → World → Prop} (x : Operand) (ho : o.op = .move x ∨ o.op = .assign x) (v : Value) (hx : a.eval x = v) (h : K (a.put o.dst v) W) : o.wp P a W K Q := by
  subst hx
  unfold Oper.wp execOp
  rcases ho with ho | ho <;> simp only [ho] <;> exact h
end
end Go.Proofs.YtokefeemhgcmhaaGreatDoor
