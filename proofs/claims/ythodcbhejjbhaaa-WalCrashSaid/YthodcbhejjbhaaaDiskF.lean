/- The disk: Flush. -/
import Derived.Test.YthodcbhejjbhaaaDiskW
import Derived.Test.YthodcbhejjbhaaaRange
namespace Go.Proofs.Ythodcbhejjbhaaa
open Go.RowKit

def DiskM.flushed (D : DiskM) : DiskM := { D with sure := D.cur, pend := fun _ => none }
def DiskM.flush (D : DiskM) : DiskM × Int :=
  if D.down then (D, 50) else if D.burns then ({ D.burn.flushed with nf := wrap64 (D.nf + 1) }, 0) else (D.burn, 50)

/-- In the middle of the loop: the entries that have come stand in the row of the sectors. -/
def FInv (w3 wr : World) (r gs cap ms n : Nat) (sg sc : Nat → Nat) (pe : List Pend) (clock : Nat) : Prop :=
  ∃ (seen : List Nat) (c0 : Nat) (xs : List Value), wr.heap[r]? = some (.mapIter (some ms) clock seen.toArray c0) ∧ clock ≤ c0 ∧ IMap wr ms (pe.map Pend.me) clock ∧ Row wr gs 33 cap xs ∧ xs.length = n ∧
    (∀ p ∈ pe, p.t ∈ seen → xs[p.k]? = some (secV p.g p.c)) ∧ (∀ i, i < n → (∀ p ∈ pe, p.k = i → p.t ∉ seen) → xs[i]? = some (secV (sg i) (sc i))) ∧ Only (fun k => k = gs ∨ k = r) w3 wr

section
variable {w w' : World} {b : Nat} {D : DiskM} {gs cap ms : Nat} {sg sc : Nat → Nat} {pe : List Pend} {clock : Nat} {ρ : Nat → Role} {F : Nat → Prop}

theorem pend_unique (h : DiskRep w b D gs cap ms sg sc pe clock ρ) {p q : Pend} (hp : p ∈ pe) (hq : q ∈ pe) (hk : p.k = q.k) : p = q := by
  have hn := h.map.keys
  rw [List.map_map] at hn
  have : ∀ l : List Pend, (l.map (ME.k ∘ Pend.me)).Nodup → p ∈ l → q ∈ l → p = q := by
    intro l
    induction l with
    | nil => intro _ h; simp at h
    | cons x l ih =>
      intro hn hp hq
      obtain ⟨h1, h2⟩ := List.nodup_cons.1 (by simpa using hn : ((ME.k ∘ Pend.me) x :: l.map (ME.k ∘ Pend.me)).Nodup)
      rcases List.mem_cons.1 hp with rfl | hp' <;> rcases List.mem_cons.1 hq with rfl | hq'
      · rfl
      · exact absurd (List.mem_map.2 ⟨q, hq', by simp [Pend.me, hk]⟩) h1
      · exact absurd (List.mem_map.2 ⟨p, hp', by simp [Pend.me, hk]⟩) h1
      · exact ih h2 hp' hq'
  exact this pe hn hp hq
theorem stamp_unique (h : DiskRep w b D gs cap ms sg sc pe clock ρ) {p q : Pend} (hp : p ∈ pe) (hq : q ∈ pe) (hk : p.t = q.t) : p = q := by
  have hn := h.map.stamps
  rw [List.map_map] at hn
  have : ∀ l : List Pend, (l.map (ME.t ∘ Pend.me)).Nodup → p ∈ l → q ∈ l → p = q := by
    intro l
    induction l with
    | nil => intro _ h; simp at h
    | cons x l ih =>
      intro hn hp hq
      obtain ⟨h1, h2⟩ := List.nodup_cons.1 (by simpa using hn : ((ME.t ∘ Pend.me) x :: l.map (ME.t ∘ Pend.me)).Nodup)
      rcases List.mem_cons.1 hp with rfl | hp' <;> rcases List.mem_cons.1 hq with rfl | hq'
      · rfl
      · exact absurd (List.mem_map.2 ⟨q, hq', by simp [Pend.me, hk]⟩) h1
      · exact absurd (List.mem_map.2 ⟨p, hp', by simp [Pend.me, hk]⟩) h1
      · exact ih h2 hp' hq'
  exact this pe hn hp hq

/-- One round: the entry p is laid into its place. -/
theorem FInv.round {w3 wr w4 w5 : World} {r : Nat} {seen : List Nat} {xs : List Value} (h : DiskRep w b D gs cap ms sg sc pe clock ρ) (hr : r ≠ gs) (hlen : xs.length = D.n)
    (hse : ∀ p ∈ pe, p.t ∈ seen → xs[p.k]? = some (secV p.g p.c)) (hun : ∀ i, i < D.n → (∀ p ∈ pe, p.k = i → p.t ∉ seen) → xs[i]? = some (secV (sg i) (sc i))) (ho : Only (fun k => k = gs ∨ k = r) w3 wr)
    {p : Pend} (hp : p ∈ pe) (hit : w4.heap[r]? = some (.mapIter (some ms) clock (seen ++ [p.t]).toArray clock)) (ho4 : Only (fun k => k = r) wr w4)
    (hm4 : IMap w4 ms (pe.map Pend.me) clock) (hrow : Row w4 gs 33 cap xs) (hw5 : w5 = w4.setCell ⟨gs, p.k, none⟩ (secV p.g p.c)) : FInv w3 w5 r gs cap ms D.n sg sc pe clock := by
  have hgm : ms ≠ gs := fun e => by have h1 := h.rm; have h2 := h.rg; rw [e, h2] at h1; cases h1
  have hpk : p.k < D.n := (h.pen p hp).1
  subst hw5
  refine ⟨seen ++ [p.t], clock, xs.set p.k (secV p.g p.c), ?_, Nat.le_refl _, ?_, ?_, ?_, ?_, ?_, ?_⟩
  · exact blk_set_other hit hr
  · exact hm4.only (only_set gs _ _) hgm
  · exact hrow.set p.k _ (by omega)
  · simpa using hlen
  · intro q hq hqs
    by_cases hqk : q.k = p.k
    · rw [pend_unique h hq hp hqk]
      simp [hlen, hpk]
    · rw [List.getElem?_set_ne (fun e => hqk e.symm)]
      refine hse q hq ?_
      rcases List.mem_append.1 hqs with hqs | hqs
      · exact hqs
      · exact absurd (congrArg Pend.k (stamp_unique h hq hp (by simpa using hqs))) hqk
  · intro i hi hno
    have hip : i ≠ p.k := fun e => hno p hp e.symm (by simp)
    rw [List.getElem?_set_ne (fun e => hip e.symm)]
    exact hun i hi (fun q hq hqk hqs => hno q hq hqk (by simp [hqs]))
  · refine (ho.trans ho4 (fun k _ e => .inr e)).trans (only_set gs _ _) (fun k _ e => .inl e)

/-- Behind the loop and the clearing of the map: the disk is flushed. -/
theorem DiskRep.flushed {w3 wr w5 : World} {r : Nat} {xs : List Value} (h : DiskRep w3 b D gs cap ms sg sc pe clock ρ) (hrow : Row wr gs 33 cap xs) (hlen : xs.length = D.n)
    (hse : ∀ p ∈ pe, xs[p.k]? = some (secV p.g p.c)) (hun : ∀ i, i < D.n → (∀ p ∈ pe, p.k ≠ i) → xs[i]? = some (secV (sg i) (sc i))) (ho : Only (fun k => k = gs ∨ k = r) w3 wr) (hr : w3.heap.size ≤ r ∨ ρ r = .non)
    (hm5 : IMap w5 ms [] clock) (ho5 : Only (fun k => k = ms) wr w5) :
    ∃ sg' sc' ρ', DiskRep w5 b D.flushed gs cap ms sg' sc' [] clock ρ' ∧ ∀ k, ρ' k ≠ .non → ρ k ≠ .non := by
  have hex : ∀ i, ∃ gc : Nat × Nat, i < D.n → xs[i]? = some (secV gc.1 gc.2) ∧ Row w3 gc.1 5 gc.2 (bytesV (D.cur i)) ∧ (D.cur i).length = 128 ∧ (ρ gc.1 = .sec i ∨ ρ gc.1 = .pen i) := by
    intro i
    by_cases hi : i < D.n
    · cases hp : D.pend i with
      | some l =>
        obtain ⟨p, hpe, rfl⟩ := h.all i l hp
        obtain ⟨a, rw', ll, q, s⟩ := h.pen p hpe
        rw [hp] at s
        obtain rfl := Option.some.inj s
        exact ⟨(p.g, p.c), fun _ => ⟨hse p hpe, by simp only [DiskM.cur, hp]; exact rw', by simp only [DiskM.cur, hp]; exact ll, .inr q⟩⟩
      | none =>
        refine ⟨(sg i, sc i), fun _ => ⟨hun i hi (fun p hpe e => ?_), by simp only [DiskM.cur, hp]; exact (h.sec i hi).1, by simp only [DiskM.cur, hp]; exact (h.sec i hi).2, .inl (h.rs i hi)⟩⟩
        have := (h.pen p hpe).2.2.2.2
        rw [e, hp] at this; cases this
    · exact ⟨(0, 0), fun e => absurd e hi⟩
  obtain ⟨f, hf⟩ := Classical.axiomOfChoice hex
  have nr : ∀ k, k < w3.heap.size → ρ k ≠ .non → ρ k ≠ .arr → ρ k ≠ .map → w5.heap[k]? = w3.heap[k]? := by
    intro k hk h0 h1 h2
    have e1 : ¬ (k = gs ∨ k = r) := by
      rintro (e | e)
      · exact h1 (by rw [e]; exact h.rg)
      · rcases hr with hr | hr
        · omega
        · exact h0 (by rw [e]; exact hr)
    have e2 : ¬ k = ms := fun e => h2 (by rw [e]; exact h.rm)
    rw [ho5.block k (Nat.lt_of_lt_of_le hk ho.size) e2, ho.block k hk e1]
  refine ⟨fun i => (f i).1, fun i => (f i).2, fun k => match ρ k with | .str => .str | .arr => .arr | .map => .map | .sec i => if (f i).1 = k then .sec i else .non | .pen i => if (f i).1 = k then .sec i else .non | .non => .non, ⟨?_, ?_, ?_, hm5, by simp, by simp [DiskM.flushed], h.n0, h.fu, ?_, ?_, ?_, ?_⟩, ?_⟩
  · have := nr b (blk_lt h.blk) (by rw [h.rb]; simp) (by rw [h.rb]; simp) (by rw [h.rb]; simp)
    rw [this]; exact h.blk
  · have hrow5 := hrow.only ho5 (fun e => by have h1 := h.rg; have h2 := h.rm; rw [e, h2] at h1; cases h1)
    have hx : xs = secs D.flushed.n (fun i => (f i).1) (fun i => (f i).2) := by
      apply List.ext_getElem?
      intro i
      by_cases hi : i < D.n
      · exact (hf i hi).1.trans (secs_get D.n (fun i => (f i).1) (fun i => (f i).2) i hi).symm
      · rw [List.getElem?_eq_none (by omega), List.getElem?_eq_none (by rw [length_secs]; show D.n ≤ i; omega)]
    rw [← hx]; exact hrow5
  · intro i hi
    obtain ⟨_, h2, h3, h4⟩ := hf i hi
    refine ⟨h2.of_eq (nr _ h2.lt ?_ ?_ ?_), h3⟩ <;> rcases h4 with h4 | h4 <;> rw [h4] <;> simp
  · simp only [h.rb]
  · simp only [h.rg]
  · simp only [h.rm]
  · intro i hi
    rcases (hf i hi).2.2.2 with h4 | h4 <;> simp only [h4, if_true]
  · intro k hk e
    simp only [e] at hk
    exact hk rfl

theorem flush_refused (h : DiskAt w b D F) (hc : D.down = true ∨ D.burns = false) :
    Calls Try.prog 60 #[.pointer (some ⟨b, 0, none⟩)] w fun e w' => e = .returned (.int .i64 D.flush.2) ∧ DiskAt w' b D.flush.1 F ∧ Only F w w' := by
  obtain ⟨gs, cap, ms, hcell, hz⟩ := h.cells
  have HB := hid (burn_c h)
  have HA := hid h
  clear h
  cases hd : D.down with
  | true =>
    have e2 : D.flush = (D, 50) := by simp [DiskM.flush, hd]
    have E2 := hid e2
    rw [hd] at hcell
    clear hd e2 hc
    go_enter Try.func60, Try.ntmps60
    go_wp2_with fail
    go_ret
    rw [E2.out]; exact ⟨rfl, HA.out, Only.refl _ _⟩
  | false =>
    have hb : D.burns = false := by rcases hc with hc | hc; (rw [hd] at hc; cases hc); exact hc
    have e2 : D.flush = (D.burn, 50) := by simp [DiskM.flush, hd, hb]
    have E2 := hid e2
    rw [hd] at hcell
    rw [hb] at HB
    clear hd e2 hc hb
    go_enter Try.func60, Try.ntmps60
    go_wp2_with (go_at_call 73; refine HB.out.mono ?_; rintro e w' ⟨rfl, hat, hon⟩)
    go_ret
    rw [E2.out]; exact ⟨rfl, hat, hon⟩

set_option maxRecDepth 100000 in
set_option maxHeartbeats 800000 in
theorem flush_taken (h : DiskAt w b D F) (hd : D.down = false) (hb : D.burns = true) :
    Calls Try.prog 60 #[.pointer (some ⟨b, 0, none⟩)] w fun e w' => e = .returned (.int .i64 D.flush.2) ∧ DiskAt w' b D.flush.1 F ∧ Only F w w' := by
  obtain ⟨gs, cap, ms, hcell, hz⟩ := h.cells
  have HB := hid (burn_c h)
  have HA := hid h
  have e2 : D.flush = ({ D.burn.flushed with nf := wrap64 (D.nf + 1) }, 0) := by simp [DiskM.flush, hd, hb]
  have E2 := hid e2
  rw [hd] at hcell
  rw [hb] at HB
  clear hd e2 hb h
  go_enter Try.func60, Try.ntmps60
  go_wp2_with (go_at_call 73; refine HB.out.mono ?_; rintro e w' ⟨rfl, hat, hon⟩; have Hat := hid hat; have Hon := hid hon; clear hat hon)
  obtain ⟨gs1, cap1, ms1, sg1, sc1, pe1, clock1, ρ1, hr1, hq1, hq2⟩ := Hat.out
  have hb1 := blk_set hr1.blk 1 (.int .i64 (wrap64 (D.burn.nf + 1)))
  have ho1 : Only (fun k => k = b) w' (w'.setCell ⟨b, 1, none⟩ (.int .i64 (wrap64 (D.burn.nf + 1)))) := only_set b 1 _
  have hr2 := hr1.upd ho1 { D.burn with nf := wrap64 (D.burn.nf + 1) } rfl rfl rfl hb1 hr1.fu
  refine (add64 _ _ _ D.burn.nf ?_ ?_).mono ?_
  · rw [cell_blk hr1.blk]; rfl
  · rw [frozen_blk hr1.blk]
  rintro e w2 ⟨rfl, hw2⟩
  rw [← hw2] at hr2 ho1
  have hc3 : w2.cell? ⟨b, 3, none⟩ = some (.map (some ms1)) := by rw [cell_blk hr2.blk]; rfl
  have HM := hid hr2.map
  have HR2 := hid hr2; have HO1 := hid ho1; have HQ1 := hid hq1; have HQ2 := hid hq2; have HW2 := hid hw2
  clear hr2 ho1 hq1 hq2 hr1 hb1 hw2 hcell hz
  go_wp2_with (at_range; refine wpList_range_raw rfl _ 70 rfl 3 33 Try.underlying70 rfl HM.out ?_; intro w3 hit3 ho3 hs3 hm3)
  have hr3 := HR2.out.only ho3 (fun _ _ e => e)
  have nb : b ≠ w2.heap.size := fun e => by have := blk_lt HR2.out.blk; omega
  have ng : w2.heap.size ≠ gs1 := fun e => by have := HR2.out.arr.lt; omega
  have nm : w2.heap.size ≠ ms1 := fun e => by have := blk_lt HR2.out.map.blk; omega
  have nbg : b ≠ gs1 := fun e => by have h1 := hr3.rb; have h2 := hr3.rg; rw [e, h2] at h1; cases h1
  have nbm : b ≠ ms1 := fun e => by have h1 := hr3.rb; have h2 := hr3.rm; rw [e, h2] at h1; cases h1
  have HR3 := hid hr3; have NB := hid nb; have NG := hid ng; have NM := hid nm; have NBG := hid nbg; have NBM := hid nbm; have HI3 := hid hit3; have HO3 := hid ho3; have HS3 := hid hs3; have HM3 := hid hm3
  clear hr3 nb ng nm nbg nbm hit3 ho3 hs3 hm3
  go_frame
  go_loopw [3, 4] (fun _ _ wr => FInv w3 wr w2.heap.size gs1 cap1 ms1 D.burn.n sg1 sc1 pe1 clock1) (fun _ _ wr => mapLeft wr w2.heap.size ms1)
  case atStart => exact ⟨[], clock1, _, HI3.out, Nat.le_refl _, HM3.out, HR3.out.arr, by simp, by simp, fun i hi _ => secs_get _ _ _ _ hi, Only.refl _ _⟩
  case round =>
    obtain ⟨seen, c0, xs, hit, hc0, hm, hrow, hlen, hse, hun, ho⟩ := hrel
    have hbr : wr.heap[b]? = some (.cells (diskCells { D.burn with nf := wrap64 (D.burn.nf + 1) } gs1 cap1 ms1) 72 (0, 0)) := blk_only HR3.out.blk ho (by rintro (e | e); exact NBG.out e; exact NB.out e)
    have HBr := hid hbr; have Hit := hid hit; have Hc0 := hid hc0; have Hm := hid hm; have Hrow := hid hrow; have Hlen := hid hlen; have Hse := hid hse; have Hun := hid hun; have Ho := hid ho
    clear hit hc0 hm hrow hlen hse hun ho hbr
    go_wp2_with (at_next; refine wpList_next_raw rfl _ rfl rfl clock1 c0 seen Hit.out Hm.out Hm.out.old Hc0.out ?_ ?_)
    · intro hall
      have Hall := hid hall
      obtain ⟨w5, hcl, hm5, ho5, hs5⟩ := Hm.out.run_clear (P := Try.prog) 70 3 33 Try.underlying70
      have hc := cell_blk HBr.out
      unfold diskCells at hc
      have Hm5 := hid hm5; have Ho5 := hid ho5; have Hs5 := hid hs5
      clear hall hm5 ho5 hs5
      go_wp2
      go_ret
      rw [E2.out]
      have h3 := HR3.out
      obtain ⟨sg', sc', ρ', hrep, hρ⟩ := h3.flushed Hrow.out Hlen.out (fun p hp => Hse.out p hp (Hall.out p hp)) (fun i hi hno => Hun.out i hi (fun p hp e => absurd e (hno p hp))) Ho.out (.inr (by
        cases hρ : ρ1 w2.heap.size with
        | non => rfl
        | _ => have := HQ2.out _ (HQ1.out w2.heap.size (by rw [hρ]; simp)); have := HO1.out.size; omega)) Hm5.out Ho5.out
      have heq : ({ D.burn with nf := wrap64 (D.burn.nf + 1) } : DiskM).flushed = { D.burn.flushed with nf := wrap64 (D.nf + 1) } := by rw [burn_nf]; rfl
      rw [heq] at hrep
      have hsz : w'.heap.size ≤ w5.heap.size := by have h1 := HO1.out.size; have h2 := HO3.out.size; have h4 := Ho.out.size; have h5 := Ho5.out.size; omega
      refine ⟨rfl, ⟨gs1, cap1, ms1, sg', sc', _, _, ρ', hrep, fun k hk => HQ1.out k (hρ k hk), fun k hk => Nat.lt_of_lt_of_le (HQ2.out k hk) hsz⟩, ?_⟩
      have hn0 := HS3.out
      have hn1 := HO1.out.size
      have hn2 := Hon.out.size
      refine (((Hon.out.trans HO1.out (fun j _ e => by rw [e]; exact HA.out.has)).trans HO3.out (fun _ _ e => e.elim)).trans Ho.out (fun j hj e => ?_)).trans Ho5.out (fun j _ e => by rw [e]; exact HQ1.out _ (by rw [h3.rm]; simp))
      rcases e with e | e
      · rw [e]; exact HQ1.out _ (by rw [h3.rg]; simp)
      · omega
    · intro p hp hne w4 hit4 ho4 hs4 hm4 hlt hen
      have hpk : p.k < D.burn.n := (HR3.out.pen p hp).1
      have hb4 := blk_only HBr.out ho4 NB.out
      have hrow4 := Hrow.out.only ho4 (fun e => NG.out e.symm)
      have hc := cell_blk hb4
      have hca := hrow4.cell p.k (by rw [Hlen.out]; exact hpk)
      have hza := hrow4.frozen p.k
      have hcs : ∃ v0, w4.cell? ⟨gs1, p.k, none⟩ = some v0 := ⟨_, hca.trans (List.getElem?_eq_getElem (by rw [Hlen.out]; exact hpk))⟩
      obtain ⟨v0, hv0⟩ := hcs
      unfold diskCells at hc
      simp only [Pend.me, secV] at hen
      have Hp := hid hp; have Hne := hid hne; have Hit4 := hid hit4; have Ho4 := hid ho4; have Hm4 := hid hm4; have Hlt := hid hlt; have Hrow4 := hid hrow4
      clear hp hne hit4 ho4 hs4 hm4 hlt hb4 hrow4 hca
      have hpk' : (p.k : Int) < (D.burn.n : Int) := by omega
      simp only [Pend.me, secV]
      go_wp2
      have nmg : ms1 ≠ gs1 := fun e => by have h1 := HR3.out.rm; have h2 := HR3.out.rg; rw [e, h2] at h1; cases h1
      exact ⟨FInv.round (D := { D.burn with nf := wrap64 (D.burn.nf + 1) }) HR3.out NG.out Hlen.out Hse.out Hun.out Ho.out Hp.out Hit4.out Ho4.out Hm4.out Hrow4.out rfl, by
        rw [mapLeft_congr (Below.heap_setCell _ _ _ _ NG.out) (Below.heap_setCell _ _ _ _ nmg)]; exact Hlt.out⟩

theorem flush_c (h : DiskAt w b D F) :
    Calls Try.prog 60 #[.pointer (some ⟨b, 0, none⟩)] w fun e w' => e = .returned (.int .i64 D.flush.2) ∧ DiskAt w' b D.flush.1 F ∧ Only F w w' := by
  by_cases hc : D.down = true ∨ D.burns = false
  · exact flush_refused h hc
  · exact flush_taken h (by cases hd : D.down <;> simp_all) (by cases hd : D.burns <;> simp_all)
end
end Go.Proofs.Ythodcbhejjbhaaa
