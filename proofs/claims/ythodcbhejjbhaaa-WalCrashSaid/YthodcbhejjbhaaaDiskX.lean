/- The disk: Crash. -/
import Derived.Test.YthodcbhejjbhaaaDiskS
import Derived.StillTailTactics
namespace Go.Proofs.Ythodcbhejjbhaaa
open Go.RowKit

def tornAt (at' : Int) : Nat := (max 0 (min at' 128)).toNat
def torn (l s : List UInt8) (at' : Int) : List UInt8 := l.take (tornAt at') ++ s.drop (tornAt at')
theorem tornAt_le (a : Int) : tornAt a ≤ 128 := by unfold tornAt; omega
theorem length_torn (l s : List UInt8) (a : Int) (h1 : l.length = 128) (h2 : s.length = 128) : (torn l s a).length = 128 := by
  have := tornAt_le a
  simp [torn, h1, h2]; omega
def DiskM.crashed (D : DiskM) (keep : List Int) (tear at' : Int) (k : Nat) : List UInt8 :=
  match D.pend k with
  | some l => if (k : Int) ∈ keep then l else if (k : Int) = tear then torn l (D.sure k) at' else D.sure k
  | none => D.sure k
def DiskM.crash (D : DiskM) (keep : List Int) (tear at' : Int) : DiskM :=
  { D with down := true, fuse := -1, sure := D.crashed keep tear at', pend := fun _ => none }

/-- Sector i is as it is to be behind the crash. -/
def SecDone (w : World) (xs : List Value) (ρ : Nat → Role) (C : Nat → List UInt8) (i : Nat) : Prop :=
  ∃ g c, xs[i]? = some (secV g c) ∧ Row w g 5 c (bytesV (C i)) ∧ (C i).length = 128 ∧ (ρ g = .sec i ∨ ρ g = .pen i)

def CInv (w3 wr : World) (r gs cap ms n : Nat) (sg sc : Nat → Nat) (S C : Nat → List UInt8) (pe : List Pend) (clock : Nat) (ρ : Nat → Role) : Prop :=
  ∃ (seen : List Nat) (c0 : Nat) (xs : List Value), wr.heap[r]? = some (.mapIter (some ms) clock seen.toArray c0) ∧ clock ≤ c0 ∧ IMap wr ms (pe.map Pend.me) clock ∧ Row wr gs 33 cap xs ∧ xs.length = n ∧
    (∀ i, i < n → (∃ p ∈ pe, p.k = i ∧ p.t ∈ seen) → SecDone wr xs ρ C i) ∧ (∀ i, i < n → (∀ p ∈ pe, p.k = i → p.t ∉ seen) → xs[i]? = some (secV (sg i) (sc i)) ∧ Row wr (sg i) 5 (sc i) (bytesV (S i))) ∧
    Only (fun k => k = gs ∨ k = r ∨ ∃ i, ρ k = .sec i) w3 wr

section
variable {w w' : World} {b : Nat} {D : DiskM} {gs cap ms : Nat} {sg sc : Nat → Nat} {pe : List Pend} {clock : Nat} {ρ : Nat → Role} {F : Nat → Prop}

theorem SecDone.keep {w w' : World} {xs xs' : List Value} {C : Nat → List UInt8} {i : Nat} {G : Nat → Prop} (h : SecDone w xs ρ C i) (hx : xs'[i]? = xs[i]?) (ho : Only G w w') (hG : ∀ g, ρ g = .sec i ∨ ρ g = .pen i → ¬ G g) : SecDone w' xs' ρ C i := by
  obtain ⟨g, c, h1, h2, h3, h4⟩ := h
  exact ⟨g, c, by rw [hx]; exact h1, h2.only ho (hG g h4), h3, h4⟩

/-- One round. -/
theorem CInv.round {w3 wr w4 w5 : World} {r : Nat} {seen : List Nat} {xs xs' : List Value} {S C : Nat → List UInt8} (h : DiskRep w b D gs cap ms sg sc pe clock ρ) (hr : r ≠ gs) (hrρ : ρ r = .non) (hlen' : xs'.length = D.n)
    (hse : ∀ i, i < D.n → (∃ p ∈ pe, p.k = i ∧ p.t ∈ seen) → SecDone wr xs ρ C i) (hun : ∀ i, i < D.n → (∀ p ∈ pe, p.k = i → p.t ∉ seen) → xs[i]? = some (secV (sg i) (sc i)) ∧ Row wr (sg i) 5 (sc i) (bytesV (S i)))
    (ho : Only (fun k => k = gs ∨ k = r ∨ ∃ i, ρ k = .sec i) w3 wr)
    {p : Pend} (hp : p ∈ pe) (hit : w4.heap[r]? = some (.mapIter (some ms) clock (seen ++ [p.t]).toArray clock)) (ho4 : Only (fun k => k = r) wr w4)
    (hm4 : IMap w4 ms (pe.map Pend.me) clock) (ho5 : Only (fun k => k = gs ∨ k = sg p.k) w4 w5) (hrow5 : Row w5 gs 33 cap xs') (hxs : ∀ i, i ≠ p.k → xs'[i]? = xs[i]?) (hdone : SecDone w5 xs' ρ C p.k) : CInv w3 w5 r gs cap ms D.n sg sc S C pe clock ρ := by
  have hgm : ms ≠ gs := fun e => by have h1 := h.rm; have h2 := h.rg; rw [e, h2] at h1; cases h1
  have hpk : p.k < D.n := (h.pen p hp).1
  have hgk := h.rs p.k hpk
  have hrg : r ≠ sg p.k := fun e => by rw [← e, hrρ] at hgk; cases hgk
  have hms : ms ≠ sg p.k := fun e => by rw [← e, h.rm] at hgk; cases hgk
  have hb4 : ∀ i, i ≠ p.k → ∀ g, ρ g = .sec i ∨ ρ g = .pen i → ¬ (g = r) ∧ ¬ (g = gs ∨ g = sg p.k) := by
    intro i hi g hg
    refine ⟨fun e => ?_, fun e => ?_⟩
    · rw [e, hrρ] at hg; rcases hg with hg | hg <;> cases hg
    · rcases e with e | e
      · rw [e, h.rg] at hg; rcases hg with hg | hg <;> cases hg
      · rw [e, hgk] at hg; rcases hg with hg | hg
        · cases hg; exact hi rfl
        · cases hg
  refine ⟨seen ++ [p.t], clock, xs', ?_, Nat.le_refl _, ?_, hrow5, hlen', ?_, ?_, ?_⟩
  · exact blk_only hit ho5 (by rintro (e | e); exact hr e; exact hrg e)
  · exact hm4.only ho5 (by rintro (e | e); exact hgm e; exact hms e)
  · rintro i hi ⟨q, hq, hqk, hqs⟩
    by_cases hik : i = p.k
    · rw [hik]; exact hdone
    · have hqs' : q.t ∈ seen := by
        rcases List.mem_append.1 hqs with hqs | hqs
        · exact hqs
        · exact absurd (hqk.symm.trans (congrArg Pend.k (stamp_unique h hq hp (by simpa using hqs)))) hik
      exact ((hse i hi ⟨q, hq, hqk, hqs'⟩).keep rfl ho4 (fun g hg => (hb4 i hik g hg).1)).keep (hxs i hik) ho5 (fun g hg => (hb4 i hik g hg).2)
  · intro i hi hno
    have hip : i ≠ p.k := fun e => hno p hp e.symm (by simp)
    obtain ⟨h1, h2⟩ := hun i hi (fun q hq hqk hqs => hno q hq hqk (by simp [hqs]))
    have h3 := hb4 i hip (sg i) (.inl (h.rs i hi))
    exact ⟨(hxs i hip).trans h1, (h2.only ho4 h3.1).only ho5 h3.2⟩
  · refine (ho.trans ho4 (fun k _ e => .inr (.inl e))).trans ho5 (fun k _ e => ?_)
    rcases e with e | e
    · exact .inl e
    · exact .inr (.inr ⟨p.k, by rw [e]; exact hgk⟩)

/-- Behind the loop and the clearing of the map. -/
theorem DiskRep.crashed {w3 wr w5 : World} {r : Nat} {xs : List Value} {C : Nat → List UInt8} (h : DiskRep w3 b D gs cap ms sg sc pe clock ρ) (hrow : Row wr gs 33 cap xs) (hlen : xs.length = D.n)
    (hd : ∀ i, i < D.n → SecDone wr xs ρ C i) (ho : Only (fun k => k = gs ∨ k = r ∨ ∃ i, ρ k = .sec i) w3 wr) (hr : ρ r = .non)
    (hm5 : IMap w5 ms [] clock) (ho5 : Only (fun k => k = ms) wr w5) :
    ∃ sg' sc' ρ', DiskRep w5 b { D with sure := C, pend := fun _ => none } gs cap ms sg' sc' [] clock ρ' ∧ ∀ k, ρ' k ≠ .non → ρ k ≠ .non := by
  have hex : ∀ i, ∃ gc : Nat × Nat, i < D.n → xs[i]? = some (secV gc.1 gc.2) ∧ Row wr gc.1 5 gc.2 (bytesV (C i)) ∧ (C i).length = 128 ∧ (ρ gc.1 = .sec i ∨ ρ gc.1 = .pen i) := by
    intro i
    by_cases hi : i < D.n
    · obtain ⟨g, c, h1, h2, h3, h4⟩ := hd i hi
      exact ⟨(g, c), fun _ => ⟨h1, h2, h3, h4⟩⟩
    · exact ⟨(0, 0), fun e => absurd e hi⟩
  obtain ⟨f, hf⟩ := Classical.axiomOfChoice hex
  refine ⟨fun i => (f i).1, fun i => (f i).2, fun k => match ρ k with | .str => .str | .arr => .arr | .map => .map | .sec i => if (f i).1 = k then .sec i else .non | .pen i => if (f i).1 = k then .sec i else .non | .non => .non, ⟨?_, ?_, ?_, hm5, by simp, by simp, h.n0, h.fu, ?_, ?_, ?_, ?_⟩, ?_⟩
  · refine blk_only (blk_only h.blk ho ?_) ho5 (fun e => by have h1 := h.rb; have h2 := h.rm; rw [e, h2] at h1; cases h1)
    rintro (e | e | ⟨i, e⟩)
    · have h1 := h.rb; have h2 := h.rg; rw [e, h2] at h1; cases h1
    · have h1 := h.rb; rw [e, hr] at h1; cases h1
    · rw [h.rb] at e; cases e
  · have hrow5 := hrow.only ho5 (fun e => by have h1 := h.rg; have h2 := h.rm; rw [e, h2] at h1; cases h1)
    have hx : xs = secs D.n (fun i => (f i).1) (fun i => (f i).2) := by
      apply List.ext_getElem?
      intro i
      by_cases hi : i < D.n
      · exact (hf i hi).1.trans (secs_get D.n (fun i => (f i).1) (fun i => (f i).2) i hi).symm
      · rw [List.getElem?_eq_none (by omega), List.getElem?_eq_none (by rw [length_secs]; omega)]
    rw [← hx]; exact hrow5
  · intro i hi
    obtain ⟨_, h2, h3, h4⟩ := hf i hi
    exact ⟨h2.only ho5 (fun e => by rw [e, h.rm] at h4; rcases h4 with h4 | h4 <;> cases h4), h3⟩
  · simp only [h.rb]
  · simp only [h.rg]
  · simp only [h.rm]
  · intro i hi
    rcases (hf i hi).2.2.2 with h4 | h4 <;> simp only [h4, if_true]
  · intro k hk e
    simp only [e] at hk
    exact hk rfl

theorem DiskM.crashed_none {k : Nat} (keep : List Int) (tear at' : Int) (h : D.pend k = none) : D.crashed keep tear at' k = D.sure k := by simp [DiskM.crashed, h]

set_option maxRecDepth 100000 in
set_option maxHeartbeats 1600000 in
theorem crash_c (h : DiskAt w b D F) (v : Value) (keep : List Int) (hs : SrcV w v (intsV keep)) (hv : ∀ g o c, v = .slice (some ⟨g, o, none⟩) keep.length c → ¬ F g) (hkl : keep.length ≤ 9223372036854775807) (tear at' : Int) :
    Calls Try.prog 24 #[.pointer (some ⟨b, 0, none⟩), v, .int .i64 tear, .int .i64 at'] w fun e w' => e = .returned (.tuple #[]) ∧ DiskAt w' b (D.crash keep tear at') F ∧ Only F w w' := by
  have HA := hid h
  obtain ⟨gs1, cap1, ms1, sg1, sc1, pe1, clock1, ρ1, hr1, hq1, hq2⟩ := h
  have hc := cell_blk hr1.blk
  have hz := frozen_blk hr1.blk
  have hb1 := blk_set (blk_set hr1.blk 4 (.bool true)) 5 (.int .i64 (-1))
  have ho1 : Only (fun k => k = b) w ((w.setCell ⟨b, 4, none⟩ (.bool true)).setCell ⟨b, 5, none⟩ (.int .i64 (-1))) := (only_set b 4 _).trans (only_set b 5 _) (fun k _ e => e)
  have hr2 := hr1.upd ho1 { D with down := true, fuse := -1 } rfl rfl rfl hb1 (by constructor <;> simp)
  have hs2 : SrcV ((w.setCell ⟨b, 4, none⟩ (.bool true)).setCell ⟨b, 5, none⟩ (.int .i64 (-1))) v (intsV keep) := hs.only ho1 (fun _ g o c e _ eb => hv g o c (by simpa using e) (by rw [eb]; exact HA.out.has))
  obtain ⟨W2, hW2⟩ : ∃ W2, W2 = (w.setCell ⟨b, 4, none⟩ (.bool true)).setCell ⟨b, 5, none⟩ (.int .i64 (-1)) := ⟨_, rfl⟩
  rw [← hW2] at hr2 hs2 ho1
  unfold diskCells at hc
  have HR2 := hid hr2; have HO1 := hid ho1; have HQ1 := hid hq1; have HQ2 := hid hq2; have HW2 := hid hW2; have HS := hid hs2; have HV := hid hv; have HKL := hid hkl
  clear hr2 ho1 hq1 hq2 hr1 hb1 hW2 hs2 hv hkl hs
  go_enter Try.func24, Try.ntmps24
  go_wp2_with (at_range; rw [← HW2.out]; refine wpList_range_raw rfl _ 70 rfl 3 33 Try.underlying70 rfl HR2.out.map ?_; intro w3 hit3 ho3 hs3 hm3)
  have hr3 := HR2.out.only ho3 (fun _ _ e => e)
  have hn1 := HO1.out.size
  have hrr : ρ1 W2.heap.size = .non := by
    cases hρ : ρ1 W2.heap.size with
    | non => rfl
    | _ => have := HQ2.out _ (HQ1.out W2.heap.size (by rw [hρ]; simp)); omega
  have ng : W2.heap.size ≠ gs1 := fun e => by have := HR2.out.arr.lt; omega
  have nm : W2.heap.size ≠ ms1 := fun e => by have := blk_lt HR2.out.map.blk; omega
  have nmg : ms1 ≠ gs1 := fun e => by have h1 := hr3.rm; have h2 := hr3.rg; rw [e, h2] at h1; cases h1
  have nbx : ¬ (b = gs1 ∨ b = W2.heap.size ∨ ∃ i, ρ1 b = .sec i) := by
    rintro (e | e | ⟨i, e⟩)
    · have h1 := hr3.rb; have h2 := hr3.rg; rw [e, h2] at h1; cases h1
    · have h1 := hr3.rb; rw [e, hrr] at h1; cases h1
    · rw [hr3.rb] at e; cases e
  have HR3 := hid hr3; have NG := hid ng; have NM := hid nm; have NMG := hid nmg; have NBX := hid nbx; have HI3 := hid hit3; have HO3 := hid ho3; have HS3 := hid hs3; have HM3 := hid hm3; have HRR := hid hrr; have HN1 := hid hn1
  clear hr3 ng nm nmg nbx hit3 ho3 hs3 hm3 hrr hn1 hc hz
  try go_frame
  go_loopw [8, 9] (fun _ _ wr => CInv w3 wr W2.heap.size gs1 cap1 ms1 D.n sg1 sc1 D.sure (D.crashed keep tear at') pe1 clock1 ρ1) (fun _ _ wr => mapLeft wr W2.heap.size ms1)
  case atStart => exact ⟨[], clock1, _, HI3.out, Nat.le_refl _, HM3.out, HR3.out.arr, by simp, fun i _ ⟨p, _, _, h⟩ => by simp at h, fun i hi _ => ⟨secs_get _ _ _ _ hi, (HR3.out.sec i hi).1⟩, Only.refl _ _⟩
  case round =>
    obtain ⟨seen, c0, xs, hit, hc0, hm, hrow, hlen, hse, hun, ho⟩ := hrel
    have hbr : wr.heap[b]? = some (.cells (diskCells { D with down := true, fuse := -1 } gs1 cap1 ms1) 72 (0, 0)) := blk_only HR3.out.blk ho NBX.out
    have HBr := hid hbr; have Hit := hid hit; have Hc0 := hid hc0; have Hm := hid hm; have Hrow := hid hrow; have Hlen := hid hlen; have Hse := hid hse; have Hun := hid hun; have Ho := hid ho
    clear hit hc0 hm hrow hlen hse hun ho hbr
    go_wp2_with (at_next; refine wpList_next_raw rfl _ rfl rfl clock1 c0 seen Hit.out Hm.out Hm.out.old Hc0.out ?_ ?_)
    · intro hall
      have Hall := hid hall
      obtain ⟨w5, hcl, hm5, ho5, hs5⟩ := Hm.out.run_clear (P := Try.prog) 70 3 33 Try.underlying70
      have hc := cell_blk HBr.out
      unfold diskCells at hc
      have Hm5 := hid hm5; have Ho5 := hid ho5; have Hs5 := hid hs5
      clear hall hm5 ho5 hs5
      go_wp2
      go_end0
      have h3 := HR3.out
      obtain ⟨sg', sc', ρ', hrep, hρ⟩ := h3.crashed (C := D.crashed keep tear at') Hrow.out Hlen.out (fun i hi => by
        cases hp : D.pend i with
        | some l => obtain ⟨p, hpe, e⟩ := h3.all i l hp; exact Hse.out i hi ⟨p, hpe, e, Hall.out p hpe⟩
        | none =>
          have h4 := Hun.out i hi (fun p hpe e => by have := (h3.pen p hpe).2.2.2.2; rw [e] at this; rw [show D.pend i = some p.l from this] at hp; cases hp)
          exact ⟨sg1 i, sc1 i, h4.1, by rw [DiskM.crashed_none _ _ _ hp]; exact h4.2, by rw [DiskM.crashed_none _ _ _ hp]; exact (h3.sec i hi).2, .inl (h3.rs i hi)⟩) Ho.out HRR.out Hm5.out Ho5.out
      have hsz : w.heap.size ≤ w5.heap.size := by have h1 := HO1.out.size; have h2 := HO3.out.size; have h4 := Ho.out.size; have h5 := Ho5.out.size; omega
      refine ⟨rfl, ⟨gs1, cap1, ms1, sg', sc', _, _, ρ', hrep, fun k hk => HQ1.out k (hρ k hk), fun k hk => Nat.lt_of_lt_of_le (HQ2.out k hk) hsz⟩, ?_⟩
      have hn0 := HS3.out
      have hn1 := HO1.out.size
      refine ((HO1.out.mono (fun j _ e => by rw [e]; exact HA.out.has)).trans HO3.out (fun _ _ e => e.elim)).trans Ho.out (fun j hj e => ?_) |>.trans Ho5.out (fun j _ e => by rw [e]; exact HQ1.out _ (by rw [h3.rm]; simp))
      rcases e with e | e | ⟨i, e⟩
      · rw [e]; exact HQ1.out _ (by rw [h3.rg]; simp)
      · omega
      · exact HQ1.out _ (by rw [e]; simp)
    · intro p hp hne w4 hit4 ho4 hs4 hm4 hlt hen
      have h3 := HR3.out
      have hpk : p.k < D.n := (h3.pen p hp).1
      have hb4 := blk_only HBr.out ho4 (fun e => NBX.out (.inr (.inl e)))
      have hrow4 := Hrow.out.only ho4 (fun e => NG.out e.symm)
      have hc := cell_blk hb4
      have hza := hrow4.frozen p.k
      have hno : ∀ q ∈ pe1, q.k = p.k → q.t ∉ seen := fun q hq e => by rw [pend_unique h3 hq hp e]; exact hne
      have hx := (Hun.out p.k hpk hno).1
      have hv0 := hrow4.cell p.k (by rw [Hlen.out]; exact hpk)
      rw [hx] at hv0
      have hs4 : SrcV w4 v (intsV keep) := by
        refine HS.out.only (((HO3.out.mono (fun _ _ e => e.elim)).trans Ho.out (G := fun k => k = gs1 ∨ k = W2.heap.size ∨ ∃ i, ρ1 k = .sec i) (F := fun k => k = gs1 ∨ k = W2.heap.size ∨ ∃ i, ρ1 k = .sec i) (fun _ _ e => e)).trans ho4 (fun k _ e => .inr (.inl e))) ?_
        rintro - g o c e hlt' (e' | e' | ⟨i, e'⟩)
        · exact HV.out g o c (by simpa using e) (by rw [e']; exact HQ1.out _ (by rw [h3.rg]; simp))
        · omega
        · exact HV.out g o c (by simpa using e) (HQ1.out _ (by rw [e']; simp))
      have hsec4 : Row w4 (sg1 p.k) 5 (sc1 p.k) (bytesV (D.sure p.k)) := (Hun.out p.k hpk hno).2.only ho4 (fun e => by have h5 := h3.rs p.k hpk; rw [e, HRR.out] at h5; cases h5)
      have hpen4 : Row w4 p.g 5 p.c (bytesV p.l) := by
        obtain ⟨_, h5, _, h6, _⟩ := h3.pen p hp
        refine (h5.only Ho.out ?_).only ho4 (fun e => by rw [e, HRR.out] at h6; cases h6)
        rintro (e | e | ⟨i, e⟩)
        · rw [e, h3.rg] at h6; cases h6
        · rw [e, HRR.out] at h6; cases h6
        · rw [e] at h6; cases h6
      have Hsec4 := hid hsec4; have Hpen4 := hid hpen4
      clear hsec4 hpen4
      have hcon := contains_c w4 v keep p.k hs4 HKL.out
      unfold diskCells at hc
      simp only [Pend.me, secV] at hen hv0
      have Hp := hid hp; have Hne := hid hne; have Hit4 := hid hit4; have Ho4 := hid ho4; have Hm4 := hid hm4; have Hlt := hid hlt; have Hrow4 := hid hrow4; have Hx := hid hx
      have hpk' : (p.k : Int) < (D.n : Int) := by omega
      clear hp hne hit4 ho4 hm4 hlt hb4 hrow4 hx hs4 hno h3
      simp only [Pend.me, secV]
      by_cases hk : (p.k : Int) ∈ keep
      · rw [decide_eq_true hk] at hcon
        have HC := hid hcon; have HK := hid hk
        clear hcon hk
        go_wp2_with (go_at_call 45; refine HC.out.mono ?_; rintro e w' ⟨rfl, rfl⟩)
        have h3 := HR3.out
        obtain ⟨_, _, h5, h6, h7⟩ := h3.pen p Hp.out
        have hC : D.crashed keep tear at' p.k = p.l := by unfold DiskM.crashed; rw [show D.pend p.k = some p.l from h7]; simp [HK.out]
        have ho5 : Only (fun k => k = gs1) w4 (w4.setCell ⟨gs1, p.k, none⟩ (secV p.g p.c)) := only_set _ _ _
        refine ⟨CInv.round (D := { D with down := true, fuse := -1 }) (xs' := xs.set p.k (secV p.g p.c)) h3 NG.out HRR.out (by simpa using Hlen.out) Hse.out Hun.out Ho.out Hp.out Hit4.out Ho4.out Hm4.out (ho5.mono (fun _ _ e => .inl e)) (Hrow4.out.set p.k _ (by rw [Hlen.out]; exact hpk)) (fun i hi => List.getElem?_set_ne (fun e => hi e.symm)) ⟨p.g, p.c, by simp [Hlen.out, hpk], ?_, ?_, .inr h6⟩, ?_⟩
        · rw [hC]; exact Hpen4.out.only ho5 (fun e => by rw [e, h3.rg] at h6; cases h6)
        · rw [hC]; exact h5
        · show mapLeft (w4.setCell ⟨gs1, p.k, none⟩ (secV p.g p.c)) _ _ < _
          rw [mapLeft_congr (Below.heap_setCell _ _ _ _ NG.out) (Below.heap_setCell _ _ _ _ NMG.out)]; exact Hlt.out
      · rw [decide_eq_false hk] at hcon
        have HC := hid hcon; have HK := hid hk
        clear hcon hk
        by_cases ht : (p.k : Int) = tear
        · have ht' : ((p.k : Int) == tear) = true := by simp [ht]
          have HT := hid ht
          clear ht
          go_wp2_with (go_at_call 45; refine HC.out.mono ?_; rintro e w' ⟨rfl, rfl⟩)
          have hpc : (128 : Int) ≤ (p.c : Int) := by
            have h1 := (HR3.out.pen p Hp.out).2.1.le
            have h2 := (HR3.out.pen p Hp.out).2.2.1
            rw [length_bytesV, h2] at h1; omega
          obtain ⟨m, hm⟩ : ∃ m : Nat, m = tornAt at' := ⟨_, rfl⟩
          obtain ⟨q, hq⟩ : ∃ q : Int, (if 128 < at' then 128 else at') = q := ⟨_, rfl⟩
          have hif : (if 0 < q then q else 0) = (m : Int) := by rw [hm, ← hq]; unfold tornAt; split <;> split <;> omega
          have hm128 : m ≤ 128 := by rw [hm]; exact tornAt_le _
          have hmc : (m : Int) ≤ (p.c : Int) := by omega
          have HM := hid hm
          clear hm
          go_still_tail 12, (by kernel_rfl)
          change wpList _ _ _ _ _ w4.drew
          have h5 := (HR3.out.pen p Hp.out).2.2.1
          have hs5 := (HR3.out.sec p.k hpk).2
          have hs5' : (D.sure p.k).length = 128 := hs5
          refine wpList_cpy rfl (.tmp 47) (.tmp 52) 33 33 rfl 5 Try.underlying33 (by kernel_rfl) (sg1 p.k) 0 128 (sc1 p.k) rfl (sc1 p.k) (bytesV (D.sure p.k)) Hsec4.out (some ⟨p.g, 0, none⟩) m p.c rfl (bytesV (p.l.take m)) (by simp; omega) (fun _ => ⟨_, rfl, fun j u hj => ?_⟩) (by simp; omega) (oneCell_bytesV _) ?_
          · refine Hpen4.out.news j u ?_
            rw [bytesV_get] at hj ⊢
            by_cases hjm : j < m
            · rw [List.getElem?_take_of_lt hjm] at hj; exact hj
            · rw [List.getElem?_eq_none (by simp; omega)] at hj; cases hj
          · intro w5 hrow5 ho5 hsz5
            have hlay : lay (bytesV (D.sure p.k)) 0 (bytesV (p.l.take m)) = bytesV (torn p.l (D.sure p.k) at') := by
              have : min m p.l.length = m := by omega
              simp [lay, torn, ← HM.out, bytesV, this]
            rw [hlay] at hrow5
            have Hrow5 := hid hrow5; have Ho5 := hid ho5; have Hsz5 := hid hsz5
            clear hrow5 ho5 hsz5 h5 hs5 hs5' hlay
            go_wp2
            have h3 := HR3.out
            obtain ⟨_, _, h5, h6, h7⟩ := h3.pen p Hp.out
            have hC : D.crashed keep tear at' p.k = torn p.l (D.sure p.k) at' := by unfold DiskM.crashed; rw [show D.pend p.k = some p.l from h7]; simp only; rw [if_neg HK.out, if_pos HT.out]
            have hrk := h3.rs p.k hpk
            have ho5 : Only (fun k => k = sg1 p.k) w4 w5 := ((Only.refl (fun k => k = sg1 p.k) w4).drew).trans Ho5.out (fun _ _ e => e)
            have nr : W2.heap.size ≠ sg1 p.k := fun e => by rw [← e, HRR.out] at hrk; cases hrk
            have nms : ms1 ≠ sg1 p.k := fun e => by rw [← e, h3.rm] at hrk; cases hrk
            have hfin : CInv w3 w5 W2.heap.size gs1 cap1 ms1 D.n sg1 sc1 D.sure (D.crashed keep tear at') pe1 clock1 ρ1 := by
              refine CInv.round (D := { D with down := true, fuse := -1 }) (xs' := xs) h3 NG.out HRR.out Hlen.out Hse.out Hun.out Ho.out Hp.out Hit4.out Ho4.out Hm4.out (ho5.mono (fun _ _ e => .inr e)) (Hrow4.out.only ho5 (fun e => by rw [← e, h3.rg] at hrk; cases hrk)) (fun i _ => rfl) ⟨sg1 p.k, sc1 p.k, Hx.out, ?_, ?_, .inl hrk⟩
              · rw [hC]; exact Hrow5.out
              · rw [hC]; exact length_torn _ _ _ h5 (h3.sec p.k hpk).2
            refine ⟨?_, ?_⟩
            · repeat apply Exists.intro
              exact ⟨hfin, rfl⟩
            · rw [mapLeft_congr (ho5.block _ (blk_lt Hit4.out) nr) (ho5.block _ (blk_lt Hm4.out.blk) nms)]; exact Hlt.out
        · have ht' : ((p.k : Int) == tear) = false := by simp [ht]
          have HT := hid ht
          clear ht
          go_wp2_with (go_at_call 45; refine HC.out.mono ?_; rintro e w' ⟨rfl, rfl⟩)
          have h3 := HR3.out
          obtain ⟨_, _, h5, h6, h7⟩ := h3.pen p Hp.out
          have hC : D.crashed keep tear at' p.k = D.sure p.k := by unfold DiskM.crashed; rw [show D.pend p.k = some p.l from h7]; simp [HK.out, HT.out]
          refine ⟨CInv.round (D := { D with down := true, fuse := -1 }) (xs' := xs) h3 NG.out HRR.out Hlen.out Hse.out Hun.out Ho.out Hp.out Hit4.out Ho4.out Hm4.out (Only.refl _ _) Hrow4.out (fun i _ => rfl) ⟨sg1 p.k, sc1 p.k, Hx.out, ?_, ?_, .inl (h3.rs p.k hpk)⟩, Hlt.out⟩
          · rw [hC]; exact Hsec4.out
          · rw [hC]; exact (h3.sec p.k hpk).2
end
end Go.Proofs.Ythodcbhejjbhaaa
