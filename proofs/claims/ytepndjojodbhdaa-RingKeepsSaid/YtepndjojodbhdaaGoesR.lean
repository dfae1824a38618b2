/- foliotlaw07.goes. -/
import Derived.Test.YtepndjojodbhdaaRingR
import Derived.Test.YtepndjojodbhdaaRingO
import Derived.Test.YtepndjojodbhdaaFacts
import Derived.Test.YtepndjojodbhdaaFreeze
namespace Go.Proofs.Ytepndjojodbhdaa
open Go.RowKit

def abcdef : List UInt8 := [97, 98, 99, 100, 101, 102]
def t1 : List UInt8 := zeros 200
def t2 : List UInt8 := zeros 200 ++ (abcdef ++ zeros 100)
def goesFacts (r : Nat) : List (Nat × Fk) :=
  [(36, .const (.pointer (some ⟨r, 0, none⟩))), (37, .row (zeros 200)), (38, .parts [zeros 200]), (39, .const (.int .i64 0)), (40, .const (.pointer (some ⟨r, 0, none⟩))),
   (41, .row abcdef), (42, .row abcdef), (43, .row (zeros 100)), (44, .parts [abcdef, zeros 100]), (45, .const (.int .i64 0)), (5, .const (.int .i64 0)), (6, .const (.int .i64 0))]
theorem goesSlot {r n d : Nat} {k : Fk} (h : (goesFacts r)[n]? = some (d, k)) : d ∈ [36, 37, 38, 39, 40, 41, 42, 43, 44, 45, 5, 6] := by
  have : ((goesFacts r).map Prod.fst)[n]? = some d := by rw [List.getElem?_map, h]; rfl
  exact List.mem_of_getElem? this
theorem goesNodup {r : Nat} : ((goesFacts r).map Prod.fst).Nodup := (show [36, 37, 38, 39, 40, 41, 42, 43, 44, 45, 5, 6].Nodup by decide)
def goesText (L : Nat → Bool) : List UInt8 := if L 9 then t2 else if L 3 then t1 else []
def goesSlots : List Nat := [36, 37, 38, 39, 40, 41, 42, 43, 44, 45, 5, 6]

structure GI (W : World) (r b : Nat) (L : Nat → Bool) (a : Act) (w : World) (D : DiskM) (R : RingM) (F FD : Nat → Prop) : Prop where
  ring : RingAt w r b R F
  disk : DiskAt w b D FD
  dis : ∀ k, F k → ¬ FD k
  rs : RS D R (goesText L)
  first : R.first = 1
  count : R.count = 2
  n : D.n = 3
  old : Only (fun _ => False) W w
  f0 : ∀ k, F k → W.heap.size ≤ k
  fd0 : ∀ k, FD k → W.heap.size ≤ k
  l93 : L 9 = true → L 3 = true
  conv : L 5 = true → L 6 = false → ∃ g, a.eval (.tmp 41) = .slice (some ⟨g, 0, none⟩) 6 6 ∧ Row w g 5 6 (bytesV abcdef) ∧ (¬ F g ∧ W.heap.size ≤ g) ∧ ¬ FD g
  facts : AllF (goesFacts r) L a w (fun k => F k ∨ FD k)
def GInv (W : World) (r b : Nat) (a0 : Act) (L : Nat → Bool) (a : Act) (w : World) : Prop := Alike goesSlots a0 a ∧ ∃ D R F FD, GI W r b L a w D R F FD

/-- A step that makes memory at most. -/
theorem GInv.alloc {W w w' : World} {r b : Nat} {a0 a : Act} {L : Nat → Bool} (h : GInv W r b a0 L a w) (ho : Only (fun _ => False) w w') (n d : Nat) (v : Value) (k : Fk) (hsz : a0.tmps.size = 74) (hm : (goesFacts r)[n]? = some (d, k)) (h3 : n ≠ 3) (h9 : n ≠ 9)
    (h6 : n ≠ 6) (h5 : n = 5 → ∃ g, v = .slice (some ⟨g, 0, none⟩) 6 6 ∧ Row w' g 5 6 (bytesV abcdef) ∧ w.heap.size ≤ g)
    (hp : ∀ N : Nat → Prop, (∀ j, N j → j < w.heap.size) → AllF (goesFacts r) L a w N → k.p w' N v) : GInv W r b a0 (fun j => j == n || L j) (a.put (some d) v) w' := by
  obtain ⟨hA, D, R, F, FD, g⟩ := h
  have hN : ∀ j, (F j ∨ FD j) → j < w.heap.size := by
    rintro j (hj | hj)
    · obtain ⟨rv, hR⟩ := g.ring; exact hR.lt j hj
    · exact g.disk.lt hj
  have hds := goesSlot hm
  have hd74 : d < 74 := by
    simp only [List.mem_cons, List.not_mem_nil, or_false] at hds
    omega
  have e9 : (9 == n || L 9) = L 9 := by
    have : (9 == n) = false := by simpa using fun e => h9 e.symm
    rw [this]; rfl
  have e3 : (3 == n || L 3) = L 3 := by
    have : (3 == n) = false := by simpa using fun e => h3 e.symm
    rw [this]; rfl
  refine ⟨hA.put d v hds, D, R, F, FD, ⟨g.ring.only ho (fun _ _ e => e), g.disk.only ho (fun _ _ e => e), g.dis, ?_, g.first, g.count, g.n, g.old.trans ho (fun _ _ e => e), g.f0, g.fd0, ?_, ?_, ?_⟩⟩
  · have : goesText (fun j => j == n || L j) = goesText L := by
      unfold goesText
      simp only [e9, e3]
    rw [this]; exact g.rs
  · simp only [e9, e3]; exact g.l93
  · intro hL5 hL6
    have hL6' : L 6 = false := by
      have : (6 == n) = false := by simpa using fun e => h6 e.symm
      rw [this] at hL6; simpa using hL6
    rw [eval_put _ _ _ _ (by rw [hA.size, hsz]; exact hd74)]
    by_cases hn5 : n = 5
    · obtain ⟨g', e, hr, hlo⟩ := h5 hn5
      subst hn5
      have hd41 : d = 41 := by
        have h41 : (goesFacts r)[5]? = some (41, .row abcdef) := rfl
        rw [h41] at hm; simp only [Option.some.injEq, Prod.mk.injEq] at hm; exact hm.1.symm
      rw [if_pos hd41.symm]
      exact ⟨g', e, hr, ⟨fun hf => by have := hN g' (.inl hf); omega, Nat.le_trans g.old.size hlo⟩, fun hf => by have := hN g' (.inr hf); omega⟩
    · have hL5' : L 5 = true := by
        have : (5 == n) = false := by simpa using fun e => hn5 e.symm
        rw [this] at hL5; simpa using hL5
      have hd41 : 41 ≠ d := by
        rintro rfl
        have h1 : ((goesFacts r).map Prod.fst)[n]? = some 41 := by rw [List.getElem?_map, hm]; rfl
        have h2 : ((goesFacts r).map Prod.fst)[5]? = some 41 := rfl
        obtain ⟨l1, e1⟩ := List.getElem?_eq_some_iff.1 h1
        obtain ⟨l2, e2⟩ := List.getElem?_eq_some_iff.1 h2
        exact hn5 ((List.getElem_inj goesNodup).1 (e1.trans e2.symm))
      rw [if_neg hd41]
      obtain ⟨g', e, hr, h1, h2⟩ := g.conv hL5' hL6'
      exact ⟨g', e, hr.only ho (fun e => e), h1, h2⟩
  · exact g.facts.step goesNodup ho.size (ho.cells (fun _ _ e => e.elim)) (fun _ _ e => e) n d v (by rw [hA.size, hsz]; exact hd74) k hm (hp _ hN g.facts)

theorem GInv.append {W w : World} {r b : Nat} {a0 a : Act} {L : Nat → Bool} (h : GInv W r b a0 L a w) (n d : Nat) (hsz : a0.tmps.size = 74) (hm : (goesFacts r)[n]? = some (d, .const (.int .i64 0))) (head : Nat) (hh : head ≤ (goesText L).length) (v : Value) (ps : List (List UInt8))
    (hp : ∀ N : Nat → Prop, AllF (goesFacts r) L a w N → PartsAt w v ps N) (hne : ps.flatten ≠ []) (hfit : ps.flatten.length ≤ 256 - ((goesText L).length - head / 128 * 128)) (hlen : (goesText L).length ≤ 1000)
    (ht : goesText (fun j => j == n || L j) = goesText L ++ ps.flatten) (h93 : (9 == n || L 9) = true → (3 == n || L 3) = true) (hn5 : n ≠ 5) (hn6 : n ≠ 6) :
    Calls Try.prog 39 #[.pointer (some ⟨r, 0, none⟩), .int .u64 head, v] w fun e w' => ∃ u, e = .returned u ∧ GInv W r b a0 (fun j => j == n || L j) (a.put (some d) u) w' := by
  obtain ⟨hA, D, R, F, FD, g⟩ := h
  have hds := goesSlot hm
  have hd74 : d < 74 := by
    simp only [List.mem_cons, List.not_mem_nil, or_false] at hds
    omega
  have htl := g.rs.tail
  have hleft : ps.flatten.length ≤ R.left head := by
    unfold RingM.left RingM.size
    rw [g.count, htl, Nat.min_eq_left hh]; omega
  obtain ⟨R', D', hq, hrs, hf1, hc1, hn1⟩ := g.rs.append head ps.flatten hleft
  have hpar := hp _ g.facts
  refine (append_go g.ring g.disk g.dis g.rs.fits v ps hpar head (by omega) hne hleft (by omega)).mono ?_
  rintro e w' ⟨rfl, F', FD', hR', hD', hdis', hon, hF', hFD'⟩
  rw [hq] at hR' hD' ⊢
  have hs := g.old.size
  refine ⟨_, rfl, hA.put d _ hds, D', R', F', FD', ⟨hR', hD', hdis', by rw [ht]; exact hrs, by rw [hf1]; exact g.first, by rw [hc1]; exact g.count, by rw [hn1]; exact g.n, ?_, ?_, ?_, h93, ?_, ?_⟩⟩
  · refine g.old.trans hon (fun k hk e => ?_)
    rcases e with e | e
    · have := g.f0 k e; omega
    · have := g.fd0 k e; omega
  · intro k hk
    rcases hF' k hk with e | e
    · exact g.f0 k e
    · omega
  · intro k hk
    rcases hFD' k hk with e | e
    · exact g.fd0 k e
    · omega
  · intro hL5 hL6
    have hL6' : L 6 = false := by
      have : (6 == n) = false := by simpa using fun e => hn6 e.symm
      rw [this] at hL6; simpa using hL6
    have hL5' : L 5 = true := by
      have : (5 == n) = false := by simpa using fun e => hn5 e.symm
      rw [this] at hL5; simpa using hL5
    rw [eval_put _ _ _ _ (by rw [hA.size, hsz]; exact hd74)]
    have hd41 : 41 ≠ d := by
      rintro rfl
      have h1 : ((goesFacts r).map Prod.fst)[n]? = some 41 := by rw [List.getElem?_map, hm]; rfl
      have h2 : ((goesFacts r).map Prod.fst)[5]? = some 41 := rfl
      obtain ⟨l1, e1⟩ := List.getElem?_eq_some_iff.1 h1
      obtain ⟨l2, e2⟩ := List.getElem?_eq_some_iff.1 h2
      exact hn5 ((List.getElem_inj goesNodup).1 (e1.trans e2.symm))
    rw [if_neg hd41]
    obtain ⟨g', e, hr, h1, h2⟩ := g.conv hL5' hL6'
    have hl := hr.lt
    refine ⟨g', e, hr.only hon (fun e => e.elim h1.1 h2), ⟨fun e => ?_, h1.2⟩, fun e => ?_⟩
    · exact h1.1 ((hF' g' e).resolve_right (by omega))
    · exact h2 ((hFD' g' e).resolve_right (by omega))
  · refine g.facts.step goesNodup hon.size (hon.cells (fun _ _ e => e)) (fun k hk e => ?_) n d _ (by rw [hA.size, hsz]; exact hd74) (.const (.int .i64 0)) hm rfl
    rcases e with e | e
    · exact .inl ((hF' k e).resolve_right (by omega))
    · exact .inr ((hFD' k e).resolve_right (by omega))

theorem RowParts {w : World} {N : Nat → Prop} {g : Nat} {ps : List (List UInt8)} {T : TypeId} {cs : List Value} (hn : ¬ N g) (hg : w.heap[g]? = some (.cells cs.toArray T (0, 0))) (hl : cs.length = ps.length) (hlen : ps.length ≤ 1000)
    (hc : ∀ (i : Nat) (l : List UInt8) (v : Value), ps[i]? = some l → cs[i]? = some v → ∃ g' : Nat, v = .slice (some ⟨g', 0, none⟩) l.length l.length ∧ (∀ i u, (bytesV l)[i]? = some u → w.cell? ⟨g', i, none⟩ = some u) ∧ ¬ N g' ∧ l.length ≤ 1000000) : PartsAt w (.slice (some ⟨g, 0, none⟩) ps.length ps.length) ps N := by
  refine ⟨_, _, rfl, by omega, fun i l hi => ?_⟩
  obtain ⟨hlt, -⟩ := List.getElem?_eq_some_iff.1 hi
  obtain ⟨g', e, hr, hg', hb⟩ := hc i l cs[i] hi (List.getElem?_eq_getElem (by omega))
  refine ⟨g, 0, some ⟨g', 0, none⟩, l.length, rfl, hn, ?_, ⟨_, _, rfl, fun _ => ⟨g', 0, rfl, fun j u hu => by rw [Nat.zero_add]; exact hr j u hu⟩⟩, fun _ g2 o2 e2 => ?_, hb⟩
  · rw [cell_blk hg, Nat.zero_add, ← e]; simp [List.getElem?_eq_getElem (show i < cs.length by omega)]
  · simp only [Option.some.injEq, Addr.mk.injEq] at e2
    rw [← e2.1]; exact hg'

section
set_option maxRecDepth 100000 in
set_option maxHeartbeats 1600000 in
theorem goes_c (w : World) : Calls Try.prog 35 #[] w fun e w' => e = .returned (.bool true) ∧ Only (fun _ => False) w w' := by
  go_enter Try.func35, Try.ntmps35
  go_wp2_with fail
  refine (new_ok w 3 (by decide) (by decide)).mono ?_
  rintro e w1 ⟨b, FD, rfl, hD, ho1, hFD⟩
  have HD := hid hD; have Ho1 := hid ho1; have HFD := hid hFD
  clear hD ho1 hFD
  go_wp2_with fail
  refine (open_ok HD.out 1 2 0 (by decide) (by decide) (by decide) rfl).mono ?_
  rintro e w2 ⟨r, F, rfl, hR, ho2, hF⟩
  have HR := hid hR; have Ho2 := hid (Ho1.out.trans ho2 (fun _ _ e => e)); have HF : Hid (∀ k, F k → w.heap.size ≤ k) := hid (fun k hk => Nat.le_trans Ho1.out.size (hF k hk))
  have HD2 := hid (HD.out.only ho2 (fun _ _ e => e))
  have HDis : Hid (∀ k, F k → ¬ FD k) := hid (fun k hk hd => by have := hF k hk; have := HD.out.lt hd; omega)
  have HSz := hid (size_c hR)
  have HLf := hid (left_c hR 0 (by decide))
  clear hR ho2 hF HD
  rw [show (RingM.opened (DiskM.new 3) 1 2 0).size = 256 from rfl] at HSz
  rw [show (RingM.opened (DiskM.new 3) 1 2 0).left 0 = 256 from rfl] at HLf
  go_wp2_with (first | (go_at_call 38; refine HSz.out.mono ?_; rintro e w' ⟨rfl, rfl⟩) | (go_at_call 41; refine HLf.out.mono ?_; rintro e w' ⟨rfl, rfl⟩))
  refine region_inv (by kernel_rfl) (by kernel_rfl) (GInv w r b) ?_ ?_ ?_
  · refine ⟨Alike.refl _ _, DiskM.new 3, RingM.opened (DiskM.new 3) 1 2 0, F, FD, HR.out.only (Only.refl (fun _ => False) w2).drew (fun _ _ e => e), HD2.out.only (Only.refl (fun _ => False) w2).drew (fun _ _ e => e), HDis.out, ⟨rfl, by decide, by decide, by decide, rfl, rfl, fun i _ hi => ?_⟩, rfl, rfl, rfl, Ho2.out.drew, HF.out, HFD.out, fun e => (by cases e), fun e => (by cases e), fun n d k _ e => (by cases e)⟩
    exact absurd hi (Nat.not_lt_zero i)
  · refine AllSteps.cons rfl ?_ (AllSteps.cons rfl ?_ (AllSteps.cons rfl ?_ (AllSteps.cons rfl ?_ (AllSteps.cons rfl ?_ (AllSteps.cons rfl ?_ (AllSteps.cons rfl ?_ (AllSteps.cons rfl ?_ (AllSteps.cons rfl ?_ (AllSteps.cons rfl ?_ (AllSteps.cons rfl ?_ (AllSteps.cons rfl ?_ AllSteps.nil)))))))))))
    · intro L a w' K hI hn hdeps hK
      have e : a.eval (.tmp 3) = .pointer (some ⟨r, 0, none⟩) := hI.1.eval 3 (by decide)
      refine step_of rfl (wp_value rfl (hK _ _ (hI.alloc (Only.refl _ _) 0 36 _ (.const _) rfl rfl (by decide) (by decide) (by decide) (fun h => absurd h (by decide)) (fun N _ _ => e))))
    · intro L a w' K hI hn hdeps hK
      have hr := make_bytes w' 200 (by decide)
      refine step_of rfl (wp_value (w' := w'.alloc (.cells (bytesV (zeros 200)).toArray 5)) (v := .slice (some ⟨w'.heap.size, 0, none⟩) 200 200) ?_ (hK _ _ (hI.alloc ((Only.refl _ _).alloc _) 1 37 _ (.row (zeros 200)) rfl rfl (by decide) (by decide) (by decide) (fun h => absurd h (by decide)) (fun N hN _ => (Row.new' _ _ _ _ (by simp)).fact (fun e => Nat.lt_irrefl _ (hN _ e))))))
      show ((Instr.makeSlice 30 (.int .i64 200) (.int .i64 200) >>= fun x => pure (Next.value x)).run Try.prog w') = _
      rw [Sem.run_bind]; erw [hr]; rfl
    · intro L a w' K hI hn hdeps hK
      have hL1 : L 1 = true := by simpa [Region.binds] using hdeps
      have hf : ∃ g, a.eval (.tmp 37) = .slice (some ⟨g, 0, none⟩) 200 200 := by
        obtain ⟨-, D, R, F, FD, gi⟩ := hI
        obtain ⟨g, e, -⟩ := gi.facts 1 37 (.row (zeros 200)) rfl hL1
        exact ⟨g, e⟩
      obtain ⟨g, e⟩ := hf
      refine step_of rfl (wp_value (w' := w'.alloc (.cells #[.slice (some ⟨g, 0, none⟩) 200 200] 30)) (v := .slice (some ⟨w'.heap.size, 0, none⟩) 1 1) ?_ (hK _ _ (hI.alloc ((Only.refl _ _).alloc _) 2 38 _ (.parts [zeros 200]) rfl rfl (by decide) (by decide) (by decide) (fun h => absurd h (by decide)) (fun N hN hAll => ?_))))
      · simp only [execOp, List.map_toArray, List.map_cons, List.map_nil, e]; kernel_rfl
      · obtain ⟨g2, e2, hr2, hl2, hn2⟩ := hAll 1 37 (.row (zeros 200)) rfl hL1
        rw [e] at e2
        simp only [Value.slice.injEq, Option.some.injEq, Addr.mk.injEq] at e2
        obtain ⟨⟨rfl, -⟩, -⟩ := e2
        refine RowParts (ps := [zeros 200]) (T := 30) (cs := [.slice (some ⟨g, 0, none⟩) 200 200]) (fun e => Nat.lt_irrefl _ (hN _ e)) (blk_new _ _) rfl (by decide) (fun i l v h1 h2 => ?_)
        cases i with
        | zero => simp only [List.getElem?_cons_zero, Option.some.injEq] at h1 h2; subst h1 h2; exact ⟨g, by simp, fun j u hu => (World.cell?_alloc_lt _ _ _ hl2).trans (hr2 j u hu), hn2, by simp⟩
        | succ i => simp at h1
    · intro L a w' K hI hn hdeps hK
      have hLd : L 0 = true ∧ L 2 = true := by simpa [Region.binds] using hdeps
      have e36 : a.eval (.tmp 36) = .pointer (some ⟨r, 0, none⟩) := by
        obtain ⟨-, D, R, F, FD, gi⟩ := hI
        exact gi.facts 0 36 (.const _) rfl hLd.1
      have hL9 : L 9 = false := by
        obtain ⟨-, D, R, F, FD, gi⟩ := hI
        cases h9 : L 9 with
        | false => rfl
        | true => rw [gi.l93 h9] at hn; cases hn
      have htx : goesText L = [] := by unfold goesText; rw [hL9, hn]; rfl
      refine step_of rfl (wp_callc (f := 39) (args := #[a.eval (.tmp 36), .int .u64 0, a.eval (.tmp 38)]) (by kernel_rfl) ?_)
      rw [e36]
      refine (hI.append 3 39 rfl rfl 0 (Nat.zero_le _) _ [zeros 200] (fun N hAll => hAll 2 38 (.parts [zeros 200]) rfl hLd.2) (by decide) (by rw [htx]; decide) (by rw [htx]; decide) (by rw [htx]; unfold goesText; simp [hL9, t1]) (by simp) (by decide) (by decide)).mono ?_
      rintro e w'' ⟨u, rfl, hg⟩
      exact ⟨u, rfl, hK _ _ hg⟩
    · intro L a w' K hI hn hdeps hK
      have e : a.eval (.tmp 3) = .pointer (some ⟨r, 0, none⟩) := hI.1.eval 3 (by decide)
      refine step_of rfl (wp_value rfl (hK _ _ (hI.alloc (Only.refl _ _) 4 40 _ (.const _) rfl rfl (by decide) (by decide) (by decide) (fun h => absurd h (by decide)) (fun N _ _ => e))))
    · intro L a w' K hI hn hdeps hK
      refine step_of rfl (wp_value (w' := w'.alloc (.cells (bytesV abcdef).toArray 5)) (v := .slice (some ⟨w'.heap.size, 0, none⟩) 6 6) ?_ (hK _ _ (hI.alloc ((Only.refl _ _).alloc _) 5 41 _ (.row abcdef) rfl rfl (by decide) (by decide) (by decide) (fun _ => ⟨w'.heap.size, rfl, Row.new' _ _ _ _ rfl, Nat.le_refl _⟩) (fun N hN _ => (Row.new' _ _ _ _ (by simp)).fact (fun e => Nat.lt_irrefl _ (hN _ e))))))
      simp only [execOp, List.map_toArray, List.map_cons, List.map_nil, Act.eval]; kernel_rfl
    · intro L a w' K hI hn hdeps hK
      have hL5 : L 5 = true := by simpa [Region.binds] using hdeps
      obtain ⟨hA, D, R, F, FD, gi⟩ := hI
      obtain ⟨g, e, hrow, h1, h2⟩ := gi.conv hL5 hn
      obtain ⟨pad, hblk, hpl⟩ := hrow
      obtain rfl : pad = [] := List.eq_nil_of_length_eq_zero (by rw [length_bytesV] at hpl; have h6 : abcdef.length = 6 := rfl; omega)
      have hc := conv_lit (n := 6) (c := 6) hblk
      refine step_of rfl (wp_value (w' := w'.freeze ⟨g, 6, none⟩ 1) (v := .slice (some ⟨g, 0, none⟩) 6 6) ?_ (hK _ _ ⟨hA.put 42 _ (by decide), D, R, F, FD, ⟨gi.ring.only (freeze_only _ _ _) (fun k hk e => h1.1 (by have e' : k = g := e; rw [← e']; exact hk)), gi.disk.only (freeze_only _ _ _) (fun k hk e => h2 (by have e' : k = g := e; rw [← e']; exact hk)), gi.dis, gi.rs, gi.first, gi.count, gi.n, ?_, gi.f0, gi.fd0, gi.l93, ?_, ?_⟩⟩))
      · simp only [execOp, e]
        erw [Sem.run_bind, hc]; rfl
      · exact gi.old.trans (freeze_only _ _ _) (fun k hk e => by have := h1.2; have e' : k = g := e; omega)
      · intro _ h6; simp at h6
      · refine gi.facts.step goesNodup (by rw [freeze_size]; exact Nat.le_refl _) (fun _ _ _ _ => freeze_cell _ _ _ _) (fun _ _ e => e) 6 42 _ (by rw [hA.size]; show 42 < 74; decide) (.row abcdef) rfl ?_
        obtain ⟨g2, e2, hr2, hl2, hn2⟩ := gi.facts 5 41 (.row abcdef) rfl hL5
        rw [e] at e2
        simp only [Value.slice.injEq, Option.some.injEq, Addr.mk.injEq] at e2
        obtain ⟨⟨rfl, -⟩, -⟩ := e2
        exact ⟨g, rfl, fun i u hu => (freeze_cell _ _ _ _).trans (hr2 i u hu), by rw [freeze_size]; exact hl2, hn2⟩
    · intro L a w' K hI hn hdeps hK
      have hr := make_bytes w' 100 (by decide)
      refine step_of rfl (wp_value (w' := w'.alloc (.cells (bytesV (zeros 100)).toArray 5)) (v := .slice (some ⟨w'.heap.size, 0, none⟩) 100 100) ?_ (hK _ _ (hI.alloc ((Only.refl _ _).alloc _) 7 43 _ (.row (zeros 100)) rfl rfl (by decide) (by decide) (by decide) (fun h => absurd h (by decide)) (fun N hN _ => (Row.new' _ _ _ _ (by simp)).fact (fun e => Nat.lt_irrefl _ (hN _ e))))))
      show ((Instr.makeSlice 30 (.int .i64 100) (.int .i64 100) >>= fun x => pure (Next.value x)).run Try.prog w') = _
      rw [Sem.run_bind]; erw [hr]; rfl
    · intro L a w' K hI hn hdeps hK
      have hLd : L 6 = true ∧ L 7 = true := by simpa [Region.binds] using hdeps
      have hf : (∃ g, a.eval (.tmp 42) = .slice (some ⟨g, 0, none⟩) 6 6) ∧ ∃ g, a.eval (.tmp 43) = .slice (some ⟨g, 0, none⟩) 100 100 := by
        obtain ⟨-, D, R, F, FD, gi⟩ := hI
        obtain ⟨g, e, -⟩ := gi.facts 6 42 (.row abcdef) rfl hLd.1
        obtain ⟨g', e', -⟩ := gi.facts 7 43 (.row (zeros 100)) rfl hLd.2
        exact ⟨⟨g, e⟩, ⟨g', e'⟩⟩
      obtain ⟨⟨g, e⟩, ⟨g', e'⟩⟩ := hf
      refine step_of rfl (wp_value (w' := w'.alloc (.cells #[.slice (some ⟨g, 0, none⟩) 6 6, .slice (some ⟨g', 0, none⟩) 100 100] 30)) (v := .slice (some ⟨w'.heap.size, 0, none⟩) 2 2) ?_ (hK _ _ (hI.alloc ((Only.refl _ _).alloc _) 8 44 _ (.parts [abcdef, zeros 100]) rfl rfl (by decide) (by decide) (by decide) (fun h => absurd h (by decide)) (fun N hN hAll => ?_))))
      · simp only [execOp, List.map_toArray, List.map_cons, List.map_nil, e, e']; kernel_rfl
      · obtain ⟨g2, e2, hr2, hl2, hn2⟩ := hAll 6 42 (.row abcdef) rfl hLd.1
        obtain ⟨g3, e3, hr3, hl3, hn3⟩ := hAll 7 43 (.row (zeros 100)) rfl hLd.2
        rw [e] at e2
        rw [e'] at e3
        simp only [Value.slice.injEq, Option.some.injEq, Addr.mk.injEq] at e2 e3
        obtain ⟨⟨rfl, -⟩, -⟩ := e2
        obtain ⟨⟨rfl, -⟩, -⟩ := e3
        refine RowParts (ps := [abcdef, zeros 100]) (T := 30) (cs := [.slice (some ⟨g, 0, none⟩) 6 6, .slice (some ⟨g', 0, none⟩) 100 100]) (fun e => Nat.lt_irrefl _ (hN _ e)) (blk_new _ _) rfl (by decide) (fun i l v h1 h2 => ?_)
        match i with
        | 0 => simp only [List.getElem?_cons_zero, Option.some.injEq] at h1 h2; subst h1 h2; exact ⟨g, rfl, fun j u hu => (World.cell?_alloc_lt _ _ _ hl2).trans (hr2 j u hu), hn2, by decide⟩
        | 1 => simp only [List.getElem?_cons_succ, List.getElem?_cons_zero, Option.some.injEq] at h1 h2; subst h1 h2; exact ⟨g', by simp, fun j u hu => (World.cell?_alloc_lt _ _ _ hl3).trans (hr3 j u hu), hn3, by simp⟩
        | i + 2 => simp at h1
    · intro L a w' K hI hn hdeps hK
      have hLd : L 4 = true ∧ L 8 = true ∧ L 3 = true := by simpa [Region.binds] using hdeps
      have e40 : a.eval (.tmp 40) = .pointer (some ⟨r, 0, none⟩) := by
        obtain ⟨-, D, R, F, FD, gi⟩ := hI
        exact gi.facts 4 40 (.const _) rfl hLd.1
      have htx : goesText L = zeros 200 := by unfold goesText; rw [hn, hLd.2.2]; rfl
      refine step_of rfl (wp_callc (f := 39) (args := #[a.eval (.tmp 40), .int .u64 200, a.eval (.tmp 44)]) (by kernel_rfl) ?_)
      rw [e40]
      refine (hI.append 9 45 rfl rfl 200 (by rw [htx]; decide) _ [abcdef, zeros 100] (fun N hAll => hAll 8 44 (.parts [abcdef, zeros 100]) rfl hLd.2.1) (by decide) (by rw [htx]; decide) (by rw [htx]; decide) (by rw [htx]; unfold goesText; simp [t2]) (by simp [hLd.2.2]) (by decide) (by decide)).mono ?_
      rintro e w'' ⟨u, rfl, hg⟩
      exact ⟨u, rfl, hK _ _ hg⟩
    · intro L a w' K hI hn hdeps hK
      have hLd : L 3 = true := by simp [Region.binds] at hdeps; simp [hdeps]
      have e : a.eval (.tmp 39) = .int .i64 0 := by
        obtain ⟨-, D, R, F, FD, gi⟩ := hI
        exact gi.facts 3 39 (.const (.int .i64 0)) rfl hLd
      refine step_of rfl (wp_value rfl (hK _ _ (hI.alloc (Only.refl _ _) 10 5 _ (.const _) rfl rfl (by decide) (by decide) (by decide) (fun h => absurd h (by decide)) (fun N _ _ => e))))
    · intro L a w' K hI hn hdeps hK
      have hLd : L 9 = true := by simp [Region.binds] at hdeps; simp [hdeps]
      have e : a.eval (.tmp 45) = .int .i64 0 := by
        obtain ⟨-, D, R, F, FD, gi⟩ := hI
        exact gi.facts 9 45 (.const (.int .i64 0)) rfl hLd
      refine step_of rfl (wp_value rfl (hK _ _ (hI.alloc (Only.refl _ _) 11 6 _ (.const _) rfl rfl (by decide) (by decide) (by decide) (fun h => absurd h (by decide)) (fun N _ _ => e))))
  · intro L a w' hI hall
    have hL : ∀ i, i < 12 → L i = true := fun i hi => hall i hi
    obtain ⟨hA, D, R, F, FD, gi⟩ := hI
    have e0 : a.eval (.tmp 36) = .pointer (some ⟨r, 0, none⟩) := gi.facts 0 36 (.const _) rfl (hL 0 (by decide))
    obtain ⟨g1, e1, -⟩ := gi.facts 1 37 (.row _) rfl (hL 1 (by decide))
    obtain ⟨a2, c2, e2, -⟩ := gi.facts 2 38 (.parts _) rfl (hL 2 (by decide))
    have e3 : a.eval (.tmp 39) = .int .i64 0 := gi.facts 3 39 (.const _) rfl (hL 3 (by decide))
    have e4 : a.eval (.tmp 40) = .pointer (some ⟨r, 0, none⟩) := gi.facts 4 40 (.const _) rfl (hL 4 (by decide))
    obtain ⟨g5, e5, -⟩ := gi.facts 5 41 (.row _) rfl (hL 5 (by decide))
    obtain ⟨g6, e6, -⟩ := gi.facts 6 42 (.row _) rfl (hL 6 (by decide))
    obtain ⟨g7, e7, -⟩ := gi.facts 7 43 (.row _) rfl (hL 7 (by decide))
    obtain ⟨a8, c8, e8, -⟩ := gi.facts 8 44 (.parts _) rfl (hL 8 (by decide))
    have e9 : a.eval (.tmp 45) = .int .i64 0 := gi.facts 9 45 (.const _) rfl (hL 9 (by decide))
    have e10 : a.eval (.tmp 5) = .int .i64 0 := gi.facts 10 5 (.const _) rfl (hL 10 (by decide))
    have e11 : a.eval (.tmp 6) = .int .i64 0 := gi.facts 11 6 (.const _) rfl (hL 11 (by decide))
    have htx : goesText L = t2 := by unfold goesText; rw [hL 9 (by decide)]; rfl
    have hrs := gi.rs
    rw [htx] at hrs
    have hring := gi.ring; have hdisk := gi.disk; have hdis := gi.dis; have hfirst := gi.first; have hcount := gi.count; have hold := gi.old; have hf0 := gi.f0; have hfd0 := gi.fd0
    have hA' := hA.turned
    simp only [goesSlots, Act.turned, e0, e1, e2, e3, e4, e5, e6, e7, e8, e9, e10, e11] at hA'
    have Hring := hid hring; have Hdisk := hid hdisk; have Hrs := hid hrs; have Hdis := hid hdis; have Hcount := hid hcount; have Hold := hid hold
    clear gi hall hL hA e0 e1 e2 e3 e4 e5 e6 e7 e8 e9 e10 e11 htx hring hdisk hrs hdis hcount hfirst hold hf0 hfd0
    subst hA'
    have htl : R.tail = 306 := Hrs.out.tail
    have hsz : R.size = 256 := by unfold RingM.size; rw [Hcount.out]
    have HRd := hid (rread_ok Hring.out Hdisk.out Hrs.out 200 6 (by decide) (by omega) (by rw [hsz]; decide))
    rw [show ((t2.drop 200).take 6) = abcdef from by decide] at HRd
    have hmk : ∀ w, (Instr.makeSlice 30 (.int .i64 100) (.int .i64 100)).run Try.prog w = .ok (.slice (some ⟨w.heap.size, 0, none⟩) 100 100) (w.alloc (.cells (bytesV (zeros 100)).toArray 5)) := fun w => make_bytes w 100 (by decide)
    have Htl := hid htl
    clear htl hsz
    go_wp2_with fail
    refine HRd.out.mono ?_
    rintro e w3 ⟨bo, cap, rfl, hbo, ho3⟩
    have hR3 := Hring.out.only ho3 (fun _ _ e => e)
    have HT3 := hid (tail_c hR3)
    rw [Htl.out] at HT3
    have HR3 := hid hR3
    have Ho3 := hid (Hold.out.trans ho3 (fun _ _ e => e))
    have hcv : (convert 30 9 (.slice bo 6 cap)).run Try.prog w3 = .ok (.string ⟨#[97, 98, 99, 100, 101, 102]⟩) w3 := conv_str hbo.src
    have HAp : ∀ v : Value, v = .slice (some ⟨w3.heap.size, 0, none⟩) 100 100 → Hid (Calls Try.prog 39 #[.pointer (some ⟨r, 0, none⟩), .int .u64 200, .slice (some ⟨w3.heap.size + 1, 0, none⟩) 1 1] ((w3.alloc (.cells (bytesV (zeros 100)).toArray 5)).alloc (.cells #[v] 30)) fun e w' => e = .returned (.int .i64 3) ∧ (w3.alloc (.cells (bytesV (zeros 100)).toArray 5)).alloc (.cells #[v] 30) = w') := by
      intro v hv
      subst hv
      have hbad : R.left 200 < [zeros 100].flatten.length := by unfold RingM.left RingM.size; rw [Hcount.out, Htl.out]; decide
      have hsz1 : (w3.alloc (.cells (bytesV (zeros 100)).toArray 5)).heap.size = w3.heap.size + 1 := by simp
      have hblk := blk_new (w3.alloc (.cells (bytesV (zeros 100)).toArray 5)) (.cells #[.slice (some ⟨w3.heap.size, 0, none⟩) 100 100] 30)
      rw [hsz1] at hblk
      have hrow : Row ((w3.alloc (.cells (bytesV (zeros 100)).toArray 5)).alloc (.cells #[.slice (some ⟨w3.heap.size, 0, none⟩) 100 100] 30)) w3.heap.size 5 100 (bytesV (zeros 100)) := (Row.new' _ _ _ _ (by simp)).alloc _
      refine hid ((append_no (D := D) (HR3.out.only (((Only.refl (fun _ => False) w3).alloc _).alloc _) (fun _ _ e => e)) _ [zeros 100] (fun _ => False) (RowParts (ps := [zeros 100]) (T := 30) (cs := [.slice (some ⟨w3.heap.size, 0, none⟩) 100 100]) (fun e => e) hblk rfl (by decide) (fun i l v h1 h2 => ?_)) 200 (by decide) (.inl hbad)).mono ?_)
      · match i with
        | 0 =>
          simp only [List.getElem?_cons_zero, Option.some.injEq] at h1 h2
          subst h1 h2
          exact ⟨w3.heap.size, by simp, fun j u hu => by have := hrow.news j u hu; rw [addr_add, Nat.zero_add] at this; exact this, fun e => e, by simp⟩
        | i + 1 => simp at h1
      · rintro e w' ⟨rfl, -, -, rfl⟩
        refine ⟨?_, rfl⟩
        have : (R.append 200 [zeros 100].flatten D).2.2 = 3 := by unfold RingM.append; rw [if_pos hbad]
        rw [this]
    clear hR3 hbo ho3
    go_wp2_with (first | (go_at_call 37; refine HT3.out.mono ?_; rintro e w' ⟨rfl, rfl⟩) | (go_at_call 39; refine (HAp _ rfl).out.mono ?_; rintro e w' ⟨rfl, rfl⟩))
    go_ret
    exact ⟨rfl, (Ho3.out.alloc _).alloc _⟩
end
end Go.Proofs.Ytepndjojodbhdaa
