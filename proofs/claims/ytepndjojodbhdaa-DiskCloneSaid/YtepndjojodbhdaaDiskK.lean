/- The disk: Clone. -/
import Derived.Test.YtepndjojodbhdaaPend
import Derived.Test.YtepndjojodbhdaaDiskX
import Derived.Test.YtepndjojodbhdaaDiskN
import Derived.Test.YtepndjojodbhdaaRegion
import Derived.Deep.RegionLaw
import Derived.Deep.RegionHeld3
namespace Go.Proofs.Ytepndjojodbhdaa
open Go.RowKit

/-- In the middle of Clone: i sectors are there. -/
def KInv (w wr : World) (D : DiskM) (i : Nat) : Prop :=
  ∃ (sv : Value) (gs cap : Nat) (sg sc : Nat → Nat) (ρ : Nat → Role),
    ((i = 0 ∧ sv = .slice none 0 0) ∨ (0 < i ∧ sv = .slice (some ⟨gs, 0, none⟩) i cap ∧ Row wr gs 30 cap (secs i sg sc) ∧ ρ gs = .arr)) ∧
    wr.heap[w.heap.size + 1]? = some (.cells #[.int .i64 0, .int .i64 0, sv, .map (some w.heap.size), .bool D.down, .int .i64 D.fuse] 128 (0, 0)) ∧ IMap wr w.heap.size [] 0 ∧
    (∀ j, j < i → Row wr (sg j) 5 (sc j) (bytesV (D.sure j)) ∧ ρ (sg j) = .sec j) ∧ ρ (w.heap.size + 1) = .str ∧ ρ w.heap.size = .map ∧ (∀ k, ρ k ≠ .non → w.heap.size ≤ k ∧ k < wr.heap.size) ∧ Only (fun _ => False) w wr

theorem secs_succ' (i : Nat) (sg sc : Nat → Nat) (s c : Nat) (sg' sc' : Nat → Nat) (h : ∀ j, j < i → sg' j = sg j ∧ sc' j = sc j) (hs : sg' i = s ∧ sc' i = c) : secs (i + 1) sg' sc' = secs i sg sc ++ [secV s c] := by
  unfold secs
  rw [List.range_succ, List.map_append]
  congr 1
  · refine List.map_congr_left fun j hj => ?_
    rw [(h j (by simpa using hj)).1, (h j (by simpa using hj)).2]
  · simp [hs.1, hs.2]

theorem KInv.next {w wr W1 w1 : World} {D : DiskM} {i : Nat} {sv : Value} {gs : Nat} {sg sc : Nat → Nat} {ρ : Nat → Role} {s c : Nat}
    (hblk : wr.heap[w.heap.size + 1]? = some (.cells #[.int .i64 0, .int .i64 0, sv, .map (some w.heap.size), .bool D.down, .int .i64 D.fuse] 128 (0, 0))) (hmap : IMap wr w.heap.size [] 0)
    (hsec : ∀ j, j < i → Row wr (sg j) 5 (sc j) (bytesV (D.sure j)) ∧ ρ (sg j) = .sec j) (hrb : ρ (w.heap.size + 1) = .str) (hrm : ρ w.heap.size = .map) (hρ : ∀ k, ρ k ≠ .non → w.heap.size ≤ k ∧ k < wr.heap.size) (ho : Only (fun _ => False) w wr)
    (hW : Only (fun _ => False) wr W1) (hs : Row W1 s 5 c (bytesV (D.sure i))) (hsl : wr.heap.size ≤ s) (ho1 : Only (fun k => k = gs) W1 w1) (hgs : ρ gs = .arr ∨ s < gs) {g' cap' : Nat} (hg' : ρ g' = .arr ∨ s < g')
    (hrow : Row w1 g' 30 cap' (secs i sg sc ++ [secV s c])) : KInv w (w1.setCell ⟨w.heap.size + 1, 2, none⟩ (.slice (some ⟨g', 0, none⟩) (i + 1) cap')) D (i + 1) := by
  have hn : ρ s = .non := by
    cases h : ρ s with
    | non => rfl
    | _ => have := (hρ s (by rw [h]; simp)).2; omega
  have hslt : s < W1.heap.size := hs.lt
  have ngs : ∀ k, ρ k ≠ .arr → k ≤ s → ¬ k = gs := by
    intro k hk hlt e
    rcases hgs with h | h
    · exact hk (by rw [e]; exact h)
    · omega
  have ng' : ∀ k, ρ k ≠ .arr → k ≤ s → ¬ k = g' := by
    intro k hk hlt e
    rcases hg' with h | h
    · exact hk (by rw [e]; exact h)
    · omega
  have hblt := blk_lt hblk
  have hb1 := blk_only (blk_only hblk hW (fun e => e)) ho1 (ngs _ (by rw [hrb]; simp) (by omega))
  have hob : Only (fun k => k = w.heap.size + 1) w1 (w1.setCell ⟨w.heap.size + 1, 2, none⟩ (.slice (some ⟨g', 0, none⟩) (i + 1) cap')) := only_set _ _ _
  refine ⟨_, g', cap', fun j => if j = i then s else sg j, fun j => if j = i then c else sc j, fun k => if k = g' then .arr else if k = s then .sec i else ρ k, .inr ⟨by omega, rfl, ?_, by simp⟩, ?_, ?_, ?_, ?_, ?_, ?_, ?_⟩
  · rw [secs_succ' i sg sc s c (fun j => if j = i then s else sg j) (fun j => if j = i then c else sc j) (fun j hj => ⟨if_neg (by omega), if_neg (by omega)⟩) ⟨if_pos rfl, if_pos rfl⟩]
    exact hrow.only hob (fun e => ng' _ (by rw [hrb]; simp) (by omega) e.symm)
  · exact blk_set hb1 2 _
  · exact ((hmap.only hW (fun e => e)).only ho1 (ngs _ (by rw [hrm]; simp) (by have := blk_lt hmap.blk; omega))).only hob (by omega)
  · intro j hj
    by_cases e : j = i
    · subst e
      simp only [if_true]
      refine ⟨(hs.only ho1 (ngs _ (by rw [hn]; simp) (Nat.le_refl _))).only hob (by omega), ?_⟩
      rw [if_neg (ng' _ (by rw [hn]; simp) (Nat.le_refl _))]
    · simp only [if_neg e]
      obtain ⟨h1, h2⟩ := hsec j (by omega)
      have hlt := h1.lt
      refine ⟨((h1.only hW (fun e => e)).only ho1 (ngs _ (by rw [h2]; simp) (by omega))).only hob (fun e => by rw [e, hrb] at h2; cases h2), ?_⟩
      rw [if_neg (ng' _ (by rw [h2]; simp) (by omega)), if_neg (by omega)]; exact h2
  · show (if w.heap.size + 1 = g' then _ else _) = _
    rw [if_neg (ng' _ (by rw [hrb]; simp) (by omega)), if_neg (by omega)]; exact hrb
  · show (if w.heap.size = g' then _ else _) = _
    rw [if_neg (ng' _ (by rw [hrm]; simp) (by omega)), if_neg (by omega)]; exact hrm
  · intro k hk
    have hz : w.heap.size ≤ wr.heap.size := ho.size
    have h1 := ho1.size
    have h2 := hrow.lt
    simp only [World.size_setCell]
    by_cases e1 : k = g'
    · rcases hg' with h | h
      · have := hρ k (by rw [e1, h]; simp); omega
      · omega
    · by_cases e2 : k = s
      · omega
      · simp only [if_neg e1, if_neg e2] at hk
        have := hρ k hk; omega
  · refine ((ho.trans hW (fun _ _ e => e)).trans ho1 (fun k hk e => ?_)).trans hob (fun k hk e => by omega)
    rcases hgs with h | h
    · have := hρ gs (by rw [h]; simp); omega
    · have := ho.size; omega

theorem cellK {w7 w8 : World} {b i : Nat} {v : Value} (ho : Only (fun _ => False) w7 w8) (hlt : b < w7.heap.size) (h : w7.cell? ⟨b, i, none⟩ = some v) : w8.cell? ⟨b, i, none⟩ = some v :=
  (World.cell?_of_block (a := ⟨b, i, none⟩) (ho.block b hlt (fun e => e))).trans h
open Classical in
/-- What of the pending sectors is there, the entries 'seen' being done. -/
noncomputable def seenP (pe : List Pend) (D : DiskM) (seen : List Nat) (k : Nat) : Option (List UInt8) := if ∃ p ∈ pe, p.k = k ∧ p.t ∈ seen then D.pend k else none
noncomputable def cloneM (pe : List Pend) (D : DiskM) (seen : List Nat) : DiskM := { D with nw := 0, nf := 0, pend := seenP pe D seen }
def DiskM.clone (D : DiskM) : DiskM := { D with nw := 0, nf := 0 }
theorem cloneM_nil (pe : List Pend) (D : DiskM) : cloneM pe D [] = { D with nw := 0, nf := 0, pend := fun _ => none } := by
  unfold cloneM
  congr 1
  funext k
  unfold seenP
  rw [if_neg (by rintro ⟨p, _, _, h⟩; simp at h)]
section
variable {w w' : World} {b : Nat} {D : DiskM} {gs cap ms : Nat} {sg sc : Nat → Nat} {pe : List Pend} {clock : Nat} {ρ : Nat → Role} {F : Nat → Prop}
theorem cloneM_all (hr : DiskRep w b D gs cap ms sg sc pe clock ρ) {seen : List Nat} (hall : ∀ p ∈ pe, p.t ∈ seen) : cloneM pe D seen = D.clone := by
  unfold cloneM DiskM.clone
  congr 1
  funext k
  unfold seenP
  split
  · rfl
  · rename_i hno
    cases hd : D.pend k with
    | none => rfl
    | some l =>
      obtain ⟨p, hp, hk⟩ := hr.all k l hd
      exact absurd ⟨p, hp, hk, hall p hp⟩ hno
theorem cloneM_next (hr : DiskRep w b D gs cap ms sg sc pe clock ρ) {seen : List Nat} {p : Pend} (hp : p ∈ pe) : (cloneM pe D seen).put p.k p.l = cloneM pe D (seen ++ [p.t]) := by
  obtain ⟨-, -, -, -, hpd⟩ := hr.pen p hp
  have hstamp : ∀ q ∈ pe, q.t = p.t → q = p := fun q hq e => map_inj_mem (fun p : Pend => p.t) (by have := hr.map.stamps; simpa [Pend.me, Function.comp_def] using this) hq hp e
  unfold cloneM DiskM.put
  congr 1
  funext k
  unfold seenP
  simp only
  by_cases hk : k = p.k
  · rw [if_pos hk, if_pos ⟨p, hp, hk.symm, by simp⟩, hk, hpd]
  · rw [if_neg hk]
    by_cases h : ∃ q ∈ pe, q.k = k ∧ q.t ∈ seen
    · obtain ⟨q, h1, h2, h3⟩ := h
      rw [if_pos ⟨q, h1, h2, h3⟩, if_pos ⟨q, h1, h2, List.mem_append_left _ h3⟩]
    · rw [if_neg h, if_neg]
      rintro ⟨q, h1, h2, h3⟩
      rcases List.mem_append.1 h3 with h3 | h3
      · exact h ⟨q, h1, h2, h3⟩
      · have := hstamp q h1 (by simpa using h3)
        rw [this] at h2
        exact hk h2.symm

/-- In the middle of the second loop. -/
def KInv2 (w wr : World) (D : DiskM) (r ms : Nat) (pe : List Pend) (clock bc gs cap wm : Nat) (sg sc : Nat → Nat) : Prop :=
  ∃ (seen : List Nat) (c0 : Nat) (pe' : List Pend) (clock' : Nat) (ρ' : Nat → Role), wr.heap[r]? = some (.mapIter (some ms) clock seen.toArray c0) ∧ clock ≤ c0 ∧
    DiskRep wr bc (cloneM pe D seen) gs cap wm sg sc pe' clock' ρ' ∧ (∀ k, ρ' k ≠ .non → w.heap.size ≤ k ∧ k < wr.heap.size ∧ k ≠ r) ∧ Only (fun _ => False) w wr

set_option maxRecDepth 100000 in
set_option maxHeartbeats 3200000 in
theorem clone_c (h : DiskAt w b D F) :
    Calls Try.prog 48 #[.pointer (some ⟨b, 0, none⟩)] w fun e w' => ∃ b' F', e = .returned (.pointer (some ⟨b', 0, none⟩)) ∧ DiskAt w' b' D.clone F' ∧ Only (fun _ => False) w w' ∧ ∀ k, F' k → w.heap.size ≤ k := by
  obtain ⟨gs0, cap0, ms0, sg0, sc0, pe0, clock0, ρ0, hr, hq1, hq2⟩ := h
  have HR := hid hr
  have hc4 : w.cell? ⟨b, 4, none⟩ = some (.bool D.down) := cell_blk hr.blk 4
  have hc5 : w.cell? ⟨b, 5, none⟩ = some (.int .i64 D.fuse) := cell_blk hr.blk 5
  have hblt := blk_lt hr.blk
  have Hblt := hid hblt
  have hmm := @run_makeMap Try.prog
  obtain ⟨ir, hir, hrz, hr1, hr2⟩ := info_parts info_row
  clear hr hq1 hq2 hblt
  go_enter Try.func48, Try.ntmps48
  go_wp2_with fail
  go_region_held3 (fun W => W.cell? ⟨b, 4, none⟩ = some (.bool D.down) ∧ W.cell? ⟨b, 5, none⟩ = some (.int .i64 D.fuse)) (first | exact ⟨cellK (((Only.refl (fun _ => False) w).drew).alloc _) Hblt.out hc4, cellK (((Only.refl (fun _ => False) w).drew).alloc _) Hblt.out hc5⟩ | exact ⟨cellK ((((Only.refl (fun _ => False) w).drew).alloc _).alloc _) Hblt.out hc4, cellK ((((Only.refl (fun _ => False) w).drew).alloc _).alloc _) Hblt.out hc5⟩ | go_keep) ((fail))
  have hc2 : ∀ ob ob', ((w.alloc ob).alloc ob').cell? ⟨b, 2, none⟩ = some (.slice (some ⟨gs0, 0, none⟩) D.n cap0) := fun ob ob' => cellK (((Only.refl (fun _ => False) w).alloc _).alloc _) Hblt.out (cell_blk HR.out.blk 2)
  clear hc4 hc5 hmm
  have HI : Hid (KInv w ((w.drew.alloc (.map #[] 0)).alloc (.cells #[.int .i64 0, .int .i64 0, .slice none 0 0, .map (some w.heap.size), .bool D.down, .int .i64 D.fuse] 128)) D 0) := by
    refine hid ⟨.slice none 0 0, 0, 0, fun _ => 0, fun _ => 0, fun k => if k = w.heap.size then .map else if k = w.heap.size + 1 then .str else .non, .inl ⟨rfl, rfl⟩, ?_, ?_, by simp, by simp, by simp, ?_, ?_⟩
    · have := blk_new (w.drew.alloc (.map #[] 0)) (.cells #[.int .i64 0, .int .i64 0, .slice none 0 0, .map (some w.heap.size), .bool D.down, .int .i64 D.fuse] 128)
      simpa using this
    · refine ⟨blk_alloc ?_, by simp, by simp, by simp⟩
      have := blk_new w.drew (.map #[] 0)
      simpa using this
    · intro k hk
      by_cases e1 : k = w.heap.size
      · simp only [World.size_alloc, World.size_drew]; omega
      · by_cases e2 : k = w.heap.size + 1
        · simp only [World.size_alloc, World.size_drew]; omega
        · simp [e1, e2] at hk
    · exact (((Only.refl _ _).drew).alloc _).alloc _
  go_wp2_with fail
  go_loopw [24, 5] (fun i _ wr => ∃ k : Nat, i = .int .i64 k ∧ k ≤ D.n ∧ KInv w wr D k) (fun i _ _ => D.n - (intOf i).toNat)
  case atStart => exact ⟨0, rfl, Nat.zero_le _, HI.out⟩
  case round =>
    clear HI hc2
    obtain ⟨k, rfl, hk, hinv⟩ := hrel
    have HI := hid hinv
    clear hinv
    obtain ⟨sv, gs, cap, sg, sc, ρ, hsv, hblk, hmap, hsec, hrb, hrm, hρ, ho⟩ := HI.out
    have Hsv := hid hsv; have Hblk := hid hblk; have Hmap := hid hmap; have Hsec := hid hsec; have Hρ := hid hρ; have Ho := hid ho; have Hrb := hid hrb; have Hrm := hid hrm
    by_cases hkn : k < D.n
    · have hn0 := HR.out.n0.2
      have hca : wr.cell? ⟨gs0, k, none⟩ = some (.slice (some ⟨sg0 k, 0, none⟩) 128 (sc0 k)) := by
        have := (HR.out.arr.only ho (fun e => e)).cell k (by rw [length_secs]; exact hkn)
        rw [secs_get _ _ _ _ hkn] at this
        exact this
      have HL := hid (HR.out.sec k hkn).2
      have hc := cell_blk hblk
      have hz := frozen_blk hblk
      have hbl := blk_lt hblk
      have HC := hid (clone_any wr.drew _ (D.sure k) (secV_src ((HR.out.sec k hkn).1.only (ho.trans (Only.refl (fun _ => False) wr).drew (fun _ _ e => e)) (fun e => e)) HL.out) (by intro e; have := HL.out; rw [e] at this; simp at this) (by rw [HL.out]; decide))
      unfold secV at HC
      clear hsv hblk hmap hsec hρ ho hrb hrm
      go_wp2_with fail
      rcases Hsv.out with ⟨rfl, rfl⟩ | ⟨hk0, rfl, hrow, hgs⟩
      · go_region_law (first | (refine step_of rfl (wp_callc (o := ⟨some 34, _, _, _, _, _⟩) (f := 73) (args := #[.slice (some ⟨sg0 0, 0, none⟩) 128 (sc0 0)]) (by kernel_rfl) ?_); refine HC.out.mono ?_; rintro e w5 ⟨v', g5, c5, rfl, hmade, honly⟩; have hv := hmade.val; rw [HL.out] at hv; subst hv; have Hmade := hid hmade; have Honly := hid honly; have hb5 := blk_only Hblk.out ((Only.refl (fun _ => False) wr).drew.trans honly (fun _ _ e => e)) (fun e => e); have hc5 := cell_blk hb5; have hc5a := fun ob => cell_blk (blk_alloc (o' := ob) hb5); have Hb5 := hid hb5; clear hmade honly hb5; refine ⟨_, rfl, ?_⟩) | (refine step_of rfl (wp_app_nil (.tmp 32) (.tmp 35) 50 rfl 30 ir (.slice none 0 0) 1 24 Try.underlying50 hir hrz hr1 hr2 rfl rfl ⟨w5.heap.size, 0, none⟩ 1 1 rfl [.slice (some ⟨g5, 0, none⟩) 128 c5] rfl ((Row.new w5 [.slice (some ⟨g5, 0, none⟩) 128 c5] 30).news) (by decide) (by decide) (by decide) ?_); intro cap' w6 hcap' hrow6 ho6; have hb6 := (ho6.block _ (blk_lt (blk_alloc Hb5.out)) (fun e => e)).trans (blk_alloc Hb5.out); have hc6 := cell_blk hb6; have hz6 := frozen_blk hb6; have Hrow6 := hid hrow6; have Ho6 := hid ho6; clear hrow6 ho6 hb6))
        all_goals
          go_wp2
          go_roundw
          case rel =>
            refine ⟨1, rfl, by omega, KInv.next (i := 0) (sg := fun _ => 0) (gs := w5.heap.size) (W1 := w5.alloc (.cells #[.slice (some ⟨g5, 0, none⟩) 128 c5] 30)) (s := g5) (c := c5) (sc := fun _ => 0) Hblk.out Hmap.out (fun j hj => absurd hj (Nat.not_lt_zero _)) Hrb.out Hrm.out Hρ.out Ho.out ?_ ?_ ?_ (Ho6.out.mono (fun _ _ e => e.elim)) (.inr Hmade.out.hi) (.inr ?_) (by have := Hrow6.out; simpa [secs, secV] using this)⟩
            · exact (((Only.refl _ _).drew).trans Honly.out (fun _ _ e => e)).alloc _
            · exact Hmade.out.row.alloc _
            · have := Hmade.out.lo; simpa using this
            · have := Hmade.out.hi; omega
          case measure => simp [intOf]; omega
      · have Hrow := hid hrow
        have Hgs := hid hgs
        have Hk0 := hid hk0
        clear hrow hgs hk0
        go_region_law (first | (refine step_of rfl (wp_callc (o := ⟨some 34, _, _, _, _, _⟩) (f := 73) (args := #[.slice (some ⟨sg0 k, 0, none⟩) 128 (sc0 k)]) (by kernel_rfl) ?_); refine HC.out.mono ?_; rintro e w5 ⟨v', g5, c5, rfl, hmade, honly⟩; have hv := hmade.val; rw [HL.out] at hv; subst hv; have Hmade := hid hmade; have Honly := hid honly; have hb5 := blk_only Hblk.out ((Only.refl (fun _ => False) wr).drew.trans honly (fun _ _ e => e)) (fun e => e); have hc5 := cell_blk hb5; have hc5a := fun ob => cell_blk (blk_alloc (o' := ob) hb5); have Hb5 := hid hb5; clear hmade honly hb5; refine ⟨_, rfl, ?_⟩) | (refine step_of rfl (wp_app (.tmp 32) (.tmp 35) 50 rfl 30 ir (.slice none 0 0) 1 24 Try.underlying50 hir hrz hr1 hr2 rfl gs k cap (secs k sg sc) rfl (by rw [Nat.mul_one]; exact (Hrow.out.only (((Only.refl (fun _ => False) wr).drew).trans Honly.out (fun _ _ e => e)) (fun e => e)).alloc _) (by simp) ⟨w5.heap.size, 0, none⟩ 1 1 rfl [.slice (some ⟨g5, 0, none⟩) 128 c5] rfl ((Row.new w5 [.slice (some ⟨g5, 0, none⟩) 128 c5] 30).news) (by simp [Value.oneCell']) (by omega) (by omega) ?_); intro g' cap' w6 hcap' hrow6 hg6 ho6; have hb6 := (ho6.block _ (blk_lt (blk_alloc Hb5.out)) (fun e => by have := Hgs.out; rw [← e, Hrb.out] at this; cases this)).trans (blk_alloc Hb5.out); have hc6 := cell_blk hb6; have hz6 := frozen_blk hb6; have Hrow6 := hid hrow6; have Ho6 := hid ho6; have Hg6 := hid hg6; clear hrow6 ho6 hb6 hg6))
        all_goals
          go_wp2
          go_roundw
          case rel =>
            refine ⟨k + 1, by go_num, by omega, KInv.next (i := k) (gs := gs) (W1 := w5.alloc (.cells #[.slice (some ⟨g5, 0, none⟩) 128 c5] 30)) (s := g5) (c := c5) Hblk.out Hmap.out Hsec.out Hrb.out Hrm.out Hρ.out Ho.out ?_ ?_ ?_ Ho6.out (.inl Hgs.out) ?_ (by have := Hrow6.out; rw [Nat.mul_one] at this; exact this)⟩
            · exact (((Only.refl _ _).drew).trans Honly.out (fun _ _ e => e)).alloc _
            · exact Hmade.out.row.alloc _
            · have := Hmade.out.lo; simpa using this
            · rcases Hg6.out with e | e
              · left; rw [e]; exact Hgs.out
              · right; rw [e]; have := Hmade.out.hi; simp only [World.size_alloc]; omega
          case measure => simp [intOf]; omega
    · obtain rfl : k = D.n := by omega
      obtain ⟨w2, rfl⟩ : ∃ w2 : World, w2 = wr := ⟨_, rfl⟩
      have Hrw := hid (blk_lt Hblk.out)
      have hn0 := HR.out.n0
      rcases hsv with ⟨e, -⟩ | ⟨-, rfl, hrow, hgs⟩
      · omega
      have HC0 : Hid (DiskRep w2 (w.heap.size + 1) (cloneM pe0 D []) gs cap w.heap.size sg sc [] 0 ρ) := hid (by
        rw [cloneM_nil]
        exact ⟨hblk, hrow, fun i hi => ⟨(hsec i hi).1, (HR.out.sec i hi).2⟩, hmap, by simp, by simp, hn0, HR.out.fu, hrb, hgs, hrm, fun i hi => (hsec i hi).2⟩)
      have hc3 : w2.cell? ⟨b, 3, none⟩ = some (.map (some ms0)) := cellK ho Hblt.out (cell_blk HR.out.blk 3)
      have HM := hid (HR.out.map.only ho (fun e => e))
      clear hblk hmap hsec hrb hrm hρ ho hrow hgs hn0
      go_wp2_with (at_range; refine wpList_range_raw rfl _ 126 rfl 3 30 Try.underlying126 rfl HM.out ?_; intro w3 hit3 ho3 hs3 hm3)
      have HI2 : Hid (KInv2 w w3 D w2.heap.size ms0 pe0 clock0 (w.heap.size + 1) gs cap w.heap.size sg sc) := hid ⟨[], clock0, [], 0, ρ, hit3, Nat.le_refl _, HC0.out.only ho3 (fun _ _ e => e), fun k hk => ⟨(Hρ.out k hk).1, by have := (Hρ.out k hk).2; omega, by have := (Hρ.out k hk).2; omega⟩, Ho.out.trans ho3 (fun _ _ e => e)⟩
      clear hit3 ho3 hs3 hm3 hc3
      go_loopw [6, 7] (fun _ _ wr2 => KInv2 w wr2 D w2.heap.size ms0 pe0 clock0 (w.heap.size + 1) gs cap w.heap.size sg sc) (fun _ _ wr2 => mapLeft wr2 w2.heap.size ms0)
      case atStart => exact HI2.out
      case round =>
        clear HI2 HC0
        obtain ⟨seen, c0, pe', clock', ρ', hit, hc0, hrep, hρ', ho2⟩ := hrel
        have hmap2 := HR.out.map.only ho2 (fun e => e)
        have Hit := hid hit; have Hc0 := hid hc0; have Hrep := hid hrep; have Hρ' := hid hρ'; have Ho2 := hid ho2; have Hmap2 := hid hmap2
        clear hit hc0 hrep hρ' ho2 hmap2
        go_wp2_with (at_next; refine wpList_next_raw rfl _ rfl rfl clock0 c0 seen Hit.out Hmap2.out Hmap2.out.old Hc0.out ?_ ?_)
        · intro hall
          have Hall := hid hall
          clear hall
          go_wp2
          go_ret
          have hrep := Hrep.out
          rw [cloneM_all HR.out (fun p hp => Hall.out p hp)] at hrep
          exact ⟨w.heap.size + 1, fun j => ρ' j ≠ .non, rfl, ⟨gs, cap, w.heap.size, sg, sc, pe', clock', ρ', hrep, fun j hj => hj, fun j hj => (Hρ'.out j hj).2.1⟩, Ho2.out, fun j hj => (Hρ'.out j hj).1⟩
        · intro p hp hne w4 hit4 ho4 hs4 hm4 hlt hen
          obtain ⟨hpk, hprow, hpl, -, hpd⟩ := HR.out.pen p hp
          have HL := hid hpl
          have Ho4 := hid (Ho2.out.trans ho4 (fun j hj e => by have e' : j = w2.heap.size := e; have := Hrw.out; omega))
          have Hrep4 := hid (Hrep.out.only ho4 (fun k hk => (Hρ'.out k hk).2.2))
          have hod : Only (fun _ => False) w4 w4.drew := (Only.refl _ _).drew
          have HC := hid (clone_any w4.drew _ p.l (secV_src (hprow.only (Ho4.out.trans hod (fun _ _ e => e)) (fun e => e)) hpl) (by intro e; rw [e] at hpl; simp at hpl) (by rw [hpl]; decide))
          have hc3 : w4.cell? ⟨w.heap.size + 1, 3, none⟩ = some (.map (some w.heap.size)) := cell_blk Hrep4.out.blk 3
          simp only [Pend.me, secV] at hen
          unfold secV at HC
          have Hbc := hid (blk_lt Hrep4.out.blk)
          have Hod := hid hod
          have Hp := hid hp; have Hne := hid hne; have Hit4 := hid hit4; have Hs4 := hid hs4; have Hm4 := hid hm4; have Hlt := hid hlt; have Hpk := hid hpk
          clear hp hne hit4 ho4 hs4 hm4 hlt hprow hpl hpd hod hpk
          simp only [Pend.me, secV]
          go_wp2_with fail
          go_region_held3 (fun W => W.cell? ⟨w.heap.size + 1, 3, none⟩ = some (.map (some w.heap.size)))
            (first | exact cellK (Hod.out.trans Honly.out (fun _ _ e => e)) Hbc.out hc3 | exact (World.cell?_of_block (Ho6.out.block (w.heap.size + 1) (Nat.lt_of_lt_of_le Hbc.out (Hod.out.trans Honly.out (fun _ _ e => e)).size) (by omega))).trans (cellK (Hod.out.trans Honly.out (fun _ _ e => e)) Hbc.out hc3) | go_keep)
            ((go_at_call 73; refine HC.out.mono ?_; rintro e w5 ⟨v', g', c', rfl, hmade, honly⟩; have hv := hmade.val; rw [HL.out] at hv; subst hv; obtain ⟨w6, hup, hm6, ho6, hs6⟩ := ((Hrep4.out.map.only Hod.out (fun e => e)).only honly (fun e => e)).run_update (P := Try.prog) 126 3 30 Try.underlying126 Try.underlying3 (p.k : Int) (secV g' c'); unfold secV at hup; have Hmade := hid hmade; have Honly := hid honly; have Hm6 := hid hm6; have Ho6 := hid ho6; have Hs6 := hid hs6; clear hmade honly hm6 ho6 hs6))
          go_wp2
          have hrw := Hrw.out
          have hs4 := Hs4.out
          have hsz2 := Ho2.out.size
          have hlo := Hmade.out.lo
          have hhi := Hmade.out.hi
          simp only [World.size_drew] at hlo
          have hsz5 := (Hod.out.trans Honly.out (fun _ _ e => e)).size
          have hs6 := Hs6.out
          have hl2 := blk_lt Hit.out
          have hfree : ρ' g' = .non := by
            cases hρ : ρ' g' with
            | non => rfl
            | _ => have := (Hρ'.out g' (by rw [hρ]; simp)).2.1; omega
          have hw5 : Only (fun _ => False) w4 w5 := Hod.out.trans Honly.out (fun _ _ e => e)
          have hrep6 := ((Hrep4.out.only hw5 (fun _ _ e => e))).putted (show p.k < D.n from Hpk.out) HL.out hfree Hmade.out.row Hm6.out Ho6.out
          rw [cloneM_next HR.out Hp.out] at hrep6
          have hms : ms0 < w.heap.size := blk_lt HR.out.map.blk
          have hit6 := (Ho6.out.block w2.heap.size (by omega) (by omega)).trans ((hw5.block w2.heap.size (blk_lt Hit4.out) (fun e => e)).trans Hit4.out)
          have hm6 := (Hm4.out.only hw5 (fun e => e)).only Ho6.out (show ¬ ms0 = w.heap.size by omega)
          refine ⟨⟨seen ++ [p.t], clock0, _, _, _, hit6, Nat.le_refl _, hrep6, fun k hk => ?_, (Ho4.out.trans hw5 (fun _ _ e => e)).trans Ho6.out (fun j hj e => by have e' : j = w.heap.size := e; omega)⟩, ?_⟩
          · by_cases e : k = g'
            · subst e
              exact ⟨by omega, by omega, by omega⟩
            · simp only [if_neg e] at hk
              have := Hρ'.out k hk
              exact ⟨this.1, by omega, this.2.2⟩
          · rw [mapLeft_congr (w' := w6) (w := w4) (hit6.trans Hit4.out.symm) (hm6.blk.trans Hm4.out.blk.symm)]
            exact Hlt.out
end
end Go.Proofs.Ytepndjojodbhdaa
