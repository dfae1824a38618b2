/- The disk: Up, Sure, Spoil, Write. -/
import Derived.Test.YthodcbhejjbhaaaDiskC
import Derived.Deep.RegionHeld3
namespace Go.Proofs.Ythodcbhejjbhaaa
open Go.RowKit

section
variable {w w' : World} {b : Nat} {D : DiskM} {gs cap ms : Nat} {sg sc : Nat → Nat} {pe : List Pend} {clock : Nat} {ρ : Nat → Role} {F : Nat → Prop}

/-- The map is emptied. -/
theorem DiskRep.cleared (h : DiskRep w b D gs cap ms sg sc pe clock ρ) {c' : Nat} (hm : IMap w' ms [] c') (ho : Only (fun k => k = ms) w w') : DiskRep w' b { D with pend := fun _ => none } gs cap ms sg sc [] c' ρ := by
  have nb : ∀ k, ρ k ≠ .map → ¬ k = ms := fun k hk e => hk (by rw [e]; exact h.rm)
  exact ⟨blk_only h.blk ho (nb _ (by rw [h.rb]; simp)), h.arr.only ho (nb _ (by rw [h.rg]; simp)), fun i hi => ⟨(h.sec i hi).1.only ho (nb _ (by rw [h.rs i hi]; simp)), (h.sec i hi).2⟩,
    hm, by simp, by simp, h.n0, h.fu, h.rb, h.rg, h.rm, h.rs⟩

def pePut (pe : List Pend) (k g c : Nat) (l : List UInt8) (clock : Nat) : List Pend :=
  if pe.any (·.k == k) then pe.map (fun p => if p.k == k then { p with g := g, c := c, l := l } else p) else pe ++ [⟨k, g, c, l, clock⟩]

theorem pePut_me (pe : List Pend) (k g c : Nat) (l : List UInt8) (clock : Nat) : (pePut pe k g c l clock).map Pend.me = mePut (pe.map Pend.me) k (secV g c) clock := by
  have hq : ∀ p : Pend, (p.me.k == (k : Int)) = (p.k == k) := fun p => by rw [Bool.eq_iff_iff]; simp [Pend.me]; omega
  have ha : (pe.map Pend.me).any (·.k == (k : Int)) = pe.any (·.k == k) := by rw [List.any_map]; congr 1; funext p; exact hq p
  unfold pePut mePut
  rw [ha]
  split
  · rw [List.map_map, List.map_map]
    refine List.map_congr_left fun p _ => ?_
    simp only [Function.comp_apply, hq]
    by_cases h : p.k = k <;> simp [h, Pend.me]
  · simp [Pend.me]

theorem mem_pePut {pe : List Pend} {k g c : Nat} {l : List UInt8} {clock : Nat} {p : Pend} (h : p ∈ pePut pe k g c l clock) :
    (p.k = k ∧ p.g = g ∧ p.c = c ∧ p.l = l) ∨ (p ∈ pe ∧ p.k ≠ k) := by
  unfold pePut at h
  split at h
  · obtain ⟨q, hq, rfl⟩ := List.mem_map.1 h
    by_cases hk : q.k = k
    · left; simp [hk]
    · right; simp [hk, hq]
  · rename_i ha
    rcases List.mem_append.1 h with h | h
    · right
      refine ⟨h, fun e => ha ?_⟩
      rw [List.any_eq_true]; exact ⟨p, h, by simpa using e⟩
    · left; obtain rfl := List.mem_singleton.1 h; exact ⟨rfl, rfl, rfl, rfl⟩
theorem has_pePut (pe : List Pend) (k g c : Nat) (l : List UInt8) (clock : Nat) (j : Nat) (h : j = k ∨ ∃ p ∈ pe, p.k = j) : ∃ p ∈ pePut pe k g c l clock, p.k = j := by
  unfold pePut
  split
  · rename_i ha
    rcases h with rfl | ⟨p, hp, rfl⟩
    · obtain ⟨p, hp, hk⟩ := List.any_eq_true.1 ha
      refine ⟨_, List.mem_map_of_mem hp, ?_⟩
      have : p.k = j := by simpa using hk
      simp [this]
    · refine ⟨_, List.mem_map_of_mem hp, ?_⟩
      by_cases e : p.k = k <;> simp [e]
  · rcases h with rfl | ⟨p, hp, rfl⟩
    · exact ⟨⟨j, g, c, l, clock⟩, by simp, rfl⟩
    · exact ⟨p, by simp [hp], rfl⟩

def DiskM.put (D : DiskM) (k : Nat) (l : List UInt8) : DiskM := { D with pend := fun j => if j = k then some l else D.pend j }

/-- An entry is laid into the map: a new row. -/
theorem DiskRep.putted (h : DiskRep w b D gs cap ms sg sc pe clock ρ) {k g c c' : Nat} {l : List UInt8} (hk : k < D.n) (hl : l.length = 128) (hg : ρ g = .non)
    (hrow : Row w g 5 c (bytesV l)) (hm : IMap w' ms (mePut (pe.map Pend.me) k (secV g c) clock) c') (ho : Only (fun j => j = ms) w w') :
    DiskRep w' b (D.put k l) gs cap ms sg sc (pePut pe k g c l clock) c' (fun x => if x = g then .pen k else ρ x) := by
  have nb : ∀ j, ρ j ≠ .map → ¬ j = ms := fun j hj e => hj (by rw [e]; exact h.rm)
  have ng : ∀ j, ρ j ≠ .non → ¬ j = g := fun j hj e => hj (by rw [e]; exact hg)
  refine ⟨blk_only h.blk ho (nb _ (by rw [h.rb]; simp)), h.arr.only ho (nb _ (by rw [h.rg]; simp)), fun i hi => ⟨(h.sec i hi).1.only ho (nb _ (by rw [h.rs i hi]; simp)), (h.sec i hi).2⟩,
    by rw [pePut_me]; exact hm, ?_, ?_, h.n0, h.fu, ?_, ?_, ?_, ?_⟩
  · intro p hp
    rcases mem_pePut hp with ⟨e1, e2, e3, e4⟩ | ⟨hp', hne⟩
    · rw [e1, e2, e3, e4]
      exact ⟨hk, hrow.only ho (nb _ (by rw [hg]; simp)), hl, by simp, by simp [DiskM.put]⟩
    · obtain ⟨a, r, ll, q, s⟩ := h.pen p hp'
      exact ⟨a, r.only ho (nb _ (by rw [q]; simp)), ll, by rw [if_neg (ng _ (by rw [q]; simp))]; exact q, by simp [DiskM.put, hne, s]⟩
  · intro j l' hj
    refine has_pePut _ _ _ _ _ _ _ ?_
    by_cases e : j = k
    · exact .inl e
    · right
      simp only [DiskM.put, if_neg e] at hj
      exact h.all j l' hj
  · show (if b = g then _ else _) = _
    rw [if_neg (ng _ (by rw [h.rb]; simp))]; exact h.rb
  · show (if gs = g then _ else _) = _
    rw [if_neg (ng _ (by rw [h.rg]; simp))]; exact h.rg
  · show (if ms = g then _ else _) = _
    rw [if_neg (ng _ (by rw [h.rm]; simp))]; exact h.rm
  · intro i hi
    show (if sg i = g then _ else _) = _
    rw [if_neg (ng _ (by rw [h.rs i hi]; simp))]; exact h.rs i hi

set_option maxRecDepth 100000 in
set_option maxHeartbeats 400000 in
theorem up_c (h : DiskAt w b D F) : Calls Try.prog 25 #[.pointer (some ⟨b, 0, none⟩)] w fun e w' => e = .returned (.tuple #[]) ∧ DiskAt w' b D.up F ∧ Only F w w' := by
  have H := hid h
  obtain ⟨gs, cap, ms, sg, sc, pe, clock, ρ, hr, h1, h2⟩ := h
  obtain ⟨w1, hcl, hm1, ho1, hs1⟩ := hr.map.run_clear (P := Try.prog) 70 3 33 Try.underlying70
  have hr1 := hr.cleared hm1 ho1
  have hc := cell_blk hr.blk
  have hz := frozen_blk hr.blk
  have hc1 := cell_blk hr1.blk
  have hz1 := frozen_blk hr1.blk
  have HF1 : Hid (F ms) := hid (h1 ms (by rw [hr.rm]; simp))
  unfold diskCells at hc hc1
  have HR1 := hid hr1; have HO := hid ho1; have HS := hid hs1; have H1 := hid h1; have H2 := hid h2
  clear hr h1 h2 hr1 hm1 ho1 hs1
  cases hd : D.down with
  | true =>
    have e2 : D.up = { D with pend := fun _ => none, down := false } := by simp [DiskM.up, hd]
    have E2 := hid e2
    rw [hd] at hc hc1
    clear hd e2
    go_enter Try.func25, Try.ntmps25
    go_wp2
    go_end0
    have hat1 : DiskAt w1 b { D with pend := fun _ => none } F := ⟨gs, cap, ms, sg, sc, [], clock, ρ, HR1.out, H1.out, fun k hk => by rw [HS.out]; exact H2.out k hk⟩
    have := hat1.upd (only_set b 4 (.bool false)) { D with pend := fun _ => none, down := false } rfl rfl rfl H.out.fu (fun gs cap ms hb => by rw [blk_set hb]; simp [diskCells])
    rw [E2.out]
    exact ⟨rfl, this.1, (HO.out.mono (fun k _ e => e ▸ HF1.out)).trans this.2 (fun _ _ e => e)⟩
  | false =>
    have e2 : D.up = { D with down := false } := by simp [DiskM.up, hd]
    have E2 := hid e2
    rw [hd] at hc
    clear hd e2 hc1 hz1
    go_enter Try.func25, Try.ntmps25
    go_wp2
    go_end0
    rw [E2.out]
    have := H.out.upd (only_set b 4 (.bool false)) { D with down := false } rfl rfl rfl H.out.fu (fun gs cap ms hb => by rw [blk_set hb]; simp [diskCells])
    exact ⟨rfl, this.1, this.2⟩


end
end Go.Proofs.Ythodcbhejjbhaaa
