/- The disk: Up, Read, Sure. -/
import Derived.Test.YthodcbhejjbhaaaDiskB
namespace Go.Proofs.Ythodcbhejjbhaaa
open Go.RowKit

section
variable {w w' : World} {b : Nat} {D : DiskM} {gs cap ms : Nat} {sg sc : Nat → Nat} {pe : List Pend} {clock : Nat} {ρ : Nat → Role} {F : Nat → Prop}

theorem DiskRep.get_some (h : DiskRep w b D gs cap ms sg sc pe clock ρ) {k : Nat} {l : List UInt8} (hk : D.pend k = some l) :
    ∃ g c, meGet (pe.map Pend.me) (k : Int) = some (secV g c) ∧ Row w g 5 c (bytesV l) ∧ l.length = 128 ∧ ρ g = .pen k := by
  obtain ⟨p, hp, rfl⟩ := h.all k l hk
  have hex : ∃ e ∈ pe.map Pend.me, (e.k == (p.k : Int)) = true := ⟨p.me, List.mem_map_of_mem hp, by simp [Pend.me]⟩
  obtain ⟨e, he⟩ := Option.isSome_iff_exists.1 (List.find?_isSome.2 hex)
  obtain ⟨q, hq, rfl⟩ := List.mem_map.1 (List.mem_of_find?_eq_some he)
  have hqk : q.k = p.k := by have := List.find?_some he; simp [Pend.me] at this; omega
  obtain ⟨a, r, ll, rr, s⟩ := h.pen q hq
  rw [hqk, hk] at s
  obtain rfl := Option.some.inj s
  exact ⟨q.g, q.c, by simp [meGet, he, Pend.me], r, ll, by rw [rr, hqk]⟩

theorem DiskRep.get_none (h : DiskRep w b D gs cap ms sg sc pe clock ρ) {k : Nat} (hk : D.pend k = none) : meGet (pe.map Pend.me) (k : Int) = none := by
  have : (pe.map Pend.me).find? (·.k == (k : Int)) = none := by
    rw [List.find?_eq_none]
    intro e he
    obtain ⟨q, hq, rfl⟩ := List.mem_map.1 he
    obtain ⟨a, r, ll, rr, s⟩ := h.pen q hq
    intro hk'
    have : q.k = k := by simp [Pend.me] at hk'; omega
    rw [this, hk] at s
    cases s
  simp [meGet, this]

theorem zeroBytes (w : World) : (zeroValue 33).run Try.prog w = .ok (.slice none 0 0) w := by kernel_rfl

/-- What a sector reads as: what was written last. -/
def DiskM.cur (D : DiskM) (k : Nat) : List UInt8 := (D.pend k).getD (D.sure k)

theorem DiskRep.sec_cell (h : DiskRep w b D gs cap ms sg sc pe clock ρ) {k : Nat} (hk : k < D.n) : w.cell? ⟨gs, k, none⟩ = some (secV (sg k) (sc k)) := by
  rw [h.arr.cell k (by simpa using hk), secs_get _ _ _ _ hk]

theorem secV_src {g c : Nat} {l : List UInt8} (h : Row w g 5 c (bytesV l)) (hl : l.length = 128) : Src w (secV g c) l := by
  have := h.src; rw [hl] at this; exact this

theorem DiskRep.cur_len (h : DiskRep w b D gs cap ms sg sc pe clock ρ) {k : Nat} (hk : k < D.n) : (D.cur k).length = 128 := by
  unfold DiskM.cur
  cases hp : D.pend k with
  | none => exact (h.sec k hk).2
  | some l => obtain ⟨_, _, _, _, hl, _⟩ := h.get_some hp; exact hl

theorem DiskAt.cur_len (h : DiskAt w b D F) {k : Nat} (hk : k < D.n) : (D.cur k).length = 128 := by
  obtain ⟨gs, cap, ms, sg, sc, pe, clock, ρ, hr, h1, h2⟩ := h
  exact hr.cur_len hk
theorem DiskAt.sure_len (h : DiskAt w b D F) {k : Nat} (hk : k < D.n) : (D.sure k).length = 128 := by
  obtain ⟨gs, cap, ms, sg, sc, pe, clock, ρ, hr, h1, h2⟩ := h
  exact (hr.sec k hk).2
theorem DiskAt.n0 (h : DiskAt w b D F) : 0 < D.n ∧ D.n ≤ 4096 := by
  obtain ⟨gs, cap, ms, sg, sc, pe, clock, ρ, hr, h1, h2⟩ := h
  exact hr.n0
theorem DiskAt.fu (h : DiskAt w b D F) : -1 ≤ D.fuse ∧ D.fuse ≤ 9223372036854775807 := by
  obtain ⟨gs, cap, ms, sg, sc, pe, clock, ρ, hr, h1, h2⟩ := h
  exact hr.fu
theorem DiskAt.pend_lt (h : DiskAt w b D F) {k : Nat} {l : List UInt8} (hk : D.pend k = some l) : k < D.n ∧ l.length = 128 := by
  obtain ⟨gs, cap, ms, sg, sc, pe, clock, ρ, hr, h1, h2⟩ := h
  obtain ⟨p, hp, rfl⟩ := hr.all k l hk
  obtain ⟨a, r, ll, rr, s⟩ := hr.pen p hp
  rw [hk] at s; obtain rfl := Option.some.inj s
  exact ⟨a, ll⟩

set_option maxHeartbeats 400000 in
theorem read_down (h : DiskAt w b D F) (hd : D.down = true) (n : Int) :
    Calls Try.prog 51 #[.pointer (some ⟨b, 0, none⟩), .int .i64 n] w fun e w' => e = .returned (.tuple #[.slice none 0 0, .int .i64 50]) ∧ w = w' := by
  obtain ⟨gs, cap, ms, hc, hz⟩ := h.cells
  rw [hd] at hc
  clear h hd
  go_enter Try.func51, Try.ntmps51
  go_wp2
  go_ret2
  exact ⟨rfl, rfl⟩

set_option maxHeartbeats 400000 in
theorem read_out (h : DiskAt w b D F) (hd : D.down = false) (n : Int) (hn : n < 0 ∨ (D.n : Int) ≤ n) :
    Calls Try.prog 51 #[.pointer (some ⟨b, 0, none⟩), .int .i64 n] w fun e w' => e = .returned (.tuple #[.slice none 0 0, .int .i64 1]) ∧ w = w' := by
  obtain ⟨gs, cap, ms, hc, hz⟩ := h.cells
  rw [hd] at hc
  clear h hd
  by_cases h0 : n < 0
  · go_enter Try.func51, Try.ntmps51
    go_wp2
    go_ret2
    exact ⟨rfl, rfl⟩
  · have h1 : (D.n : Int) ≤ n := by omega
    clear hn
    go_enter Try.func51, Try.ntmps51
    go_wp2
    go_ret2
    exact ⟨rfl, rfl⟩

set_option maxRecDepth 100000 in
set_option maxHeartbeats 400000 in
theorem read_ok (h : DiskAt w b D F) (hd : D.down = false) (n : Int) (h0 : 0 ≤ n) (h1 : n < D.n) :
    Calls Try.prog 51 #[.pointer (some ⟨b, 0, none⟩), .int .i64 n] w fun e w' => ∃ g c, e = .returned (.tuple #[secV g c, .int .i64 0]) ∧ MadeC w w' (secV g c) (D.cur n.toNat) g c ∧ Only (fun _ => False) w w' := by
  obtain ⟨k, rfl⟩ := Int.eq_ofNat_of_zero_le h0
  obtain ⟨gs, cap, ms, sg, sc, pe, clock, ρ, hr, hq1, hq2⟩ := h
  have hk : k < D.n := by omega
  have hc := cell_blk hr.blk
  unfold diskCells at hc
  rw [hd] at hc
  have hlk := hr.map.run_lookup (P := Try.prog) 70 3 33 Try.underlying70 Try.underlying3 _ (zeroBytes w) k
  have hlen := hr.cur_len hk
  have hne : D.cur k ≠ [] := by intro e; rw [e] at hlen; simp at hlen
  have HS : Hid (∀ v : Value, (Src w v (D.cur k)) → Calls Try.prog 70 #[v] w fun e w' => ∃ v' g c, e = .returned v' ∧ MadeC w w' v' (D.cur k) g c ∧ Only (fun _ => False) w w') := fun v hv => clone_any w v _ hv hne (by omega)
  have HL := hid hlen
  cases hp : D.pend k with
  | some l =>
    obtain ⟨g, c, hg, hrow, hl, _⟩ := hr.get_some hp
    have hsrc : Src w (.slice (some ⟨g, 0, none⟩) 128 c) (D.cur k) := by have := secV_src hrow hl; simp only [DiskM.cur, hp, Option.getD_some]; exact this
    have HSrc := hid hsrc
    rw [hg] at hlk
    simp only [Option.getD_some, Option.isSome_some, secV] at hlk
    clear hr hq1 hq2 hlen hne hp hg hrow hsrc hd
    go_enter Try.func51, Try.ntmps51
    go_wp2_with (go_at_call 70; refine (HS.out _ HSrc.out).mono ?_; rintro e w' ⟨v', g', c', rfl, hmade, honly⟩)
    go_ret2
    have hv := hmade.val
    rw [HL.out] at hv
    subst hv
    exact ⟨g', c', rfl, hmade, honly⟩
  | none =>
    have hg := hr.get_none hp
    rw [hg] at hlk
    simp only [Option.getD_none, Option.isSome_none] at hlk
    have hsec := hr.sec_cell hk
    have hsrc : Src w (.slice (some ⟨sg k, 0, none⟩) 128 (sc k)) (D.cur k) := by
      have := secV_src (hr.sec k hk).1 (hr.sec k hk).2; simp only [DiskM.cur, hp, Option.getD_none]; exact this
    have HSrc := hid hsrc
    unfold secV at hsec
    clear hr hq1 hq2 hlen hne hp hg hsrc hd
    go_enter Try.func51, Try.ntmps51
    go_wp2_with (go_at_call 70; refine (HS.out _ HSrc.out).mono ?_; rintro e w' ⟨v', g', c', rfl, hmade, honly⟩)
    go_ret2
    have hv := hmade.val
    rw [HL.out] at hv
    subst hv
    exact ⟨g', c', rfl, hmade, honly⟩

def DiskM.up (D : DiskM) : DiskM := { D with pend := if D.down then fun _ => none else D.pend, down := false }
end
end Go.Proofs.Ythodcbhejjbhaaa
