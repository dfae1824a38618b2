/- The disk: how it lies in memory, and what its small methods do. The disk's methods that look at its struct, and turn its plain cells alone. The disk: Up, Read, Sure. The disk: Up, Sure, Spoil, Write. The disk: Write. Plain laws: a range over a map keyed by int, at the raw block. The disk: Flush. The disk: New. slices.Contains at ints; the disk: Spoil. What an argument reads as, in the words of the walks: bytes, ints. The disk: Crash. The law's own helpers on bytes: full, sector. The law's own list of operations: fits. DiskFuse: the walk. -/
import Derived.Test.YtfmdngeooelcpaaGreatClone
import Derived.Deep.RegionHeld3
import Derived.Test.YtfmdngeooelcpaaGreatLaws
import Derived.Maps.RangeWalk
import Derived.Deep.RegionLaw
import Derived.ProofKit
import Derived.OpenShut
import Derived.ShutString
import Derived.ChangeOld
import Derived.Deep.Slices
import Derived.StillTailTactics
namespace Go.Proofs.YtfmdngeooelcpaaGreat
open Go.RowKit

/-- A disk, as a plain thing: how often it was written and flushed (as the counters have it), its sectors, what isn't durable, whether the power is gone, the fuse. -/
structure DiskM where
  nw : Int
  nf : Int
  n : Nat
  sure : Nat → List UInt8
  pend : Nat → Option (List UInt8)
  down : Bool
  fuse : Int

inductive Role where
  | str | arr | map | sec (i : Nat) | pen (k : Nat) | non

/-- An entry of the map of what isn't durable. -/
structure Pend where
  k : Nat
  g : Nat
  c : Nat
  l : List UInt8
  t : Nat
def secV (g c : Nat) : Value := .slice (some ⟨g, 0, none⟩) 128 c
def Pend.me (p : Pend) : ME := ⟨p.k, secV p.g p.c, p.t⟩
def secs (n : Nat) (sg sc : Nat → Nat) : List Value := (List.range n).map fun i => secV (sg i) (sc i)
@[simp] theorem length_secs (n : Nat) (sg sc : Nat → Nat) : (secs n sg sc).length = n := by simp [secs]
theorem secs_get (n : Nat) (sg sc : Nat → Nat) (i : Nat) (h : i < n) : (secs n sg sc)[i]? = some (secV (sg i) (sc i)) := by simp [secs, h]

def diskCells (D : DiskM) (gs cap ms : Nat) : Array Value :=
  #[.int .i64 D.nw, .int .i64 D.nf, .slice (some ⟨gs, 0, none⟩) D.n cap, .map (some ms), .bool D.down, .int .i64 D.fuse]

structure DiskRep (w : World) (b : Nat) (D : DiskM) (gs cap ms : Nat) (sg sc : Nat → Nat) (pe : List Pend) (clock : Nat) (ρ : Nat → Role) : Prop where
  blk : w.heap[b]? = some (.cells (diskCells D gs cap ms) 70 (0, 0))
  arr : Row w gs 31 cap (secs D.n sg sc)
  sec : ∀ i, i < D.n → Row w (sg i) 5 (sc i) (bytesV (D.sure i)) ∧ (D.sure i).length = 128
  map : IMap w ms (pe.map Pend.me) clock
  pen : ∀ p ∈ pe, p.k < D.n ∧ Row w p.g 5 p.c (bytesV p.l) ∧ p.l.length = 128 ∧ ρ p.g = .pen p.k ∧ D.pend p.k = some p.l
  all : ∀ k l, D.pend k = some l → ∃ p ∈ pe, p.k = k
  n0 : 0 < D.n ∧ D.n ≤ 4096
  fu : -1 ≤ D.fuse ∧ D.fuse ≤ 9223372036854775807
  rb : ρ b = .str
  rg : ρ gs = .arr
  rm : ρ ms = .map
  rs : ∀ i, i < D.n → ρ (sg i) = .sec i

/-- At block b lies a disk; all its blocks are among F. -/
def DiskAt (w : World) (b : Nat) (D : DiskM) (F : Nat → Prop) : Prop :=
  ∃ gs cap ms sg sc pe clock ρ, DiskRep w b D gs cap ms sg sc pe clock ρ ∧ (∀ k, ρ k ≠ .non → F k) ∧ ∀ k, F k → k < w.heap.size

/-- What a step on a disk leaves: a disk, in its own blocks or new ones; no other block has turned. -/
def DStep (w w' : World) (b : Nat) (D : DiskM) (F : Nat → Prop) : Prop :=
  ∃ F', DiskAt w' b D F' ∧ Only F w w' ∧ ∀ k, F' k → F k ∨ w.heap.size ≤ k

theorem DiskRep.only {w w' : World} {b : Nat} {D : DiskM} {gs cap ms : Nat} {sg sc : Nat → Nat} {pe : List Pend} {clock : Nat} {ρ : Nat → Role}
    (h : DiskRep w b D gs cap ms sg sc pe clock ρ) {G : Nat → Prop} (g : Only G w w') (hd : ∀ k, ρ k ≠ .non → ¬ G k) : DiskRep w' b D gs cap ms sg sc pe clock ρ :=
  ⟨blk_only h.blk g (hd _ (by rw [h.rb]; simp)), h.arr.only g (hd _ (by rw [h.rg]; simp)),
   fun i hi => ⟨(h.sec i hi).1.only g (hd _ (by rw [h.rs i hi]; simp)), (h.sec i hi).2⟩,
   h.map.only g (hd _ (by rw [h.rm]; simp)),
   fun p hp => let ⟨a, r, l, q, s⟩ := h.pen p hp; ⟨a, r.only g (hd _ (by rw [q]; simp)), l, q, s⟩,
   h.all, h.n0, h.fu, h.rb, h.rg, h.rm, h.rs⟩

theorem DiskAt.only {w w' : World} {b : Nat} {D : DiskM} {F G : Nat → Prop} (h : DiskAt w b D F) (g : Only G w w') (hd : ∀ k, F k → ¬ G k) : DiskAt w' b D F := by
  obtain ⟨gs, cap, ms, sg, sc, pe, clock, ρ, hr, h1, h2⟩ := h
  exact ⟨gs, cap, ms, sg, sc, pe, clock, ρ, hr.only g (fun k hk => hd k (h1 k hk)), h1, fun k hk => Nat.lt_of_lt_of_le (h2 k hk) g.size⟩

theorem DiskAt.lt {w : World} {b : Nat} {D : DiskM} {F : Nat → Prop} (h : DiskAt w b D F) {k : Nat} (hk : F k) : k < w.heap.size := by
  obtain ⟨gs, cap, ms, sg, sc, pe, clock, ρ, hr, h1, h2⟩ := h
  exact h2 k hk
theorem DiskAt.has {w : World} {b : Nat} {D : DiskM} {F : Nat → Prop} (h : DiskAt w b D F) : F b := by
  obtain ⟨gs, cap, ms, sg, sc, pe, clock, ρ, hr, h1, h2⟩ := h
  exact h1 b (by rw [hr.rb]; simp)
theorem DiskAt.step {w w' : World} {b : Nat} {D : DiskM} {F : Nat → Prop} (h : DiskAt w' b D F) (g : Only F w w') : DStep w w' b D F := ⟨F, h, g, fun _ hk => .inl hk⟩
theorem DiskAt.same {w : World} {b : Nat} {D : DiskM} {F : Nat → Prop} (h : DiskAt w b D F) : DStep w w b D F := h.step (Only.refl _ _)

section
variable {w w' : World} {b : Nat} {D : DiskM} {gs cap ms : Nat} {sg sc : Nat → Nat} {pe : List Pend} {clock : Nat} {ρ : Nat → Role}
/-- The plain cells of the disk's own struct are others. -/
theorem DiskRep.upd (h : DiskRep w b D gs cap ms sg sc pe clock ρ) (ho : Only (fun k => k = b) w w') (D' : DiskM) (hn : D'.n = D.n) (hs : D'.sure = D.sure) (hp : D'.pend = D.pend)
    (hb : w'.heap[b]? = some (.cells (diskCells D' gs cap ms) 70 (0, 0))) (hf : -1 ≤ D'.fuse ∧ D'.fuse ≤ 9223372036854775807) : DiskRep w' b D' gs cap ms sg sc pe clock ρ := by
  have nb : ∀ k, ρ k ≠ .str → k ≠ b := fun k hk e => hk (by rw [e]; exact h.rb)
  refine ⟨hb, ?_, ?_, ?_, ?_, ?_, ?_, hf, h.rb, h.rg, h.rm, ?_⟩
  · rw [hn]; exact h.arr.only ho (nb _ (by rw [h.rg]; simp))
  · intro i hi; rw [hn] at hi; rw [hs]; exact ⟨(h.sec i hi).1.only ho (nb _ (by rw [h.rs i hi]; simp)), (h.sec i hi).2⟩
  · exact h.map.only ho (nb _ (by rw [h.rm]; simp))
  · intro p hpp; obtain ⟨a, r, l, q, s⟩ := h.pen p hpp; rw [hn, hp]; exact ⟨a, r.only ho (nb _ (by rw [q]; simp)), l, q, s⟩
  · rw [hp]; exact h.all
  · rw [hn]; exact h.n0
  · intro i hi; rw [hn] at hi; exact h.rs i hi
end

def DiskM.burn (D : DiskM) : DiskM := if D.fuse < 0 then D else if D.fuse = 0 then { D with down := true, fuse := -1 } else { D with fuse := D.fuse - 1 }
def DiskM.burns (D : DiskM) : Bool := D.fuse != 0

set_option maxHeartbeats 400000 in
theorem burn_c {w : World} {b : Nat} {D : DiskM} {F : Nat → Prop} (h : DiskAt w b D F) :
    Calls Tryz.prog 82 #[.pointer (some ⟨b, 0, none⟩)] w fun e w' => e = .returned (.bool D.burns) ∧ DiskAt w' b D.burn F ∧ Only F w w' := by
  have hF := hid h.has
  obtain ⟨gs, cap, ms, sg, sc, pe, clock, ρ, hr, h1, h2⟩ := h
  have hc := cell_blk hr.blk
  have hz := frozen_blk hr.blk
  have hfu := hr.fu
  have H1 := hid h1; have H2 := hid h2; have HR := hid hr
  clear hr h1 h2
  unfold diskCells at hc
  by_cases hneg : D.fuse < 0
  · have e1 : D.burns = true := by simp [DiskM.burns]; omega
    have e2 : D.burn = D := by simp [DiskM.burn, hneg]
    have E1 := hid e1; have E2 := hid e2
    clear e1 e2
    go_enter Tryz.func82, Tryz.ntmps82
    go_wp2
    go_ret
    rw [E1.out, E2.out]
    exact ⟨rfl, ⟨gs, cap, ms, sg, sc, pe, clock, ρ, HR.out, H1.out, H2.out⟩, Only.refl _ _⟩
  · by_cases h0 : D.fuse = 0
    · have e1 : D.burns = false := by simp [DiskM.burns, h0]
      have e2 : D.burn = { D with down := true, fuse := -1 } := by simp [DiskM.burn, h0]
      have E1 := hid e1; have E2 := hid e2
      have hb0 : (D.fuse == 0) = true := by simp [h0]
      clear e1 e2 h0
      go_enter Tryz.func82, Tryz.ntmps82
      go_wp2
      go_ret
      rw [E1.out, E2.out]
      have ho : Only (fun k => k = b) w ((w.setCell ⟨b, 4, none⟩ (.bool true)).setCell ⟨b, 5, none⟩ (.int .i64 (-1))) := (only_set b 4 _).trans (only_set b 5 _) (fun k _ e => e)
      refine ⟨rfl, ⟨gs, cap, ms, sg, sc, pe, clock, ρ, HR.out.upd ho _ rfl rfl rfl (blk_set (blk_set HR.out.blk 4 _) 5 _) (by constructor <;> simp), H1.out, fun k hk => by simpa using H2.out k hk⟩, ho.mono (fun k _ e => e ▸ hF.out)⟩
    · have e1 : D.burns = true := by simp [DiskM.burns, h0]
      have e2 : D.burn = { D with fuse := D.fuse - 1 } := by simp [DiskM.burn, h0, hneg]
      have E1 := hid e1; have E2 := hid e2
      have hb0 : (D.fuse == 0) = false := by simp [h0]
      clear e1 e2
      go_enter Tryz.func82, Tryz.ntmps82
      go_wp2
      go_ret
      rw [E1.out, E2.out]
      have ho : Only (fun k => k = b) w (w.setCell ⟨b, 5, none⟩ (.int .i64 (D.fuse - 1))) := only_set b 5 _
      exact ⟨rfl, ⟨gs, cap, ms, sg, sc, pe, clock, ρ, HR.out.upd ho _ rfl rfl rfl (blk_set HR.out.blk 5 _) (by constructor <;> simp <;> omega), H1.out, fun k hk => by simpa using H2.out k hk⟩, ho.mono (fun k _ e => e ▸ hF.out)⟩
end Go.Proofs.YtfmdngeooelcpaaGreat
namespace Go.Proofs.YtfmdngeooelcpaaGreat
open Go.RowKit


theorem add64 (w : World) (b o : Nat) (x : Int) (hc : w.cell? ⟨b, o, none⟩ = some (.int .i64 x)) (hz : w.frozen? ⟨b, o, none⟩ = false) :
    Calls Tryz.prog 83 #[.pointer (some ⟨b, o, none⟩), .int .i64 1] w fun e w' => e = .returned (.int .i64 (wrap64 (x + 1))) ∧ w' = w.setCell ⟨b, o, none⟩ (.int .i64 (wrap64 (x + 1))) := by
  have hl := run_call_add (P := Tryz.prog) Tryz.func94 (by kernel_rfl) (by kernel_rfl) (by kernel_rfl) .i64 (by kernel_rfl) (y := 1) (s := wrap64 (x + 1)) hc hz (by simp [go_sem, wrap64, IntKind.wrap_i64])
  go_enter Tryz.func83, Tryz.ntmps83
  go_wp2
  go_ret
  exact ⟨rfl, rfl⟩

section
variable {w : World} {b : Nat} {D : DiskM} {F : Nat → Prop}

theorem DiskAt.cells (h : DiskAt w b D F) : ∃ gs cap ms, (∀ o, w.cell? ⟨b, o, none⟩ = (#[.int .i64 D.nw, .int .i64 D.nf, .slice (some ⟨gs, 0, none⟩) D.n cap, .map (some ms), .bool D.down, .int .i64 D.fuse] : Array Value)[o]?) ∧ ∀ o, w.frozen? ⟨b, o, none⟩ = false := by
  obtain ⟨gs, cap, ms, sg, sc, pe, clock, ρ, hr, h1, h2⟩ := h
  exact ⟨gs, cap, ms, cell_blk hr.blk, frozen_blk hr.blk⟩

/-- The plain cells of the disk's own struct are others. -/
theorem DiskAt.upd {w' : World} (h : DiskAt w b D F) (ho : Only (fun k => k = b) w w') (D' : DiskM) (hn : D'.n = D.n) (hs : D'.sure = D.sure) (hp : D'.pend = D.pend) (hf : -1 ≤ D'.fuse ∧ D'.fuse ≤ 9223372036854775807)
    (hb : ∀ gs cap ms, w.heap[b]? = some (.cells (diskCells D gs cap ms) 70 (0, 0)) → w'.heap[b]? = some (.cells (diskCells D' gs cap ms) 70 (0, 0))) : DiskAt w' b D' F ∧ Only F w w' := by
  have hF := h.has
  obtain ⟨gs, cap, ms, sg, sc, pe, clock, ρ, hr, h1, h2⟩ := h
  exact ⟨⟨gs, cap, ms, sg, sc, pe, clock, ρ, hr.upd ho D' hn hs hp (hb _ _ _ hr.blk) hf, h1, fun k hk => Nat.lt_of_lt_of_le (h2 k hk) ho.size⟩, ho.mono (fun k _ e => e ▸ hF)⟩


theorem sectors_c (h : DiskAt w b D F) : Calls Tryz.prog 42 #[.pointer (some ⟨b, 0, none⟩)] w fun e w' => e = .returned (.int .i64 D.n) ∧ w = w' := by
  obtain ⟨gs, cap, ms, hc, hz⟩ := h.cells
  clear h
  go_enter Tryz.func42, Tryz.ntmps42
  go_wp2
  go_ret
  exact ⟨rfl, rfl⟩



end
end Go.Proofs.YtfmdngeooelcpaaGreat
namespace Go.Proofs.YtfmdngeooelcpaaGreat
open Go.RowKit

section
variable {w w' : World} {b : Nat} {D : DiskM} {gs cap ms : Nat} {sg sc : Nat → Nat} {pe : List Pend} {clock : Nat} {ρ : Nat → Role} {F : Nat → Prop}

theorem DiskRep.get_some (h : DiskRep w b D gs cap ms sg sc pe clock ρ) {k : Nat} {l : List UInt8} (hk : D.pend k = some l) :
    ∃ g c, meGet (pe.map Pend.me) (k : Int) = some (secV g c) ∧ Row w g 5 c (bytesV l) ∧ l.length = 128 ∧ ρ g = .pen k := by
  obtain ⟨p, hp, rfl⟩ := h.all k l hk
  have hex : ∃ e ∈ pe.map Pend.me, (e.k == (p.k : Int)) = true := ⟨p.me, List.mem_map_of_mem hp, by simp [Pend.me]⟩
  obtain ⟨e, he⟩ := Option.isSome_iff_exists.1 (List.find?_isSome.2 hex)
  obtain ⟨q, hq, rfl⟩ := List.mem_map.1 (List.mem_of_find?_eq_some he)
  have hqk : q.k = p.k := by have := List.find?_some he; simp [Pend.me] at this; omega
  obtain ⟨a, r, ll, rr, s⟩ := h.pen q hq
  rw [hqk, hk] at s
  obtain rfl := Option.some.inj s
  exact ⟨q.g, q.c, by simp [meGet, he, Pend.me], r, ll, by rw [rr, hqk]⟩

theorem DiskRep.get_none (h : DiskRep w b D gs cap ms sg sc pe clock ρ) {k : Nat} (hk : D.pend k = none) : meGet (pe.map Pend.me) (k : Int) = none := by
  have : (pe.map Pend.me).find? (·.k == (k : Int)) = none := by
    rw [List.find?_eq_none]
    intro e he
    obtain ⟨q, hq, rfl⟩ := List.mem_map.1 he
    obtain ⟨a, r, ll, rr, s⟩ := h.pen q hq
    intro hk'
    have : q.k = k := by simp [Pend.me] at hk'; omega
    rw [this, hk] at s
    cases s
  simp [meGet, this]

theorem zeroBytes (w : World) : (zeroValue 31).run Tryz.prog w = .ok (.slice none 0 0) w := by kernel_rfl

/-- What a sector reads as: what was written last. -/
def DiskM.cur (D : DiskM) (k : Nat) : List UInt8 := (D.pend k).getD (D.sure k)

theorem DiskRep.sec_cell (h : DiskRep w b D gs cap ms sg sc pe clock ρ) {k : Nat} (hk : k < D.n) : w.cell? ⟨gs, k, none⟩ = some (secV (sg k) (sc k)) := by
  rw [h.arr.cell k (by simpa using hk), secs_get _ _ _ _ hk]

theorem secV_src {g c : Nat} {l : List UInt8} (h : Row w g 5 c (bytesV l)) (hl : l.length = 128) : Src w (secV g c) l := by
  have := h.src; rw [hl] at this; exact this

theorem DiskRep.cur_len (h : DiskRep w b D gs cap ms sg sc pe clock ρ) {k : Nat} (hk : k < D.n) : (D.cur k).length = 128 := by
  unfold DiskM.cur
  cases hp : D.pend k with
  | none => exact (h.sec k hk).2
  | some l => obtain ⟨_, _, _, _, hl, _⟩ := h.get_some hp; exact hl

theorem DiskAt.cur_len (h : DiskAt w b D F) {k : Nat} (hk : k < D.n) : (D.cur k).length = 128 := by
  obtain ⟨gs, cap, ms, sg, sc, pe, clock, ρ, hr, h1, h2⟩ := h
  exact hr.cur_len hk
theorem DiskAt.n0 (h : DiskAt w b D F) : 0 < D.n ∧ D.n ≤ 4096 := by
  obtain ⟨gs, cap, ms, sg, sc, pe, clock, ρ, hr, h1, h2⟩ := h
  exact hr.n0
theorem DiskAt.fu (h : DiskAt w b D F) : -1 ≤ D.fuse ∧ D.fuse ≤ 9223372036854775807 := by
  obtain ⟨gs, cap, ms, sg, sc, pe, clock, ρ, hr, h1, h2⟩ := h
  exact hr.fu
set_option maxHeartbeats 400000 in
theorem read_down (h : DiskAt w b D F) (hd : D.down = true) (n : Int) :
    Calls Tryz.prog 44 #[.pointer (some ⟨b, 0, none⟩), .int .i64 n] w fun e w' => e = .returned (.tuple #[.slice none 0 0, .int .i64 50]) ∧ w = w' := by
  obtain ⟨gs, cap, ms, hc, hz⟩ := h.cells
  rw [hd] at hc
  clear h hd
  go_enter Tryz.func44, Tryz.ntmps44
  go_wp2
  go_ret2
  exact ⟨rfl, rfl⟩

set_option maxRecDepth 100000 in
set_option maxHeartbeats 400000 in
theorem read_ok (h : DiskAt w b D F) (hd : D.down = false) (n : Int) (h0 : 0 ≤ n) (h1 : n < D.n) :
    Calls Tryz.prog 44 #[.pointer (some ⟨b, 0, none⟩), .int .i64 n] w fun e w' => ∃ g c, e = .returned (.tuple #[secV g c, .int .i64 0]) ∧ MadeC w w' (secV g c) (D.cur n.toNat) g c ∧ Only (fun _ => False) w w' := by
  obtain ⟨k, rfl⟩ := Int.eq_ofNat_of_zero_le h0
  obtain ⟨gs, cap, ms, sg, sc, pe, clock, ρ, hr, hq1, hq2⟩ := h
  have hk : k < D.n := by omega
  have hc := cell_blk hr.blk
  unfold diskCells at hc
  rw [hd] at hc
  have hlk := hr.map.run_lookup (P := Tryz.prog) 60 3 31 Tryz.underlying60 Tryz.underlying3 _ (zeroBytes w) k
  have hlen := hr.cur_len hk
  have hne : D.cur k ≠ [] := by intro e; rw [e] at hlen; simp at hlen
  have HS : Hid (∀ v : Value, (Src w v (D.cur k)) → Calls Tryz.prog 74 #[v] w fun e w' => ∃ v' g c, e = .returned v' ∧ MadeC w w' v' (D.cur k) g c ∧ Only (fun _ => False) w w') := fun v hv => clone_any w v _ hv hne (by omega)
  have HL := hid hlen
  cases hp : D.pend k with
  | some l =>
    obtain ⟨g, c, hg, hrow, hl, _⟩ := hr.get_some hp
    have hsrc : Src w (.slice (some ⟨g, 0, none⟩) 128 c) (D.cur k) := by have := secV_src hrow hl; simp only [DiskM.cur, hp, Option.getD_some]; exact this
    have HSrc := hid hsrc
    rw [hg] at hlk
    simp only [Option.getD_some, Option.isSome_some, secV] at hlk
    clear hr hq1 hq2 hlen hne hp hg hrow hsrc hd
    go_enter Tryz.func44, Tryz.ntmps44
    go_wp2_with (go_at_call 74; refine (HS.out _ HSrc.out).mono ?_; rintro e w' ⟨v', g', c', rfl, hmade, honly⟩)
    go_ret2
    have hv := hmade.val
    rw [HL.out] at hv
    subst hv
    exact ⟨g', c', rfl, hmade, honly⟩
  | none =>
    have hg := hr.get_none hp
    rw [hg] at hlk
    simp only [Option.getD_none, Option.isSome_none] at hlk
    have hsec := hr.sec_cell hk
    have hsrc : Src w (.slice (some ⟨sg k, 0, none⟩) 128 (sc k)) (D.cur k) := by
      have := secV_src (hr.sec k hk).1 (hr.sec k hk).2; simp only [DiskM.cur, hp, Option.getD_none]; exact this
    have HSrc := hid hsrc
    unfold secV at hsec
    clear hr hq1 hq2 hlen hne hp hg hsrc hd
    go_enter Tryz.func44, Tryz.ntmps44
    go_wp2_with (go_at_call 74; refine (HS.out _ HSrc.out).mono ?_; rintro e w' ⟨v', g', c', rfl, hmade, honly⟩)
    go_ret2
    have hv := hmade.val
    rw [HL.out] at hv
    subst hv
    exact ⟨g', c', rfl, hmade, honly⟩

def DiskM.up (D : DiskM) : DiskM := { D with pend := if D.down then fun _ => none else D.pend, down := false }
end
end Go.Proofs.YtfmdngeooelcpaaGreat
namespace Go.Proofs.YtfmdngeooelcpaaGreat
open Go.RowKit

section
variable {w w' : World} {b : Nat} {D : DiskM} {gs cap ms : Nat} {sg sc : Nat → Nat} {pe : List Pend} {clock : Nat} {ρ : Nat → Role} {F : Nat → Prop}

/-- The map is emptied. -/
theorem DiskRep.cleared (h : DiskRep w b D gs cap ms sg sc pe clock ρ) {c' : Nat} (hm : IMap w' ms [] c') (ho : Only (fun k => k = ms) w w') : DiskRep w' b { D with pend := fun _ => none } gs cap ms sg sc [] c' ρ := by
  have nb : ∀ k, ρ k ≠ .map → ¬ k = ms := fun k hk e => hk (by rw [e]; exact h.rm)
  exact ⟨blk_only h.blk ho (nb _ (by rw [h.rb]; simp)), h.arr.only ho (nb _ (by rw [h.rg]; simp)), fun i hi => ⟨(h.sec i hi).1.only ho (nb _ (by rw [h.rs i hi]; simp)), (h.sec i hi).2⟩,
    hm, by simp, by simp, h.n0, h.fu, h.rb, h.rg, h.rm, h.rs⟩

def pePut (pe : List Pend) (k g c : Nat) (l : List UInt8) (clock : Nat) : List Pend :=
  if pe.any (·.k == k) then pe.map (fun p => if p.k == k then { p with g := g, c := c, l := l } else p) else pe ++ [⟨k, g, c, l, clock⟩]

theorem pePut_me (pe : List Pend) (k g c : Nat) (l : List UInt8) (clock : Nat) : (pePut pe k g c l clock).map Pend.me = mePut (pe.map Pend.me) k (secV g c) clock := by
  have hq : ∀ p : Pend, (p.me.k == (k : Int)) = (p.k == k) := fun p => by rw [Bool.eq_iff_iff]; simp [Pend.me]; omega
  have ha : (pe.map Pend.me).any (·.k == (k : Int)) = pe.any (·.k == k) := by rw [List.any_map]; congr 1; funext p; exact hq p
  unfold pePut mePut
  rw [ha]
  split
  · rw [List.map_map, List.map_map]
    refine List.map_congr_left fun p _ => ?_
    simp only [Function.comp_apply, hq]
    by_cases h : p.k = k <;> simp [h, Pend.me]
  · simp [Pend.me]

theorem mem_pePut {pe : List Pend} {k g c : Nat} {l : List UInt8} {clock : Nat} {p : Pend} (h : p ∈ pePut pe k g c l clock) :
    (p.k = k ∧ p.g = g ∧ p.c = c ∧ p.l = l) ∨ (p ∈ pe ∧ p.k ≠ k) := by
  unfold pePut at h
  split at h
  · obtain ⟨q, hq, rfl⟩ := List.mem_map.1 h
    by_cases hk : q.k = k
    · left; simp [hk]
    · right; simp [hk, hq]
  · rename_i ha
    rcases List.mem_append.1 h with h | h
    · right
      refine ⟨h, fun e => ha ?_⟩
      rw [List.any_eq_true]; exact ⟨p, h, by simpa using e⟩
    · left; obtain rfl := List.mem_singleton.1 h; exact ⟨rfl, rfl, rfl, rfl⟩
theorem has_pePut (pe : List Pend) (k g c : Nat) (l : List UInt8) (clock : Nat) (j : Nat) (h : j = k ∨ ∃ p ∈ pe, p.k = j) : ∃ p ∈ pePut pe k g c l clock, p.k = j := by
  unfold pePut
  split
  · rename_i ha
    rcases h with rfl | ⟨p, hp, rfl⟩
    · obtain ⟨p, hp, hk⟩ := List.any_eq_true.1 ha
      refine ⟨_, List.mem_map_of_mem hp, ?_⟩
      have : p.k = j := by simpa using hk
      simp [this]
    · refine ⟨_, List.mem_map_of_mem hp, ?_⟩
      by_cases e : p.k = k <;> simp [e]
  · rcases h with rfl | ⟨p, hp, rfl⟩
    · exact ⟨⟨j, g, c, l, clock⟩, by simp, rfl⟩
    · exact ⟨p, by simp [hp], rfl⟩

def DiskM.put (D : DiskM) (k : Nat) (l : List UInt8) : DiskM := { D with pend := fun j => if j = k then some l else D.pend j }

/-- An entry is laid into the map: a new row. -/
theorem DiskRep.putted (h : DiskRep w b D gs cap ms sg sc pe clock ρ) {k g c c' : Nat} {l : List UInt8} (hk : k < D.n) (hl : l.length = 128) (hg : ρ g = .non)
    (hrow : Row w g 5 c (bytesV l)) (hm : IMap w' ms (mePut (pe.map Pend.me) k (secV g c) clock) c') (ho : Only (fun j => j = ms) w w') :
    DiskRep w' b (D.put k l) gs cap ms sg sc (pePut pe k g c l clock) c' (fun x => if x = g then .pen k else ρ x) := by
  have nb : ∀ j, ρ j ≠ .map → ¬ j = ms := fun j hj e => hj (by rw [e]; exact h.rm)
  have ng : ∀ j, ρ j ≠ .non → ¬ j = g := fun j hj e => hj (by rw [e]; exact hg)
  refine ⟨blk_only h.blk ho (nb _ (by rw [h.rb]; simp)), h.arr.only ho (nb _ (by rw [h.rg]; simp)), fun i hi => ⟨(h.sec i hi).1.only ho (nb _ (by rw [h.rs i hi]; simp)), (h.sec i hi).2⟩,
    by rw [pePut_me]; exact hm, ?_, ?_, h.n0, h.fu, ?_, ?_, ?_, ?_⟩
  · intro p hp
    rcases mem_pePut hp with ⟨e1, e2, e3, e4⟩ | ⟨hp', hne⟩
    · rw [e1, e2, e3, e4]
      exact ⟨hk, hrow.only ho (nb _ (by rw [hg]; simp)), hl, by simp, by simp [DiskM.put]⟩
    · obtain ⟨a, r, ll, q, s⟩ := h.pen p hp'
      exact ⟨a, r.only ho (nb _ (by rw [q]; simp)), ll, by rw [if_neg (ng _ (by rw [q]; simp))]; exact q, by simp [DiskM.put, hne, s]⟩
  · intro j l' hj
    refine has_pePut _ _ _ _ _ _ _ ?_
    by_cases e : j = k
    · exact .inl e
    · right
      simp only [DiskM.put, if_neg e] at hj
      exact h.all j l' hj
  · show (if b = g then _ else _) = _
    rw [if_neg (ng _ (by rw [h.rb]; simp))]; exact h.rb
  · show (if gs = g then _ else _) = _
    rw [if_neg (ng _ (by rw [h.rg]; simp))]; exact h.rg
  · show (if ms = g then _ else _) = _
    rw [if_neg (ng _ (by rw [h.rm]; simp))]; exact h.rm
  · intro i hi
    show (if sg i = g then _ else _) = _
    rw [if_neg (ng _ (by rw [h.rs i hi]; simp))]; exact h.rs i hi

set_option maxRecDepth 100000 in
set_option maxHeartbeats 400000 in
theorem up_c (h : DiskAt w b D F) : Calls Tryz.prog 14 #[.pointer (some ⟨b, 0, none⟩)] w fun e w' => e = .returned (.tuple #[]) ∧ DiskAt w' b D.up F ∧ Only F w w' := by
  have H := hid h
  obtain ⟨gs, cap, ms, sg, sc, pe, clock, ρ, hr, h1, h2⟩ := h
  obtain ⟨w1, hcl, hm1, ho1, hs1⟩ := hr.map.run_clear (P := Tryz.prog) 60 3 31 Tryz.underlying60
  have hr1 := hr.cleared hm1 ho1
  have hc := cell_blk hr.blk
  have hz := frozen_blk hr.blk
  have hc1 := cell_blk hr1.blk
  have hz1 := frozen_blk hr1.blk
  have HF1 : Hid (F ms) := hid (h1 ms (by rw [hr.rm]; simp))
  unfold diskCells at hc hc1
  have HR1 := hid hr1; have HO := hid ho1; have HS := hid hs1; have H1 := hid h1; have H2 := hid h2
  clear hr h1 h2 hr1 hm1 ho1 hs1
  cases hd : D.down with
  | true =>
    have e2 : D.up = { D with pend := fun _ => none, down := false } := by simp [DiskM.up, hd]
    have E2 := hid e2
    rw [hd] at hc hc1
    clear hd e2
    go_enter Tryz.func14, Tryz.ntmps14
    go_wp2
    go_end0
    have hat1 : DiskAt w1 b { D with pend := fun _ => none } F := ⟨gs, cap, ms, sg, sc, [], clock, ρ, HR1.out, H1.out, fun k hk => by rw [HS.out]; exact H2.out k hk⟩
    have := hat1.upd (only_set b 4 (.bool false)) { D with pend := fun _ => none, down := false } rfl rfl rfl H.out.fu (fun gs cap ms hb => by rw [blk_set hb]; simp [diskCells])
    rw [E2.out]
    exact ⟨rfl, this.1, (HO.out.mono (fun k _ e => e ▸ HF1.out)).trans this.2 (fun _ _ e => e)⟩
  | false =>
    have e2 : D.up = { D with down := false } := by simp [DiskM.up, hd]
    have E2 := hid e2
    rw [hd] at hc
    clear hd e2 hc1 hz1
    go_enter Tryz.func14, Tryz.ntmps14
    go_wp2
    go_end0
    rw [E2.out]
    have := H.out.upd (only_set b 4 (.bool false)) { D with down := false } rfl rfl rfl H.out.fu (fun gs cap ms hb => by rw [blk_set hb]; simp [diskCells])
    exact ⟨rfl, this.1, this.2⟩


end
end Go.Proofs.YtfmdngeooelcpaaGreat
namespace Go.Proofs.YtfmdngeooelcpaaGreat
open Go.RowKit

def DiskM.write (D : DiskM) (n : Int) (l : List UInt8) : DiskM × Int :=
  if D.down then (D, 50) else if n < 0 ∨ (D.n : Int) ≤ n then (D, 1) else if 128 < l.length then (D, 2) else if l.length < 128 then (D, 6)
  else if D.burns then ({ D.burn.put n.toNat l with nw := wrap64 (D.nw + 1) }, 0) else (D.burn, 50)

section
variable {w w' : World} {b : Nat} {D : DiskM} {F : Nat → Prop}

theorem burn_n (D : DiskM) : D.burn.n = D.n := by unfold DiskM.burn; split <;> (try split) <;> rfl
theorem burn_nw (D : DiskM) : D.burn.nw = D.nw := by unfold DiskM.burn; split <;> (try split) <;> rfl
theorem burn_nf (D : DiskM) : D.burn.nf = D.nf := by unfold DiskM.burn; split <;> (try split) <;> rfl
theorem burn_pend (D : DiskM) : D.burn.pend = D.pend := by unfold DiskM.burn; split <;> (try split) <;> rfl
theorem burn_sure (D : DiskM) : D.burn.sure = D.sure := by unfold DiskM.burn; split <;> (try split) <;> rfl

set_option maxRecDepth 100000 in
theorem write_refused (h : DiskAt w b D F) (n : Int) (v : Value) (l : List UInt8) (hs : Src w v l) (hc : D.down = true ∨ n < 0 ∨ (D.n : Int) ≤ n ∨ l.length ≠ 128) (hbig : l.length ≤ 1000000) :
    Calls Tryz.prog 81 #[.pointer (some ⟨b, 0, none⟩), .int .i64 n, v] w fun e w' => e = .returned (.int .i64 (D.write n l).2) ∧ (D.write n l).1 = D ∧ w = w' := by
  obtain ⟨gs, cap, ms, hcell, hz⟩ := h.cells
  obtain ⟨a, c, rfl, -⟩ := hs
  clear h
  cases hd : D.down with
  | true =>
    have e2 : D.write n l = (D, 50) := by simp [DiskM.write, hd]
    have E2 := hid e2
    rw [hd] at hcell
    clear hd e2 hc
    go_enter Tryz.func81, Tryz.ntmps81
    go_wp2
    go_ret
    rw [E2.out]; exact ⟨rfl, rfl, rfl⟩
  | false =>
    rw [hd] at hcell hc
    by_cases h1 : n < 0
    · have e2 : D.write n l = (D, 1) := by simp [DiskM.write, hd, h1]
      have E2 := hid e2
      clear hd e2 hc
      go_enter Tryz.func81, Tryz.ntmps81
      go_wp2
      go_ret
      rw [E2.out]; exact ⟨rfl, rfl, rfl⟩
    · by_cases h2 : (D.n : Int) ≤ n
      · have e2 : D.write n l = (D, 1) := by simp [DiskM.write, hd, h1, h2]
        have E2 := hid e2
        clear hd e2 hc
        go_enter Tryz.func81, Tryz.ntmps81
        go_wp2
        go_ret
        rw [E2.out]; exact ⟨rfl, rfl, rfl⟩
      · by_cases h3 : 128 < l.length
        · have e2 : D.write n l = (D, 2) := by simp [DiskM.write, hd, h1, h2, h3]
          have E2 := hid e2
          clear hd e2 hc
          go_enter Tryz.func81, Tryz.ntmps81
          go_wp2
          go_ret
          rw [E2.out]; exact ⟨rfl, rfl, rfl⟩
        · have h4 : l.length < 128 := by
            rcases hc with hc | hc | hc | hc
            · cases hc
            · exact absurd hc h1
            · exact absurd hc h2
            · omega
          have e2 : D.write n l = (D, 6) := by simp [DiskM.write, hd, h1, h2, h3, h4]
          have E2 := hid e2
          clear hd e2 hc
          go_enter Tryz.func81, Tryz.ntmps81
          go_wp2
          go_ret
          rw [E2.out]; exact ⟨rfl, rfl, rfl⟩

set_option maxRecDepth 100000 in
set_option maxHeartbeats 800000 in
theorem write_taken (h : DiskAt w b D F) (hd : D.down = false) (n : Int) (h0 : 0 ≤ n) (h1 : n < D.n) (v : Value) (l : List UInt8) (hs : Src w v l) (hv : ∀ g o c, v = .slice (some ⟨g, o, none⟩) l.length c → ¬ F g) (hl : l.length = 128) :
    Calls Tryz.prog 81 #[.pointer (some ⟨b, 0, none⟩), .int .i64 n, v] w fun e w' => e = .returned (.int .i64 (D.write n l).2) ∧ DStep w w' b (D.write n l).1 F := by
  obtain ⟨k, rfl⟩ := Int.eq_ofNat_of_zero_le h0
  have hk : k < D.n := by omega
  obtain ⟨gs, cap, ms, hcell, hz⟩ := h.cells
  rw [hd] at hcell
  have hgt : decide ((128 : Int) < (l.length : Int)) = false := by simp; omega
  have hlt : decide ((l.length : Int) < 128) = false := by simp; omega
  have HB := hid (burn_c h)
  have HL := hid hl
  have HS := hid hs
  have HV := hid hv
  have HA := hid h
  obtain ⟨a, c, rfl, -⟩ := hs
  have hge : ¬ ((D.n : Int) ≤ (k : Int)) := by omega
  cases hb : D.burns with
  | false =>
    have e2 : D.write k l = (D.burn, 50) := by simp [DiskM.write, hd, hl, hb]; omega
    have E2 := hid e2
    rw [hb] at HB
    clear hd e2 hl h hv h0 h1 hb
    go_enter Tryz.func81, Tryz.ntmps81
    go_wp2_with (go_at_call 82; refine HB.out.mono ?_; rintro e w' ⟨rfl, hat, hon⟩)
    go_ret
    rw [E2.out]; exact ⟨rfl, hat.step hon⟩
  | true =>
    have e2 : D.write k l = ({ D.burn.put k l with nw := wrap64 (D.nw + 1) }, 0) := by simp [DiskM.write, hd, hl, hb]; omega
    have E2 := hid e2
    rw [hb] at HB
    clear hd e2 hl h hv h0 h1 hb
    go_enter Tryz.func81, Tryz.ntmps81
    go_wp2_with (go_at_call 82; refine HB.out.mono ?_; rintro e w' ⟨rfl, hat, hon⟩; have Hat := hid hat; have Hon := hid hon; clear hat hon)
    obtain ⟨gs1, cap1, ms1, sg1, sc1, pe1, clock1, ρ1, hr1, hq1, hq2⟩ := Hat.out
    have hb1 := blk_set hr1.blk 0 (.int .i64 (wrap64 (D.burn.nw + 1)))
    have ho1 : Only (fun k => k = b) w' (w'.setCell ⟨b, 0, none⟩ (.int .i64 (wrap64 (D.burn.nw + 1)))) := only_set b 0 _
    have hr2 := hr1.upd ho1 { D.burn with nw := wrap64 (D.burn.nw + 1) } rfl rfl rfl hb1 hr1.fu
    refine (add64 _ _ _ D.burn.nw ?_ ?_).mono ?_
    · rw [cell_blk hr1.blk]; rfl
    · rw [frozen_blk hr1.blk]
    rintro e w2 ⟨rfl, hw2⟩
    rw [← hw2] at hr2 ho1
    have hc3 : w2.cell? ⟨b, 3, none⟩ = some (.map (some ms1)) := by rw [cell_blk hr2.blk]; rfl
    have hblt : b < w2.heap.size := blk_lt hr2.blk
    have hsrc2 : Src w2 (.slice a l.length c) l := (HS.out.only Hon.out (fun _ => HV.out)).only ho1 (fun _ g o c' e eb => HV.out g o c' e (by rw [eb]; exact HA.out.has))
    have hne : l ≠ [] := by intro e; have := HL.out; rw [e] at this; simp at this
    have hbig : l.length ≤ 1000000 := by rw [HL.out]; decide
    have hod : Only (fun _ => False) w2 w2.drew := (Only.refl _ _).drew
    have HC := hid (clone_any w2.drew _ l (hsrc2.only hod (fun _ _ _ _ _ e => e)) hne hbig)
    have hr2 := hr2.only hod (fun _ _ e => e)
    have ho1 := ho1.drew
    have HBM : Hid (¬ b = ms1) := hid (fun e => by have h1 := hr2.rb; have h2 := hr2.rm; rw [e, h2] at h1; cases h1)
    have HR2 := hid hr2; have HO1 := hid ho1; have HQ1 := hid hq1; have HQ2 := hid hq2; have HW2 := hid hw2; have HN := hid hblt
    clear hr2 ho1 hq1 hq2 hr1 hb1 hw2 hsrc2 hne hbig hblt
    go_wp2_with fail
    go_region_held3 (fun W => W.cell? ⟨b, 3, none⟩ = some (.map (some ms1)))
      (first | exact (World.cell?_of_block (Honly.out.block b HN.out (fun e => e))).trans hc3 | exact (World.cell?_of_block (Ho4.out.block b (Nat.lt_of_lt_of_le HN.out Honly.out.size) HBM.out)).trans ((World.cell?_of_block (Honly.out.block b HN.out (fun e => e))).trans hc3) | go_keep)
      ((go_at_call 74; refine HC.out.mono ?_; rintro e w3 ⟨v', g', c', rfl, hmade, honly⟩; have hv := hmade.val; rw [HL.out] at hv; subst hv; obtain ⟨w4, hup, hm4, ho4, hs4⟩ := (HR2.out.map.only honly (fun e => e)).run_update (P := Tryz.prog) 60 3 31 Tryz.underlying60 Tryz.underlying3 (k : Int) (secV g' c'); unfold secV at hup; have Hmade := hid hmade; have Honly := hid honly; have Hm4 := hid hm4; have Ho4 := hid ho4; have Hs4 := hid hs4; clear hmade honly hm4 ho4 hs4))
    go_wp2
    go_ret
    rw [E2.out]
    have hHr := HR2.out
    have hq1 := HQ1.out
    have hq2 := HQ2.out
    have hsz1 := HO1.out.size
    have hsz2 := Honly.out.size
    have hsz4 := Hs4.out
    have hlo := Hmade.out.lo
    have hhi := Hmade.out.hi
    have hsz0 := Hon.out.size
    have hfree : ρ1 g' = .non := by
      cases hρ : ρ1 g' with
      | non => rfl
      | _ => have := hq2 g' (hq1 g' (by rw [hρ]; simp)); omega
    have hrep := (hHr.only Honly.out (fun _ _ e => e)).putted (by show k < D.burn.n; rw [burn_n]; exact hk) HL.out hfree Hmade.out.row Hm4.out Ho4.out
    have heq : ({ D.burn with nw := wrap64 (D.burn.nw + 1) } : DiskM).put k l = { D.burn.put k l with nw := wrap64 (D.nw + 1) } := by simp [DiskM.put, burn_nw]
    rw [heq] at hrep
    have hall : Only F w w4 := ((Hon.out.trans HO1.out (fun j _ e => by rw [e]; exact HA.out.has)).trans Honly.out (fun _ _ e => e.elim)).trans Ho4.out (fun j _ e => by rw [e]; exact hq1 _ (by rw [hHr.rm]; simp))
    refine ⟨rfl, fun x => F x ∨ x = g', ⟨gs1, cap1, ms1, sg1, sc1, _, _, _, hrep, ?_, ?_⟩, hall, ?_⟩
    · intro j hj
      by_cases e : j = g'
      · exact .inr e
      · simp only [if_neg e] at hj; exact .inl (hq1 j hj)
    · rintro j (hj | rfl)
      · have := hq2 j hj; omega
      · omega
    · rintro j (hj | rfl)
      · exact .inl hj
      · right; omega

theorem write_c (h : DiskAt w b D F) (n : Int) (v : Value) (l : List UInt8) (hs : Src w v l) (hv : ∀ g o c, v = .slice (some ⟨g, o, none⟩) l.length c → ¬ F g) (hbig : l.length ≤ 1000000) :
    Calls Tryz.prog 81 #[.pointer (some ⟨b, 0, none⟩), .int .i64 n, v] w fun e w' => e = .returned (.int .i64 (D.write n l).2) ∧ DStep w w' b (D.write n l).1 F := by
  by_cases hc : D.down = true ∨ n < 0 ∨ (D.n : Int) ≤ n ∨ l.length ≠ 128
  · refine (write_refused h n v l hs hc hbig).mono ?_
    rintro e w' ⟨rfl, hD, rfl⟩
    rw [hD]; exact ⟨rfl, h.same⟩
  · have h1 : D.down = false := by cases hd : D.down <;> simp_all
    exact write_taken h h1 n (by omega) (by omega) v l hs hv (by omega)
end
end Go.Proofs.YtfmdngeooelcpaaGreat
namespace Go.Proofs.YtfmdngeooelcpaaGreat
open Go.RowKit

/-- How many entries the range over map b with iterator r has still to give. -/
def mapLeft (w : World) (r b : Nat) : Nat :=
  match w.heap[r]?, w.heap[b]? with
  | some (.mapIter _ _ seen _), some (.map es _) => (es.toList.filter (fun e => !seen.contains e.born)).length
  | _, _ => 0
theorem mapLeft_congr {w w' : World} {r b : Nat} (h1 : w'.heap[r]? = w.heap[r]?) (h2 : w'.heap[b]? = w.heap[b]?) : mapLeft w' r b = mapLeft w r b := by simp [mapLeft, h1, h2]

theorem filter_lt {α : Type} (p q : α → Bool) : ∀ (l : List α), (∀ x, q x = true → p x = true) → ∀ x, x ∈ l → p x = true → q x = false → (l.filter q).length < (l.filter p).length
  | [], _, x, hx, _, _ => by simp at hx
  | y :: l, hpq, x, hx, hp, hq => by
    have hle : (l.filter q).length ≤ (l.filter p).length := by
      rw [← List.countP_eq_length_filter, ← List.countP_eq_length_filter]; exact List.countP_mono_left (fun x _ => hpq x)
    rcases List.mem_cons.1 hx with rfl | hx
    · simp only [List.filter_cons, hp, hq, if_true, Bool.false_eq_true, if_false, List.length_cons]; omega
    · have ih := filter_lt p q l hpq x hx hp hq
      simp only [List.filter_cons]
      by_cases h1 : q y = true
      · simp only [h1, hpq y h1, if_true, List.length_cons]; omega
      · by_cases h2 : p y = true
        · simp only [h1, h2, if_true, Bool.false_eq_true, if_false, List.length_cons]; omega
        · simp only [h1, h2, Bool.false_eq_true, if_false]; exact ih

section
variable {P : Program} {ops : Array Oper} {rest : List Oper} {o : Oper} {a : Act} {Q : Exit → Act → World → Prop} {w : World} {es : List ME} {clock b r : Nat}

theorem wpList_range_raw (hg : o.guard = none) (m : Operand) (t : TypeId) (hop : o.op = Op.range t m) (k e : TypeId) (ht : P.underlying t = some (.map k e)) (hm : a.eval m = .map (some b)) (h : IMap w b es clock)
    (hK : ∀ w', w'.heap[w.heap.size]? = some (.mapIter (some b) clock #[] clock) → Only (fun _ => False) w w' → w'.heap.size = w.heap.size + 1 → IMap w' b es clock → wpList P ops Q rest (a.put o.dst (.pointer (some ⟨w.heap.size, 0, none⟩))) w') :
    wpList P ops Q (o :: rest) a w := by
  refine wpList_plain hg fun K hK' => ?_
  have hrun : (Instr.range t (.map (some b))).run P w = .ok (.pointer (some ⟨w.heap.size, 0, none⟩)) (w.alloc (.mapIter (some b) clock #[] clock)) := by
    simp [Instr.range, run_underlying ht, MapKept.run_getObj_map h.blk]
  unfold Oper.wp
  simp [execOp, hop, hm, hrun, Result.andThen]
  have ho : Only (fun _ => False) w (w.alloc (.mapIter (some b) clock #[] clock)) := (Only.refl _ _).alloc _
  exact hK' _ _ (hK _ (blk_new w _) ho (by simp) (h.only ho (fun e => e)))

theorem wpList_next_raw (hg : o.guard = none) (it : Operand) (hop : o.op = Op.next it false) (hit : a.eval it = .pointer (some ⟨r, 0, none⟩)) (since c0 : Nat) (seen : List Nat)
    (hr : w.heap[r]? = some (.mapIter (some b) since seen.toArray c0)) (hm : IMap w b es clock) (hold : ∀ e ∈ es, e.t < since) (hsc : since ≤ c0)
    (hDone : (∀ e ∈ es, e.t ∈ seen) → wpList P ops Q rest (a.put o.dst (.tuple #[.bool false])) w)
    (hMore : ∀ e ∈ es, e.t ∉ seen → ∀ w', w'.heap[r]? = some (.mapIter (some b) since (seen ++ [e.t]).toArray clock) → Only (fun j => j = r) w w' → w'.heap.size = w.heap.size → IMap w' b es clock → mapLeft w' r b < mapLeft w r b →
      (Instr.entry (.pointer (some ⟨r, 0, none⟩))).run P w' = .ok (.tuple #[.int .i64 e.k, e.v]) w' → wpList P ops Q rest (a.put o.dst (.tuple #[.bool true, .int .i64 e.k, e.v])) w') :
    wpList P ops Q (o :: rest) a w := by
  refine wpList_plain hg fun K hK' => ?_
  have hrb : r ≠ b := fun e => by rw [e, hm.blk] at hr; cases hr
  have hrl := blk_lt hr
  unfold Oper.wp
  rcases run_next_at (P := P) w o.type r b since c0 seen.toArray (es.map ME.to).toArray clock hr hm.blk (fun x hx => by
      obtain ⟨e, he, rfl⟩ := List.mem_map.1 (by simpa using hx); exact hold e he) hsc with ⟨h0, hrun⟩ | ⟨me, hme, w1, hw1, hrun⟩
  · simp [execOp, hop, hit, hrun, Result.andThen]
    refine hK' _ _ (hDone fun e he => ?_)
    have h1 : ∀ x ∈ (leftOf (es.map ME.to).toArray seen.toArray).toList, False := by
      intro x hx; rw [Array.eq_empty_of_size_eq_zero h0] at hx; simp at hx
    by_cases hs : e.t ∈ seen
    · exact hs
    · exact (h1 e.to (by simp [leftOf]; exact ⟨⟨e, he, rfl⟩, hs⟩)).elim
  · have hmem : me ∈ (es.map ME.to).toArray.toList ∧ ¬ me.born ∈ seen := by
      unfold leftOf at hme
      simp at hme
      exact ⟨by simpa using hme.1, hme.2⟩
    obtain ⟨e, he, rfl⟩ := List.mem_map.1 (by simpa using hmem.1)
    have het : e.t ∉ seen := hmem.2
    simp [execOp, hop, hit, hrun, Result.andThen]
    have hh : w1.heap = w.heap := by rcases hw1 with rfl | rfl <;> rfl
    have h1r : (setObj w1 r (.mapIter (some b) since (seen ++ [e.t]).toArray clock)).heap[r]? = some (.mapIter (some b) since (seen ++ [e.t]).toArray clock) := setObj_same (by rw [hh]; exact hrl)
    have hob : Only (fun j => j = r) w (setObj w1 r (.mapIter (some b) since (seen ++ [e.t]).toArray clock)) := by
      rcases hw1 with rfl | rfl
      · exact (Only.refl _ _).setObj _ _ (fun _ => rfl)
      · exact (Only.refl _ _).drew.setObj _ _ (fun _ => rfl)
    have hmm := hm.only hob (fun e => hrb e.symm)
    have hen := run_entry_at (P := P) _ r b since seen.toArray (es.map ME.to).toArray clock e.to (by simpa [ME.to] using h1r) hmm.blk (by simpa using List.mem_map_of_mem he) (by
      have := hm.stamps
      simp only [List.map_map] at this ⊢
      exact this)
    have hws : Go.ChangeMaps.setBlock w1 r (.mapIter (some b) since (seen ++ [e.to.born]).toArray clock) = setObj w1 r (.mapIter (some b) since (seen ++ [e.t]).toArray clock) := rfl
    rw [hws]
    refine hK' _ _ (hMore e he het _ h1r hob (by simp [hh]) hmm ?_ hen)
    unfold mapLeft
    rw [h1r, hmm.blk, hr, hm.blk]
    refine filter_lt _ _ _ (fun x hx => ?_) e.to (List.mem_map_of_mem he) ?_ ?_
    · simp at hx ⊢; exact hx.1
    · simp [ME.to, het]
    · simp [ME.to]
end
end Go.Proofs.YtfmdngeooelcpaaGreat
namespace Go.Proofs.YtfmdngeooelcpaaGreat
open Go.RowKit

def DiskM.flushed (D : DiskM) : DiskM := { D with sure := D.cur, pend := fun _ => none }
def DiskM.flush (D : DiskM) : DiskM × Int :=
  if D.down then (D, 50) else if D.burns then ({ D.burn.flushed with nf := wrap64 (D.nf + 1) }, 0) else (D.burn, 50)

/-- In the middle of the loop: the entries that have come stand in the row of the sectors. -/
def FInv (w3 wr : World) (r gs cap ms n : Nat) (sg sc : Nat → Nat) (pe : List Pend) (clock : Nat) : Prop :=
  ∃ (seen : List Nat) (c0 : Nat) (xs : List Value), wr.heap[r]? = some (.mapIter (some ms) clock seen.toArray c0) ∧ clock ≤ c0 ∧ IMap wr ms (pe.map Pend.me) clock ∧ Row wr gs 31 cap xs ∧ xs.length = n ∧
    (∀ p ∈ pe, p.t ∈ seen → xs[p.k]? = some (secV p.g p.c)) ∧ (∀ i, i < n → (∀ p ∈ pe, p.k = i → p.t ∉ seen) → xs[i]? = some (secV (sg i) (sc i))) ∧ Only (fun k => k = gs ∨ k = r) w3 wr

section
variable {w w' : World} {b : Nat} {D : DiskM} {gs cap ms : Nat} {sg sc : Nat → Nat} {pe : List Pend} {clock : Nat} {ρ : Nat → Role} {F : Nat → Prop}

theorem pend_unique (h : DiskRep w b D gs cap ms sg sc pe clock ρ) {p q : Pend} (hp : p ∈ pe) (hq : q ∈ pe) (hk : p.k = q.k) : p = q := by
  have hn := h.map.keys
  rw [List.map_map] at hn
  have : ∀ l : List Pend, (l.map (ME.k ∘ Pend.me)).Nodup → p ∈ l → q ∈ l → p = q := by
    intro l
    induction l with
    | nil => intro _ h; simp at h
    | cons x l ih =>
      intro hn hp hq
      obtain ⟨h1, h2⟩ := List.nodup_cons.1 (by simpa using hn : ((ME.k ∘ Pend.me) x :: l.map (ME.k ∘ Pend.me)).Nodup)
      rcases List.mem_cons.1 hp with rfl | hp' <;> rcases List.mem_cons.1 hq with rfl | hq'
      · rfl
      · exact absurd (List.mem_map.2 ⟨q, hq', by simp [Pend.me, hk]⟩) h1
      · exact absurd (List.mem_map.2 ⟨p, hp', by simp [Pend.me, hk]⟩) h1
      · exact ih h2 hp' hq'
  exact this pe hn hp hq
theorem stamp_unique (h : DiskRep w b D gs cap ms sg sc pe clock ρ) {p q : Pend} (hp : p ∈ pe) (hq : q ∈ pe) (hk : p.t = q.t) : p = q := by
  have hn := h.map.stamps
  rw [List.map_map] at hn
  have : ∀ l : List Pend, (l.map (ME.t ∘ Pend.me)).Nodup → p ∈ l → q ∈ l → p = q := by
    intro l
    induction l with
    | nil => intro _ h; simp at h
    | cons x l ih =>
      intro hn hp hq
      obtain ⟨h1, h2⟩ := List.nodup_cons.1 (by simpa using hn : ((ME.t ∘ Pend.me) x :: l.map (ME.t ∘ Pend.me)).Nodup)
      rcases List.mem_cons.1 hp with rfl | hp' <;> rcases List.mem_cons.1 hq with rfl | hq'
      · rfl
      · exact absurd (List.mem_map.2 ⟨q, hq', by simp [Pend.me, hk]⟩) h1
      · exact absurd (List.mem_map.2 ⟨p, hp', by simp [Pend.me, hk]⟩) h1
      · exact ih h2 hp' hq'
  exact this pe hn hp hq

/-- One round: the entry p is laid into its place. -/
theorem FInv.round {w3 wr w4 w5 : World} {r : Nat} {seen : List Nat} {xs : List Value} (h : DiskRep w b D gs cap ms sg sc pe clock ρ) (hr : r ≠ gs) (hlen : xs.length = D.n)
    (hse : ∀ p ∈ pe, p.t ∈ seen → xs[p.k]? = some (secV p.g p.c)) (hun : ∀ i, i < D.n → (∀ p ∈ pe, p.k = i → p.t ∉ seen) → xs[i]? = some (secV (sg i) (sc i))) (ho : Only (fun k => k = gs ∨ k = r) w3 wr)
    {p : Pend} (hp : p ∈ pe) (hit : w4.heap[r]? = some (.mapIter (some ms) clock (seen ++ [p.t]).toArray clock)) (ho4 : Only (fun k => k = r) wr w4)
    (hm4 : IMap w4 ms (pe.map Pend.me) clock) (hrow : Row w4 gs 31 cap xs) (hw5 : w5 = w4.setCell ⟨gs, p.k, none⟩ (secV p.g p.c)) : FInv w3 w5 r gs cap ms D.n sg sc pe clock := by
  have hgm : ms ≠ gs := fun e => by have h1 := h.rm; have h2 := h.rg; rw [e, h2] at h1; cases h1
  have hpk : p.k < D.n := (h.pen p hp).1
  subst hw5
  refine ⟨seen ++ [p.t], clock, xs.set p.k (secV p.g p.c), ?_, Nat.le_refl _, ?_, ?_, ?_, ?_, ?_, ?_⟩
  · exact blk_set_other hit hr
  · exact hm4.only (only_set gs _ _) hgm
  · exact hrow.set p.k _ (by omega)
  · simpa using hlen
  · intro q hq hqs
    by_cases hqk : q.k = p.k
    · rw [pend_unique h hq hp hqk]
      simp [hlen, hpk]
    · rw [List.getElem?_set_ne (fun e => hqk e.symm)]
      refine hse q hq ?_
      rcases List.mem_append.1 hqs with hqs | hqs
      · exact hqs
      · exact absurd (congrArg Pend.k (stamp_unique h hq hp (by simpa using hqs))) hqk
  · intro i hi hno
    have hip : i ≠ p.k := fun e => hno p hp e.symm (by simp)
    rw [List.getElem?_set_ne (fun e => hip e.symm)]
    exact hun i hi (fun q hq hqk hqs => hno q hq hqk (by simp [hqs]))
  · refine (ho.trans ho4 (fun k _ e => .inr e)).trans (only_set gs _ _) (fun k _ e => .inl e)

/-- Behind the loop and the clearing of the map: the disk is flushed. -/
theorem DiskRep.flushed {w3 wr w5 : World} {r : Nat} {xs : List Value} (h : DiskRep w3 b D gs cap ms sg sc pe clock ρ) (hrow : Row wr gs 31 cap xs) (hlen : xs.length = D.n)
    (hse : ∀ p ∈ pe, xs[p.k]? = some (secV p.g p.c)) (hun : ∀ i, i < D.n → (∀ p ∈ pe, p.k ≠ i) → xs[i]? = some (secV (sg i) (sc i))) (ho : Only (fun k => k = gs ∨ k = r) w3 wr) (hr : w3.heap.size ≤ r ∨ ρ r = .non)
    (hm5 : IMap w5 ms [] clock) (ho5 : Only (fun k => k = ms) wr w5) :
    ∃ sg' sc' ρ', DiskRep w5 b D.flushed gs cap ms sg' sc' [] clock ρ' ∧ ∀ k, ρ' k ≠ .non → ρ k ≠ .non := by
  have hex : ∀ i, ∃ gc : Nat × Nat, i < D.n → xs[i]? = some (secV gc.1 gc.2) ∧ Row w3 gc.1 5 gc.2 (bytesV (D.cur i)) ∧ (D.cur i).length = 128 ∧ (ρ gc.1 = .sec i ∨ ρ gc.1 = .pen i) := by
    intro i
    by_cases hi : i < D.n
    · cases hp : D.pend i with
      | some l =>
        obtain ⟨p, hpe, rfl⟩ := h.all i l hp
        obtain ⟨a, rw', ll, q, s⟩ := h.pen p hpe
        rw [hp] at s
        obtain rfl := Option.some.inj s
        exact ⟨(p.g, p.c), fun _ => ⟨hse p hpe, by simp only [DiskM.cur, hp]; exact rw', by simp only [DiskM.cur, hp]; exact ll, .inr q⟩⟩
      | none =>
        refine ⟨(sg i, sc i), fun _ => ⟨hun i hi (fun p hpe e => ?_), by simp only [DiskM.cur, hp]; exact (h.sec i hi).1, by simp only [DiskM.cur, hp]; exact (h.sec i hi).2, .inl (h.rs i hi)⟩⟩
        have := (h.pen p hpe).2.2.2.2
        rw [e, hp] at this; cases this
    · exact ⟨(0, 0), fun e => absurd e hi⟩
  obtain ⟨f, hf⟩ := Classical.axiomOfChoice hex
  have nr : ∀ k, k < w3.heap.size → ρ k ≠ .non → ρ k ≠ .arr → ρ k ≠ .map → w5.heap[k]? = w3.heap[k]? := by
    intro k hk h0 h1 h2
    have e1 : ¬ (k = gs ∨ k = r) := by
      rintro (e | e)
      · exact h1 (by rw [e]; exact h.rg)
      · rcases hr with hr | hr
        · omega
        · exact h0 (by rw [e]; exact hr)
    have e2 : ¬ k = ms := fun e => h2 (by rw [e]; exact h.rm)
    rw [ho5.block k (Nat.lt_of_lt_of_le hk ho.size) e2, ho.block k hk e1]
  refine ⟨fun i => (f i).1, fun i => (f i).2, fun k => match ρ k with | .str => .str | .arr => .arr | .map => .map | .sec i => if (f i).1 = k then .sec i else .non | .pen i => if (f i).1 = k then .sec i else .non | .non => .non, ⟨?_, ?_, ?_, hm5, by simp, by simp [DiskM.flushed], h.n0, h.fu, ?_, ?_, ?_, ?_⟩, ?_⟩
  · have := nr b (blk_lt h.blk) (by rw [h.rb]; simp) (by rw [h.rb]; simp) (by rw [h.rb]; simp)
    rw [this]; exact h.blk
  · have hrow5 := hrow.only ho5 (fun e => by have h1 := h.rg; have h2 := h.rm; rw [e, h2] at h1; cases h1)
    have hx : xs = secs D.flushed.n (fun i => (f i).1) (fun i => (f i).2) := by
      apply List.ext_getElem?
      intro i
      by_cases hi : i < D.n
      · exact (hf i hi).1.trans (secs_get D.n (fun i => (f i).1) (fun i => (f i).2) i hi).symm
      · rw [List.getElem?_eq_none (by omega), List.getElem?_eq_none (by rw [length_secs]; show D.n ≤ i; omega)]
    rw [← hx]; exact hrow5
  · intro i hi
    obtain ⟨_, h2, h3, h4⟩ := hf i hi
    refine ⟨h2.of_eq (nr _ h2.lt ?_ ?_ ?_), h3⟩ <;> rcases h4 with h4 | h4 <;> rw [h4] <;> simp
  · simp only [h.rb]
  · simp only [h.rg]
  · simp only [h.rm]
  · intro i hi
    rcases (hf i hi).2.2.2 with h4 | h4 <;> simp only [h4, if_true]
  · intro k hk e
    simp only [e] at hk
    exact hk rfl

theorem flush_refused (h : DiskAt w b D F) (hc : D.down = true ∨ D.burns = false) :
    Calls Tryz.prog 60 #[.pointer (some ⟨b, 0, none⟩)] w fun e w' => e = .returned (.int .i64 D.flush.2) ∧ DiskAt w' b D.flush.1 F ∧ Only F w w' := by
  obtain ⟨gs, cap, ms, hcell, hz⟩ := h.cells
  have HB := hid (burn_c h)
  have HA := hid h
  clear h
  cases hd : D.down with
  | true =>
    have e2 : D.flush = (D, 50) := by simp [DiskM.flush, hd]
    have E2 := hid e2
    rw [hd] at hcell
    clear hd e2 hc
    go_enter Tryz.func60, Tryz.ntmps60
    go_wp2_with fail
    go_ret
    rw [E2.out]; exact ⟨rfl, HA.out, Only.refl _ _⟩
  | false =>
    have hb : D.burns = false := by rcases hc with hc | hc; (rw [hd] at hc; cases hc); exact hc
    have e2 : D.flush = (D.burn, 50) := by simp [DiskM.flush, hd, hb]
    have E2 := hid e2
    rw [hd] at hcell
    rw [hb] at HB
    clear hd e2 hc hb
    go_enter Tryz.func60, Tryz.ntmps60
    go_wp2_with (go_at_call 82; refine HB.out.mono ?_; rintro e w' ⟨rfl, hat, hon⟩)
    go_ret
    rw [E2.out]; exact ⟨rfl, hat, hon⟩

set_option maxRecDepth 100000 in
set_option maxHeartbeats 800000 in
theorem flush_taken (h : DiskAt w b D F) (hd : D.down = false) (hb : D.burns = true) :
    Calls Tryz.prog 60 #[.pointer (some ⟨b, 0, none⟩)] w fun e w' => e = .returned (.int .i64 D.flush.2) ∧ DiskAt w' b D.flush.1 F ∧ Only F w w' := by
  obtain ⟨gs, cap, ms, hcell, hz⟩ := h.cells
  have HB := hid (burn_c h)
  have HA := hid h
  have e2 : D.flush = ({ D.burn.flushed with nf := wrap64 (D.nf + 1) }, 0) := by simp [DiskM.flush, hd, hb]
  have E2 := hid e2
  rw [hd] at hcell
  rw [hb] at HB
  clear hd e2 hb h
  go_enter Tryz.func60, Tryz.ntmps60
  go_wp2_with (go_at_call 82; refine HB.out.mono ?_; rintro e w' ⟨rfl, hat, hon⟩; have Hat := hid hat; have Hon := hid hon; clear hat hon)
  obtain ⟨gs1, cap1, ms1, sg1, sc1, pe1, clock1, ρ1, hr1, hq1, hq2⟩ := Hat.out
  have hb1 := blk_set hr1.blk 1 (.int .i64 (wrap64 (D.burn.nf + 1)))
  have ho1 : Only (fun k => k = b) w' (w'.setCell ⟨b, 1, none⟩ (.int .i64 (wrap64 (D.burn.nf + 1)))) := only_set b 1 _
  have hr2 := hr1.upd ho1 { D.burn with nf := wrap64 (D.burn.nf + 1) } rfl rfl rfl hb1 hr1.fu
  refine (add64 _ _ _ D.burn.nf ?_ ?_).mono ?_
  · rw [cell_blk hr1.blk]; rfl
  · rw [frozen_blk hr1.blk]
  rintro e w2 ⟨rfl, hw2⟩
  rw [← hw2] at hr2 ho1
  have hc3 : w2.cell? ⟨b, 3, none⟩ = some (.map (some ms1)) := by rw [cell_blk hr2.blk]; rfl
  have HM := hid hr2.map
  have HR2 := hid hr2; have HO1 := hid ho1; have HQ1 := hid hq1; have HQ2 := hid hq2; have HW2 := hid hw2
  clear hr2 ho1 hq1 hq2 hr1 hb1 hw2 hcell hz
  go_wp2_with (at_range; refine wpList_range_raw rfl _ 60 rfl 3 31 Tryz.underlying60 rfl HM.out ?_; intro w3 hit3 ho3 hs3 hm3)
  have hr3 := HR2.out.only ho3 (fun _ _ e => e)
  have nb : b ≠ w2.heap.size := fun e => by have := blk_lt HR2.out.blk; omega
  have ng : w2.heap.size ≠ gs1 := fun e => by have := HR2.out.arr.lt; omega
  have nm : w2.heap.size ≠ ms1 := fun e => by have := blk_lt HR2.out.map.blk; omega
  have nbg : b ≠ gs1 := fun e => by have h1 := hr3.rb; have h2 := hr3.rg; rw [e, h2] at h1; cases h1
  have nbm : b ≠ ms1 := fun e => by have h1 := hr3.rb; have h2 := hr3.rm; rw [e, h2] at h1; cases h1
  have HR3 := hid hr3; have NB := hid nb; have NG := hid ng; have NM := hid nm; have NBG := hid nbg; have NBM := hid nbm; have HI3 := hid hit3; have HO3 := hid ho3; have HS3 := hid hs3; have HM3 := hid hm3
  clear hr3 nb ng nm nbg nbm hit3 ho3 hs3 hm3
  go_frame
  go_loopw [3, 4] (fun _ _ wr => FInv w3 wr w2.heap.size gs1 cap1 ms1 D.burn.n sg1 sc1 pe1 clock1) (fun _ _ wr => mapLeft wr w2.heap.size ms1)
  case atStart => exact ⟨[], clock1, _, HI3.out, Nat.le_refl _, HM3.out, HR3.out.arr, by simp, by simp, fun i hi _ => secs_get _ _ _ _ hi, Only.refl _ _⟩
  case round =>
    obtain ⟨seen, c0, xs, hit, hc0, hm, hrow, hlen, hse, hun, ho⟩ := hrel
    have hbr : wr.heap[b]? = some (.cells (diskCells { D.burn with nf := wrap64 (D.burn.nf + 1) } gs1 cap1 ms1) 70 (0, 0)) := blk_only HR3.out.blk ho (by rintro (e | e); exact NBG.out e; exact NB.out e)
    have HBr := hid hbr; have Hit := hid hit; have Hc0 := hid hc0; have Hm := hid hm; have Hrow := hid hrow; have Hlen := hid hlen; have Hse := hid hse; have Hun := hid hun; have Ho := hid ho
    clear hit hc0 hm hrow hlen hse hun ho hbr
    go_wp2_with (at_next; refine wpList_next_raw rfl _ rfl rfl clock1 c0 seen Hit.out Hm.out Hm.out.old Hc0.out ?_ ?_)
    · intro hall
      have Hall := hid hall
      obtain ⟨w5, hcl, hm5, ho5, hs5⟩ := Hm.out.run_clear (P := Tryz.prog) 60 3 31 Tryz.underlying60
      have hc := cell_blk HBr.out
      unfold diskCells at hc
      have Hm5 := hid hm5; have Ho5 := hid ho5; have Hs5 := hid hs5
      clear hall hm5 ho5 hs5
      go_wp2
      go_ret
      rw [E2.out]
      have h3 := HR3.out
      obtain ⟨sg', sc', ρ', hrep, hρ⟩ := h3.flushed Hrow.out Hlen.out (fun p hp => Hse.out p hp (Hall.out p hp)) (fun i hi hno => Hun.out i hi (fun p hp e => absurd e (hno p hp))) Ho.out (.inr (by
        cases hρ : ρ1 w2.heap.size with
        | non => rfl
        | _ => have := HQ2.out _ (HQ1.out w2.heap.size (by rw [hρ]; simp)); have := HO1.out.size; omega)) Hm5.out Ho5.out
      have heq : ({ D.burn with nf := wrap64 (D.burn.nf + 1) } : DiskM).flushed = { D.burn.flushed with nf := wrap64 (D.nf + 1) } := by rw [burn_nf]; rfl
      rw [heq] at hrep
      have hsz : w'.heap.size ≤ w5.heap.size := by have h1 := HO1.out.size; have h2 := HO3.out.size; have h4 := Ho.out.size; have h5 := Ho5.out.size; omega
      refine ⟨rfl, ⟨gs1, cap1, ms1, sg', sc', _, _, ρ', hrep, fun k hk => HQ1.out k (hρ k hk), fun k hk => Nat.lt_of_lt_of_le (HQ2.out k hk) hsz⟩, ?_⟩
      have hn0 := HS3.out
      have hn1 := HO1.out.size
      have hn2 := Hon.out.size
      refine (((Hon.out.trans HO1.out (fun j _ e => by rw [e]; exact HA.out.has)).trans HO3.out (fun _ _ e => e.elim)).trans Ho.out (fun j hj e => ?_)).trans Ho5.out (fun j _ e => by rw [e]; exact HQ1.out _ (by rw [h3.rm]; simp))
      rcases e with e | e
      · rw [e]; exact HQ1.out _ (by rw [h3.rg]; simp)
      · omega
    · intro p hp hne w4 hit4 ho4 hs4 hm4 hlt hen
      have hpk : p.k < D.burn.n := (HR3.out.pen p hp).1
      have hb4 := blk_only HBr.out ho4 NB.out
      have hrow4 := Hrow.out.only ho4 (fun e => NG.out e.symm)
      have hc := cell_blk hb4
      have hca := hrow4.cell p.k (by rw [Hlen.out]; exact hpk)
      have hza := hrow4.frozen p.k
      have hcs : ∃ v0, w4.cell? ⟨gs1, p.k, none⟩ = some v0 := ⟨_, hca.trans (List.getElem?_eq_getElem (by rw [Hlen.out]; exact hpk))⟩
      obtain ⟨v0, hv0⟩ := hcs
      unfold diskCells at hc
      simp only [Pend.me, secV] at hen
      have Hp := hid hp; have Hne := hid hne; have Hit4 := hid hit4; have Ho4 := hid ho4; have Hm4 := hid hm4; have Hlt := hid hlt; have Hrow4 := hid hrow4
      clear hp hne hit4 ho4 hs4 hm4 hlt hb4 hrow4 hca
      have hpk' : (p.k : Int) < (D.burn.n : Int) := by omega
      simp only [Pend.me, secV]
      go_wp2
      have nmg : ms1 ≠ gs1 := fun e => by have h1 := HR3.out.rm; have h2 := HR3.out.rg; rw [e, h2] at h1; cases h1
      exact ⟨FInv.round (D := { D.burn with nf := wrap64 (D.burn.nf + 1) }) HR3.out NG.out Hlen.out Hse.out Hun.out Ho.out Hp.out Hit4.out Ho4.out Hm4.out Hrow4.out rfl, by
        rw [mapLeft_congr (Below.heap_setCell _ _ _ _ NG.out) (Below.heap_setCell _ _ _ _ nmg)]; exact Hlt.out⟩

theorem flush_c (h : DiskAt w b D F) :
    Calls Tryz.prog 60 #[.pointer (some ⟨b, 0, none⟩)] w fun e w' => e = .returned (.int .i64 D.flush.2) ∧ DiskAt w' b D.flush.1 F ∧ Only F w w' := by
  by_cases hc : D.down = true ∨ D.burns = false
  · exact flush_refused h hc
  · exact flush_taken h (by cases hd : D.down <;> simp_all) (by cases hd : D.burns <;> simp_all)
end
end Go.Proofs.YtfmdngeooelcpaaGreat
namespace Go.Proofs.YtfmdngeooelcpaaGreat
open Go.RowKit

def zeros (n : Nat) : List UInt8 := List.replicate n 0
@[simp] theorem length_zeros (n : Nat) : (zeros n).length = n := by simp [zeros]
def DiskM.new (n : Nat) : DiskM := { nw := 0, nf := 0, n := n, sure := fun _ => zeros 128, pend := fun _ => none, down := false, fuse := -1 }

theorem madeCells_zero (n : Nat) : madeCells #[.int .u8 0] n = (bytesV (zeros n)).toArray := by
  apply Array.ext'
  rw [toList_madeCells_one]
  simp [bytesV, zeros]

/-- make([]byte, n). -/
theorem make_bytes (w : World) (n : Nat) (hn : n ≤ 1000000) :
    (Instr.makeSlice 31 (.int .i64 n) (.int .i64 n)).run Tryz.prog w = .ok (.slice (some ⟨w.heap.size, 0, none⟩) n n) (w.alloc (.cells (bytesV (zeros n)).toArray 5)) := by
  obtain ⟨i0, hi, hz0, hz1, hz2⟩ := info_parts info8
  have := run_makeSlice (P := Tryz.prog) w 31 5 i0 (.int .u8 0) Tryz.underlying31 hi hz0 .i64 .i64 n n (by omega) (by omega) (by simp [hz1]; omega) (by simp [hz2]; omega) (by omega)
  rw [this]
  have e : (n : Int).toNat * i0.size = n := by simp [hz1]
  rw [e]
  show Result.ok (Value.slice _ (n : Int).toNat (n : Int).toNat) (w.alloc (.cells (madeCells #[.int .u8 0] n) _)) = _
  rw [madeCells_zero]
  simp

theorem info_row : (Tryz.prog.info? 31).map (fun i => (i.zero, i.size, i.bytes)) = some (some (.slice none 0 0), 1, 24) := by kernel_rfl

theorem Row.new' (w : World) (xs : List Value) (e : TypeId) (cap : Nat) (h : xs.length = cap) : Row (w.alloc (.cells xs.toArray e)) w.heap.size e cap xs := by subst h; exact Row.new w xs e

/-- The one cell of a block that was laid behind another. -/
theorem news1 (W : World) (o : Obj) (x : Value) (e : TypeId) : ∀ j u, [x][j]? = some u → ((W.alloc o).alloc (.cells #[x] e)).cell? ((⟨W.heap.size + 1, 0, none⟩ : Addr).add j) = some u := by
  intro j u hj
  have := (Row.new (W.alloc o) [x] e).news j u hj
  simpa using this

/-- In the middle of New: i sectors are there. -/
def NInv (w wr : World) (i : Nat) : Prop :=
  ∃ (sv : Value) (gs cap : Nat) (sg : Nat → Nat) (ρ : Nat → Role),
    ((i = 0 ∧ sv = .slice none 0 0) ∨ (0 < i ∧ sv = .slice (some ⟨gs, 0, none⟩) i cap ∧ Row wr gs 31 cap (secs i sg (fun _ => 128)) ∧ ρ gs = .arr)) ∧
    wr.heap[w.heap.size + 1]? = some (.cells #[.int .i64 0, .int .i64 0, sv, .map (some w.heap.size), .bool false, .int .i64 (-1)] 70 (0, 0)) ∧ IMap wr w.heap.size [] 0 ∧
    (∀ j, j < i → Row wr (sg j) 5 128 (bytesV (zeros 128)) ∧ ρ (sg j) = .sec j) ∧ ρ (w.heap.size + 1) = .str ∧ ρ w.heap.size = .map ∧ (∀ k, ρ k ≠ .non → w.heap.size ≤ k ∧ k < wr.heap.size) ∧ Only (fun _ => False) w wr

theorem secs_succ (i : Nat) (sg : Nat → Nat) (s : Nat) (sg' : Nat → Nat) (h : ∀ j, j < i → sg' j = sg j) (hs : sg' i = s) : secs (i + 1) sg' (fun _ => 128) = secs i sg (fun _ => 128) ++ [secV s 128] := by
  unfold secs
  rw [List.range_succ, List.map_append]
  congr 1
  · refine List.map_congr_left fun j hj => ?_
    rw [h j (by simpa using hj)]
  · simp [hs]

theorem NInv.next {w wr W1 w1 : World} {i : Nat} {sv : Value} {gs : Nat} {sg : Nat → Nat} {ρ : Nat → Role}
    (hblk : wr.heap[w.heap.size + 1]? = some (.cells #[.int .i64 0, .int .i64 0, sv, .map (some w.heap.size), .bool false, .int .i64 (-1)] 70 (0, 0))) (hmap : IMap wr w.heap.size [] 0)
    (hsec : ∀ j, j < i → Row wr (sg j) 5 128 (bytesV (zeros 128)) ∧ ρ (sg j) = .sec j) (hrb : ρ (w.heap.size + 1) = .str) (hrm : ρ w.heap.size = .map) (hρ : ∀ k, ρ k ≠ .non → w.heap.size ≤ k ∧ k < wr.heap.size) (ho : Only (fun _ => False) w wr)
    (hW : Only (fun _ => False) wr W1) (hs : Row W1 wr.heap.size 5 128 (bytesV (zeros 128))) (ho1 : Only (fun k => k = gs) W1 w1) (hgs : ρ gs = .arr ∨ wr.heap.size < gs) {g' cap' : Nat} (hg' : ρ g' = .arr ∨ wr.heap.size < g')
    (hrow : Row w1 g' 31 cap' (secs i sg (fun _ => 128) ++ [secV wr.heap.size 128])) : NInv w (w1.setCell ⟨w.heap.size + 1, 2, none⟩ (.slice (some ⟨g', 0, none⟩) (i + 1) cap')) (i + 1) := by
  have hn : ρ wr.heap.size = .non := by
    cases h : ρ wr.heap.size with
    | non => rfl
    | _ => have := (hρ wr.heap.size (by rw [h]; simp)).2; omega
  have hslt : wr.heap.size < W1.heap.size := hs.lt
  have ngs : ∀ k, ρ k ≠ .arr → k < wr.heap.size → ¬ k = gs := by
    intro k hk hlt e
    rcases hgs with h | h
    · exact hk (by rw [e]; exact h)
    · omega
  have ng' : ∀ k, ρ k ≠ .arr → k ≤ wr.heap.size → ¬ k = g' := by
    intro k hk hlt e
    rcases hg' with h | h
    · exact hk (by rw [e]; exact h)
    · omega
  have hb1 := blk_only (blk_only hblk hW (fun e => e)) ho1 (ngs _ (by rw [hrb]; simp) (blk_lt hblk))
  have hob : Only (fun k => k = w.heap.size + 1) w1 (w1.setCell ⟨w.heap.size + 1, 2, none⟩ (.slice (some ⟨g', 0, none⟩) (i + 1) cap')) := only_set _ _ _
  have hblt := blk_lt hblk
  refine ⟨_, g', cap', fun j => if j = i then wr.heap.size else sg j, fun k => if k = g' then .arr else if k = wr.heap.size then .sec i else ρ k, .inr ⟨by omega, rfl, ?_, by simp⟩, ?_, ?_, ?_, ?_, ?_, ?_, ?_⟩
  · rw [secs_succ i sg wr.heap.size (fun j => if j = i then wr.heap.size else sg j) (fun j hj => if_neg (by omega)) (if_pos rfl)]
    exact hrow.only hob (fun e => ng' _ (by rw [hrb]; simp) (by omega) e.symm)
  · exact blk_set hb1 2 _
  · exact ((hmap.only hW (fun e => e)).only ho1 (ngs _ (by rw [hrm]; simp) (blk_lt hmap.blk))).only hob (by omega)
  · intro j hj
    by_cases e : j = i
    · subst e
      simp only [if_true]
      refine ⟨(hs.only ho1 (fun e => ?_)).only hob (by omega), ?_⟩
      · rcases hgs with h | h
        · rw [← e, hn] at h; cases h
        · omega
      · rw [if_neg (ng' _ (by rw [hn]; simp) (Nat.le_refl _))]
    · simp only [if_neg e]
      obtain ⟨h1, h2⟩ := hsec j (by omega)
      have hlt := h1.lt
      refine ⟨((h1.only hW (fun e => e)).only ho1 (ngs _ (by rw [h2]; simp) hlt)).only hob (fun e => by rw [e, hrb] at h2; cases h2), ?_⟩
      rw [if_neg (ng' _ (by rw [h2]; simp) (by omega)), if_neg (by omega)]; exact h2
  · show (if w.heap.size + 1 = g' then _ else _) = _
    rw [if_neg (ng' _ (by rw [hrb]; simp) (by omega)), if_neg (by omega)]; exact hrb
  · show (if w.heap.size = g' then _ else _) = _
    rw [if_neg (ng' _ (by rw [hrm]; simp) (by omega)), if_neg (by omega)]; exact hrm
  · intro k hk
    have hz : w.heap.size ≤ wr.heap.size := ho.size
    have h1 := ho1.size
    have h2 := hrow.lt
    simp only [World.size_setCell]
    by_cases e1 : k = g'
    · rcases hg' with h | h
      · have := hρ k (by rw [e1, h]; simp); omega
      · omega
    · by_cases e2 : k = wr.heap.size
      · omega
      · simp only [if_neg e1, if_neg e2] at hk
        have := hρ k hk; omega
  · refine ((ho.trans hW (fun _ _ e => e)).trans ho1 (fun k hk e => ?_)).trans hob (fun k hk e => by omega)
    rcases hgs with h | h
    · have := hρ gs (by rw [h]; simp); omega
    · have := ho.size; omega

set_option maxRecDepth 100000 in
set_option maxHeartbeats 800000 in
theorem new_ok (w : World) (n : Nat) (h0 : 0 < n) (h1 : n ≤ 4096) :
    Calls Tryz.prog 4 #[.int .i64 n] w fun e w' => ∃ b F, e = .returned (.tuple #[.pointer (some ⟨b, 0, none⟩), .int .i64 0]) ∧ DiskAt w' b (DiskM.new n) F ∧ Only (fun _ => False) w w' ∧ ∀ k, F k → w.heap.size ≤ k := by
  have hlt : decide ((n : Int) < 1) = false := by simp; omega
  have hgt : decide ((4096 : Int) < n) = false := by simp; omega
  have hmm := @run_makeMap Tryz.prog
  obtain ⟨ir, hir, hrz, hr1, hr2⟩ := info_parts info_row
  go_enter Tryz.func4, Tryz.ntmps4
  go_wp2_with fail
  try go_frame
  go_loopw [15] (fun i wr => ∃ k : Nat, i = .int .i64 k ∧ k ≤ n ∧ NInv w wr k) (fun i _ => n - (intOf i).toNat)
  case atStart =>
    refine ⟨0, rfl, Nat.zero_le _, .slice none 0 0, 0, 0, fun _ => 0, fun k => if k = w.heap.size then .map else if k = w.heap.size + 1 then .str else .non, .inl ⟨rfl, rfl⟩, ?_, ?_, by simp, by simp, by simp, ?_, ?_⟩
    · have := blk_new (w.alloc (.map #[] 0)) (.cells #[.int .i64 0, .int .i64 0, .slice none 0 0, .map (some w.heap.size), .bool false, .int .i64 (-1)] 70)
      simpa using this
    · exact ⟨blk_alloc (blk_new w _), by simp, by simp, by simp⟩
    · intro k hk
      by_cases e1 : k = w.heap.size
      · simp only [World.size_alloc]; omega
      · by_cases e2 : k = w.heap.size + 1
        · simp only [World.size_alloc]; omega
        · simp [e1, e2] at hk
    · exact ((Only.refl _ _).alloc _).alloc _
  case round =>
    obtain ⟨k, rfl, hk, hinv⟩ := hrel
    have HI := hid hinv
    clear hinv
    by_cases hkn : k < n
    · obtain ⟨sv, gs, cap, sg, ρ, hsv, hblk, hmap, hsec, hrb, hrm, hρ, ho⟩ := HI.out
      have hmk : ∀ w, (Instr.makeSlice 31 (.int .i64 128) (.int .i64 128)).run Tryz.prog w = .ok (.slice (some ⟨w.heap.size, 0, none⟩) 128 128) (w.alloc (.cells (bytesV (zeros 128)).toArray 5)) := fun w => make_bytes w 128 (by decide)
      have hc := cell_blk hblk
      have hz := frozen_blk hblk
      have hbl := blk_lt hblk
      have hbl2 : w.heap.size < wr.heap.size := by omega
      have Hsv := hid hsv; have Hblk := hid hblk; have Hmap := hid hmap; have Hsec := hid hsec; have Hρ := hid hρ; have Ho := hid ho; have Hrb := hid hrb; have Hrm := hid hrm
      clear hsv hblk hmap hsec hρ ho hrb hrm
      go_wp2_with fail
      rcases Hsv.out with ⟨rfl, rfl⟩ | ⟨hk0, rfl, hrow, hgs⟩
      · go_region_law (refine step_of rfl (wp_app_nil (.tmp 21) (.tmp 23) 68 rfl 31 ir (.slice none 0 0) 1 24 Tryz.underlying68 hir hrz hr1 hr2 rfl rfl ⟨wr.heap.size + 1, 0, none⟩ 1 1 rfl [.slice (some ⟨wr.heap.size, 0, none⟩) 128 128] rfl (news1 wr _ _ _) (by decide) (by decide) (by decide) ?_); intro cap' w1 hcap' hrow1 ho1; have hb1 := (ho1.block _ (blk_lt (blk_alloc (blk_alloc Hblk.out))) (fun e => e)).trans (blk_alloc (blk_alloc Hblk.out)); have hc1 := cell_blk hb1; have hz1 := frozen_blk hb1; have Hrow1 := hid hrow1; have Ho1 := hid ho1; clear hrow1 ho1 hb1)
        all_goals
          go_wp2
          go_roundw
          case rel =>
            refine ⟨1, rfl, by omega, NInv.next (i := 0) (gs := wr.heap.size + 2) Hblk.out Hmap.out Hsec.out Hrb.out Hrm.out Hρ.out Ho.out ?_ ?_ (Ho1.out.mono (fun _ _ e => e.elim)) (.inr (by omega)) (.inr (by omega)) (by have := Hrow1.out; simpa [secs, secV] using this)⟩
            · exact (((Only.refl _ _).alloc _).alloc _).drew
            · exact (Row.new' wr _ _ 128 (by simp)).alloc _
          case measure => simp [intOf]; omega
      · have Hrow := hid hrow
        have Hgs := hid hgs
        clear hrow hgs
        go_region_law (refine step_of rfl (wp_app (.tmp 21) (.tmp 23) 68 rfl 31 ir (.slice none 0 0) 1 24 Tryz.underlying68 hir hrz hr1 hr2 rfl gs k cap (secs k sg (fun _ => 128)) rfl (by rw [Nat.mul_one]; exact (Hrow.out.alloc _).alloc _) (by simp) ⟨wr.heap.size + 1, 0, none⟩ 1 1 rfl [.slice (some ⟨wr.heap.size, 0, none⟩) 128 128] rfl (news1 wr _ _ _) (by simp [Value.oneCell']) (by omega) (by omega) ?_); intro g' cap' w1 hcap' hrow1 hg' ho1; have hb1 := (ho1.block _ (blk_lt (blk_alloc (blk_alloc Hblk.out))) (fun e => by have := Hgs.out; rw [← e, Hrb.out] at this; cases this)).trans (blk_alloc (blk_alloc Hblk.out)); have hc1 := cell_blk hb1; have hz1 := frozen_blk hb1; have Hrow1 := hid hrow1; have Ho1 := hid ho1; have Hg' := hid hg'; clear hrow1 ho1 hb1 hg')
        all_goals
          go_wp2
          go_roundw
          case rel =>
            refine ⟨k + 1, by go_num, by omega, NInv.next (i := k) (gs := gs) Hblk.out Hmap.out Hsec.out Hrb.out Hrm.out Hρ.out Ho.out ?_ ?_ Ho1.out (.inl Hgs.out) ?_ (by have := Hrow1.out; rw [Nat.mul_one] at this; exact this)⟩
            · exact (((Only.refl _ _).alloc _).alloc _).drew
            · exact (Row.new' wr _ _ 128 (by simp)).alloc _
            · rcases Hg'.out with e | e
              · left; rw [e]; exact Hgs.out
              · right; rw [e]; simp only [World.size_drew, World.size_alloc]; omega
          case measure => simp [intOf]; omega
    · have : k = n := by omega
      subst this
      go_wp2
      go_ret2
      obtain ⟨sv, gs, cap, sg, ρ, hsv, hblk, hmap, hsec, hrb, hrm, hρ, ho⟩ := HI.out
      rcases hsv with ⟨e, -⟩ | ⟨-, rfl, hrow, hgs⟩
      · omega
      refine ⟨w.heap.size + 1, fun j => ρ j ≠ .non, rfl, ⟨gs, cap, w.heap.size, sg, fun _ => 128, [], 0, ρ, ⟨hblk, hrow, fun i hi => ⟨(hsec i hi).1, by simp [DiskM.new]⟩, hmap, by simp, by simp [DiskM.new], ⟨h0, h1⟩, by simp [DiskM.new], hrb, hgs, hrm, fun i hi => (hsec i hi).2⟩, fun j hj => hj, fun j hj => (hρ j hj).2⟩, ho, fun j hj => (hρ j hj).1⟩

end Go.Proofs.YtfmdngeooelcpaaGreat
namespace Go.Proofs.YtfmdngeooelcpaaGreat
open Go.RowKit

/-- A slice value that reads as these cells. -/
def SrcV (w : World) (v : Value) (xs : List Value) : Prop :=
  ∃ a c, v = .slice a xs.length c ∧ (xs ≠ [] → ∃ g o, a = some ⟨g, o, none⟩ ∧ ∀ i u, xs[i]? = some u → w.cell? ⟨g, o + i, none⟩ = some u)
def intsV (l : List Int) : List Value := l.map (Value.int .i64)
@[simp] theorem length_intsV (l : List Int) : (intsV l).length = l.length := by simp [intsV]
theorem intsV_get (l : List Int) (i : Nat) : (intsV l)[i]? = (l[i]?).map (Value.int .i64) := by simp [intsV]

theorem SrcV.only {w w' : World} {v : Value} {xs : List Value} {G : Nat → Prop} (h : SrcV w v xs) (ho : Only G w w') (hG : xs ≠ [] → ∀ g o c, v = .slice (some ⟨g, o, none⟩) xs.length c → g < w.heap.size → ¬ G g) : SrcV w' v xs := by
  obtain ⟨a, c, rfl, h⟩ := h
  refine ⟨a, c, rfl, fun hne => ?_⟩
  obtain ⟨g, o, rfl, hc⟩ := h hne
  refine ⟨g, o, rfl, fun i u hu => ?_⟩
  have h1 := hc i u hu
  rw [← h1]
  exact World.cell?_of_block (ho.block g (World.block_lt_of_cell? _ _ h1) (hG hne g o c rfl (World.block_lt_of_cell? _ _ h1)))

def IdxPost (n : Int) (l : List Int) (w : World) (e : Ending) (w' : World) : Prop := ∃ i : Int, e = .returned (.int .i64 i) ∧ (n ∈ l → 0 ≤ i) ∧ (n ∉ l → i = -1) ∧ w = w'

set_option maxRecDepth 100000 in
theorem index_c (w : World) (v : Value) (l : List Int) (n : Int) (hs : SrcV w v (intsV l)) (hb : l.length ≤ 9223372036854775807) :
    Calls Tryz.prog 63 #[v, .int .i64 n] w (IdxPost n l w) := by
  obtain ⟨a, c, rfl, h⟩ := hs
  have hlen : (intsV l).length = l.length := by simp
  rw [hlen]
  have Hlen := hid hlen
  clear hlen
  go_enter Tryz.func63, Tryz.ntmps63
  go_wp2
  try go_frame
  go_loop [8] (fun i => ∃ k : Nat, i = .int .i64 k ∧ k ≤ l.length ∧ n ∉ l.take k) (fun i => l.length - (intOf i).toNat)
  case atStart => exact ⟨0, rfl, Nat.zero_le _, by simp⟩
  case round =>
    obtain ⟨k, rfl, hk, hno⟩ := hrel
    have Hno := hid hno
    clear hno
    by_cases hkl : k < l.length
    · obtain ⟨g, o, rfl, hc⟩ := h (by intro e; have := congrArg List.length e; simp at this; simp [this] at hkl)
      have hc1 := hc k (.int .i64 l[k]) (by rw [intsV_get, List.getElem?_eq_getElem hkl]; rfl)
      have Hc := hid hc
      clear hc h
      by_cases he : n = l[k]
      · have hb : (n == l[k]) = true := by simpa using he
        have He := hid he
        clear he
        go_wp2
        go_ret
        have hmem : n ∈ l := by rw [He.out]; exact List.getElem_mem hkl
        exact ⟨k, rfl, fun _ => by omega, fun h => absurd hmem h, rfl⟩
      · have hb : (n == l[k]) = false := by simpa using he
        have He := hid he
        clear he
        go_wp2
        go_round
        case rel =>
          refine ⟨k + 1, by go_num, by omega, ?_⟩
          rw [List.take_succ_eq_append_getElem hkl]
          simp only [List.mem_append, List.mem_singleton, not_or]
          exact ⟨Hno.out, He.out⟩
        case measure => simp [intOf]; omega
    · have : k = l.length := by omega
      subst this
      clear h
      go_wp2
      go_ret
      have := Hno.out
      rw [List.take_length] at this
      exact ⟨-1, rfl, fun h => absurd h this, fun _ => rfl, rfl⟩

set_option maxRecDepth 100000 in
theorem contains_c (w : World) (v : Value) (l : List Int) (n : Int) (hs : SrcV w v (intsV l)) (hb : l.length ≤ 9223372036854775807) :
    Calls Tryz.prog 37 #[v, .int .i64 n] w fun e w' => e = .returned (.bool (decide (n ∈ l))) ∧ w = w' := by
  have h0 := index_c w v l n hs hb
  obtain ⟨a, c, rfl, -⟩ := hs
  rw [length_intsV] at h0 ⊢
  have hI := hid h0
  clear h0
  have Hb := hid hb
  clear hb
  by_cases hm : n ∈ l
  · have e1 : decide (n ∈ l) = true := by simp [hm]
    rw [e1]
    have Hm := hid hm
    clear hm e1
    go_enter Tryz.func37, Tryz.ntmps37
    go_wp2_with (go_at_call 63; refine hI.out.mono ?_; rintro e w' ⟨i, rfl, hi1, hi2, rfl⟩; have hi := hi1 Hm.out; clear hi1 hi2)
    go_ret
    simp
  · have e1 : decide (n ∈ l) = false := by simp [hm]
    rw [e1]
    have Hm := hid hm
    clear hm e1
    go_enter Tryz.func37, Tryz.ntmps37
    go_wp2_with (go_at_call 63; refine hI.out.mono ?_; rintro e w' ⟨i, rfl, hi1, hi2, rfl⟩; obtain rfl := hi2 Hm.out; clear hi1 hi2)
    go_ret
    simp
end Go.Proofs.YtfmdngeooelcpaaGreat
namespace Go.Proofs.YtfmdngeooelcpaaGreat
open Go.RowKit Go.ChangeShapes Go.WideShapes Go.ChangeAt

section
variable {H : Type} {enc : TypeId × Value → H} {W : World} {base : Nat} {spare : Nat → Bool} {held : Bool} {fuel : Nat} {x : DataW H × List MemPlace} {v : Value}

theorem Src.lt {g of c : Nat} {l : List UInt8} (h : Src W v l) (e : v = .slice (some ⟨g, of, none⟩) l.length c) (hne : l ≠ []) : g < W.heap.size := by
  obtain ⟨a, c', rfl, hs⟩ := h
  obtain ⟨g', o', rfl, hc⟩ := hs hne
  cases e
  cases hl : l with
  | nil => exact absurd hl hne
  | cons y ys => exact World.block_lt_of_cell? _ _ (hc 0 _ (by rw [hl]; rfl))
theorem SrcV.lt {g of c : Nat} {l : List Value} (h : SrcV W v l) (e : v = .slice (some ⟨g, of, none⟩) l.length c) (hne : l ≠ []) : g < W.heap.size := by
  obtain ⟨a, c', rfl, hs⟩ := h
  obtain ⟨g', o', rfl, hc⟩ := hs hne
  cases e
  cases hl : l with
  | nil => exact absurd hl hne
  | cons y ys => exact World.block_lt_of_cell? _ _ (hc 0 _ (by rw [hl]; rfl))

end
end Go.Proofs.YtfmdngeooelcpaaGreat
namespace Go.Proofs.YtfmdngeooelcpaaGreat
open Go.RowKit

def tornAt (at' : Int) : Nat := (max 0 (min at' 128)).toNat
def torn (l s : List UInt8) (at' : Int) : List UInt8 := l.take (tornAt at') ++ s.drop (tornAt at')
theorem tornAt_le (a : Int) : tornAt a ≤ 128 := by unfold tornAt; omega
theorem length_torn (l s : List UInt8) (a : Int) (h1 : l.length = 128) (h2 : s.length = 128) : (torn l s a).length = 128 := by
  have := tornAt_le a
  simp [torn, h1, h2]; omega
def DiskM.crashed (D : DiskM) (keep : List Int) (tear at' : Int) (k : Nat) : List UInt8 :=
  match D.pend k with
  | some l => if (k : Int) ∈ keep then l else if (k : Int) = tear then torn l (D.sure k) at' else D.sure k
  | none => D.sure k
def DiskM.crash (D : DiskM) (keep : List Int) (tear at' : Int) : DiskM :=
  { D with down := true, fuse := -1, sure := D.crashed keep tear at', pend := fun _ => none }

/-- Sector i is as it is to be behind the crash. -/
def SecDone (w : World) (xs : List Value) (ρ : Nat → Role) (C : Nat → List UInt8) (i : Nat) : Prop :=
  ∃ g c, xs[i]? = some (secV g c) ∧ Row w g 5 c (bytesV (C i)) ∧ (C i).length = 128 ∧ (ρ g = .sec i ∨ ρ g = .pen i)

def CInv (w3 wr : World) (r gs cap ms n : Nat) (sg sc : Nat → Nat) (S C : Nat → List UInt8) (pe : List Pend) (clock : Nat) (ρ : Nat → Role) : Prop :=
  ∃ (seen : List Nat) (c0 : Nat) (xs : List Value), wr.heap[r]? = some (.mapIter (some ms) clock seen.toArray c0) ∧ clock ≤ c0 ∧ IMap wr ms (pe.map Pend.me) clock ∧ Row wr gs 31 cap xs ∧ xs.length = n ∧
    (∀ i, i < n → (∃ p ∈ pe, p.k = i ∧ p.t ∈ seen) → SecDone wr xs ρ C i) ∧ (∀ i, i < n → (∀ p ∈ pe, p.k = i → p.t ∉ seen) → xs[i]? = some (secV (sg i) (sc i)) ∧ Row wr (sg i) 5 (sc i) (bytesV (S i))) ∧
    Only (fun k => k = gs ∨ k = r ∨ ∃ i, ρ k = .sec i) w3 wr

section
variable {w w' : World} {b : Nat} {D : DiskM} {gs cap ms : Nat} {sg sc : Nat → Nat} {pe : List Pend} {clock : Nat} {ρ : Nat → Role} {F : Nat → Prop}

theorem SecDone.keep {w w' : World} {xs xs' : List Value} {C : Nat → List UInt8} {i : Nat} {G : Nat → Prop} (h : SecDone w xs ρ C i) (hx : xs'[i]? = xs[i]?) (ho : Only G w w') (hG : ∀ g, ρ g = .sec i ∨ ρ g = .pen i → ¬ G g) : SecDone w' xs' ρ C i := by
  obtain ⟨g, c, h1, h2, h3, h4⟩ := h
  exact ⟨g, c, by rw [hx]; exact h1, h2.only ho (hG g h4), h3, h4⟩

/-- One round. -/
theorem CInv.round {w3 wr w4 w5 : World} {r : Nat} {seen : List Nat} {xs xs' : List Value} {S C : Nat → List UInt8} (h : DiskRep w b D gs cap ms sg sc pe clock ρ) (hr : r ≠ gs) (hrρ : ρ r = .non) (hlen' : xs'.length = D.n)
    (hse : ∀ i, i < D.n → (∃ p ∈ pe, p.k = i ∧ p.t ∈ seen) → SecDone wr xs ρ C i) (hun : ∀ i, i < D.n → (∀ p ∈ pe, p.k = i → p.t ∉ seen) → xs[i]? = some (secV (sg i) (sc i)) ∧ Row wr (sg i) 5 (sc i) (bytesV (S i)))
    (ho : Only (fun k => k = gs ∨ k = r ∨ ∃ i, ρ k = .sec i) w3 wr)
    {p : Pend} (hp : p ∈ pe) (hit : w4.heap[r]? = some (.mapIter (some ms) clock (seen ++ [p.t]).toArray clock)) (ho4 : Only (fun k => k = r) wr w4)
    (hm4 : IMap w4 ms (pe.map Pend.me) clock) (ho5 : Only (fun k => k = gs ∨ k = sg p.k) w4 w5) (hrow5 : Row w5 gs 31 cap xs') (hxs : ∀ i, i ≠ p.k → xs'[i]? = xs[i]?) (hdone : SecDone w5 xs' ρ C p.k) : CInv w3 w5 r gs cap ms D.n sg sc S C pe clock ρ := by
  have hgm : ms ≠ gs := fun e => by have h1 := h.rm; have h2 := h.rg; rw [e, h2] at h1; cases h1
  have hpk : p.k < D.n := (h.pen p hp).1
  have hgk := h.rs p.k hpk
  have hrg : r ≠ sg p.k := fun e => by rw [← e, hrρ] at hgk; cases hgk
  have hms : ms ≠ sg p.k := fun e => by rw [← e, h.rm] at hgk; cases hgk
  have hb4 : ∀ i, i ≠ p.k → ∀ g, ρ g = .sec i ∨ ρ g = .pen i → ¬ (g = r) ∧ ¬ (g = gs ∨ g = sg p.k) := by
    intro i hi g hg
    refine ⟨fun e => ?_, fun e => ?_⟩
    · rw [e, hrρ] at hg; rcases hg with hg | hg <;> cases hg
    · rcases e with e | e
      · rw [e, h.rg] at hg; rcases hg with hg | hg <;> cases hg
      · rw [e, hgk] at hg; rcases hg with hg | hg
        · cases hg; exact hi rfl
        · cases hg
  refine ⟨seen ++ [p.t], clock, xs', ?_, Nat.le_refl _, ?_, hrow5, hlen', ?_, ?_, ?_⟩
  · exact blk_only hit ho5 (by rintro (e | e); exact hr e; exact hrg e)
  · exact hm4.only ho5 (by rintro (e | e); exact hgm e; exact hms e)
  · rintro i hi ⟨q, hq, hqk, hqs⟩
    by_cases hik : i = p.k
    · rw [hik]; exact hdone
    · have hqs' : q.t ∈ seen := by
        rcases List.mem_append.1 hqs with hqs | hqs
        · exact hqs
        · exact absurd (hqk.symm.trans (congrArg Pend.k (stamp_unique h hq hp (by simpa using hqs)))) hik
      exact ((hse i hi ⟨q, hq, hqk, hqs'⟩).keep rfl ho4 (fun g hg => (hb4 i hik g hg).1)).keep (hxs i hik) ho5 (fun g hg => (hb4 i hik g hg).2)
  · intro i hi hno
    have hip : i ≠ p.k := fun e => hno p hp e.symm (by simp)
    obtain ⟨h1, h2⟩ := hun i hi (fun q hq hqk hqs => hno q hq hqk (by simp [hqs]))
    have h3 := hb4 i hip (sg i) (.inl (h.rs i hi))
    exact ⟨(hxs i hip).trans h1, (h2.only ho4 h3.1).only ho5 h3.2⟩
  · refine (ho.trans ho4 (fun k _ e => .inr (.inl e))).trans ho5 (fun k _ e => ?_)
    rcases e with e | e
    · exact .inl e
    · exact .inr (.inr ⟨p.k, by rw [e]; exact hgk⟩)

/-- Behind the loop and the clearing of the map. -/
theorem DiskRep.crashed {w3 wr w5 : World} {r : Nat} {xs : List Value} {C : Nat → List UInt8} (h : DiskRep w3 b D gs cap ms sg sc pe clock ρ) (hrow : Row wr gs 31 cap xs) (hlen : xs.length = D.n)
    (hd : ∀ i, i < D.n → SecDone wr xs ρ C i) (ho : Only (fun k => k = gs ∨ k = r ∨ ∃ i, ρ k = .sec i) w3 wr) (hr : ρ r = .non)
    (hm5 : IMap w5 ms [] clock) (ho5 : Only (fun k => k = ms) wr w5) :
    ∃ sg' sc' ρ', DiskRep w5 b { D with sure := C, pend := fun _ => none } gs cap ms sg' sc' [] clock ρ' ∧ ∀ k, ρ' k ≠ .non → ρ k ≠ .non := by
  have hex : ∀ i, ∃ gc : Nat × Nat, i < D.n → xs[i]? = some (secV gc.1 gc.2) ∧ Row wr gc.1 5 gc.2 (bytesV (C i)) ∧ (C i).length = 128 ∧ (ρ gc.1 = .sec i ∨ ρ gc.1 = .pen i) := by
    intro i
    by_cases hi : i < D.n
    · obtain ⟨g, c, h1, h2, h3, h4⟩ := hd i hi
      exact ⟨(g, c), fun _ => ⟨h1, h2, h3, h4⟩⟩
    · exact ⟨(0, 0), fun e => absurd e hi⟩
  obtain ⟨f, hf⟩ := Classical.axiomOfChoice hex
  refine ⟨fun i => (f i).1, fun i => (f i).2, fun k => match ρ k with | .str => .str | .arr => .arr | .map => .map | .sec i => if (f i).1 = k then .sec i else .non | .pen i => if (f i).1 = k then .sec i else .non | .non => .non, ⟨?_, ?_, ?_, hm5, by simp, by simp, h.n0, h.fu, ?_, ?_, ?_, ?_⟩, ?_⟩
  · refine blk_only (blk_only h.blk ho ?_) ho5 (fun e => by have h1 := h.rb; have h2 := h.rm; rw [e, h2] at h1; cases h1)
    rintro (e | e | ⟨i, e⟩)
    · have h1 := h.rb; have h2 := h.rg; rw [e, h2] at h1; cases h1
    · have h1 := h.rb; rw [e, hr] at h1; cases h1
    · rw [h.rb] at e; cases e
  · have hrow5 := hrow.only ho5 (fun e => by have h1 := h.rg; have h2 := h.rm; rw [e, h2] at h1; cases h1)
    have hx : xs = secs D.n (fun i => (f i).1) (fun i => (f i).2) := by
      apply List.ext_getElem?
      intro i
      by_cases hi : i < D.n
      · exact (hf i hi).1.trans (secs_get D.n (fun i => (f i).1) (fun i => (f i).2) i hi).symm
      · rw [List.getElem?_eq_none (by omega), List.getElem?_eq_none (by rw [length_secs]; omega)]
    rw [← hx]; exact hrow5
  · intro i hi
    obtain ⟨_, h2, h3, h4⟩ := hf i hi
    exact ⟨h2.only ho5 (fun e => by rw [e, h.rm] at h4; rcases h4 with h4 | h4 <;> cases h4), h3⟩
  · simp only [h.rb]
  · simp only [h.rg]
  · simp only [h.rm]
  · intro i hi
    rcases (hf i hi).2.2.2 with h4 | h4 <;> simp only [h4, if_true]
  · intro k hk e
    simp only [e] at hk
    exact hk rfl

theorem DiskM.crashed_none {k : Nat} (keep : List Int) (tear at' : Int) (h : D.pend k = none) : D.crashed keep tear at' k = D.sure k := by simp [DiskM.crashed, h]

set_option maxRecDepth 100000 in
set_option maxHeartbeats 1600000 in
theorem crash_c (h : DiskAt w b D F) (v : Value) (keep : List Int) (hs : SrcV w v (intsV keep)) (hv : ∀ g o c, v = .slice (some ⟨g, o, none⟩) keep.length c → ¬ F g) (hkl : keep.length ≤ 9223372036854775807) (tear at' : Int) :
    Calls Tryz.prog 13 #[.pointer (some ⟨b, 0, none⟩), v, .int .i64 tear, .int .i64 at'] w fun e w' => e = .returned (.tuple #[]) ∧ DiskAt w' b (D.crash keep tear at') F ∧ Only F w w' := by
  have HA := hid h
  obtain ⟨gs1, cap1, ms1, sg1, sc1, pe1, clock1, ρ1, hr1, hq1, hq2⟩ := h
  have hc := cell_blk hr1.blk
  have hz := frozen_blk hr1.blk
  have hb1 := blk_set (blk_set hr1.blk 4 (.bool true)) 5 (.int .i64 (-1))
  have ho1 : Only (fun k => k = b) w ((w.setCell ⟨b, 4, none⟩ (.bool true)).setCell ⟨b, 5, none⟩ (.int .i64 (-1))) := (only_set b 4 _).trans (only_set b 5 _) (fun k _ e => e)
  have hr2 := hr1.upd ho1 { D with down := true, fuse := -1 } rfl rfl rfl hb1 (by constructor <;> simp)
  have hs2 : SrcV ((w.setCell ⟨b, 4, none⟩ (.bool true)).setCell ⟨b, 5, none⟩ (.int .i64 (-1))) v (intsV keep) := hs.only ho1 (fun _ g o c e _ eb => hv g o c (by simpa using e) (by rw [eb]; exact HA.out.has))
  obtain ⟨W2, hW2⟩ : ∃ W2, W2 = (w.setCell ⟨b, 4, none⟩ (.bool true)).setCell ⟨b, 5, none⟩ (.int .i64 (-1)) := ⟨_, rfl⟩
  rw [← hW2] at hr2 hs2 ho1
  unfold diskCells at hc
  have HR2 := hid hr2; have HO1 := hid ho1; have HQ1 := hid hq1; have HQ2 := hid hq2; have HW2 := hid hW2; have HS := hid hs2; have HV := hid hv; have HKL := hid hkl
  clear hr2 ho1 hq1 hq2 hr1 hb1 hW2 hs2 hv hkl hs
  go_enter Tryz.func13, Tryz.ntmps13
  go_wp2_with (at_range; rw [← HW2.out]; refine wpList_range_raw rfl _ 60 rfl 3 31 Tryz.underlying60 rfl HR2.out.map ?_; intro w3 hit3 ho3 hs3 hm3)
  have hr3 := HR2.out.only ho3 (fun _ _ e => e)
  have hn1 := HO1.out.size
  have hrr : ρ1 W2.heap.size = .non := by
    cases hρ : ρ1 W2.heap.size with
    | non => rfl
    | _ => have := HQ2.out _ (HQ1.out W2.heap.size (by rw [hρ]; simp)); omega
  have ng : W2.heap.size ≠ gs1 := fun e => by have := HR2.out.arr.lt; omega
  have nm : W2.heap.size ≠ ms1 := fun e => by have := blk_lt HR2.out.map.blk; omega
  have nmg : ms1 ≠ gs1 := fun e => by have h1 := hr3.rm; have h2 := hr3.rg; rw [e, h2] at h1; cases h1
  have nbx : ¬ (b = gs1 ∨ b = W2.heap.size ∨ ∃ i, ρ1 b = .sec i) := by
    rintro (e | e | ⟨i, e⟩)
    · have h1 := hr3.rb; have h2 := hr3.rg; rw [e, h2] at h1; cases h1
    · have h1 := hr3.rb; rw [e, hrr] at h1; cases h1
    · rw [hr3.rb] at e; cases e
  have HR3 := hid hr3; have NG := hid ng; have NM := hid nm; have NMG := hid nmg; have NBX := hid nbx; have HI3 := hid hit3; have HO3 := hid ho3; have HS3 := hid hs3; have HM3 := hid hm3; have HRR := hid hrr; have HN1 := hid hn1
  clear hr3 ng nm nmg nbx hit3 ho3 hs3 hm3 hrr hn1 hc hz
  try go_frame
  go_loopw [8, 9] (fun _ _ wr => CInv w3 wr W2.heap.size gs1 cap1 ms1 D.n sg1 sc1 D.sure (D.crashed keep tear at') pe1 clock1 ρ1) (fun _ _ wr => mapLeft wr W2.heap.size ms1)
  case atStart => exact ⟨[], clock1, _, HI3.out, Nat.le_refl _, HM3.out, HR3.out.arr, by simp, fun i _ ⟨p, _, _, h⟩ => by simp at h, fun i hi _ => ⟨secs_get _ _ _ _ hi, (HR3.out.sec i hi).1⟩, Only.refl _ _⟩
  case round =>
    obtain ⟨seen, c0, xs, hit, hc0, hm, hrow, hlen, hse, hun, ho⟩ := hrel
    have hbr : wr.heap[b]? = some (.cells (diskCells { D with down := true, fuse := -1 } gs1 cap1 ms1) 70 (0, 0)) := blk_only HR3.out.blk ho NBX.out
    have HBr := hid hbr; have Hit := hid hit; have Hc0 := hid hc0; have Hm := hid hm; have Hrow := hid hrow; have Hlen := hid hlen; have Hse := hid hse; have Hun := hid hun; have Ho := hid ho
    clear hit hc0 hm hrow hlen hse hun ho hbr
    go_wp2_with (at_next; refine wpList_next_raw rfl _ rfl rfl clock1 c0 seen Hit.out Hm.out Hm.out.old Hc0.out ?_ ?_)
    · intro hall
      have Hall := hid hall
      obtain ⟨w5, hcl, hm5, ho5, hs5⟩ := Hm.out.run_clear (P := Tryz.prog) 60 3 31 Tryz.underlying60
      have hc := cell_blk HBr.out
      unfold diskCells at hc
      have Hm5 := hid hm5; have Ho5 := hid ho5; have Hs5 := hid hs5
      clear hall hm5 ho5 hs5
      go_wp2
      go_end0
      have h3 := HR3.out
      obtain ⟨sg', sc', ρ', hrep, hρ⟩ := h3.crashed (C := D.crashed keep tear at') Hrow.out Hlen.out (fun i hi => by
        cases hp : D.pend i with
        | some l => obtain ⟨p, hpe, e⟩ := h3.all i l hp; exact Hse.out i hi ⟨p, hpe, e, Hall.out p hpe⟩
        | none =>
          have h4 := Hun.out i hi (fun p hpe e => by have := (h3.pen p hpe).2.2.2.2; rw [e] at this; rw [show D.pend i = some p.l from this] at hp; cases hp)
          exact ⟨sg1 i, sc1 i, h4.1, by rw [DiskM.crashed_none _ _ _ hp]; exact h4.2, by rw [DiskM.crashed_none _ _ _ hp]; exact (h3.sec i hi).2, .inl (h3.rs i hi)⟩) Ho.out HRR.out Hm5.out Ho5.out
      have hsz : w.heap.size ≤ w5.heap.size := by have h1 := HO1.out.size; have h2 := HO3.out.size; have h4 := Ho.out.size; have h5 := Ho5.out.size; omega
      refine ⟨rfl, ⟨gs1, cap1, ms1, sg', sc', _, _, ρ', hrep, fun k hk => HQ1.out k (hρ k hk), fun k hk => Nat.lt_of_lt_of_le (HQ2.out k hk) hsz⟩, ?_⟩
      have hn0 := HS3.out
      have hn1 := HO1.out.size
      refine ((HO1.out.mono (fun j _ e => by rw [e]; exact HA.out.has)).trans HO3.out (fun _ _ e => e.elim)).trans Ho.out (fun j hj e => ?_) |>.trans Ho5.out (fun j _ e => by rw [e]; exact HQ1.out _ (by rw [h3.rm]; simp))
      rcases e with e | e | ⟨i, e⟩
      · rw [e]; exact HQ1.out _ (by rw [h3.rg]; simp)
      · omega
      · exact HQ1.out _ (by rw [e]; simp)
    · intro p hp hne w4 hit4 ho4 hs4 hm4 hlt hen
      have h3 := HR3.out
      have hpk : p.k < D.n := (h3.pen p hp).1
      have hb4 := blk_only HBr.out ho4 (fun e => NBX.out (.inr (.inl e)))
      have hrow4 := Hrow.out.only ho4 (fun e => NG.out e.symm)
      have hc := cell_blk hb4
      have hza := hrow4.frozen p.k
      have hno : ∀ q ∈ pe1, q.k = p.k → q.t ∉ seen := fun q hq e => by rw [pend_unique h3 hq hp e]; exact hne
      have hx := (Hun.out p.k hpk hno).1
      have hv0 := hrow4.cell p.k (by rw [Hlen.out]; exact hpk)
      rw [hx] at hv0
      have hs4 : SrcV w4 v (intsV keep) := by
        refine HS.out.only (((HO3.out.mono (fun _ _ e => e.elim)).trans Ho.out (G := fun k => k = gs1 ∨ k = W2.heap.size ∨ ∃ i, ρ1 k = .sec i) (F := fun k => k = gs1 ∨ k = W2.heap.size ∨ ∃ i, ρ1 k = .sec i) (fun _ _ e => e)).trans ho4 (fun k _ e => .inr (.inl e))) ?_
        rintro - g o c e hlt' (e' | e' | ⟨i, e'⟩)
        · exact HV.out g o c (by simpa using e) (by rw [e']; exact HQ1.out _ (by rw [h3.rg]; simp))
        · omega
        · exact HV.out g o c (by simpa using e) (HQ1.out _ (by rw [e']; simp))
      have hsec4 : Row w4 (sg1 p.k) 5 (sc1 p.k) (bytesV (D.sure p.k)) := (Hun.out p.k hpk hno).2.only ho4 (fun e => by have h5 := h3.rs p.k hpk; rw [e, HRR.out] at h5; cases h5)
      have hpen4 : Row w4 p.g 5 p.c (bytesV p.l) := by
        obtain ⟨_, h5, _, h6, _⟩ := h3.pen p hp
        refine (h5.only Ho.out ?_).only ho4 (fun e => by rw [e, HRR.out] at h6; cases h6)
        rintro (e | e | ⟨i, e⟩)
        · rw [e, h3.rg] at h6; cases h6
        · rw [e, HRR.out] at h6; cases h6
        · rw [e] at h6; cases h6
      have Hsec4 := hid hsec4; have Hpen4 := hid hpen4
      clear hsec4 hpen4
      have hcon := contains_c w4 v keep p.k hs4 HKL.out
      unfold diskCells at hc
      simp only [Pend.me, secV] at hen hv0
      have Hp := hid hp; have Hne := hid hne; have Hit4 := hid hit4; have Ho4 := hid ho4; have Hm4 := hid hm4; have Hlt := hid hlt; have Hrow4 := hid hrow4; have Hx := hid hx
      have hpk' : (p.k : Int) < (D.n : Int) := by omega
      clear hp hne hit4 ho4 hm4 hlt hb4 hrow4 hx hs4 hno h3
      simp only [Pend.me, secV]
      by_cases hk : (p.k : Int) ∈ keep
      · rw [decide_eq_true hk] at hcon
        have HC := hid hcon; have HK := hid hk
        clear hcon hk
        go_wp2_with (go_at_call 37; refine HC.out.mono ?_; rintro e w' ⟨rfl, rfl⟩)
        have h3 := HR3.out
        obtain ⟨_, _, h5, h6, h7⟩ := h3.pen p Hp.out
        have hC : D.crashed keep tear at' p.k = p.l := by unfold DiskM.crashed; rw [show D.pend p.k = some p.l from h7]; simp [HK.out]
        have ho5 : Only (fun k => k = gs1) w4 (w4.setCell ⟨gs1, p.k, none⟩ (secV p.g p.c)) := only_set _ _ _
        refine ⟨CInv.round (D := { D with down := true, fuse := -1 }) (xs' := xs.set p.k (secV p.g p.c)) h3 NG.out HRR.out (by simpa using Hlen.out) Hse.out Hun.out Ho.out Hp.out Hit4.out Ho4.out Hm4.out (ho5.mono (fun _ _ e => .inl e)) (Hrow4.out.set p.k _ (by rw [Hlen.out]; exact hpk)) (fun i hi => List.getElem?_set_ne (fun e => hi e.symm)) ⟨p.g, p.c, by simp [Hlen.out, hpk], ?_, ?_, .inr h6⟩, ?_⟩
        · rw [hC]; exact Hpen4.out.only ho5 (fun e => by rw [e, h3.rg] at h6; cases h6)
        · rw [hC]; exact h5
        · show mapLeft (w4.setCell ⟨gs1, p.k, none⟩ (secV p.g p.c)) _ _ < _
          rw [mapLeft_congr (Below.heap_setCell _ _ _ _ NG.out) (Below.heap_setCell _ _ _ _ NMG.out)]; exact Hlt.out
      · rw [decide_eq_false hk] at hcon
        have HC := hid hcon; have HK := hid hk
        clear hcon hk
        by_cases ht : (p.k : Int) = tear
        · have ht' : ((p.k : Int) == tear) = true := by simp [ht]
          have HT := hid ht
          clear ht
          go_wp2_with (go_at_call 37; refine HC.out.mono ?_; rintro e w' ⟨rfl, rfl⟩)
          have hpc : (128 : Int) ≤ (p.c : Int) := by
            have h1 := (HR3.out.pen p Hp.out).2.1.le
            have h2 := (HR3.out.pen p Hp.out).2.2.1
            rw [length_bytesV, h2] at h1; omega
          obtain ⟨m, hm⟩ : ∃ m : Nat, m = tornAt at' := ⟨_, rfl⟩
          obtain ⟨q, hq⟩ : ∃ q : Int, (if 128 < at' then 128 else at') = q := ⟨_, rfl⟩
          have hif : (if 0 < q then q else 0) = (m : Int) := by rw [hm, ← hq]; unfold tornAt; split <;> split <;> omega
          have hm128 : m ≤ 128 := by rw [hm]; exact tornAt_le _
          have hmc : (m : Int) ≤ (p.c : Int) := by omega
          have HM := hid hm
          clear hm
          go_still_tail 12, (by kernel_rfl)
          change wpList _ _ _ _ _ w4.drew
          have h5 := (HR3.out.pen p Hp.out).2.2.1
          have hs5 := (HR3.out.sec p.k hpk).2
          have hs5' : (D.sure p.k).length = 128 := hs5
          refine wpList_cpy rfl (.tmp 47) (.tmp 52) 31 31 rfl 5 Tryz.underlying31 (by kernel_rfl) (sg1 p.k) 0 128 (sc1 p.k) rfl (sc1 p.k) (bytesV (D.sure p.k)) Hsec4.out (some ⟨p.g, 0, none⟩) m p.c rfl (bytesV (p.l.take m)) (by simp; omega) (fun _ => ⟨_, rfl, fun j u hj => ?_⟩) (by simp; omega) (oneCell_bytesV _) ?_
          · refine Hpen4.out.news j u ?_
            rw [bytesV_get] at hj ⊢
            by_cases hjm : j < m
            · rw [List.getElem?_take_of_lt hjm] at hj; exact hj
            · rw [List.getElem?_eq_none (by simp; omega)] at hj; cases hj
          · intro w5 hrow5 ho5 hsz5
            have hlay : lay (bytesV (D.sure p.k)) 0 (bytesV (p.l.take m)) = bytesV (torn p.l (D.sure p.k) at') := by
              have : min m p.l.length = m := by omega
              simp [lay, torn, ← HM.out, bytesV, this]
            rw [hlay] at hrow5
            have Hrow5 := hid hrow5; have Ho5 := hid ho5; have Hsz5 := hid hsz5
            clear hrow5 ho5 hsz5 h5 hs5 hs5' hlay
            go_wp2
            have h3 := HR3.out
            obtain ⟨_, _, h5, h6, h7⟩ := h3.pen p Hp.out
            have hC : D.crashed keep tear at' p.k = torn p.l (D.sure p.k) at' := by unfold DiskM.crashed; rw [show D.pend p.k = some p.l from h7]; simp only; rw [if_neg HK.out, if_pos HT.out]
            have hrk := h3.rs p.k hpk
            have ho5 : Only (fun k => k = sg1 p.k) w4 w5 := ((Only.refl (fun k => k = sg1 p.k) w4).drew).trans Ho5.out (fun _ _ e => e)
            have nr : W2.heap.size ≠ sg1 p.k := fun e => by rw [← e, HRR.out] at hrk; cases hrk
            have nms : ms1 ≠ sg1 p.k := fun e => by rw [← e, h3.rm] at hrk; cases hrk
            have hfin : CInv w3 w5 W2.heap.size gs1 cap1 ms1 D.n sg1 sc1 D.sure (D.crashed keep tear at') pe1 clock1 ρ1 := by
              refine CInv.round (D := { D with down := true, fuse := -1 }) (xs' := xs) h3 NG.out HRR.out Hlen.out Hse.out Hun.out Ho.out Hp.out Hit4.out Ho4.out Hm4.out (ho5.mono (fun _ _ e => .inr e)) (Hrow4.out.only ho5 (fun e => by rw [← e, h3.rg] at hrk; cases hrk)) (fun i _ => rfl) ⟨sg1 p.k, sc1 p.k, Hx.out, ?_, ?_, .inl hrk⟩
              · rw [hC]; exact Hrow5.out
              · rw [hC]; exact length_torn _ _ _ h5 (h3.sec p.k hpk).2
            refine ⟨?_, ?_⟩
            · repeat apply Exists.intro
              exact ⟨hfin, rfl⟩
            · rw [mapLeft_congr (ho5.block _ (blk_lt Hit4.out) nr) (ho5.block _ (blk_lt Hm4.out.blk) nms)]; exact Hlt.out
        · have ht' : ((p.k : Int) == tear) = false := by simp [ht]
          have HT := hid ht
          clear ht
          go_wp2_with (go_at_call 37; refine HC.out.mono ?_; rintro e w' ⟨rfl, rfl⟩)
          have h3 := HR3.out
          obtain ⟨_, _, h5, h6, h7⟩ := h3.pen p Hp.out
          have hC : D.crashed keep tear at' p.k = D.sure p.k := by unfold DiskM.crashed; rw [show D.pend p.k = some p.l from h7]; simp [HK.out, HT.out]
          refine ⟨CInv.round (D := { D with down := true, fuse := -1 }) (xs' := xs) h3 NG.out HRR.out Hlen.out Hse.out Hun.out Ho.out Hp.out Hit4.out Ho4.out Hm4.out (Only.refl _ _) Hrow4.out (fun i _ => rfl) ⟨sg1 p.k, sc1 p.k, Hx.out, ?_, ?_, .inl (h3.rs p.k hpk)⟩, Hlt.out⟩
          · rw [hC]; exact Hsec4.out
          · rw [hC]; exact (h3.sec p.k hpk).2
end
end Go.Proofs.YtfmdngeooelcpaaGreat
namespace Go.Proofs.YtfmdngeooelcpaaGreat
open Go.RowKit

theorem make128 : ∀ w, (Instr.makeSlice 31 (.int .i64 128) (.int .i64 128)).run Tryz.prog w = .ok (.slice (some ⟨w.heap.size, 0, none⟩) 128 128) (w.alloc (.cells (bytesV (zeros 128)).toArray 5)) := fun w => make_bytes w 128 (by decide)

def fill (x : UInt8) (k : Nat) : List UInt8 := List.replicate k x ++ List.replicate (128 - k) 0
@[simp] theorem length_fill (x : UInt8) (k : Nat) (h : k ≤ 128) : (fill x k).length = 128 := by simp [fill]; omega
/-- Bytes, noughts behind them, of a sector's length. -/
def sectorL (l : List UInt8) : List UInt8 := l.take 128 ++ zeros (128 - l.length)
@[simp] theorem length_sectorL (l : List UInt8) : (sectorL l).length = 128 := by simp [sectorL]; omega

theorem lay_zeros (n : Nat) (l : List UInt8) : lay (bytesV (zeros n)) 0 (bytesV l) = bytesV (l ++ zeros (n - l.length)) := by
  simp [lay, bytesV, zeros]

theorem MadeC.apart {w w' : World} {v : Value} {l : List UInt8} {g c b : Nat} {D : DiskM} {F : Nat → Prop} (hm : MadeC w w' v l g c) (h : DiskAt w b D F) : ∀ g' o c', v = .slice (some ⟨g', o, none⟩) l.length c' → ¬ F g' := by
  intro g' o c' e hf
  have := hm.val.symm.trans e
  cases this
  have := h.lt hf
  have := hm.lo
  omega


def W1 : DiskM := ((DiskM.new 2).write 1 (List.replicate 128 7)).1
def W2 : DiskM := W1.flush.1
end Go.Proofs.YtfmdngeooelcpaaGreat
namespace Go.Proofs.YtfmdngeooelcpaaGreat
open Go.RowKit

structure OpM where
  kind : Int
  n : Int
  at' : Int
  x : Int
  raw : Bool
  dv : Value
  data : List UInt8
  kv : Value
  keep : List Int
def OpM.cells (o : OpM) : List Value := [.int .i64 o.kind, .int .i64 o.n, .int .i64 o.at', .int .u8 o.x, .bool o.raw, o.dv, o.kv]

/-- A slice value that reads as these operations; all that it holds lies below B. -/
structure OpAt (w : World) (B : Nat) (o : OpM) : Prop where
  data : Src w o.dv o.data
  keep : SrcV w o.kv (intsV o.keep)
  dlt : ∀ g of c, o.dv = .slice (some ⟨g, of, none⟩) o.data.length c → o.data ≠ [] → g < B
  klt : ∀ g of c, o.kv = .slice (some ⟨g, of, none⟩) o.keep.length c → o.keep ≠ [] → g < B
  dlen : o.data.length ≤ 9223372036854775807
  klen : o.keep.length ≤ 9223372036854775807
  n0 : -9223372036854775808 ≤ o.n ∧ o.n ≤ 9223372036854775807
  x0 : 0 ≤ o.x ∧ o.x ≤ 255

def OpsAt (w : World) (B : Nat) (v : Value) (l : List OpM) : Prop :=
  ∃ a c, v = .slice a l.length c ∧ l.length ≤ 9223372036854775807 ∧ ∀ i o, l[i]? = some o → OpAt w B o ∧ ∃ g of, a = some ⟨g, of, none⟩ ∧ g < B ∧ ∀ j u, o.cells[j]? = some u → w.cell? ⟨g, of + i * 7 + j, none⟩ = some u

def OpM.ok (o : OpM) : Bool := !(decide (300 < o.data.length) || decide (20 < o.keep.length) || (!o.raw && decide (128 < o.data.length)))
theorem OpAt.only {w w' : World} {B : Nat} {o : OpM} {G : Nat → Prop} (h : OpAt w B o) (ho : Only G w w') (hG : ∀ k, k < B → ¬ G k) : OpAt w' B o :=
  ⟨h.data.only ho (fun hne g of c e => hG g (h.dlt g of c e hne)), h.keep.only ho (fun hne g of c e _ => hG g (h.klt g of c (by simpa using e) (by rintro e'; apply hne; rw [e']; rfl))), h.dlt, h.klt, h.dlen, h.klen, h.n0, h.x0⟩
theorem OpsAt.only {w w' : World} {B : Nat} {v : Value} {l : List OpM} {G : Nat → Prop} (h : OpsAt w B v l) (ho : Only G w w') (hB : B ≤ w.heap.size) (hG : ∀ k, k < B → ¬ G k) : OpsAt w' B v l := by
  obtain ⟨a, c, rfl, hll, hl⟩ := h
  refine ⟨a, c, rfl, hll, fun i o hi => ?_⟩
  obtain ⟨hat, g, of, rfl, hg, hc⟩ := hl i o hi
  refine ⟨hat.only ho hG, g, of, rfl, hg, fun j u hj => ?_⟩
  rw [← hc j u hj]
  exact World.cell?_of_block (ho.block g (by omega) (hG g hg))

theorem SrcV.len {w : World} {v : Value} {l : List Value} (h : SrcV w v l) : ∃ a c, v = .slice a l.length c := let ⟨a, c, e, _⟩ := h; ⟨a, c, e⟩

end Go.Proofs.YtfmdngeooelcpaaGreat
namespace Go.Proofs.YtfmdngeooelcpaaGreat
open Go.RowKit

theorem write_n (D : DiskM) (n : Int) (l : List UInt8) : (D.write n l).1.n = D.n := by
  unfold DiskM.write; repeat' split
  all_goals simp [DiskM.put, burn_n]

end Go.Proofs.YtfmdngeooelcpaaGreat
