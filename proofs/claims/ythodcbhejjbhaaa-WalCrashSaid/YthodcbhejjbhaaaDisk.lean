/- The disk: how it lies in memory, and what its small methods do. -/
import Derived.Test.YthodcbhejjbhaaaClone
namespace Go.Proofs.Ythodcbhejjbhaaa
open Go.RowKit

/-- A disk, as a plain thing: how often it was written and flushed (as the counters have it), its sectors, what isn't durable, whether the power is gone, the fuse. -/
structure DiskM where
  nw : Int
  nf : Int
  n : Nat
  sure : Nat → List UInt8
  pend : Nat → Option (List UInt8)
  down : Bool
  fuse : Int

inductive Role where
  | str | arr | map | sec (i : Nat) | pen (k : Nat) | non

/-- An entry of the map of what isn't durable. -/
structure Pend where
  k : Nat
  g : Nat
  c : Nat
  l : List UInt8
  t : Nat
def secV (g c : Nat) : Value := .slice (some ⟨g, 0, none⟩) 128 c
def Pend.me (p : Pend) : ME := ⟨p.k, secV p.g p.c, p.t⟩
def secs (n : Nat) (sg sc : Nat → Nat) : List Value := (List.range n).map fun i => secV (sg i) (sc i)
@[simp] theorem length_secs (n : Nat) (sg sc : Nat → Nat) : (secs n sg sc).length = n := by simp [secs]
theorem secs_get (n : Nat) (sg sc : Nat → Nat) (i : Nat) (h : i < n) : (secs n sg sc)[i]? = some (secV (sg i) (sc i)) := by simp [secs, h]

def diskCells (D : DiskM) (gs cap ms : Nat) : Array Value :=
  #[.int .i64 D.nw, .int .i64 D.nf, .slice (some ⟨gs, 0, none⟩) D.n cap, .map (some ms), .bool D.down, .int .i64 D.fuse]

structure DiskRep (w : World) (b : Nat) (D : DiskM) (gs cap ms : Nat) (sg sc : Nat → Nat) (pe : List Pend) (clock : Nat) (ρ : Nat → Role) : Prop where
  blk : w.heap[b]? = some (.cells (diskCells D gs cap ms) 72 (0, 0))
  arr : Row w gs 33 cap (secs D.n sg sc)
  sec : ∀ i, i < D.n → Row w (sg i) 5 (sc i) (bytesV (D.sure i)) ∧ (D.sure i).length = 128
  map : IMap w ms (pe.map Pend.me) clock
  pen : ∀ p ∈ pe, p.k < D.n ∧ Row w p.g 5 p.c (bytesV p.l) ∧ p.l.length = 128 ∧ ρ p.g = .pen p.k ∧ D.pend p.k = some p.l
  all : ∀ k l, D.pend k = some l → ∃ p ∈ pe, p.k = k
  n0 : 0 < D.n ∧ D.n ≤ 4096
  fu : -1 ≤ D.fuse ∧ D.fuse ≤ 9223372036854775807
  rb : ρ b = .str
  rg : ρ gs = .arr
  rm : ρ ms = .map
  rs : ∀ i, i < D.n → ρ (sg i) = .sec i

/-- At block b lies a disk; all its blocks are among F. -/
def DiskAt (w : World) (b : Nat) (D : DiskM) (F : Nat → Prop) : Prop :=
  ∃ gs cap ms sg sc pe clock ρ, DiskRep w b D gs cap ms sg sc pe clock ρ ∧ (∀ k, ρ k ≠ .non → F k) ∧ ∀ k, F k → k < w.heap.size

/-- What a step on a disk leaves: a disk, in its own blocks or new ones; no other block has turned. -/
def DStep (w w' : World) (b : Nat) (D : DiskM) (F : Nat → Prop) : Prop :=
  ∃ F', DiskAt w' b D F' ∧ Only F w w' ∧ ∀ k, F' k → F k ∨ w.heap.size ≤ k

theorem DiskRep.only {w w' : World} {b : Nat} {D : DiskM} {gs cap ms : Nat} {sg sc : Nat → Nat} {pe : List Pend} {clock : Nat} {ρ : Nat → Role}
    (h : DiskRep w b D gs cap ms sg sc pe clock ρ) {G : Nat → Prop} (g : Only G w w') (hd : ∀ k, ρ k ≠ .non → ¬ G k) : DiskRep w' b D gs cap ms sg sc pe clock ρ :=
  ⟨blk_only h.blk g (hd _ (by rw [h.rb]; simp)), h.arr.only g (hd _ (by rw [h.rg]; simp)),
   fun i hi => ⟨(h.sec i hi).1.only g (hd _ (by rw [h.rs i hi]; simp)), (h.sec i hi).2⟩,
   h.map.only g (hd _ (by rw [h.rm]; simp)),
   fun p hp => let ⟨a, r, l, q, s⟩ := h.pen p hp; ⟨a, r.only g (hd _ (by rw [q]; simp)), l, q, s⟩,
   h.all, h.n0, h.fu, h.rb, h.rg, h.rm, h.rs⟩

theorem DiskAt.only {w w' : World} {b : Nat} {D : DiskM} {F G : Nat → Prop} (h : DiskAt w b D F) (g : Only G w w') (hd : ∀ k, F k → ¬ G k) : DiskAt w' b D F := by
  obtain ⟨gs, cap, ms, sg, sc, pe, clock, ρ, hr, h1, h2⟩ := h
  exact ⟨gs, cap, ms, sg, sc, pe, clock, ρ, hr.only g (fun k hk => hd k (h1 k hk)), h1, fun k hk => Nat.lt_of_lt_of_le (h2 k hk) g.size⟩

theorem DiskAt.lt {w : World} {b : Nat} {D : DiskM} {F : Nat → Prop} (h : DiskAt w b D F) {k : Nat} (hk : F k) : k < w.heap.size := by
  obtain ⟨gs, cap, ms, sg, sc, pe, clock, ρ, hr, h1, h2⟩ := h
  exact h2 k hk
theorem DiskAt.has {w : World} {b : Nat} {D : DiskM} {F : Nat → Prop} (h : DiskAt w b D F) : F b := by
  obtain ⟨gs, cap, ms, sg, sc, pe, clock, ρ, hr, h1, h2⟩ := h
  exact h1 b (by rw [hr.rb]; simp)
theorem DiskAt.step {w w' : World} {b : Nat} {D : DiskM} {F : Nat → Prop} (h : DiskAt w' b D F) (g : Only F w w') : DStep w w' b D F := ⟨F, h, g, fun _ hk => .inl hk⟩
theorem DiskAt.same {w : World} {b : Nat} {D : DiskM} {F : Nat → Prop} (h : DiskAt w b D F) : DStep w w b D F := h.step (Only.refl _ _)

section
variable {w w' : World} {b : Nat} {D : DiskM} {gs cap ms : Nat} {sg sc : Nat → Nat} {pe : List Pend} {clock : Nat} {ρ : Nat → Role}
/-- The plain cells of the disk's own struct are others. -/
theorem DiskRep.upd (h : DiskRep w b D gs cap ms sg sc pe clock ρ) (ho : Only (fun k => k = b) w w') (D' : DiskM) (hn : D'.n = D.n) (hs : D'.sure = D.sure) (hp : D'.pend = D.pend)
    (hb : w'.heap[b]? = some (.cells (diskCells D' gs cap ms) 72 (0, 0))) (hf : -1 ≤ D'.fuse ∧ D'.fuse ≤ 9223372036854775807) : DiskRep w' b D' gs cap ms sg sc pe clock ρ := by
  have nb : ∀ k, ρ k ≠ .str → k ≠ b := fun k hk e => hk (by rw [e]; exact h.rb)
  refine ⟨hb, ?_, ?_, ?_, ?_, ?_, ?_, hf, h.rb, h.rg, h.rm, ?_⟩
  · rw [hn]; exact h.arr.only ho (nb _ (by rw [h.rg]; simp))
  · intro i hi; rw [hn] at hi; rw [hs]; exact ⟨(h.sec i hi).1.only ho (nb _ (by rw [h.rs i hi]; simp)), (h.sec i hi).2⟩
  · exact h.map.only ho (nb _ (by rw [h.rm]; simp))
  · intro p hpp; obtain ⟨a, r, l, q, s⟩ := h.pen p hpp; rw [hn, hp]; exact ⟨a, r.only ho (nb _ (by rw [q]; simp)), l, q, s⟩
  · rw [hp]; exact h.all
  · rw [hn]; exact h.n0
  · intro i hi; rw [hn] at hi; exact h.rs i hi
end

def DiskM.burn (D : DiskM) : DiskM := if D.fuse < 0 then D else if D.fuse = 0 then { D with down := true, fuse := -1 } else { D with fuse := D.fuse - 1 }
def DiskM.burns (D : DiskM) : Bool := D.fuse != 0

set_option maxHeartbeats 400000 in
theorem burn_c {w : World} {b : Nat} {D : DiskM} {F : Nat → Prop} (h : DiskAt w b D F) :
    Calls Try.prog 73 #[.pointer (some ⟨b, 0, none⟩)] w fun e w' => e = .returned (.bool D.burns) ∧ DiskAt w' b D.burn F ∧ Only F w w' := by
  have hF := hid h.has
  obtain ⟨gs, cap, ms, sg, sc, pe, clock, ρ, hr, h1, h2⟩ := h
  have hc := cell_blk hr.blk
  have hz := frozen_blk hr.blk
  have hfu := hr.fu
  have H1 := hid h1; have H2 := hid h2; have HR := hid hr
  clear hr h1 h2
  unfold diskCells at hc
  by_cases hneg : D.fuse < 0
  · have e1 : D.burns = true := by simp [DiskM.burns]; omega
    have e2 : D.burn = D := by simp [DiskM.burn, hneg]
    have E1 := hid e1; have E2 := hid e2
    clear e1 e2
    go_enter Try.func73, Try.ntmps73
    go_wp2
    go_ret
    rw [E1.out, E2.out]
    exact ⟨rfl, ⟨gs, cap, ms, sg, sc, pe, clock, ρ, HR.out, H1.out, H2.out⟩, Only.refl _ _⟩
  · by_cases h0 : D.fuse = 0
    · have e1 : D.burns = false := by simp [DiskM.burns, h0]
      have e2 : D.burn = { D with down := true, fuse := -1 } := by simp [DiskM.burn, h0]
      have E1 := hid e1; have E2 := hid e2
      have hb0 : (D.fuse == 0) = true := by simp [h0]
      clear e1 e2 h0
      go_enter Try.func73, Try.ntmps73
      go_wp2
      go_ret
      rw [E1.out, E2.out]
      have ho : Only (fun k => k = b) w ((w.setCell ⟨b, 4, none⟩ (.bool true)).setCell ⟨b, 5, none⟩ (.int .i64 (-1))) := (only_set b 4 _).trans (only_set b 5 _) (fun k _ e => e)
      refine ⟨rfl, ⟨gs, cap, ms, sg, sc, pe, clock, ρ, HR.out.upd ho _ rfl rfl rfl (blk_set (blk_set HR.out.blk 4 _) 5 _) (by constructor <;> simp), H1.out, fun k hk => by simpa using H2.out k hk⟩, ho.mono (fun k _ e => e ▸ hF.out)⟩
    · have e1 : D.burns = true := by simp [DiskM.burns, h0]
      have e2 : D.burn = { D with fuse := D.fuse - 1 } := by simp [DiskM.burn, h0, hneg]
      have E1 := hid e1; have E2 := hid e2
      have hb0 : (D.fuse == 0) = false := by simp [h0]
      clear e1 e2
      go_enter Try.func73, Try.ntmps73
      go_wp2
      go_ret
      rw [E1.out, E2.out]
      have ho : Only (fun k => k = b) w (w.setCell ⟨b, 5, none⟩ (.int .i64 (D.fuse - 1))) := only_set b 5 _
      exact ⟨rfl, ⟨gs, cap, ms, sg, sc, pe, clock, ρ, HR.out.upd ho _ rfl rfl rfl (blk_set HR.out.blk 5 _) (by constructor <;> simp <;> omega), H1.out, fun k hk => by simpa using H2.out k hk⟩, ho.mono (fun k _ e => e ▸ hF.out)⟩
end Go.Proofs.Ythodcbhejjbhaaa
