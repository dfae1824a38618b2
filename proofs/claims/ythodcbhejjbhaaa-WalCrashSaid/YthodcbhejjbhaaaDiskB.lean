/- The disk's methods that look at its struct, and turn its plain cells alone. -/
import Derived.Test.YthodcbhejjbhaaaDisk
namespace Go.Proofs.Ythodcbhejjbhaaa
open Go.RowKit

theorem load64 (w : World) (b o : Nat) (x : Int) (hc : w.cell? ⟨b, o, none⟩ = some (.int .i64 x)) :
    Calls Try.prog 44 #[.pointer (some ⟨b, o, none⟩)] w fun e w' => e = .returned (.int .i64 x) ∧ w = w' := by
  have hl := run_call_load (P := Try.prog) Try.func63 (by kernel_rfl) (by kernel_rfl) (by kernel_rfl) .i64 (by kernel_rfl) hc
  go_enter Try.func44, Try.ntmps44
  go_wp2
  go_ret
  exact ⟨rfl, rfl⟩

theorem add64 (w : World) (b o : Nat) (x : Int) (hc : w.cell? ⟨b, o, none⟩ = some (.int .i64 x)) (hz : w.frozen? ⟨b, o, none⟩ = false) :
    Calls Try.prog 74 #[.pointer (some ⟨b, o, none⟩), .int .i64 1] w fun e w' => e = .returned (.int .i64 (wrap64 (x + 1))) ∧ w' = w.setCell ⟨b, o, none⟩ (.int .i64 (wrap64 (x + 1))) := by
  have hl := run_call_add (P := Try.prog) Try.func87 (by kernel_rfl) (by kernel_rfl) (by kernel_rfl) .i64 (by kernel_rfl) (y := 1) (s := wrap64 (x + 1)) hc hz (by simp [go_sem, wrap64, IntKind.wrap_i64])
  go_enter Try.func74, Try.ntmps74
  go_wp2
  go_ret
  exact ⟨rfl, rfl⟩

section
variable {w : World} {b : Nat} {D : DiskM} {F : Nat → Prop}

theorem DiskAt.cells (h : DiskAt w b D F) : ∃ gs cap ms, (∀ o, w.cell? ⟨b, o, none⟩ = (#[.int .i64 D.nw, .int .i64 D.nf, .slice (some ⟨gs, 0, none⟩) D.n cap, .map (some ms), .bool D.down, .int .i64 D.fuse] : Array Value)[o]?) ∧ ∀ o, w.frozen? ⟨b, o, none⟩ = false := by
  obtain ⟨gs, cap, ms, sg, sc, pe, clock, ρ, hr, h1, h2⟩ := h
  exact ⟨gs, cap, ms, cell_blk hr.blk, frozen_blk hr.blk⟩

/-- The plain cells of the disk's own struct are others. -/
theorem DiskAt.upd {w' : World} (h : DiskAt w b D F) (ho : Only (fun k => k = b) w w') (D' : DiskM) (hn : D'.n = D.n) (hs : D'.sure = D.sure) (hp : D'.pend = D.pend) (hf : -1 ≤ D'.fuse ∧ D'.fuse ≤ 9223372036854775807)
    (hb : ∀ gs cap ms, w.heap[b]? = some (.cells (diskCells D gs cap ms) 72 (0, 0)) → w'.heap[b]? = some (.cells (diskCells D' gs cap ms) 72 (0, 0))) : DiskAt w' b D' F ∧ Only F w w' := by
  have hF := h.has
  obtain ⟨gs, cap, ms, sg, sc, pe, clock, ρ, hr, h1, h2⟩ := h
  exact ⟨⟨gs, cap, ms, sg, sc, pe, clock, ρ, hr.upd ho D' hn hs hp (hb _ _ _ hr.blk) hf, h1, fun k hk => Nat.lt_of_lt_of_le (h2 k hk) ho.size⟩, ho.mono (fun k _ e => e ▸ hF)⟩


theorem sectors_c (h : DiskAt w b D F) : Calls Try.prog 49 #[.pointer (some ⟨b, 0, none⟩)] w fun e w' => e = .returned (.int .i64 D.n) ∧ w = w' := by
  obtain ⟨gs, cap, ms, hc, hz⟩ := h.cells
  clear h
  go_enter Try.func49, Try.ntmps49
  go_wp2
  go_ret
  exact ⟨rfl, rfl⟩

theorem writes_c (h : DiskAt w b D F) : Calls Try.prog 22 #[.pointer (some ⟨b, 0, none⟩)] w fun e w' => e = .returned (.int .i64 D.nw) ∧ w = w' := by
  obtain ⟨gs, cap, ms, hc, hz⟩ := h.cells
  clear h
  have h0 := hc 0
  simp at h0
  clear hc
  go_enter Try.func22, Try.ntmps22
  go_wp2_with (go_at_call 44; refine (load64 _ _ _ _ h0).mono ?_; rintro e w' ⟨rfl, rfl⟩)
  go_ret
  exact ⟨rfl, rfl⟩

theorem flushes_c (h : DiskAt w b D F) : Calls Try.prog 23 #[.pointer (some ⟨b, 0, none⟩)] w fun e w' => e = .returned (.int .i64 D.nf) ∧ w = w' := by
  obtain ⟨gs, cap, ms, hc, hz⟩ := h.cells
  clear h
  have h0 := hc 1
  simp at h0
  clear hc
  go_enter Try.func23, Try.ntmps23
  go_wp2_with (go_at_call 44; refine (load64 _ _ _ _ h0).mono ?_; rintro e w' ⟨rfl, rfl⟩)
  go_ret
  exact ⟨rfl, rfl⟩

def DiskM.setFuse (D : DiskM) (n : Int) : DiskM := { D with fuse := max n (-1) }

theorem fuse_c (h : DiskAt w b D F) (n : Int) (hn : n ≤ 9223372036854775807) : Calls Try.prog 26 #[.pointer (some ⟨b, 0, none⟩), .int .i64 n] w fun e w' => e = .returned (.tuple #[]) ∧ DiskAt w' b (D.setFuse n) F ∧ Only F w w' := by
  obtain ⟨gs, cap, ms, hc, hz⟩ := h.cells
  have H := hid h
  clear h
  go_enter Try.func26, Try.ntmps26
  go_wp2
  all_goals
    go_end0
    refine ⟨rfl, H.out.upd (only_set b 5 _) (D.setFuse n) rfl rfl rfl ?_ ?_⟩
    · simp [DiskM.setFuse]; omega
    · intro gs cap ms hb; rw [blk_set hb]; simp [diskCells, DiskM.setFuse]; omega
end
end Go.Proofs.Ythodcbhejjbhaaa
