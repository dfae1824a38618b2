/- DiskFuse: the walk. -/
import Derived.Test.YthodcbhejjbhaaaDiskO
namespace Go.Proofs.Ythodcbhejjbhaaa
open Go.RowKit

/-- Behind so many done steps under a fuse. -/
def FuseRel (fuse done : Int) (D : DiskM) : Prop :=
  D.n = 4 ∧ ((D.down = false ∧ D.fuse = fuse - done ∧ 0 ≤ done ∧ done ≤ fuse) ∨ (D.down = true ∧ D.fuse = -1 ∧ done = fuse ∧ 0 ≤ done))

theorem flush_n (D : DiskM) : D.flush.1.n = D.n := by unfold DiskM.flush; split <;> (try split) <;> simp [DiskM.flushed, burn_n]
theorem write_n (D : DiskM) (n : Int) (l : List UInt8) : (D.write n l).1.n = D.n := by
  unfold DiskM.write; repeat' split
  all_goals simp [DiskM.put, burn_n]

theorem flush_yes {fuse done : Int} {D : DiskM} (h : FuseRel fuse done D) (hl : done < fuse) : D.flush.2 = 0 ∧ D.flush.1.down = false ∧ FuseRel fuse (done + 1) D.flush.1 := by
  obtain ⟨hn, ⟨hd, hf, h0, h1⟩ | ⟨hd, hf, h0, h1⟩⟩ := h
  · have hb : D.burns = true := by simp [DiskM.burns, hf]; omega
    have hbd : D.burn = { D with fuse := D.fuse - 1 } := by unfold DiskM.burn; rw [if_neg (by omega), if_neg (by omega)]
    have e : D.flush = ({ D.burn.flushed with nf := wrap64 (D.nf + 1) }, 0) := by simp [DiskM.flush, hd, hb]
    rw [e, hbd]
    refine ⟨rfl, hd, hn, .inl ⟨hd, ?_, by omega, by omega⟩⟩
    show D.fuse - 1 = _
    omega
  · omega
theorem flush_no {fuse done : Int} {D : DiskM} (h : FuseRel fuse done D) (hl : ¬ done < fuse) : D.flush.2 = 50 ∧ D.flush.1.down = true ∧ FuseRel fuse done D.flush.1 := by
  obtain ⟨hn, ⟨hd, hf, h0, h1⟩ | ⟨hd, hf, h0, h1⟩⟩ := h
  · have hb : D.burns = false := by simp [DiskM.burns, hf]; omega
    have hbd : D.burn = { D with down := true, fuse := -1 } := by unfold DiskM.burn; rw [if_neg (by omega), if_pos (by omega)]
    have e : D.flush = (D.burn, 50) := by simp [DiskM.flush, hd, hb]
    rw [e, hbd]
    exact ⟨rfl, rfl, hn, .inr ⟨rfl, rfl, by omega, by omega⟩⟩
  · have e : D.flush = (D, 50) := by simp [DiskM.flush, hd]
    rw [e]
    exact ⟨rfl, hd, hn, .inr ⟨hd, hf, h0, h1⟩⟩
theorem write_yes {fuse done : Int} {D : DiskM} (h : FuseRel fuse done D) (hl : done < fuse) (n : Int) (l : List UInt8) (h0' : 0 ≤ n) (h4 : n < 4) (hll : l.length = 128) : (D.write n l).2 = 0 ∧ (D.write n l).1.down = false ∧ FuseRel fuse (done + 1) (D.write n l).1 := by
  obtain ⟨hn, ⟨hd, hf, h0, h1⟩ | ⟨hd, hf, h0, h1⟩⟩ := h
  · have hb : D.burns = true := by simp [DiskM.burns, hf]; omega
    have hbd : D.burn = { D with fuse := D.fuse - 1 } := by unfold DiskM.burn; rw [if_neg (by omega), if_neg (by omega)]
    have e : D.write n l = ({ D.burn.put n.toNat l with nw := wrap64 (D.nw + 1) }, 0) := by simp [DiskM.write, hd, hb, hn, hll]; omega
    rw [e, hbd]
    refine ⟨rfl, hd, hn, .inl ⟨hd, ?_, by omega, by omega⟩⟩
    show D.fuse - 1 = _
    omega
  · omega
theorem write_no {fuse done : Int} {D : DiskM} (h : FuseRel fuse done D) (hl : ¬ done < fuse) (n : Int) (l : List UInt8) (h0' : 0 ≤ n) (h4 : n < 4) (hll : l.length = 128) : (D.write n l).2 = 50 ∧ (D.write n l).1.down = true ∧ FuseRel fuse done (D.write n l).1 := by
  obtain ⟨hn, ⟨hd, hf, h0, h1⟩ | ⟨hd, hf, h0, h1⟩⟩ := h
  · have hb : D.burns = false := by simp [DiskM.burns, hf]; omega
    have hbd : D.burn = { D with down := true, fuse := -1 } := by unfold DiskM.burn; rw [if_neg (by omega), if_pos (by omega)]
    have e : D.write n l = (D.burn, 50) := by simp [DiskM.write, hd, hb, hn, hll]; omega
    rw [e, hbd]
    exact ⟨rfl, rfl, hn, .inr ⟨rfl, rfl, by omega, by omega⟩⟩
  · have e : D.write n l = (D, 50) := by simp [DiskM.write, hd]
    rw [e]
    exact ⟨rfl, hd, hn, .inr ⟨hd, hf, h0, h1⟩⟩

theorem made_src128 {w w' : World} {g : Nat} {l : List UInt8} (hm : MadeC w w' (.slice (some ⟨g, 0, none⟩) 128 128) l g 128) (_hl : l.length = 128) : Src w' (.slice (some ⟨g, 0, none⟩) 128 128) l := hm.src

/-- In the loop. -/
def FuseInv (w wr : World) (b : Nat) (fuse done : Int) : Prop := ∃ D F, DiskAt wr b D F ∧ FuseRel fuse done D ∧ Only (fun _ => False) w wr ∧ ∀ k, F k → w.heap.size ≤ k

end Go.Proofs.Ythodcbhejjbhaaa
