/- foliotlaw08, plainly: a crash that finds nothing pending. -/
import Derived.Test.YthodcbhejjbhaaaL8D
namespace Go.Proofs.Ythodcbhejjbhaaa
open Go.RowKit
theorem LP.crashed {M : WM} {sg N : Nat} {T0 : List UInt8} {fs : List (Nat × List UInt8)} (h : LP M sg N T0 fs) (keep : List Int) (tear at' : Int) : LP { M with D := (M.D.crash keep tear at').up } sg N T0 fs := by
  have hc : ∀ k, (M.D.crash keep tear at').up.cur k = M.D.cur k := fun k => by
    show M.D.crashed keep tear at' k = (M.D.pend k).getD (M.D.sure k)
    unfold DiskM.crashed
    rw [h.pend k]; rfl
  exact { h with
    rs := h.rs.cur2 rfl (by show (-1 : Int) < 0; decide) rfl (fun k _ => hc k)
    marks := by obtain ⟨L, h1, h2⟩ := h.marks; exact ⟨L, h1.congr (fun k _ => hc k), h2⟩
    pend := fun _ => rfl }
theorem WS.more {w0 w : World} {l b r s sg N : Nat} {M : WM} {L : RLog} {fv wv : Value} {F G : Nat → Prop} {T0 : List UInt8} {fs : List (Nat × List UInt8)} (h : WS w0 w l b r s M L fv wv F G sg N T0 fs) : WS w0 w l b r s M L fv wv F G sg (N + 1) T0 fs := { h with lp := h.lp.more (Nat.le_succ N) }
theorem lops_same {w w' : World} {v : Value} {ops : List LOp} (h : LOpsAt w v ops) (ho : Only (fun _ => False) w w') : LOpsAt w' v ops := by
  obtain ⟨a, c, e, hl, hh⟩ := h
  refine ⟨a, c, e, hl, fun i o hi => ?_⟩
  obtain ⟨h1, g, of, h2, h3, h4⟩ := hh i o hi
  exact ⟨⟨h1.data.same ho, h1.dlen⟩, g, of, h2, Nat.lt_of_lt_of_le h3 ho.size, fun j u hj => (World.cell?_of_block (ho.block g h3 (fun e => e))).trans (h4 j u hj)⟩
theorem RLAt.fvs {w : World} {Lr : RLog} {fv wv : Value} {GG : Nat → Prop} (h : RLAt w Lr fv wv GG) : ∃ fa fc, fv = .slice fa Lr.frames.length fc := by obtain ⟨⟨fa, fc, e, -⟩, -⟩ := h; exact ⟨fa, fc, e⟩
theorem RLAt.wvs {w : World} {Lr : RLog} {fv wv : Value} {GG : Nat → Prop} (h : RLAt w Lr fv wv GG) : ∃ qa qc, wv = .slice qa Lr.waiting.length qc := by obtain ⟨-, ⟨qa, qc, e, -⟩, -⟩ := h; exact ⟨qa, qc, e⟩
theorem RLAt.fl {w0 w : World} {l b r s sg N : Nat} {M : WM} {L : RLog} {fv wv : Value} {F G : Nat → Prop} {T0 : List UInt8} {fs : List (Nat × List UInt8)} (h : WS w0 w l b r s M L fv wv F G sg N T0 fs) : fs.length ≤ 1000000 := by
  have h1 := h.rl.nf; have h2 := h.rl.rm; have h3 := h.rl.sz; have h4 := h.sam.frames
  rw [← h4]; omega
theorem WS.start {w0 w : World} {l b r g n : Nat} {F : Nat → Prop} {M : WM} (hl : LgAt w0 w l b r M F) (hp : LP M g 0 [] []) (hw : M.wait = []) (hg : g ≤ 400) {x : Int} (hx : x = ((g * 2048 : Nat) : Int)) {w' : World} (hn : n = w.heap.size) (hw' : w' = w.alloc (.cells #[.int .i64 x, .int .i64 0, .int .i64 0, .slice none 0 0, .slice none 0 0] 45)) :
    WS w0 w' l b r n M ⟨g * 2048, 0, 0, [], []⟩ (.slice none 0 0) (.slice none 0 0) F (fun _ => False) g 0 [] [] := by
  subst hn hw' hx
  have h0 : M.head = 0 := hp.hd
  have h1 : M.tail = 0 := hp.tl
  exact ⟨hl.same (only_new _ _), ⟨SlV.nil _ _ _, SlV.nil _ _ _, by show g * 2048 ≤ 1000000; omega, Nat.le_refl _, by show 0 - 0 / 128 * 128 ≤ g * 2048; omega, Nat.le_refl _, Nat.zero_le _, (fun _ hs => nomatch hs), fun k hk => hk.elim⟩, blk_new _ _, fun k hk => hk.elim, fun e => e, fun e => by have := hl.log.lt e; omega, hl.only.size, hp, ⟨rfl, h0.symm, h1.symm, rfl, hw.symm⟩⟩
theorem RLog.play_first (L : RLog) (k : Int) (s : List UInt8) (hk : k < 2) (h0 : L.first = 0) : (L.play k s).first = 0 := by
  unfold RLog.play
  split
  · unfold RLog.submit
    split
    · exact h0
    · split <;> exact h0
  · split
    · exact h0
    · rw [if_neg (by omega), if_neg (by omega)]; exact h0
end Go.Proofs.Ythodcbhejjbhaaa
