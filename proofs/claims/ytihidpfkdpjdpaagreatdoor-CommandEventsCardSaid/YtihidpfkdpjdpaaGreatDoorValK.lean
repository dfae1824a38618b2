/- count.walk and value.Check. -/
import Derived.Test.YtihidpfkdpjdpaaGreatDoorValW
namespace Go.Proofs.YtihidpfkdpjdpaaGreatDoor
open Go.RowKit

mutual
theorem walk_le : ∀ (t : VT) (d p : Nat) (e : Int), (e = 0 → p ≤ 256) → (t.walk d p e).2 = 0 → (t.walk d p e).1 ≤ 256
  | .mk k n s l, d, p, e, hi, h => by
    rw [VT.walk] at h ⊢
    by_cases he : e ≠ 0
    · rw [if_pos he] at h ⊢; exact absurd h he
    rw [if_neg he] at h ⊢
    by_cases hp : 256 < p + 1
    · rw [if_pos hp] at h; simp at h
    rw [if_neg hp] at h ⊢
    by_cases h01 : k = 0 ∨ k = 1
    · rw [if_pos h01]; simp only; omega
    rw [if_neg h01] at h ⊢
    by_cases h2 : k = 2
    · rw [if_pos h2]; simp only; omega
    rw [if_neg h2] at h ⊢
    by_cases h3 : k = 3
    · rw [if_pos h3] at h ⊢; exact walkL_le l _ _ _ (fun _ => by omega) h
    rw [if_neg h3]; simp only; omega
theorem walkL_le : ∀ (l : List VT) (d p : Nat) (e : Int), (e = 0 → p ≤ 256) → (VT.walkL d p e l).2 = 0 → (VT.walkL d p e l).1 ≤ 256
  | [], d, p, e, hi, h => by rw [VT.walkL] at h ⊢; exact hi h
  | t :: ts, d, p, e, hi, h => by
    rw [VT.walkL] at h ⊢
    by_cases he : e ≠ 0
    · rw [if_pos he] at h; exact absurd h he
    rw [if_neg he] at h ⊢
    exact walkL_le ts _ _ _ (walk_le t d p e hi) h
end
def Cnt (w : World) (c : Nat) (p : Nat) (e : Int) : Prop := w.heap[c]? = some (.cells #[.int .i64 p, .int .i64 e] 100 (0, 0))
theorem Cnt.set0 {w : World} {c p : Nat} {e : Int} (h : Cnt w c p e) (q : Nat) : Cnt (w.setCell ⟨c, 0, none⟩ (.int .i64 q)) c q e := by
  have := blk_set h 0 (.int .i64 q)
  unfold Cnt
  simpa using this
theorem Cnt.set1 {w : World} {c p : Nat} {e : Int} (h : Cnt w c p e) (q : Int) : Cnt (w.setCell ⟨c, 1, none⟩ (.int .i64 q)) c p q := by
  have := blk_set h 1 (.int .i64 q)
  unfold Cnt
  simpa using this
/-- What walk leaves. -/
def Walked (w : World) (c : Nat) (x : Nat × Int) (e : Ending) (w' : World) : Prop := e = .returned (.tuple #[]) ∧ Cnt w' c x.1 x.2 ∧ Only (fun k => k = c) w w'
def WalkC (n : Nat) : Prop := ∀ (t : VT), t.sz ≤ n → ∀ (w : World) (c : Nat) (G : Nat → Prop) (cs : List Value) (d p : Nat) (e : Int), Cnt w c p e → VAt w G t cs → ¬ G c → (∀ k, G k → k < w.heap.size) → d ≤ 8 → (e = 0 → p ≤ 256) →
    Calls Tryz.prog 84 #[.pointer (some ⟨c, 0, none⟩), .agg cs.toArray, .int .i64 d] w (Walked w c (t.walk d p e))
section
variable {w : World}
theorem cnt1 {c p : Nat} {e : Int} (h : Cnt w c p e) (v : Int) (q : Nat) (hv : v = q) (o : Obj) : Cnt ((w.setCell ⟨c, 0, none⟩ (.int .i64 v)).alloc o) c q e ∧ Only (fun k => k = c) w ((w.setCell ⟨c, 0, none⟩ (.int .i64 v)).alloc o) := by
  subst hv
  exact ⟨blk_alloc (h.set0 q), (only_set _ _ _).trans (only_new _ _) (fun _ _ e => e.elim)⟩
theorem cnt2 {c p : Nat} {e : Int} (h : Cnt w c p e) (v : Int) (q : Nat) (hv : v = q) (e' : Int) (o : Obj) : Cnt (((w.setCell ⟨c, 0, none⟩ (.int .i64 v)).setCell ⟨c, 1, none⟩ (.int .i64 e')).alloc o) c q e' ∧ Only (fun k => k = c) w (((w.setCell ⟨c, 0, none⟩ (.int .i64 v)).setCell ⟨c, 1, none⟩ (.int .i64 e')).alloc o) := by
  subst hv
  exact ⟨blk_alloc ((h.set0 q).set1 e'), ((only_set _ _ _).trans (only_set _ _ _) (fun _ _ e => e)).trans (only_new _ _) (fun _ _ e => e.elim)⟩
set_option maxRecDepth 100000 in
set_option maxHeartbeats 3200000 in
theorem walk_step (m : Nat) (ih : WalkC m) : WalkC (m + 1) := by
  intro t hsz w c G cs d p e hC hV hGc hGl hd hi
  obtain ⟨k, n, s, l⟩ := t
  rw [VAt] at hV
  obtain ⟨a, cap, g, o, rfl, ha, hLs⟩ := hV
  rw [VT.sz] at hsz
  have hcw := blk_lt hC
  have HC := hid hC; have HA := hid ha; have HL := hid hLs; have HGc := hid hGc; have HGl := hid hGl
  have HWK : Hid (VT.walk d p e (.mk k n s l) = if e ≠ 0 then (p, e) else if 256 < p + 1 then (p + 1, 2) else if k = 0 ∨ k = 1 then (p + 1, 0) else if k = 2 then (p + 1, if 256 < s.length then 2 else 0) else if k = 3 then VT.walkL (d + 1) (p + 1) (if 8 ≤ d then 30 else if 64 < l.length then 2 else 0) l else (p + 1, 9)) := hid (by rw [VT.walk])
  have hsl : (strOf s).size = s.length := rfl
  -- the world with the value boxed
  have Hb0 : Hid (Cnt (w.alloc (.cells #[.int .i64 k, .int .i64 n, .string (strOf s), .slice a l.length cap] 24)) c p e) := hid (blk_alloc hC)
  have q0 : w.cell? ⟨c, 0, none⟩ = some (.int .i64 p) := cell_blk hC 0
  have q1 : w.cell? ⟨c, 1, none⟩ = some (.int .i64 e) := cell_blk hC 1
  have qz := frozen_blk hC
  have hne : ¬ w.heap.size = c := by omega
  have hne2 : ¬ c = w.heap.size := by omega
  clear hC ha hLs hGc hGl
  by_cases he : e = 0
  · subst he
    have hp : p ≤ 256 := hi rfl
    clear hi
    have hpi : (p : Int) ≤ 256 := by omega
    by_cases h256 : 256 < p + 1
    · obtain rfl : p = 256 := by omega
      have HF : Hid (VT.walk d 256 0 (.mk k n s l) = (257, 2)) := hid (by rw [HWK.out, if_neg (by simp), if_pos (by decide)])
      clear h256
      go_enter Tryz.func84, Tryz.ntmps84
      go_wp2_with fail
      go_end0
      rw [HF.out]
      exact ⟨rfl, cnt2 HC.out _ 257 rfl 2 _⟩
    have hp1 : (p : Int) + 1 ≤ 256 := by omega
    by_cases h01 : k = 0 ∨ k = 1
    · have HF : Hid (VT.walk d p 0 (.mk k n s l) = (p + 1, 0)) := hid (by rw [HWK.out, if_neg (by simp), if_neg h256, if_pos h01])
      clear h256
      rcases h01 with rfl | rfl
      all_goals
        go_enter Tryz.func84, Tryz.ntmps84
        go_wp2_with fail
        go_end0
        rw [HF.out]
        exact ⟨rfl, cnt1 HC.out _ (p + 1) (by omega) _⟩
    have k0 : k ≠ 0 := fun e => h01 (.inl e)
    have k1 : k ≠ 1 := fun e => h01 (.inr e)
    by_cases h2 : k = 2
    · subst h2
      by_cases hs : 256 < (s.length : Int)
      · have HF : Hid (VT.walk d p 0 (.mk 2 n s l) = (p + 1, 2)) := hid (by rw [HWK.out, if_neg (by simp), if_neg h256, if_neg h01, if_pos rfl, if_pos (by omega)])
        clear h256 h01
        go_enter Tryz.func84, Tryz.ntmps84
        go_wp2_with fail
        go_end0
        rw [HF.out]
        exact ⟨rfl, cnt2 HC.out _ (p + 1) (by omega) 2 _⟩
      · have HF : Hid (VT.walk d p 0 (.mk 2 n s l) = (p + 1, 0)) := hid (by rw [HWK.out, if_neg (by simp), if_neg h256, if_neg h01, if_pos rfl, if_neg (by omega)])
        clear h256 h01
        go_enter Tryz.func84, Tryz.ntmps84
        go_wp2_with fail
        go_end0
        rw [HF.out]
        exact ⟨rfl, cnt1 HC.out _ (p + 1) (by omega) _⟩
    have b0 : (k == 0) = false := by simpa using k0
    have b1 : (k == 1) = false := by simpa using k1
    have b2 : (k == 2) = false := by simpa using h2
    by_cases h3 : k = 3
    · subst h3
      by_cases hd8 : 8 ≤ (d : Int)
      · have HFN : Hid (VT.walk d p 0 (.mk 3 n s l) = VT.walkL (d + 1) (p + 1) 30 l) := hid (by rw [HWK.out, if_neg (by simp), if_neg h256, if_neg h01, if_neg h2, if_pos rfl, if_pos (by omega)])
        clear h256 h01 k0 k1 h2
        go_enter Tryz.func84, Tryz.ntmps84
        go_wp2_with fail
        have Hs0 : Hid (Cnt (((w.setCell ⟨c, 0, none⟩ (.int .i64 ((p : Int) + 1))).setCell ⟨c, 1, none⟩ (.int .i64 30)).alloc (.cells #[.int .i64 3, .int .i64 n, .string (strOf s), .slice a l.length cap] 24)) c (p + 1) (30 : Int) ∧ Only (fun k => k = c) w (((w.setCell ⟨c, 0, none⟩ (.int .i64 ((p : Int) + 1))).setCell ⟨c, 1, none⟩ (.int .i64 30)).alloc (.cells #[.int .i64 3, .int .i64 n, .string (strOf s), .slice a l.length cap] 24))) := hid (cnt2 HC.out _ (p + 1) (by omega) 30 _)
        have HF : Hid (VT.walkL (d + 1) (p + 1) (30 : Int) l = (p + 1, (30 : Int))) := hid (walkL_bad _ _ _ _ (by decide))
        go_loopw [64] (fun i wr => i = .int .i64 0 ∧ Cnt wr c (p + 1) (30 : Int) ∧ Only (fun k => k = c) w wr) (fun _ _ => 0)
        case atStart => exact ⟨rfl, Hs0.out.1, Hs0.out.2⟩
        case round =>
          obtain ⟨rfl, hCj, hoj⟩ := hrel
          have r1 : wr.cell? ⟨c, 1, none⟩ = some (.int .i64 (30 : Int)) := cell_blk hCj 1
          have hcr := blk_lt hCj
          have HCj := hid hCj; have Hoj := hid hoj
          clear hCj hoj
          by_cases hjl : 0 < l.length
          · have hji : (0 : Int) < l.length := by omega
            obtain ⟨t, ht⟩ : ∃ t, l[0]? = some t := ⟨_, List.getElem?_eq_getElem hjl⟩
            obtain ⟨rfl, hGg⟩ := HA.out (by rintro rfl; simp at hjl)
            obtain ⟨cs, hcs, hVt⟩ := HL.out.get ht
            have hGc' : ∀ i, G i → ¬ i = c := fun i hi e => HGc.out (e ▸ hi)
            have hcw : ∀ i u, cs[i]? = some u → wr.cell? ⟨g, o + i, none⟩ = some u := fun i u hu => by
              have h1 := hcs i u hu
              rw [Nat.zero_mul, Nat.add_zero] at h1
              exact (World.cell?_of_block (Hoj.out.block g (World.block_lt_of_cell? _ _ h1) (hGc' g hGg))).trans h1
            obtain ⟨kx, nx, sx, ax, mx, cx, rfl⟩ := hVt.form
            have e0 := hcw 0 _ rfl
            rw [Nat.add_zero] at e0
            have e1 := hcw 1 _ rfl
            have e2 := hcw 2 _ rfl
            have e3 := hcw 3 _ rfl
            clear hcs hVt hcw ht
            go_wp2_with fail
            go_end0
            rw [HFN.out, HF.out]
            exact ⟨rfl, blk_alloc HCj.out, Hoj.out.trans (only_new _ _) (fun _ _ e => e.elim)⟩
          · obtain hl0 : l.length = 0 := by omega
            have hl1 : ¬ (0 : Int) < l.length := by omega
            go_wp2_with fail
            go_end0
            rw [HFN.out, HF.out]
            exact ⟨rfl, HCj.out, Hoj.out⟩
      · by_cases hl64 : 64 < (l.length : Int)
        · have HFN : Hid (VT.walk d p 0 (.mk 3 n s l) = VT.walkL (d + 1) (p + 1) 2 l) := hid (by rw [HWK.out, if_neg (by simp), if_neg h256, if_neg h01, if_neg h2, if_pos rfl, if_neg (by omega), if_pos (by omega)])
          clear h256 h01 k0 k1 h2
          go_enter Tryz.func84, Tryz.ntmps84
          go_wp2_with fail
          have Hs0 : Hid (Cnt (((w.setCell ⟨c, 0, none⟩ (.int .i64 ((p : Int) + 1))).setCell ⟨c, 1, none⟩ (.int .i64 2)).alloc (.cells #[.int .i64 3, .int .i64 n, .string (strOf s), .slice a l.length cap] 24)) c (p + 1) (2 : Int) ∧ Only (fun k => k = c) w (((w.setCell ⟨c, 0, none⟩ (.int .i64 ((p : Int) + 1))).setCell ⟨c, 1, none⟩ (.int .i64 2)).alloc (.cells #[.int .i64 3, .int .i64 n, .string (strOf s), .slice a l.length cap] 24))) := hid (cnt2 HC.out _ (p + 1) (by omega) 2 _)
          have HF : Hid (VT.walkL (d + 1) (p + 1) (2 : Int) l = (p + 1, (2 : Int))) := hid (walkL_bad _ _ _ _ (by decide))
          go_loopw [64] (fun i wr => i = .int .i64 0 ∧ Cnt wr c (p + 1) (2 : Int) ∧ Only (fun k => k = c) w wr) (fun _ _ => 0)
          case atStart => exact ⟨rfl, Hs0.out.1, Hs0.out.2⟩
          case round =>
            obtain ⟨rfl, hCj, hoj⟩ := hrel
            have r1 : wr.cell? ⟨c, 1, none⟩ = some (.int .i64 (2 : Int)) := cell_blk hCj 1
            have hcr := blk_lt hCj
            have HCj := hid hCj; have Hoj := hid hoj
            clear hCj hoj
            by_cases hjl : 0 < l.length
            · have hji : (0 : Int) < l.length := by omega
              obtain ⟨t, ht⟩ : ∃ t, l[0]? = some t := ⟨_, List.getElem?_eq_getElem hjl⟩
              obtain ⟨rfl, hGg⟩ := HA.out (by rintro rfl; simp at hjl)
              obtain ⟨cs, hcs, hVt⟩ := HL.out.get ht
              have hGc' : ∀ i, G i → ¬ i = c := fun i hi e => HGc.out (e ▸ hi)
              have hcw : ∀ i u, cs[i]? = some u → wr.cell? ⟨g, o + i, none⟩ = some u := fun i u hu => by
                have h1 := hcs i u hu
                rw [Nat.zero_mul, Nat.add_zero] at h1
                exact (World.cell?_of_block (Hoj.out.block g (World.block_lt_of_cell? _ _ h1) (hGc' g hGg))).trans h1
              obtain ⟨kx, nx, sx, ax, mx, cx, rfl⟩ := hVt.form
              have e0 := hcw 0 _ rfl
              rw [Nat.add_zero] at e0
              have e1 := hcw 1 _ rfl
              have e2 := hcw 2 _ rfl
              have e3 := hcw 3 _ rfl
              clear hcs hVt hcw ht
              go_wp2_with fail
              go_end0
              rw [HFN.out, HF.out]
              exact ⟨rfl, blk_alloc HCj.out, Hoj.out.trans (only_new _ _) (fun _ _ e => e.elim)⟩
            · obtain hl0 : l.length = 0 := by omega
              have hl1 : ¬ (0 : Int) < l.length := by omega
              go_wp2_with fail
              go_end0
              rw [HFN.out, HF.out]
              exact ⟨rfl, HCj.out, Hoj.out⟩
        · have HFN : Hid (VT.walk d p 0 (.mk 3 n s l) = VT.walkL (d + 1) (p + 1) 0 l) := hid (by rw [HWK.out, if_neg (by simp), if_neg h256, if_neg h01, if_neg h2, if_pos rfl, if_neg (by omega), if_neg (by omega)])
          have hd1 : ((d : Int) + 1) ≤ 8 := by omega
          clear h256 h01 k0 k1 h2
          go_enter Tryz.func84, Tryz.ntmps84
          go_wp2_with fail
          have Hs0 : Hid (Cnt ((w.setCell ⟨c, 0, none⟩ (.int .i64 ((p : Int) + 1))).alloc (.cells #[.int .i64 3, .int .i64 n, .string (strOf s), .slice a l.length cap] 24)) c (p + 1) (0 : Int) ∧ Only (fun k => k = c) w ((w.setCell ⟨c, 0, none⟩ (.int .i64 ((p : Int) + 1))).alloc (.cells #[.int .i64 3, .int .i64 n, .string (strOf s), .slice a l.length cap] 24))) := hid (cnt1 HC.out _ (p + 1) (by omega) _)
          go_loopw [64] (fun i wr => ∃ (j pj : Nat) (ej : Int), i = .int .i64 j ∧ j ≤ l.length ∧ Cnt wr c pj ej ∧ VT.walkL (d + 1) (p + 1) (0 : Int) l = VT.walkL (d + 1) pj ej (l.drop j) ∧ Only (fun k => k = c) w wr ∧ (ej = 0 → pj ≤ 256)) (fun i _ => l.length - (intOf i).toNat)
          case atStart => exact ⟨0, p + 1, (0 : Int), rfl, Nat.zero_le _, Hs0.out.1, rfl, Hs0.out.2, fun _ => by omega⟩
          case round =>
            obtain ⟨j, pj, ej, rfl, hj, hCj, hwj, hoj, hij⟩ := hrel
            have r1 : wr.cell? ⟨c, 1, none⟩ = some (.int .i64 ej) := cell_blk hCj 1
            have hcr := blk_lt hCj
            have HCj := hid hCj; have Hwj := hid hwj; have Hoj := hid hoj
            clear hCj hwj hoj
            by_cases hjl : j < l.length
            · have hji : (j : Int) < l.length := by omega
              obtain ⟨t, ht⟩ : ∃ t, l[j]? = some t := ⟨_, List.getElem?_eq_getElem hjl⟩
              obtain ⟨rfl, hGg⟩ := HA.out (by rintro rfl; simp at hjl)
              obtain ⟨cs, hcs, hVt⟩ := HL.out.get ht
              have hdrop : l.drop j = t :: l.drop (j + 1) := by rw [List.drop_eq_getElem_cons hjl]; congr 1; rw [List.getElem?_eq_getElem hjl] at ht; exact Option.some.inj ht
              have htz := szL_get ht
              have hGc' : ∀ i, G i → ¬ i = c := fun i hi e => HGc.out (e ▸ hi)
              have hcw : ∀ i u, cs[i]? = some u → wr.cell? ⟨g, o + j * 4 + i, none⟩ = some u := fun i u hu =>
                (World.cell?_of_block (Hoj.out.block g (World.block_lt_of_cell? _ _ (hcs i u hu)) (hGc' g hGg))).trans (hcs i u hu)
              have hVw := hVt.only Hoj.out hGc'
              obtain ⟨kx, nx, sx, ax, mx, cx, rfl⟩ := hVt.form
              have e0 := hcw 0 _ rfl
              rw [Nat.add_zero] at e0
              have e1 := hcw 1 _ rfl
              have e2 := hcw 2 _ rfl
              have e3 := hcw 3 _ rfl
              by_cases hej : ej = 0
              · subst hej
                have HCw : Hid (Cnt (wr.alloc (.cells #[.int .i64 kx, .int .i64 nx, .string (strOf sx), .slice ax mx cx] 24)) c pj 0) := hid (blk_alloc HCj.out)
                have HCL := hid (ih t (by omega) (wr.alloc (.cells #[.int .i64 kx, .int .i64 nx, .string (strOf sx), .slice ax mx cx] 24)) c G [.int .i64 kx, .int .i64 nx, .string (strOf sx), .slice ax mx cx] (d + 1) pj 0 HCw.out (hVw.same (only_new wr _)) HGc.out (fun i hi => by have := HGl.out i hi; have := Hoj.out.size; simp; omega) (by omega) hij)
                have Hdr := hid hdrop; have Hij := hid (hij rfl)
                clear hcs hVt hcw hVw ht hdrop hij
                go_wp2_with (go_at_call 84; refine HCL.out.mono ?_; rintro e w4 ⟨rfl, hC4, ho4⟩; have HC4 := hid hC4; have HO4 := hid ho4; clear hC4 ho4)
                go_roundw
                case rel =>
                  refine ⟨j + 1, _, _, by go_num, by omega, HC4.out, ?_, Hoj.out.trans (((only_new wr _).mono (G := fun k => k = c) (fun _ _ e => e.elim)).trans HO4.out (fun _ _ e => e)) (fun _ _ e => e), walk_le t _ _ _ (fun _ => ?_)⟩
                  · rw [Hwj.out, Hdr.out, VT.walkL, if_neg (by simp)]
                  · exact Hij.out
                case measure => simp [intOf]; omega
              · have hbe : (ej == 0) = false := by simpa using hej
                have hbe2 : (ej != 0) = true := by simpa using hej
                have HF : Hid (VT.walkL (d + 1) (p + 1) (0 : Int) l = (pj, ej)) := hid (by rw [Hwj.out]; exact walkL_bad _ _ _ _ hej)
                clear hcs hVt hcw hVw ht hdrop hij hej
                go_wp2_with fail
                go_end0
                rw [HFN.out, HF.out]
                exact ⟨rfl, blk_alloc HCj.out, Hoj.out.trans (only_new _ _) (fun _ _ e => e.elim)⟩
            · obtain rfl : j = l.length := by omega
              have HF : Hid (VT.walkL (d + 1) (p + 1) (0 : Int) l = (pj, ej)) := hid (by rw [Hwj.out, List.drop_length, VT.walkL])
              go_wp2_with fail
              go_end0
              rw [HFN.out, HF.out]
              exact ⟨rfl, HCj.out, Hoj.out⟩
    · have b3 : (k == 3) = false := by simpa using h3
      have HF : Hid (VT.walk d p 0 (.mk k n s l) = (p + 1, 9)) := hid (by rw [HWK.out, if_neg (by simp), if_neg h256, if_neg h01, if_neg h2, if_neg h3])
      clear h256 h01 k0 k1 h2 h3
      go_enter Tryz.func84, Tryz.ntmps84
      go_wp2_with fail
      go_end0
      rw [HF.out]
      exact ⟨rfl, cnt2 HC.out _ (p + 1) (by omega) 9 _⟩
  · have hbe : (e == 0) = false := by simpa using he
    have hbe2 : (e != 0) = true := by simpa using he
    have HF : Hid (VT.walk d p e (.mk k n s l) = (p, e)) := hid (walk_bad _ _ _ _ he)
    clear he hi
    go_enter Tryz.func84, Tryz.ntmps84
    go_wp2_with fail
    go_end0
    rw [HF.out]
    exact ⟨rfl, Hb0.out, (only_new w _).mono (fun _ _ e => e.elim)⟩
theorem walkC : ∀ m, WalkC m
  | 0 => fun t h => by have := sz_pos t; omega
  | m + 1 => walk_step m (walkC m)

mutual
theorem wr_len : ∀ (t : VT) (d p q : Nat), t.walk d p 0 = (q, 0) → t.wr.length + 300 * p ≤ 300 * q
  | .mk k n s l, d, p, q, h => by
    obtain ⟨hp, his⟩ := walk_is h
    rw [VT.wr, List.length_cons]
    cases his with
    | nil _ _ _ hq => simp; omega
    | int _ _ _ hq => have := numB_len (zigN n); simp; omega
    | text _ _ _ hq hs => have := numB_len s.length; simp [textB]; omega
    | list _ _ _ _ _ hl =>
      have := numB_len l.length
      have := wrL_len l (d + 1) (p + 1) q hl
      simp; omega
theorem wrL_len : ∀ (l : List VT) (d p q : Nat), VT.walkL d p 0 l = (q, 0) → (VT.wrL l).length + 300 * p ≤ 300 * q
  | [], d, p, q, h => by rw [VT.walkL] at h; rw [VT.wrL]; have := congrArg Prod.fst h; simp at this ⊢; omega
  | t :: ts, d, p, q, h => by
    obtain ⟨q1, h1, h2⟩ := walkL_cons h
    have e1 := wr_len t d p q1 h1
    have e2 := wrL_len ts d q1 q h2
    rw [VT.wrL, List.length_append]; omega
end
set_option maxRecDepth 100000 in
set_option maxHeartbeats 800000 in
theorem vcheck_c {G : Nat → Prop} {t : VT} {cs : List Value} (hV : VAt w G t cs) (hG : ∀ k, G k → k < w.heap.size) (hg : t.rg) :
    Calls Tryz.prog 71 #[.agg cs.toArray] w fun e w' => e = .returned (.int .i64 t.chk) ∧ Only (fun _ => False) w w' := by
  have HV := hid hV; have HG := hid hG; have Hg := hid hg
  obtain ⟨k, n, s, a, m, c, rfl⟩ := hV.form
  clear hV hG hg
  have hK := walkC t.sz t (Nat.le_refl _) ((w.alloc (.cells #[.int .i64 k, .int .i64 n, .string (strOf s), .slice a m c] 24)).alloc (.cells #[.int .i64 0, .int .i64 0] 100)) (w.heap.size + 1) G _ 0 0 0 (by have := blk_new (w.alloc (.cells #[.int .i64 k, .int .i64 n, .string (strOf s), .slice a m c] 24)) (.cells #[.int .i64 0, .int .i64 0] 100); rw [World.size_alloc] at this; exact this)
    (HV.out.same ((only_new w _).trans (only_new _ _) (fun _ _ e => e))) (fun e => by have := HG.out _ e; omega) (fun j hj => by have := HG.out j hj; simp; omega) (by omega) (fun _ => by omega)
  have HK := hid hK
  clear hK
  obtain ⟨⟨p1, e1⟩, hwk⟩ : ∃ x, t.walk 0 0 0 = x := ⟨_, rfl⟩
  rw [hwk] at HK
  have Hwk := hid hwk
  clear hwk
  go_enter Tryz.func71, Tryz.ntmps71
  go_wp2_with fail
  refine HK.out.mono ?_
  rintro e w1 ⟨rfl, hC, ho⟩
  have ho' : Only (fun _ => False) w w1 := ((only_new w (.cells #[.int .i64 k, .int .i64 n, .string (strOf s), .slice a m c] 24)).trans (only_new _ (.cells #[.int .i64 0, .int .i64 0] 100)) (fun _ _ e => e)).trans ho (fun j hj e => by have e' : j = w.heap.size + 1 := e; omega)
  have hb1 := blk_only (blk_alloc (o' := .cells #[.int .i64 0, .int .i64 0] 100) (blk_new w (.cells #[.int .i64 k, .int .i64 n, .string (strOf s), .slice a m c] 24))) ho (by show ¬ w.heap.size = w.heap.size + 1; omega)
  have c1 : w1.cell? ⟨w.heap.size + 1, 1, none⟩ = some (.int .i64 e1) := cell_blk hC 1
  have b0 : w1.cell? ⟨w.heap.size, 0, none⟩ = some (.int .i64 k) := cell_blk hb1 0
  have b1 : w1.cell? ⟨w.heap.size, 1, none⟩ = some (.int .i64 n) := cell_blk hb1 1
  have b2 : w1.cell? ⟨w.heap.size, 2, none⟩ = some (.string (strOf s)) := cell_blk hb1 2
  have b3 : w1.cell? ⟨w.heap.size, 3, none⟩ = some (.slice a m c) := cell_blk hb1 3
  have hlt := blk_lt hb1
  have HO := hid ho'
  clear hC ho ho' hb1
  by_cases he : e1 = 0
  · subst he
    have hwl := wr_len t 0 0 p1 Hwk.out
    have hwp := walk_le t 0 0 0 (fun _ => by omega) (by rw [Hwk.out])
    rw [Hwk.out] at hwp
    simp only at hwp
    have HW := hid (vwrite_c (w := w1.alloc (.cells #[.slice none 0 0] 60)) (b := w1.heap.size) (bs := []) (Wr.new (blk_new w1 _)) (HV.out.same (HO.out.trans (only_new w1 _) (fun _ _ e => e))) (fun j hj e => by have := HG.out j hj; have := HO.out.size; have e' : j = w1.heap.size := e; omega) (fun j hj => by have := HG.out j hj; have := HO.out.size; simp; omega) Hg.out (by simp; omega))
    have hwl' : t.wr.length ≤ 990000000 := by omega
    clear hwl hwp
    go_wp2_with fail
    refine HW.out.mono ?_
    rintro e w2 ⟨rfl, F2, hW2, ho2, hF2⟩
    rw [List.nil_append] at hW2
    have HLn := hid (wlen_c hW2)
    have HO2 : Hid (Only (fun _ => False) w w2) := hid (HO.out.trans ((only_new w1 _).trans ho2 (fun j hj e => by have e' : j = w1.heap.size := e; omega)) (fun _ _ e => e))
    clear hW2 ho2 hF2
    go_wp2_with fail
    refine HLn.out.mono ?_
    rintro e w3 ⟨rfl, rfl⟩
    by_cases h5 : 512 < (t.wr.length : Int)
    · have HF : Hid (t.chk = 2) := hid (by unfold VT.chk; rw [Hwk.out, if_neg (by simp), if_pos (by omega)])
      go_wp2_with fail
      go_ret
      rw [HF.out]; exact ⟨rfl, HO2.out⟩
    · have HF : Hid (t.chk = 0) := hid (by unfold VT.chk; rw [Hwk.out, if_neg (by simp), if_neg (by omega)])
      go_wp2_with fail
      go_ret
      rw [HF.out]; exact ⟨rfl, HO2.out⟩
  · have hbe : (e1 == 0) = false := by simpa using he
    have hbe2 : (e1 != 0) = true := by simpa using he
    have HF : Hid (t.chk = e1) := hid (by unfold VT.chk; rw [Hwk.out, if_pos he])
    clear he
    go_wp2_with fail
    go_ret
    rw [HF.out]; exact ⟨rfl, HO.out⟩
end
end Go.Proofs.YtihidpfkdpjdpaaGreatDoor
