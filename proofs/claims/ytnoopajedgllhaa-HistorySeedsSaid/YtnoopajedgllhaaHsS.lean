/- history.Seed. -/
import Derived.Test.YtnoopajedgllhaaHsB
import Derived.Deep.CutBlock
namespace Go.Proofs.Ytnoopajedgllhaa
open Go.RowKit
/-- The sum with which a run's chain begins. -/
def seedB (l : List UInt8) (n : Int) : List UInt8 := sha (textB l ++ numB n.toNat)
theorem seedB_len (l : List UInt8) (n : Int) : (seedB l n).length = 32 := sha_len _
section
variable {w : World}
theorem parts_one {w : World} {v : Value} {l : List UInt8} (h : Src w v l) (g : Nat) (hg : w.cell? ⟨g, 0, none⟩ = some v) : PartsS w (.slice (some ⟨g, 0, none⟩) 1 1) [l] := by
  obtain ⟨a, c, rfl⟩ := h.len
  refine ⟨_, 1, rfl, fun i m hi => ?_⟩
  match i with
  | 0 =>
    simp only [List.getElem?_cons_zero, Option.some.injEq] at hi
    subst hi
    exact ⟨g, 0, a, c, rfl, hg, h⟩
  | i + 1 => simp at hi
set_option maxRecDepth 100000 in
set_option maxHeartbeats 1600000 in
theorem seed_c (l : List UInt8) (n : Int) (hl : l.length ≤ 1000000) (h1 : -9223372036854775808 ≤ n) (h2 : n ≤ 9223372036854775807) :
    Calls Try.prog 24 #[.string (strOf l), .int .i64 n] w fun e w' => e = .returned (.agg (bytesV (seedB l n)).toArray) ∧ Only (fun _ => False) w w' := by
  obtain ⟨N, hN⟩ : ∃ N, n.toNat = N := ⟨_, rfl⟩
  have hNb : N < 18446744073709551616 := by omega
  have HS : Hid (seedB l n = sha (textB l ++ numB N)) := hid (by rw [seedB, hN])
  have htl : (textB l).length ≤ 1000010 := by unfold textB; rw [List.length_append]; have := numB_len l.length; omega
  have hnl : (numB N).length ≤ 10 := by have := numB_len N; omega
  have hB0 : (w.alloc (.cells (byA st0 0) 29)).heap[w.heap.size]? = some (.cells (byA st0 0) 29 (0, 0)) := blk_new w _
  have hW0 := Wr.new (w := (w.alloc (.cells (byA st0 0) 29)).alloc (.cells #[.slice none 0 0] 78)) (b := w.heap.size + 1) (by have := blk_new (w.alloc (.cells (byA st0 0) 29)) (.cells #[.slice none 0 0] 78); rw [World.size_alloc] at this; exact this)
  have HT := hid (wtext_c hW0 l (by simp; omega))
  rw [List.nil_append] at HT
  have HB0 := hid (blk_alloc (o' := .cells #[.slice none 0 0] 78) hB0)
  clear hW0 hB0
  have hmx : max 0 n = (N : Int) := by omega
  have hmx2 : max n 0 = (N : Int) := by omega
  have hmi : (if 0 ≤ n then n else 0) = (N : Int) := by by_cases h : 0 ≤ n <;> simp [h] <;> omega
  have HN := hid hN
  clear hN
  by_cases hp : 0 < n
  all_goals
    go_enter Try.func24, Try.ntmps24
    go_wp2_with fail
    refine HT.out.mono ?_
    rintro x w1 ⟨rfl, F1, hW1, ho1, hF1⟩
    have HB1 := hid (blk_only HB0.out ho1 (fun e => by have e' : w.heap.size = w.heap.size + 1 := e; omega))
    have HO1 : Hid (Only (fun _ => False) w w1) := hid (((only_new _ _).trans (only_new _ _) (fun _ _ e => e)).trans ho1 (fun k hk e => by have e' : k = w.heap.size + 1 := e; omega))
    have HNN := hid (wnum1_c (w := w1.alloc (.cells #[.int .u64 N] 51)) hW1 N hNb (by omega) rfl)
    have HF1 := hid hF1
    clear hW1 ho1 hF1
    go_upto_region 4 with (go_at_call 60; refine HNN.out.mono ?_; rintro x w2 ⟨rfl, F2, hW2, ho2, hF2⟩; have HB2 := hid (blk_only HB1.out ho2 (fun e => by have h1 := HF1.out _ e; rw [World.size_alloc, World.size_alloc] at h1; have h2 : w.heap.size = w.heap.size + 1 ∨ w.heap.size + 1 + 1 ≤ w.heap.size := h1; omega)); have HO2 := hid (HO1.out.trans ho2 (fun k hk e => by have h1 := HF1.out _ e; rw [World.size_alloc, World.size_alloc] at h1; have h2 : k = w.heap.size + 1 ∨ w.heap.size + 1 + 1 ≤ k := h1; omega)); have HY := hid (wbytes_c hW2 (by rw [List.length_append]; omega)); clear hW2 ho2 hF2)
    go_wp2_with fail
    refine HY.out.mono ?_
    rintro x w3 ⟨bv, rfl, hnb⟩
    obtain ⟨ao, cap, rfl, hgr, -, ho3⟩ := hnb
    obtain ⟨L, hL⟩ : ∃ x, textB l ++ numB N = x := ⟨_, rfl⟩
    have hLl : L.length ≤ 2000000 := by rw [← hL, List.length_append]; omega
    rw [hL] at hgr
    rw [hL]
    have HSL : Hid (seedB l n = sha L) := hid (by rw [HS.out, hL])
    have HB3 := hid (blk_only HB2.out ho3 (fun e => e))
    have HO3 := hid (HO2.out.trans ho3 (fun _ _ e => e))
    have hsrc := (hgr.only (only_new w3 (.cells #[.slice ao L.length cap] 72)) (fun _ _ e => e)).src
    have HK := hid (sof_c (w := w3.alloc (.cells #[.slice ao L.length cap] 72)) (ps := [L]) (parts_one hsrc w3.heap.size (cell_blk (blk_new w3 _) 0)) (by simp; omega) (by simp))
    have hfl : [L].flatten = L := by simp
    rw [hfl] at HK
    have hone := bytesV_one' (sha L)
    have hsz : ((bytesV (sha L)).toArray).size = (byA st0 0).size := by simp [sha_len, byA]
    have hinf : (Try.prog.info? 29).map (·.size) = some ((bytesV (sha L)).toArray).size := by rw [info32]; simp [sha_len]
    obtain ⟨A, hA⟩ : ∃ x, (bytesV (sha L)).toArray = x := ⟨_, rfl⟩
    rw [hA] at hone hsz hinf HK
    have HA := hid hA; have HON := hid hone; have HSZ := hid hsz; have HIN := hid hinf
    clear hL hgr ho3 hsrc hone hsz hinf hA hfl
    go_wp2_with fail
    refine HK.out.mono ?_
    rintro x w4 ⟨rfl, ho4⟩
    have HB4 := hid (blk_only (blk_alloc (o' := .cells #[.slice ao L.length cap] 72) HB3.out) ho4 (fun e => e))
    have HO4 := hid ((HO3.out.trans (only_new _ _) (fun _ _ e => e)).trans ho4 (fun _ _ e => e))
    clear ho4
    go_wp2_with ((guard_target =~ wpList _ _ _ (⟨none, .store _ _ _, _, _, _, _⟩ :: _) _ _); refine wpList_store_all rfl 29 (.tmp 4) (.tmp 15) rfl w.heap.size A rfl rfl (byA st0 0) 29 HB4.out HSZ.out HIN.out HON.out ?_; intro w9 hb9 ho9 hs9; have HB9 := hid hb9; have HO9 := hid ho9; clear hb9 ho9 hs9)
    refine bodyPost_ret (results_cell_row rfl _ _ w.heap.size 29 A (0, 0) _ rfl HB9.out Try.underlying29 rfl HIN.out) rfl ⟨by rw [HSL.out, HA.out], HO4.out.trans HO9.out (fun i hi e => by have e' : i = w.heap.size := e; omega)⟩
end
end Go.Proofs.Ytnoopajedgllhaa
