/- WholeTold's walk. -/
import Derived.Test.YtokefeemhgcmhaaGreatDoorCrG
import Derived.Test.YtokefeemhgcmhaaGreatDoorVSmall
import Derived.Test.YtokefeemhgcmhaaGreatDoorVParse
import Derived.Test.YtokefeemhgcmhaaGreatDoorVEnc
import Derived.Test.YtokefeemhgcmhaaGreatDoorValQ
import Derived.Test.YtokefeemhgcmhaaGreatDoorCmp
import Derived.Test.YtokefeemhgcmhaaGreatDoorPrB
namespace Go.Proofs.YtokefeemhgcmhaaGreatDoor
open Go.RowKit
theorem vd_encT {t : VT} (hc : t.chk = 0) (hg : t.rg) : vdR t.wr = (t.cl, 0) := by
  have h1 := val_rt (r := RdM.of t.wr) (post := []) hg hc rfl (by simp [RdM.of, RdM.rest])
  have h2 : ((RdM.of t.wr).adv t.wr.length).done = 0 := by simp [RdM.done, RdM.adv, RdM.of]
  unfold vdR
  rw [h1]
  simp only
  rw [h2]; rfl
mutual
theorem wpartsT : ∀ (t : VT) (d p q : Nat), t.walk d p 0 = (q, 0) → q = p + t.parts ∧ q ≤ 256
  | .mk k n s l, d, p, q, h => by
    obtain ⟨hp, his⟩ := walk_is h
    rw [VT.parts]
    cases his with
    | nil _ _ _ hq => rw [if_neg (by decide)]; omega
    | int _ _ _ hq => rw [if_neg (by decide)]; omega
    | text _ _ _ hq => rw [if_neg (by decide)]; omega
    | list _ _ _ _ _ hw =>
      rw [if_pos rfl]
      have := wpartsLT l _ _ _ (by omega) hw
      omega
theorem wpartsLT : ∀ (l : List VT) (d p q : Nat), p ≤ 256 → VT.walkL d p 0 l = (q, 0) → q = p + VT.partsL l ∧ q ≤ 256
  | [], d, p, q, hp, h => by
    rw [VT.walkL] at h
    simp only [Prod.mk.injEq] at h
    rw [VT.partsL]
    omega
  | t :: ts, d, p, q, hp, h => by
    obtain ⟨q1, h1, h2⟩ := walkL_cons h
    have h3 := wpartsT t _ _ _ h1
    have h4 := wpartsLT ts _ _ _ h3.2 h2
    rw [VT.partsL]
    omega
end
/-- A list of nil, a number and a text. -/
def u0 : VT := .mk 3 0 [] [.mk 0 0 [] [], .mk 1 5 [] [], .mk 2 0 [97] []]
theorem u0_rg : u0.rg := by
  unfold u0
  simp only [VT.rg, VT.rgL, List.length_nil, List.length_cons]
  decide
theorem u0_chk : u0.chk = 0 := by decide
theorem u0_cl : u0.cl = u0 := by unfold u0; simp [VT.cl, VT.clL]
theorem u0_parts : u0.parts = 4 := by decide
theorem u0_sz : u0.sz = 4 := by decide
theorem itoa5T : Lib.itoa 5 = [53] := by unfold Lib.itoa; rw [if_neg (by omega)]; exact Lib.decDigits_one (i := 5) (by omega)
theorem u0_pr : u0.pr = [91, 110, 105, 108, 32, 53, 32, 34, 97, 34, 93] := by
  unfold u0
  rw [pr3, VT.prL, pr0, VT.prT, pr1, itoa5T, VT.prT, pr2, VT.prT]; rfl
theorem u0_par : parA [91, 110, 105, 108, 32, 53, 32, 34, 97, 34, 93] = (u0, 0) := by
  have h := parA_pr u0_chk u0_rg
  rwa [u0_pr, u0_cl] at h
/-- What is told. -/
def xL (t : VT) (s : List UInt8) (n : Int) : List VT := [t, .mk 2 0 s [], .mk 1 n [] []]
def xV (t : VT) (s : List UInt8) (n : Int) : VT := .mk 3 0 [] [t.cl, .mk 2 0 s [], .mk 1 n [] []]
theorem xV_clL (t : VT) (s : List UInt8) (n : Int) : VT.clL (xL t s n) = [t.cl, .mk 2 0 s [], .mk 1 n [] []] := by unfold xL; simp [VT.clL, VT.cl]
theorem xV_cl (t : VT) (s : List UInt8) (n : Int) : (xV t s n).cl = xV t s n := by unfold xV; simp [VT.clL, VT.cl, cl_cl]
theorem xV_rg {t : VT} {s : List UInt8} {n : Int} (ht : t.rg) (hs : s.length ≤ 100) (h0 : 0 ≤ n) (h1 : n ≤ 2147483648) : (xV t s n).rg := by
  unfold xV
  simp only [VT.rg, VT.rgL, List.length_nil, List.length_cons]
  exact ⟨by omega, by omega, by omega, by omega, by omega, by omega, cl_rg _ ht, ⟨by omega, by omega, by omega, by omega, by omega, by omega, trivial⟩, ⟨by omega, by omega, by omega, by omega, by omega, by omega, trivial⟩, trivial⟩
theorem chk_parts {t : VT} (h : t.chk = 0) : t.parts ≤ 256 := by
  obtain ⟨q, hq, -⟩ := chk_walk h
  have := wpartsT t 0 0 q hq
  omega
theorem parseR_code (s : List UInt8) : ((parseR s).1 = none ∧ (parseR s).2 ≠ 0) ∨ ∃ m, parseR s = (some m, 0) := by
  unfold parseR
  split
  · exact .inl ⟨rfl, by decide⟩
  · split
    · unfold parse5
      split
      · exact .inl ⟨rfl, by assumption⟩
      · split
        · exact .inl ⟨rfl, by assumption⟩
        · split
          · exact .inl ⟨rfl, by assumption⟩
          · split
            · exact .inl ⟨rfl, by assumption⟩
            · split
              · exact .inl ⟨rfl, by assumption⟩
              · exact .inr ⟨_, rfl⟩
    · exact .inl ⟨rfl, by decide⟩
section
theorem last_ok {w3 W wL : World} {t : VT} {k n : Int} {s : List UInt8} {a : Option Addr} {m c : Nat} (hV : VAt wL (New W wL) t [.int .i64 k, .int .i64 n, .string (strOf s), .slice a m c]) (ho : Only (fun _ => False) w3 wL) (hs : w3.heap.size ≤ W.heap.size) :
    ∃ g9 cs5, Value.pointer (some ⟨wL.heap.size, 0, none⟩) = .pointer (some ⟨g9, 0, none⟩) ∧ w3.heap.size ≤ g9 ∧ (wL.alloc (.cells #[.int .i64 k, .int .i64 n, .string (strOf s), .slice a m c] 24)).heap[g9]? = some (.cells cs5.toArray 24 (0, 0)) ∧ VAt (wL.alloc (.cells #[.int .i64 k, .int .i64 n, .string (strOf s), .slice a m c] 24)) (fun j => w3.heap.size ≤ j ∧ j < (wL.alloc (.cells #[.int .i64 k, .int .i64 n, .string (strOf s), .slice a m c] 24)).heap.size) t cs5 ∧ Only (fun _ => False) w3 (wL.alloc (.cells #[.int .i64 k, .int .i64 n, .string (strOf s), .slice a m c] 24)) :=
  ⟨_, _, rfl, ho.size, blk_new _ _, (hV.same (only_new wL _)).mono (fun j hj => ⟨Nat.le_trans hs hj.1, by rw [World.size_alloc]; exact Nat.lt_succ_of_lt hj.2⟩), ho.alloc _⟩
theorem old_ok {w3 W wL : World} {t : VT} {k n : Int} {s : List UInt8} {a : Option Addr} {m c gz : Nat} (hz : wL.heap[gz]? = some (.cells #[.int .i64 0, .int .i64 0, .string ⟨#[]⟩, .slice none 0 0] 24 (0, 0))) (hV : VAt wL (New W wL) t [.int .i64 k, .int .i64 n, .string (strOf s), .slice a m c]) (ho : Only (fun _ => False) w3 wL) (hs : w3.heap.size ≤ W.heap.size) (hg : w3.heap.size ≤ gz) (hw : gz < W.heap.size) :
    ∃ g9 cs5, Value.pointer (some ⟨gz, 0, none⟩) = .pointer (some ⟨g9, 0, none⟩) ∧ w3.heap.size ≤ g9 ∧ ((((wL.setCell ⟨gz, 0, none⟩ (.int .i64 k)).setCell ⟨gz, 1, none⟩ (.int .i64 n)).setCell ⟨gz, 2, none⟩ (.string (strOf s))).setCell ⟨gz, 3, none⟩ (.slice a m c)).heap[g9]? = some (.cells cs5.toArray 24 (0, 0)) ∧ VAt ((((wL.setCell ⟨gz, 0, none⟩ (.int .i64 k)).setCell ⟨gz, 1, none⟩ (.int .i64 n)).setCell ⟨gz, 2, none⟩ (.string (strOf s))).setCell ⟨gz, 3, none⟩ (.slice a m c)) (fun j => w3.heap.size ≤ j ∧ j < ((((wL.setCell ⟨gz, 0, none⟩ (.int .i64 k)).setCell ⟨gz, 1, none⟩ (.int .i64 n)).setCell ⟨gz, 2, none⟩ (.string (strOf s))).setCell ⟨gz, 3, none⟩ (.slice a m c)).heap.size) t cs5 ∧ Only (fun _ => False) w3 ((((wL.setCell ⟨gz, 0, none⟩ (.int .i64 k)).setCell ⟨gz, 1, none⟩ (.int .i64 n)).setCell ⟨gz, 2, none⟩ (.string (strOf s))).setCell ⟨gz, 3, none⟩ (.slice a m c)) := by
  have hb := blk_set (blk_set (blk_set (blk_set hz 0 (.int .i64 k)) 1 (.int .i64 n)) 2 (.string (strOf s))) 3 (.slice a m c)
  have h4 : Only (fun j => j = gz) wL ((((wL.setCell ⟨gz, 0, none⟩ (.int .i64 k)).setCell ⟨gz, 1, none⟩ (.int .i64 n)).setCell ⟨gz, 2, none⟩ (.string (strOf s))).setCell ⟨gz, 3, none⟩ (.slice a m c)) := (((only_set gz 0 (.int .i64 k)).setCell ⟨gz, 1, none⟩ (.int .i64 n) (fun _ => rfl)).setCell ⟨gz, 2, none⟩ (.string (strOf s)) (fun _ => rfl)).setCell ⟨gz, 3, none⟩ (.slice a m c) (fun _ => rfl)
  exact ⟨_, _, rfl, hg, hb, (hV.only h4 (fun j hj e => by have h1 := hj.1; have e' : j = gz := e; omega)).mono (fun j hj => ⟨Nat.le_trans hs hj.1, Nat.lt_of_lt_of_le hj.2 h4.size⟩), ho.trans h4 (fun j hj e => by have e' : j = gz := e; omega)⟩

variable {P : Program} {w : World} {o : Oper} {a : Act} {K : Act → World → Prop} {Q : Exit → Act → World → Prop}
theorem wp_allocZ (ho : o.op = .alloc 24) (h : ∀ w' g, w'.heap[g]? = some (.cells #[.int .i64 0, .int .i64 0, .string ⟨#[]⟩, .slice none 0 0] 24 (0, 0)) → Only (fun _ => False) w w' → w.heap.size ≤ g → K (a.put o.dst (.pointer (some ⟨g, 0, none⟩))) w') : o.wp Tryz.prog a w K Q := by
  refine wp_value (w' := w.alloc (.cells #[.int .i64 0, .int .i64 0, .string ⟨#[]⟩, .slice none 0 0] 24)) (v := .pointer (some ⟨w.heap.size, 0, none⟩)) (by unfold execOp; rw [ho]; kernel_rfl) (h _ _ (blk_new _ _) (only_new _ _) (Nat.le_refl _))
theorem wp_bs3 (k n' : Int) (s' : List UInt8) (va : Option Addr) (m c : Nat) (s : List UInt8) (n : Int) (x y z : Operand) (ho : o.op = .buildSlice 22 3 #[(0, x), (1, y), (2, z)]) (hx : a.eval x = .agg #[.int .i64 k, .int .i64 n', .string (strOf s'), .slice va m c]) (hy : a.eval y = .agg #[.int .i64 2, .int .i64 0, .string (strOf s), .slice none 0 0]) (hz : a.eval z = .agg #[.int .i64 1, .int .i64 n, .string ⟨#[]⟩, .slice none 0 0])
    (h : ∀ w' g, w'.heap[g]? = some (.cells #[.int .i64 k, .int .i64 n', .string (strOf s'), .slice va m c, .int .i64 2, .int .i64 0, .string (strOf s), .slice none 0 0, .int .i64 1, .int .i64 n, .string ⟨#[]⟩, .slice none 0 0] 24 (0, 0)) → Only (fun _ => False) w w' → w.heap.size ≤ g → K (a.put o.dst (.slice (some ⟨g, 0, none⟩) 3 3)) w') : o.wp Tryz.prog a w K Q := by
  refine wp_value (w' := w.alloc (.cells #[.int .i64 k, .int .i64 n', .string (strOf s'), .slice va m c, .int .i64 2, .int .i64 0, .string (strOf s), .slice none 0 0, .int .i64 1, .int .i64 n, .string ⟨#[]⟩, .slice none 0 0] 24)) (v := .slice (some ⟨w.heap.size, 0, none⟩) 3 3) (by unfold execOp; rw [ho]; simp only [List.map_toArray, List.map_cons, List.map_nil, hx, hy, hz]; kernel_rfl) (h _ _ (blk_new _ _) (only_new _ _) (Nat.le_refl _))
end
section
variable {w : World}
set_option maxRecDepth 100000 in
set_option maxHeartbeats 12800000 in
theorem wtold_c (hT : Tab w) (hR : Ers w) (hM : MaxL w) {t : VT} {G : Nat → Prop} {cs : List Value} (hV : VAt w G t cs) (hG : ∀ k, G k → k < w.heap.size) (hg : t.rg) (s : List UInt8) (n : Int) :
    Calls Tryz.prog 3 #[.agg cs.toArray, .string (strOf s), .int .i64 n] w fun x w' => x = .returned (.bool true) ∧ Only (fun _ => False) w w' := by
  have hsz : (strOf s).size = s.length := rfl
  obtain ⟨k, n', s', va, m, c, rfl⟩ := hV.form
  obtain ⟨w0, hw0⟩ : ∃ x, w.alloc (.cells #[.int .i64 k, .int .i64 n', .string (strOf s'), .slice va m c] 24) = x := ⟨_, rfl⟩
  obtain ⟨g0, hg0⟩ : ∃ x, w.heap.size = x := ⟨_, rfl⟩
  have hb0 : w0.heap[g0]? = some (.cells #[.int .i64 k, .int .i64 n', .string (strOf s'), .slice va m c] 24 (0, 0)) := by rw [← hw0, ← hg0]; exact blk_new _ _
  have ho0 : Only (fun _ => False) w w0 := by rw [← hw0]; exact only_new _ _
  have HB0 := hid hb0; have HO0 := hid ho0; have HW0 := hid hw0; have HG0 := hid hg0
  have HT := hid hT; have HR := hid hR; have HM := hid hM; have HV := hid hV; have HG := hid hG; have Hg := hid hg
  have hpa := parse_c (w := w0) [91, 110, 105, 108, 32, 53, 32, 34, 97, 34, 93] (by decide) (hT.only ho0) (hR.same ho0)
  rw [u0_par] at hpa
  have HPA := hid hpa
  clear hT hR hM hV hG hg hb0 ho0 hw0 hg0 hpa
  go_enter Tryz.func3, Tryz.ntmps3
  go_upto_region 1 with fail
  rw [HW0.out, HG0.out]
  clear HW0
  go_wp2_with fail
  refine HPA.out.mono ?_
  rintro x w1 ⟨cs1, rfl, hv1, ho1⟩
  obtain ⟨k1, n1, s1, a1, m1, c1, rfl⟩ := hv1.form
  have hn1' := only_new w1 (.cells #[.int .i64 k1, .int .i64 n1, .string (strOf s1), .slice a1 m1 c1] 24)
  have HV1 := hid (hv1.same hn1')
  have HPT := hid (partsC _ u0 (Nat.le_refl _) _ _ _ (hv1.same hn1') (by rw [u0_sz]; decide))
  rw [u0_parts] at HPT
  have HO1 := hid (HO0.out.trans (ho1.trans hn1' (fun _ _ e => e)) (fun _ _ e => e))
  have HB1 := hid (blk_only HB0.out (ho1.trans hn1' (fun _ _ e => e)) (fun e => e))
  clear hv1 ho1 hn1' HPA HB0 HO0
  go_wp2_with fail
  refine HPT.out.mono ?_
  rintro x w2 ⟨rfl, ho2⟩
  have HO2 := hid (HO1.out.trans ho2 (fun _ _ e => e))
  have HB2 := hid (blk_only HB1.out ho2 (fun e => e))
  clear ho2 HPT HB1 HO1 HV1
  have b0 : w2.cell? ⟨g0, 0, none⟩ = some (.int .i64 k) := cell_blk HB2.out 0
  have b1 : w2.cell? ⟨g0, 1, none⟩ = some (.int .i64 n') := cell_blk HB2.out 1
  have b2 : w2.cell? ⟨g0, 2, none⟩ = some (.string (strOf s')) := cell_blk HB2.out 2
  have b3 : w2.cell? ⟨g0, 3, none⟩ = some (.slice va m c) := cell_blk HB2.out 3
  have HV2 := hid (HV.out.same HO2.out)
  have HG2 : Hid (∀ k, G k → k < w2.heap.size) := hid fun k hk => by have := HG.out k hk; have := HO2.out.size; omega
  have HCK := hid (vcheck_c HV2.out HG2.out Hg.out)
  obtain ⟨ck, hck⟩ : ∃ y, t.chk = y := ⟨_, rfl⟩
  rw [hck] at HCK
  have HK := hid hck
  clear hck
  by_cases hl : 100 < s.length
  · have hli : (100 : Int) < (strOf s).size := by omega
    clear hsz
    go_wp2_with fail
    go_ret
    exact ⟨rfl, HO2.out⟩
  have hli : ¬ (100 : Int) < (strOf s).size := by omega
  by_cases hc0 : ck = 0
  rotate_left
  · have hcb : (ck != 0) = true := bne_iff_ne.2 hc0
    clear hc0 hsz
    go_wp2_with fail
    refine HCK.out.mono ?_
    rintro x w3 ⟨rfl, ho3⟩
    have HO3 := hid (HO2.out.trans ho3 (fun _ _ e => e))
    clear ho3
    go_wp2_with fail
    go_ret
    exact ⟨rfl, HO3.out⟩
  subst hc0
  clear hsz
  go_wp2_with fail
  refine HCK.out.mono ?_
  rintro x w3 ⟨rfl, ho3⟩
  have HO3 := hid (HO2.out.trans ho3 (fun _ _ e => e))
  have HB3 := hid (blk_only HB2.out ho3 (fun e => e))
  have HV3 := hid (HV2.out.same ho3)
  have HG3 : Hid (∀ k, G k → k < w3.heap.size) := hid fun k hk => by have := HG2.out k hk; have := ho3.size; omega
  clear ho3 HCK HO2 HB2 HV2 HG2 b0 b1 b2 b3
  by_cases ht0 : n < 0
  · go_wp2_with fail
    go_ret
    exact ⟨rfl, HO3.out⟩
  by_cases ht1 : 2147483648 < n
  · go_wp2_with fail
    go_ret
    exact ⟨rfl, HO3.out⟩
  have HBA : Hid (∀ W, Only (fun _ => False) w3 W → W.heap[g0]? = some (.cells #[.int .i64 k, .int .i64 n', .string (strOf s'), .slice va m c] 24 (0, 0))) := hid fun W hW => blk_only HB3.out hW (fun e => e)
  have HLS : Hid (∀ (W : World) (g : Nat), Only (fun _ => False) w3 W → W.heap[g]? = some (.cells #[.int .i64 k, .int .i64 n', .string (strOf s'), .slice va m c, .int .i64 2, .int .i64 0, .string (strOf s), .slice none 0 0, .int .i64 1, .int .i64 n, .string ⟨#[]⟩, .slice none 0 0] 24 (0, 0)) → VLs W (fun j => G j ∨ j = g) (xL t s n) g 0) := hid fun W g hW hb => by
    unfold xL
    rw [VLs, VLs, VLs, VLs]
    refine ⟨⟨_, fun j u hj => ?_, ((HV3.out.same hW).mono (fun j hj => .inl hj))⟩, ⟨[.int .i64 2, .int .i64 0, .string (strOf s), .slice none 0 0], fun j u hj => ?_, novls _ _ 2 0 s⟩, ⟨[.int .i64 1, .int .i64 n, .string (strOf []), .slice none 0 0], fun j u hj => ?_, novls _ _ 1 n []⟩, trivial⟩
    all_goals
      rw [cell_blk hb]
      match j, hj with
      | 0, hj => exact hj
      | 1, hj => exact hj
      | 2, hj => exact hj
      | 3, hj => exact hj
      | j + 4, hj => simp at hj
  have HXR : Hid (VT.rgL (xL t s n)) := hid (by
    unfold xL
    simp only [VT.rg, VT.rgL, List.length_nil]
    exact ⟨Hg.out, ⟨by omega, by omega, by omega, by omega, by omega, by omega, trivial⟩, ⟨by omega, by omega, by omega, by omega, by omega, by omega, trivial⟩, trivial⟩)
  have HXP : Hid (VT.partsL (xL t s n) ≤ 100000000) := hid (by
    have := chk_parts HK.out
    unfold xL
    simp only [VT.partsL, VT.parts]
    simp
    omega)
  have HTXT : Hid (∀ (W : World), Calls Tryz.prog 8 #[.string (strOf s)] W fun x w' => x = .returned (.agg #[.int .i64 2, .int .i64 0, .string (strOf s), .slice none 0 0]) ∧ Only (fun _ => False) W w') := hid fun W => text_c (w := W) s
  have HOFN : Hid (∀ (W : World), Calls Tryz.prog 9 #[.int .i64 n] W fun x w' => x = .returned (.agg #[.int .i64 1, .int .i64 n, .string ⟨#[]⟩, .slice none 0 0]) ∧ Only (fun _ => False) W w') := hid fun W => of_c (w := W) n
  have HLI : Hid (∀ (W : World) (gx : Nat), Only (fun _ => False) w3 W → W.heap[gx]? = some (.cells #[.int .i64 k, .int .i64 n', .string (strOf s'), .slice va m c, .int .i64 2, .int .i64 0, .string (strOf s), .slice none 0 0, .int .i64 1, .int .i64 n, .string ⟨#[]⟩, .slice none 0 0] 24 (0, 0)) → Calls Tryz.prog 7 #[.slice (some ⟨gx, 0, none⟩) 3 3] W (MadeS W (xV t s n))) := hid fun W gx hW hbx => by
    have h := vlistP_c (w := W) (cap := 3) (a := some ⟨gx, 0, none⟩) (l := xL t s n) (G := fun j => G j ∨ j = gx) (fun _ => ⟨rfl, .inr rfl⟩) (HLS.out W gx hW hbx) (fun j hj => by rcases hj with hj | hj; exact Nat.lt_of_lt_of_le (HG3.out j hj) hW.size; rw [hj]; exact blk_lt hbx) HXR.out (by show 3 ≤ 9223372036854775807; omega) HXP.out
    rw [xV_clL] at h
    exact h
  have x0 : w3.cell? ⟨g0, 0, none⟩ = some (.int .i64 k) := cell_blk HB3.out 0
  have x1 : w3.cell? ⟨g0, 1, none⟩ = some (.int .i64 n') := cell_blk HB3.out 1
  have x2 : w3.cell? ⟨g0, 2, none⟩ = some (.string (strOf s')) := cell_blk HB3.out 2
  have x3 : w3.cell? ⟨g0, 3, none⟩ = some (.slice va m c) := cell_blk HB3.out 3
  go_upto_region 6 with fail
  have HCUR := hid (Only.refl (fun _ => False) w3)
  have HG51 : Hid (∀ W, Only (fun _ => False) w3 W → (W.cell? ⟨g0, 0, none⟩ = some (.int .i64 k) ∧ W.cell? ⟨g0, 1, none⟩ = some (.int .i64 n') ∧ W.cell? ⟨g0, 2, none⟩ = some (.string (strOf s')) ∧ W.cell? ⟨g0, 3, none⟩ = some (.slice va m c))) := hid fun W hW => ⟨cell_blk (HBA.out W hW) 0, cell_blk (HBA.out W hW) 1, cell_blk (HBA.out W hW) 2, cell_blk (HBA.out W hW) 3⟩
  have hl3 : g0 < w3.heap.size := blk_lt HB3.out
  go_cut [9] from 51 to 57 (fun x wx => ∃ g9 cs5, x = .pointer (some ⟨g9, 0, none⟩) ∧ w3.heap.size ≤ g9 ∧ wx.heap[g9]? = some (.cells cs5.toArray 24 (0, 0)) ∧ VAt wx (fun j => w3.heap.size ≤ j ∧ j < wx.heap.size) (xV t s n) cs5 ∧ Only (fun _ => False) w3 wx)
  case first =>
    go_wp2_with fail
    go_region_held3 (fun W => (W.cell? ⟨g0, 0, none⟩ = some (.int .i64 k) ∧ W.cell? ⟨g0, 1, none⟩ = some (.int .i64 n') ∧ W.cell? ⟨g0, 2, none⟩ = some (.string (strOf s')) ∧ W.cell? ⟨g0, 3, none⟩ = some (.slice va m c))) (first | with_reducible exact HSK.out | go_keep | ((refine HG51.out _ ?_); (repeat (first | with_reducible refine Only.drew ?_ | with_reducible refine Only.alloc ?_ _ | with_reducible refine Only.setCell ?_ _ _ (fun e => absurd e (Nat.not_lt.2 (by first | (dsimp only; omega) | omega))))); exact HCUR.out)) (first
      | (go_at_call 8; refine (HTXT.out _).mono ?_; rintro x wA ⟨rfl, hoA⟩; have HCUR : Hid (Only (fun _ => False) w3 wA) := hid (Only.trans (F := fun _ => False) (by (repeat first | with_reducible refine Only.drew ?_ | with_reducible refine Only.alloc ?_ _); exact HCUR.out) hoA (fun _ _ e => e)); (try have HZ : Hid (wA.heap[w3.heap.size]? = some (.cells #[.int .i64 0, .int .i64 0, .string ⟨#[]⟩, .slice none 0 0] 24 (0, 0))) := hid ((fun h => blk_only h hoA (fun e => e)) (blk_new w3 (.cells #[.int .i64 0, .int .i64 0, .string ⟨#[]⟩, .slice none 0 0] 24)))); have hswA : w3.heap.size ≤ wA.heap.size := HCUR.out.size; have HSK : Hid ((wA.cell? ⟨g0, 0, none⟩ = some (.int .i64 k) ∧ wA.cell? ⟨g0, 1, none⟩ = some (.int .i64 n') ∧ wA.cell? ⟨g0, 2, none⟩ = some (.string (strOf s')) ∧ wA.cell? ⟨g0, 3, none⟩ = some (.slice va m c))) := hid (HG51.out _ HCUR.out); have hlwA : g0 < wA.heap.size := blk_lt (HBA.out _ HCUR.out); clear hoA)
      | (go_at_call 9; refine (HOFN.out _).mono ?_; rintro x wB ⟨rfl, hoB⟩; have HCUR : Hid (Only (fun _ => False) w3 wB) := hid (Only.trans (F := fun _ => False) (by (repeat first | with_reducible refine Only.drew ?_ | with_reducible refine Only.alloc ?_ _); exact HCUR.out) hoB (fun _ _ e => e)); (first | (have HZ : Hid (wB.heap[w3.heap.size]? = some (.cells #[.int .i64 0, .int .i64 0, .string ⟨#[]⟩, .slice none 0 0] 24 (0, 0))) := hid ((fun h => blk_only h hoB (fun e => e)) HZ.out)) | (have HZ : Hid (wB.heap[wA.heap.size]? = some (.cells #[.int .i64 0, .int .i64 0, .string ⟨#[]⟩, .slice none 0 0] 24 (0, 0))) := hid ((fun h => blk_only h hoB (fun e => e)) (blk_new wA (.cells #[.int .i64 0, .int .i64 0, .string ⟨#[]⟩, .slice none 0 0] 24)))) | skip); have hswB : w3.heap.size ≤ wB.heap.size := HCUR.out.size; have HSK : Hid ((wB.cell? ⟨g0, 0, none⟩ = some (.int .i64 k) ∧ wB.cell? ⟨g0, 1, none⟩ = some (.int .i64 n') ∧ wB.cell? ⟨g0, 2, none⟩ = some (.string (strOf s')) ∧ wB.cell? ⟨g0, 3, none⟩ = some (.slice va m c))) := hid (HG51.out _ HCUR.out); have hlwB : g0 < wB.heap.size := blk_lt (HBA.out _ HCUR.out); clear hoB)
      | (go_at_call 7; refine (HLI.out _ (wB.heap.size) (by (repeat first | with_reducible refine Only.drew ?_ | with_reducible refine Only.alloc ?_ _); exact HCUR.out) (by first | exact blk_new _ _ | exact blk_alloc (blk_new _ _))).mono ?_; rintro x wL ⟨cs5, rfl, hv5, hoL, -⟩; obtain ⟨k5, n5, s5, a5, m5, c5, rfl⟩ := hv5.form; have HV5 := hid hv5; have HLo := hid (HCUR.out.size); have HCUR : Hid (Only (fun _ => False) w3 wL) := hid (Only.trans (F := fun _ => False) (by (repeat first | with_reducible refine Only.drew ?_ | with_reducible refine Only.alloc ?_ _); exact HCUR.out) hoL (fun _ _ e => e)); (try have hzB := blk_lt HZ.out); (first | (have HZ : Hid (wL.heap[w3.heap.size]? = some (.cells #[.int .i64 0, .int .i64 0, .string ⟨#[]⟩, .slice none 0 0] 24 (0, 0))) := hid ((fun h => blk_only h hoL (fun e => e)) (blk_alloc HZ.out))) | (have HZ : Hid (wL.heap[wA.heap.size]? = some (.cells #[.int .i64 0, .int .i64 0, .string ⟨#[]⟩, .slice none 0 0] 24 (0, 0))) := hid ((fun h => blk_only h hoL (fun e => e)) (blk_alloc HZ.out))) | (have HZ : Hid (wL.heap[wB.heap.size]? = some (.cells #[.int .i64 0, .int .i64 0, .string ⟨#[]⟩, .slice none 0 0] 24 (0, 0))) := hid ((fun h => blk_only h hoL (fun e => e)) (blk_alloc (blk_new wB (.cells #[.int .i64 0, .int .i64 0, .string ⟨#[]⟩, .slice none 0 0] 24))))) | (have HZ : Hid (wL.heap[wB.heap.size + 1]? = some (.cells #[.int .i64 0, .int .i64 0, .string ⟨#[]⟩, .slice none 0 0] 24 (0, 0))) := hid ((fun h => blk_only h hoL (fun e => e)) (by have h := blk_new (wB.alloc (.cells #[.int .i64 k, .int .i64 n', .string (strOf s'), .slice va m c, .int .i64 2, .int .i64 0, .string (strOf s), .slice none 0 0, .int .i64 1, .int .i64 n, .string ⟨#[]⟩, .slice none 0 0] 24)) (.cells #[.int .i64 0, .int .i64 0, .string ⟨#[]⟩, .slice none 0 0] 24); rw [World.size_alloc] at h; exact h))) | skip); have hswL : w3.heap.size ≤ wL.heap.size := HCUR.out.size; have HSK : Hid ((wL.cell? ⟨g0, 0, none⟩ = some (.int .i64 k) ∧ wL.cell? ⟨g0, 1, none⟩ = some (.int .i64 n') ∧ wL.cell? ⟨g0, 2, none⟩ = some (.string (strOf s')) ∧ wL.cell? ⟨g0, 3, none⟩ = some (.slice va m c))) := hid (HG51.out _ HCUR.out); have hlwL : g0 < wL.heap.size := blk_lt (HBA.out _ HCUR.out); (try have z0 := cell_blk HZ.out 0; have z1 := cell_blk HZ.out 1; have z2 := cell_blk HZ.out 2; have z3 := cell_blk HZ.out 3; have y0 := frozen_blk HZ.out 0; have y1 := frozen_blk HZ.out 1; have y2 := frozen_blk HZ.out 2; have y3 := frozen_blk HZ.out 3; simp only [List.getElem?_toArray, List.getElem?_cons_zero, List.getElem?_cons_succ] at z0 z1 z2 z3); clear hoL hv5)
      | (go_at_call 7; refine (HLI.out _ (wB.heap.size + 1) (by (repeat first | with_reducible refine Only.drew ?_ | with_reducible refine Only.alloc ?_ _); exact HCUR.out) (by have h := blk_new (wB.alloc (.cells #[.int .i64 0, .int .i64 0, .string ⟨#[]⟩, .slice none 0 0] 24)) (.cells #[.int .i64 k, .int .i64 n', .string (strOf s'), .slice va m c, .int .i64 2, .int .i64 0, .string (strOf s), .slice none 0 0, .int .i64 1, .int .i64 n, .string ⟨#[]⟩, .slice none 0 0] 24); rw [World.size_alloc] at h; exact h)).mono ?_; rintro x wL ⟨cs5, rfl, hv5, hoL, -⟩; obtain ⟨k5, n5, s5, a5, m5, c5, rfl⟩ := hv5.form; have HV5 := hid hv5; have HLo := hid (HCUR.out.size); have HCUR : Hid (Only (fun _ => False) w3 wL) := hid (Only.trans (F := fun _ => False) (by (repeat first | with_reducible refine Only.drew ?_ | with_reducible refine Only.alloc ?_ _); exact HCUR.out) hoL (fun _ _ e => e)); (try have hzB := blk_lt HZ.out); (first | (have HZ : Hid (wL.heap[w3.heap.size]? = some (.cells #[.int .i64 0, .int .i64 0, .string ⟨#[]⟩, .slice none 0 0] 24 (0, 0))) := hid ((fun h => blk_only h hoL (fun e => e)) (blk_alloc HZ.out))) | (have HZ : Hid (wL.heap[wA.heap.size]? = some (.cells #[.int .i64 0, .int .i64 0, .string ⟨#[]⟩, .slice none 0 0] 24 (0, 0))) := hid ((fun h => blk_only h hoL (fun e => e)) (blk_alloc HZ.out))) | (have HZ : Hid (wL.heap[wB.heap.size]? = some (.cells #[.int .i64 0, .int .i64 0, .string ⟨#[]⟩, .slice none 0 0] 24 (0, 0))) := hid ((fun h => blk_only h hoL (fun e => e)) (blk_alloc (blk_new wB (.cells #[.int .i64 0, .int .i64 0, .string ⟨#[]⟩, .slice none 0 0] 24))))) | (have HZ : Hid (wL.heap[wB.heap.size + 1]? = some (.cells #[.int .i64 0, .int .i64 0, .string ⟨#[]⟩, .slice none 0 0] 24 (0, 0))) := hid ((fun h => blk_only h hoL (fun e => e)) (by have h := blk_new (wB.alloc (.cells #[.int .i64 k, .int .i64 n', .string (strOf s'), .slice va m c, .int .i64 2, .int .i64 0, .string (strOf s), .slice none 0 0, .int .i64 1, .int .i64 n, .string ⟨#[]⟩, .slice none 0 0] 24)) (.cells #[.int .i64 0, .int .i64 0, .string ⟨#[]⟩, .slice none 0 0] 24); rw [World.size_alloc] at h; exact h))) | skip); have hswL : w3.heap.size ≤ wL.heap.size := HCUR.out.size; have HSK : Hid ((wL.cell? ⟨g0, 0, none⟩ = some (.int .i64 k) ∧ wL.cell? ⟨g0, 1, none⟩ = some (.int .i64 n') ∧ wL.cell? ⟨g0, 2, none⟩ = some (.string (strOf s')) ∧ wL.cell? ⟨g0, 3, none⟩ = some (.slice va m c))) := hid (HG51.out _ HCUR.out); have hlwL : g0 < wL.heap.size := blk_lt (HBA.out _ HCUR.out); (try have z0 := cell_blk HZ.out 0; have z1 := cell_blk HZ.out 1; have z2 := cell_blk HZ.out 2; have z3 := cell_blk HZ.out 3; have y0 := frozen_blk HZ.out 0; have y1 := frozen_blk HZ.out 1; have y2 := frozen_blk HZ.out 2; have y3 := frozen_blk HZ.out 3; simp only [List.getElem?_toArray, List.getElem?_cons_zero, List.getElem?_cons_succ] at z0 z1 z2 z3); clear hoL hv5))
    all_goals go_wp2_with fail
    all_goals go_meet
    case' rel => first | exact old_ok HZ.out HV5.out HCUR.out (by simp only [World.size_alloc]; omega) (by omega) (by first | (simp only [World.size_alloc]; omega) | omega) | exact last_ok HV5.out HCUR.out (by simp only [World.size_alloc]; omega)
    case' rel => first | exact old_ok HZ.out HV5.out HCUR.out (by simp only [World.size_alloc]; omega) (by omega) (by first | (simp only [World.size_alloc]; omega) | omega) | exact last_ok HV5.out HCUR.out (by simp only [World.size_alloc]; omega)
    case' rel => first | exact old_ok HZ.out HV5.out HCUR.out (by simp only [World.size_alloc]; omega) (by omega) (by first | (simp only [World.size_alloc]; omega) | omega) | exact last_ok HV5.out HCUR.out (by simp only [World.size_alloc]; omega)
    case' rel => first | exact old_ok HZ.out HV5.out HCUR.out (by simp only [World.size_alloc]; omega) (by omega) (by first | (simp only [World.size_alloc]; omega) | omega) | exact last_ok HV5.out HCUR.out (by simp only [World.size_alloc]; omega)
    case' rel => first | exact old_ok HZ.out HV5.out HCUR.out (by simp only [World.size_alloc]; omega) (by omega) (by first | (simp only [World.size_alloc]; omega) | omega) | exact last_ok HV5.out HCUR.out (by simp only [World.size_alloc]; omega)
  case rest =>
  obtain ⟨g9, cs5, rfl, hg9, hb9, hv5, ho5⟩ := hcut
  obtain ⟨k5, n5, s5, a5, m5, c5, rfl⟩ := hv5.form
  have HO5 := hid (HO3.out.trans ho5 (fun _ _ e => e))
  have HV5 := hid hv5; have HB9 := hid hb9
  have HRX := hid (xV_rg (s := s) (n := n) Hg.out (by omega) (by omega) (by omega))
  have HCX := hid (vcheck_c hv5 (fun j hj => hj.2) HRX.out)
  obtain ⟨cx, hcx⟩ : ∃ y, (xV t s n).chk = y := ⟨_, rfl⟩
  rw [hcx] at HCX
  have HKX := hid hcx
  have hz0 : wc.cell? ⟨g9, 0, none⟩ = some (.int .i64 k5) := cell_blk hb9 0
  have hz1 : wc.cell? ⟨g9, 1, none⟩ = some (.int .i64 n5) := cell_blk hb9 1
  have hz2 : wc.cell? ⟨g9, 2, none⟩ = some (.string (strOf s5)) := cell_blk hb9 2
  have hz3 : wc.cell? ⟨g9, 3, none⟩ = some (.slice a5 m5 c5) := cell_blk hb9 3
  clear hcx hv5 hb9 ho5 HLI HTXT HOFN HLS HXR HXP HBA HCUR HG51 x0 x1 x2 x3 hl3 hg9
  go_wp2_with fail
  refine HCX.out.mono ?_
  rintro x w6 ⟨rfl, ho6⟩
  have HO6 := hid (HO5.out.trans ho6 (fun _ _ e => e))
  have HB6 := hid (blk_only HB9.out ho6 (fun e => e))
  have HV6 := hid (HV5.out.same ho6)
  have hsz6 := ho6.size
  have HG6 : Hid (∀ j, (w3.heap.size ≤ j ∧ j < wc.heap.size) → j < w6.heap.size) := hid fun j hj => by omega
  clear ho6 HCX hz0 hz1 hz2 hz3 hsz6 HO5 HB9 HV5
  by_cases hc0 : cx = 0
  rotate_left
  · have hcb : (cx != 0) = true := bne_iff_ne.2 hc0
    clear hc0
    go_wp2_with fail
    go_ret
    exact ⟨rfl, HO6.out⟩
  subst hc0
  have HEN := hid (vencode_c (w := w6) HV6.out HG6.out HRX.out)
  have hz0 : w6.cell? ⟨g9, 0, none⟩ = some (.int .i64 k5) := cell_blk HB6.out 0
  have hz1 : w6.cell? ⟨g9, 1, none⟩ = some (.int .i64 n5) := cell_blk HB6.out 1
  have hz2 : w6.cell? ⟨g9, 2, none⟩ = some (.string (strOf s5)) := cell_blk HB6.out 2
  have hz3 : w6.cell? ⟨g9, 3, none⟩ = some (.slice a5 m5 c5) := cell_blk HB6.out 3
  go_wp2_with fail
  refine HEN.out.mono ?_
  rintro x w7 ⟨v7, rfl, hnb7⟩
  rw [HKX.out, if_pos rfl] at hnb7
  rw [HKX.out]
  obtain ⟨ao7, cp7, rfl, hgr7, -, ho7⟩ := hnb7
  have HS7 := hid hgr7.src
  have HO7 := hid (HO6.out.trans ho7 (fun _ _ e => e))
  have HB7 := hid (blk_only HB6.out ho7 (fun e => e))
  have HV7 := hid (HV6.out.same ho7)
  obtain ⟨-, -, hwl⟩ := chk_walk HKX.out
  have HDE := hid (vdecode_c HS7.out (by omega))
  have hve := vd_encT HKX.out HRX.out
  rw [xV_cl] at hve
  have HVE := hid hve
  clear hgr7 ho7 HEN hwl hve HO6 HB6 HV6 HG6 hz0 hz1 hz2 hz3
  go_wp2_with fail
  refine HDE.out.mono ?_
  rintro x w8 ⟨cs8, rfl, hv8, ho8⟩
  rw [HVE.out] at hv8
  simp only at hv8
  rw [HVE.out]
  obtain ⟨k8, n8, s8, a8, m8, c8, rfl⟩ := hv8.form
  have hn8 := only_new w8 (.cells #[.int .i64 k8, .int .i64 n8, .string (strOf s8), .slice a8 m8 c8] 24)
  have HO8 := hid (HO7.out.trans (ho8.trans hn8 (fun _ _ e => e)) (fun _ _ e => e))
  have HB8 := hid (blk_only HB7.out (ho8.trans hn8 (fun _ _ e => e)) (fun e => e))
  have HV8 := hid (HV7.out.same (ho8.trans hn8 (fun _ _ e => e)))
  have hpm := pr_max HKX.out HRX.out
  have HPR := hid (vprint_c (hv8.same hn8) (fun j hj => by have := hj.2; rw [World.size_alloc]; omega) HRX.out (HT.out.only HO8.out) (by omega))
  have hpar := parA_pr HKX.out HRX.out
  rw [xV_cl] at hpar
  obtain ⟨pr, hpr⟩ : ∃ p, (xV t s n).pr = p := ⟨_, rfl⟩
  rw [hpr] at HPR hpar hpm
  have HPM := hid hpm
  have HPX := hid hpar
  clear hpm hpar hpr hv8 hn8 ho8 HDE HVE HS7 HO7 HB7 HV7
  go_wp2_with fail
  refine HPR.out.mono ?_
  rintro x w9 ⟨rfl, ho9⟩
  have HO9 := hid (HO8.out.trans ho9 (fun _ _ e => e))
  have HB9 := hid (blk_only HB8.out ho9 (fun e => e))
  have HV9 := hid (HV8.out.same ho9)
  have hpa2 := parse_c (w := w9) pr (by have := HPM.out; omega) (HT.out.only HO9.out) (HR.out.same HO9.out)
  rw [HPX.out] at hpa2
  simp only at hpa2
  have HPA2 := hid hpa2
  clear ho9 hpa2 HPR HPX HPM HO8 HB8 HV8
  go_wp2_with fail
  refine HPA2.out.mono ?_
  rintro x wa ⟨csa, rfl, hva, hoa⟩
  obtain ⟨ka, na, sa, aa, ma, ca, rfl⟩ := hva.form
  have hna := only_new wa (.cells #[.int .i64 ka, .int .i64 na, .string (strOf sa), .slice aa ma ca] 24)
  have HOA := hid (HO9.out.trans (hoa.trans hna (fun _ _ e => e)) (fun _ _ e => e))
  have HVA := hid (HV9.out.same (hoa.trans hna (fun _ _ e => e)))
  have HUA := hid (hva.same hna)
  have hb9 := blk_only HB9.out hoa (fun e => e)
  have HSA := hid (vsame_c HVA.out HUA.out HRX.out HRX.out)
  have hcmp : ((xV t s n).cmp (xV t s n) == 0) = true := by have h := cmp_cl (xV t s n); rw [xV_cl] at h; rw [h]; rfl
  rw [hcmp] at HSA
  have hlz : g9 < wa.heap.size := blk_lt hb9
  have hz0 : wa.cell? ⟨g9, 0, none⟩ = some (.int .i64 k5) := cell_blk hb9 0
  have hz1 : wa.cell? ⟨g9, 1, none⟩ = some (.int .i64 n5) := cell_blk hb9 1
  have hz2 : wa.cell? ⟨g9, 2, none⟩ = some (.string (strOf s5)) := cell_blk hb9 2
  have hz3 : wa.cell? ⟨g9, 3, none⟩ = some (.slice a5 m5 c5) := cell_blk hb9 3
  have HNA := hid (blk_new wa (.cells #[.int .i64 ka, .int .i64 na, .string (strOf sa), .slice aa ma ca] 24))
  clear hcmp hna hva hoa hb9 HPA2 HO9 HB9 HV9
  go_wp2_with fail
  refine HSA.out.mono ?_
  rintro x wb ⟨rfl, hob⟩
  have HOB := hid (HOA.out.trans hob (fun _ _ e => e))
  have HNB := hid (blk_only HNA.out hob (fun e => e))
  have hub := HUA.out.same hob
  unfold xV at hub
  rw [VAt] at hub
  obtain ⟨aq, cq, gq, oq, hcq, hnq, hlq⟩ := hub
  obtain ⟨rfl, hgq⟩ := hnq (by simp)
  simp only [List.cons.injEq, Value.int.injEq, Value.string.injEq, Value.slice.injEq, true_and, and_true, List.length_cons, List.length_nil] at hcq
  obtain ⟨-, -, -, rfl, rfl, rfl⟩ := hcq
  obtain ⟨c1s, hc1s, hv1s⟩ := hlq.get (i := 1) (t := .mk 2 0 s []) rfl
  obtain ⟨c2s, hc2s, hv2s⟩ := hlq.get (i := 2) (t := .mk 1 n [] []) rfl
  rw [VAt] at hv1s hv2s
  obtain ⟨y1, y2, y3, y4, rfl, -, -⟩ := hv1s
  obtain ⟨x1, x2, x3, x4, rfl, -, -⟩ := hv2s
  have hq1 : wb.cell? ⟨gq, oq + 4 + 2, none⟩ = some (.string (strOf s)) := hc1s 2 _ rfl
  have hq2 : wb.cell? ⟨gq, oq + 8 + 1, none⟩ = some (.int .i64 n) := hc2s 1 _ rfl
  have HQ : Hid (∀ W, Only (fun _ => False) wb W → W.cell? ⟨gq, oq + 4 + 2, none⟩ = some (.string (strOf s)) ∧ W.cell? ⟨gq, oq + 8 + 1, none⟩ = some (.int .i64 n)) := hid fun W hW => ⟨(World.cell?_of_block (hW.block _ (World.block_lt_of_cell? _ _ hq1) (fun e => e))).trans hq1, (World.cell?_of_block (hW.block _ (World.block_lt_of_cell? _ _ hq2) (fun e => e))).trans hq2⟩
  have HCP : Hid (∀ W, Only (fun _ => False) wb W → Calls Tryz.prog 14 #[.string (strOf s)] W fun e w' => ∃ o, e = .returned (.tuple #[o, .int .i64 (parseR s).2]) ∧ CrAt W w' o (parseR s).1 ∧ Only (fun _ => False) W w') := hid fun W hW => cparse_c (w := W) (HM.out.only (HOB.out.trans hW (fun _ _ e => e)) (fun e => e)) s (by omega)
  obtain ⟨gz, hgz⟩ : ∃ x, wa.heap.size = x := ⟨_, rfl⟩
  rw [hgz] at HNB ⊢
  have HNC : Hid (∀ W, Only (fun _ => False) wb W → W.cell? ⟨gz, 3, none⟩ = some (.slice (some ⟨gq, oq, none⟩) 3 ca)) := hid fun W hW => cell_blk (blk_only HNB.out hW (fun e => e)) 3
  have hcode := parseR_code s
  obtain ⟨⟨pm, pc⟩, hpp⟩ : ∃ x, parseR s = x := ⟨_, rfl⟩
  rw [hpp] at hcode HCP
  simp only at hcode HCP
  have HCODE := hid hcode
  clear hob hc1s hc2s hlq hgq hq1 hq2 hnq hgz hcode hpp hz0 hz1 hz2 hz3 hlz HSA HNA HUA HVA HOA HNB
  go_wp2_with fail
  refine (HCP.out wb (Only.refl _ _)).mono ?_
  rintro x wc1 ⟨o1, rfl, hp1, hoc⟩
  have HC1 := hid hoc
  have HP1 := hid hp1
  have hn3 := HNC.out wc1 hoc
  have hn1q := (HQ.out wc1 hoc).1
  clear hoc hp1
  go_wp2_with fail
  refine (HCP.out wc1 HC1.out).mono ?_
  rintro x wd ⟨o2, rfl, hp2, hod⟩
  have HD := hid (HC1.out.trans hod (fun _ _ e => e))
  have HOD := hid hod
  have HP2 := hid hp2
  clear hn3 hn1q hp2 hod HCP
  have hbb : (pc != pc) = false := by simp
  rcases HCODE.out with ⟨rfl, hpc⟩ | ⟨pv, hpe⟩
  · have hp1 := HP1.out
    have hp2 := HP2.out
    unfold CrAt at hp1 hp2
    simp only at hp1 hp2
    subst hp1 hp2
    have hpb : (pc != 0) = true := bne_iff_ne.2 hpc
    clear HCODE HP1 HP2 hpc
    go_wp2_with fail
    go_ret
    exact ⟨rfl, HOB.out.trans HD.out (fun _ _ e => e)⟩
  simp only [Prod.mk.injEq] at hpe
  obtain ⟨rfl, rfl⟩ := hpe
  have hp1 := HP1.out
  have hp2 := HP2.out
  unfold CrAt at hp1 hp2
  simp only at hp1 hp2
  obtain ⟨g1, rfl, hs1, -⟩ := hp1
  obtain ⟨g2, rfl, hs2, -⟩ := hp2
  have HS1 := hid (blk_only (w := wc1) hs1 HOD.out (fun e => e))
  have HS2 := hid hs2
  have hnn : n = ((n.toNat : Nat) : Int) := by omega
  have HNX : Hid (∀ W g, SpAt W g pv → Calls Tryz.prog 15 #[.pointer (some ⟨g, 0, none⟩), .int .i64 n] W fun e w' => e = .returned (.tuple #[.int .i64 (nVal (nextR pv n.toNat) : Nat), .int .i64 (nCode (nextR pv n.toNat))]) ∧ Only (fun _ => False) W w') := hid fun W g hS => by
    have h := crnext_c hS n.toNat (by omega)
    rwa [← hnn] at h
  obtain ⟨nv, hnv⟩ : ∃ x : Int, ((nVal (nextR pv n.toNat) : Nat) : Int) = x := ⟨_, rfl⟩
  obtain ⟨nc, hnc⟩ : ∃ x, nCode (nextR pv n.toNat) = x := ⟨_, rfl⟩
  rw [hnv, hnc] at HNX
  have hv1 : (nv == nv) = true := by simp
  have hv2 : (nc == nc) = true := by simp
  have hv3 : ((strOf pv.text).toList == (strOf pv.text).toList) = true := by simp
  clear HCODE HP1 HP2 hs1 hs2 hnn hnv hnc hbb
  go_wp2_with fail
  refine (HNX.out wd g1 HS1.out).mono ?_
  rintro x we ⟨rfl, hoe⟩
  have HE := hid (HD.out.trans hoe (fun _ _ e => e))
  have HS3 := hid (blk_only (w := wd) HS1.out hoe (fun e => e))
  have HS4 := hid (blk_only (w := wd) HS2.out hoe (fun e => e))
  have hn3 := HNC.out we HE.out
  have hn2q := (HQ.out we HE.out).2
  clear hoe
  go_wp2_with fail
  refine (HNX.out we g2 HS4.out).mono ?_
  rintro x wf ⟨rfl, hof⟩
  have HF := hid (HE.out.trans hof (fun _ _ e => e))
  have HX1 := hid (crtext_c (w := wf) (g := g1) (s := pv) (blk_only (w := we) HS3.out hof (fun e => e)))
  have HX2 := hid (crtext_c (w := wf) (g := g2) (s := pv) (blk_only (w := we) HS4.out hof (fun e => e)))
  clear hof hn3 hn2q
  go_wp2_with fail
  refine HX1.out.mono ?_
  rintro x wg ⟨rfl, rfl⟩
  go_wp2_with fail
  refine HX2.out.mono ?_
  rintro x wg ⟨rfl, rfl⟩
  go_wp2_with fail
  go_ret
  exact ⟨rfl, HOB.out.trans HF.out (fun _ _ e => e)⟩
end
end Go.Proofs.YtokefeemhgcmhaaGreatDoor
