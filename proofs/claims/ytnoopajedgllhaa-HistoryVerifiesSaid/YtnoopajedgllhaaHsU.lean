/- foliotlaw18.clash: have two unlike texts one sum? -/
import Derived.Test.YtnoopajedgllhaaHsT
import Derived.Test.YtnoopajedgllhaaHsL
import Derived.Test.YtnoopajedgllhaaPt
import Derived.Test.YtnoopajedgllhaaRuns
import Derived.Deep.Cut
import Derived.Deep.CutRange
import Derived.Deep.CutBlock
namespace Go.Proofs.Ytnoopajedgllhaa
open Go.RowKit
/-- Which texts are there behind so many of the two lists. -/
def txs (s : List UInt8) (A B : List EM) : Nat → List (List UInt8)
  | 0 => []
  | 1 => textS s A
  | _ => textS s A ++ textS s B
theorem textS_len : ∀ (s : List UInt8) (es : List EM), (textS s es).length = es.length
  | _, [] => rfl
  | s, e :: es => by rw [textS, List.length_cons, List.length_cons, textS_len]
theorem textS_take1 {s : List UInt8} {es : List EM} {n : Nat} {e : EM} (h : es[n]? = some e) : (textS s es).take (n + 1) = (textS s es).take n ++ [sumS s (es.take n) ++ e.wr] := by
  rw [List.take_add_one, textS_get s es n e h]; rfl
theorem sumS_take1 {s : List UInt8} {es : List EM} {n : Nat} {e : EM} (h : es[n]? = some e) : sumS s (es.take (n + 1)) = sha (sumS s (es.take n) ++ e.wr) := by
  rw [List.take_add_one, h]; exact sumS_snoc _ _ _
theorem strV_take1 {ls : List (List UInt8)} {x : List UInt8} : (ls ++ [x]).map strV = ls.map strV ++ [strV x] := by simp
theorem text_lt : ∀ (s : List UInt8) (es : List EM), s.length = 32 → (∀ e ∈ es, e.Good) → ∀ x ∈ textS s es, x.length ≤ 20000
  | _, [], _, _, x, h => by simp [textS] at h
  | s, e :: es, hs, hg, x, h => by
    rw [textS] at h
    rcases List.mem_cons.1 h with rfl | h
    · have := ewr_len (hg e List.mem_cons_self); rw [List.length_append]; omega
    · exact text_lt _ es (link_len _ _) (fun e he => hg e (List.mem_cons_of_mem _ he)) x h
section
variable {w : World}
set_option maxRecDepth 100000 in
set_option maxHeartbeats 12800000 in
/-- The texts of a list of events: the first half of clash, one round. -/
theorem clash_c {s : List UInt8} {A B : List EM} {v1 v2 : Value} {G1 G2 : Nat → Prop} (hs : s.length = 32) (hE1 : EvsV w G1 v1 A) (hE2 : EvsV w G2 v2 B) (hg1 : ∀ e ∈ A, e.rg ∧ e.Good) (hg2 : ∀ e ∈ B, e.rg ∧ e.Good) (hn1 : A.length ≤ 10000) (hn2 : B.length ≤ 10000) :
    Calls Try.prog 21 #[.agg (bytesV s).toArray, v1, v2] w fun x w' => (∃ b : Bool, x = .returned (.bool b) ∧ ((∃ x ∈ textS s A ++ textS s B, ∃ y ∈ textS s A ++ textS s B, x ≠ y ∧ sha x = sha y) → b = true)) ∧ Only (fun _ => False) w w' := by
  have hB0 := blk_new w (.cells (bytesV s).toArray 29)
  have hO0 := only_new w (.cells (bytesV s).toArray 29)
  have hinf : (Try.prog.info? 29).map (·.size) = some ((bytesV s).toArray).size := by rw [info32]; simp [hs]
  have hszS : ((bytesV s).toArray).size = (byA st0 0).size := by simp [hs, byA]
  have honS := bytesV_one' s
  -- each of the two lists
  have HLI : Hid (∀ k, k < 2 → ∃ (v : Value) (l : List EM) (G : Nat → Prop), EvsV w G v l ∧ (∀ e ∈ l, e.rg) ∧ (∀ e ∈ l, e.Good) ∧ l.length ≤ 10000 ∧ (∀ W, (Instr.index 95 (.agg #[v1, v2]) (.int .i64 (k : Nat))).run Try.prog W = .ok v W) ∧ txs s A B (k + 1) = txs s A B k ++ textS s l) := hid fun k hk => by
    obtain ⟨a1, c1, e1⟩ := hE1.len
    obtain ⟨a2, c2, e2⟩ := hE2.len
    have hk' : k = 0 ∨ k = 1 := by omega
    rcases hk' with rfl | rfl
    · exact ⟨v1, A, G1, hE1, fun e h => (hg1 e h).1, fun e h => (hg1 e h).2, hn1, fun W => by rw [e1]; kernel_rfl, rfl⟩
    · exact ⟨v2, B, G2, hE2, fun e h => (hg2 e h).1, fun e h => (hg2 e h).2, hn2, fun W => by rw [e1, e2]; kernel_rfl, rfl⟩
  have HTL : Hid (∀ k, (txs s A B k).length ≤ 20000) := hid fun k => by
    match k with
    | 0 => simp [txs]
    | 1 => simp [txs, textS_len]; omega
    | k + 2 => simp [txs, textS_len]; omega
  have HTX : Hid (∀ x ∈ txs s A B 2, x.length ≤ 20000) := hid fun x hx => by
    rcases List.mem_append.1 hx with h | h
    · exact text_lt s A hs (fun e he => (hg1 e he).2) x h
    · exact text_lt s B hs (fun e he => (hg2 e he).2) x h
  have hT2 : txs s A B 2 = textS s A ++ textS s B := rfl
  rw [← hT2]
  obtain ⟨a1, c1, rfl⟩ := hE1.len
  obtain ⟨a2, c2, rfl⟩ := hE2.len
  obtain ⟨tx, htx⟩ : ∃ t, txs s A B = t := ⟨_, rfl⟩
  have htx0 : tx 0 = [] := by rw [← htx]; rfl
  rw [htx] at HTL HTX ⊢
  simp only [htx] at HLI
  have HSUM := hid (fun (wx : World) (v : Value) (l : List EM) (G : Nat → Prop) (h1 : EvsV wx G v l) (h2 : ∀ e ∈ l, e.rg) (h3 : ∀ e ∈ l, e.Good) (h4 : l.length ≤ 10000) => sums_c (w := wx) hs h1 h2 h3 (by omega))
  obtain ⟨S, hS⟩ : ∃ x, (bytesV s).toArray = x := ⟨_, rfl⟩
  rw [hS] at hB0 hO0 hinf hszS honS
  simp only [hS] at HSUM
  rw [hS]
  have HB0 := hid hB0; have HO0 := hid hO0; have HINF := hid hinf; have HSZS := hid hszS; have HONS := hid honS; have HTX0 := hid htx0; have HS := hid hS
  have hws : w.heap.size < (w.alloc (.cells S 29)).heap.size := by simp
  obtain ⟨la, hla⟩ : ∃ x, A.length = x := ⟨_, rfl⟩
  obtain ⟨lb, hlb⟩ : ∃ x, B.length = x := ⟨_, rfl⟩
  rw [hla, hlb] at HLI
  rw [hla, hlb]
  clear hS hB0 hO0 hinf hszS honS htx0 htx hE1 hE2 hg1 hg2 hT2 hla hlb hn1 hn2
  go_enter Try.func21, Try.ntmps21
  go_wp2_with fail
  obtain ⟨w0, hw0⟩ : ∃ x, w.alloc (.cells S 29) = x := ⟨_, rfl⟩
  rw [hw0] at HB0 HO0 hws
  rw [hw0]
  clear hw0
  go_loopw [7, 20] (fun o i wr => ∃ (k n cp : Nat) (ad : Option Addr), i = .int .i64 k ∧ k ≤ 2 ∧ o = .slice ad n cp ∧ Gr wr 9 1 ad n cp ((tx k).map strV) ∧ (∀ q, ad = some ⟨q, 0, none⟩ → w0.heap.size ≤ q) ∧ Only (fun _ => False) w0 wr) (fun _ i _ => 2 - (intOf i).toNat)
  case atStart => exact ⟨0, 0, 0, none, rfl, Nat.zero_le _, rfl, by rw [HTX0.out]; exact Gr.nil, by simp, Only.refl _ _⟩
  case round =>
    obtain ⟨k, n0, cp, ad, rfl, hk2, rfl, hgr, had, ho⟩ := hrel
    have HGR := hid hgr; have HAD := hid had; have HO := hid ho
    have hoz := ho.size
    by_cases hk : k < 2
    · have hki : (k : Int) < 2 := by omega
      obtain ⟨v, l, G, hE, hrg, hgd, hln, hidx, htk⟩ := HLI.out k hk
      have HIDX := hid hidx
      have hOW := HO0.out.trans ho (fun _ _ e => e)
      have hEr := hE
      obtain ⟨al, cl, rfl⟩ := hE.len
      have HEr := hid hEr; have HRG := hid hrg; have HGD := hid hgd; have HTK := hid htk
      have HBR := hid (blk_only HB0.out ho (fun e => e))
      have hlz := hEr.len
      have hn0 : n0 = (tx k).length := by have := hgr.1; rw [List.length_map] at this; omega
      have HN0 := hid hn0
      have hidx0 := hidx wr
      clear hE hrg hgd htk hgr had ho hOW hEr hlz hidx hn0
      obtain ⟨wr0, hwr0⟩ : ∃ x, x = wr := ⟨wr, rfl⟩
      subst hwr0
      go_upto_region 6 with (first
        | ((guard_target =~ wpList _ _ _ (⟨some 23, _, _, _, _, _⟩ :: _) _ _); refine wpList_load_row rfl 29 (.tmp 3) rfl w.heap.size rfl 29 S (0, 0) _ HBR.out Try.underlying29 rfl HINF.out ?_)
        | ((guard_target =~ wpList _ _ _ (⟨none, .store _ _ _, _, _, _, _⟩ :: _) _ _); refine wpList_store_all rfl 29 (.tmp 10) (.tmp 23) rfl wr0.heap.size S rfl rfl (byA st0 0) 29 (blk_new wr0 _) HSZS.out HINF.out HONS.out ?_; intro w2 hb2 ho2 hs2; have HB2 := hid hb2; have HS2 := hid hs2; have HO2 := hid ((only_new wr0 (.cells (byA st0 0) 29)).trans ho2 (fun k hk e => by have e' : k = wr0.heap.size := e; omega)); clear hb2 ho2 hs2))
      have HBR2 := hid (blk_only HBR.out HO2.out (fun e => e))
      have hz2 := HO2.out.size
      have HSU := hid (HSUM.out w2 _ l G (HEr.out.same (HO0.out.trans (HO.out.trans HO2.out (fun _ _ e => e)) (fun _ _ e => e))) HRG.out HGD.out hln)
      clear hidx0
      go_wp2_with ((guard_target =~ wpList _ _ _ (⟨some 24, _, _, _, _, _⟩ :: _) _ _); refine wpList_load_row rfl 29 (.tmp 3) rfl w.heap.size rfl 29 S (0, 0) _ HBR2.out Try.underlying29 rfl HINF.out ?_)
      refine HSU.out.mono ?_
      rintro x w3 ⟨a3, c3, rfl, hg3, ha3, ho3⟩
      have HA3 := hid ha3; have HG3 := hid hg3; have HO3 := hid (HO2.out.trans ho3 (fun _ _ e => e)); have HB3 := hid (blk_only HB2.out ho3 (fun e => e))
      have hz3 := HO3.out.size
      have hb3l := blk_lt HB3.out
      clear hg3 ha3 ho3 HSU
      go_wp2_with fail
      go_loopw [7, 28] (fun o i wr => ∃ (n m cp : Nat) (ad : Option Addr), i = .int .i64 n ∧ n ≤ l.length ∧ o = .slice ad m cp ∧ Gr wr 9 1 ad m cp ((tx k ++ (textS s l).take n).map strV) ∧ (∀ q, ad = some ⟨q, 0, none⟩ → w0.heap.size ≤ q ∧ q ≠ wr0.heap.size ∧ a3 ≠ some ⟨q, 0, none⟩) ∧ wr.heap[wr0.heap.size]? = some (.cells (bytesV (sumS s (l.take n))).toArray 29 (0, 0)) ∧ Gr wr 29 32 a3 l.length c3 ((chainS s l).flatMap bytesV) ∧ w3.heap.size ≤ wr.heap.size ∧ Only (fun _ => False) w0 wr) (fun _ i _ => l.length - (intOf i).toNat)
      case atStart => exact ⟨0, n0, cp, ad, rfl, Nat.zero_le _, rfl, by rw [List.take_zero, List.append_nil]; exact HGR.out.only HO3.out (fun _ _ e => e), fun q hq => ⟨HAD.out q hq, by have := HGR.out.lt hq; omega, fun e => by have := HGR.out.lt hq; have := HA3.out q e; omega⟩, by rw [List.take_zero]; show _ = some (Obj.cells (bytesV s).toArray _ _); rw [HS.out]; exact HB3.out, HG3.out, Nat.le_refl _, HO.out.trans HO3.out (fun _ _ e => e)⟩
      case round =>
        obtain ⟨n, m, cp, ad, rfl, hnl, rfl, hgr, had, hbk, hg3, hoz4, hoo⟩ := hrel
        have HGR2 := hid hgr; have HAD2 := hid had; have HBK := hid hbk; have HG4 := hid hg3; have HOO := hid hoo
        have hoz5 := hoo.size
        by_cases hlt : n < l.length
        · have hni : (n : Int) < l.length := by omega
          obtain ⟨e, he⟩ : ∃ e, l[n]? = some e := ⟨_, List.getElem?_eq_getElem hlt⟩
          have htl := HTL.out (k + 1)
          rw [HTK.out, List.length_append, textS_len] at htl
          have hm : m = (tx k).length + n := by have := hgr.1; rw [List.length_map, List.length_append, List.length_take, textS_len] at this; omega
          have hgd1 := HGD.out e (List.mem_of_getElem? he)
          have hrg1 := HRG.out e (List.mem_of_getElem? he)
          obtain ⟨aa, ca, ga, oa, hae, hane, hael⟩ := HEr.out
          obtain ⟨ha', -⟩ := hane (by rintro rfl; simp at hlt)
          subst ha'
          have hal : al = some ⟨ga, oa, none⟩ := by injection hae
          subst hal
          obtain ⟨cs, hcs, hEe⟩ := hael n e he
          have HC0 := hid (HO0.out.trans hoo (fun _ _ e => e) : Only (fun _ => False) w wr)
          have hcw : ∀ W, Only (fun _ => False) wr W → ∀ i u, cs[i]? = some u → W.cell? ⟨ga, oa + n * 11 + i, none⟩ = some u := fun W hW i u hu =>
            (World.cell?_of_block ((HC0.out.trans hW (fun _ _ e => e)).block ga (World.block_lt_of_cell? _ _ (hcs i u hu)) (fun e => e))).trans (hcs i u hu)
          have hEw : ∀ W, Only (fun _ => False) wr W → EAt W G e cs := fun W hW => hEe.same (HC0.out.trans hW (fun _ _ e => e))
          obtain ⟨vk, vn, vs, va, vm, vc, rfl, -⟩ := hEe.form
          have HCW := hid hcw
          have HBT := hid (fun W (hW : Only (fun _ => False) wr W) => r9bytes_c (hEw W hW) hrg1 hgd1)
          have h1 := textS_take1 (s := s) he
          have h2 := sumS_take1 (s := s) he
          have h32 := sumS_len hs (l.take n)
          have h33 := sumS_len hs (l.take (n + 1))
          have hch := chainS_get s l n hlt
          have hc32 := chainS_32 s l
          obtain ⟨q3, hq3, hcells⟩ := hg3.cells (by omega)
          subst hq3
          have HRA : Hid (wr.rangeAt q3 (n * 32) (bytesV (sumS s (l.take (n + 1))))) := hid fun j u hu => by
            exact hcells _ u (flat_cell hc32 hch j u hu)
          obtain ⟨c, hc⟩ : ∃ x, sumS s (l.take n) = x := ⟨_, rfl⟩
          obtain ⟨d, hd⟩ : ∃ x, sumS s (l.take (n + 1)) = x := ⟨_, rfl⟩
          rw [hc] at h1 h2 h32 HBK
          rw [hd] at h2 h33 HRA
          obtain ⟨BL, hL⟩ : ∃ x, e.wr = x := ⟨_, rfl⟩
          rw [hL] at h1 h2 HBT
          have hLl : BL.length ≤ 10000 := by rw [← hL]; exact ewr_len hgd1
          have HNT : Hid ((tx k ++ (textS s l).take (n + 1)).map strV = (tx k ++ (textS s l).take n).map strV ++ [strV (c ++ BL)]) := hid (by rw [h1, ← List.append_assoc, strV_take1])
          have hsz1 : (strOf c).size = 32 := h32
          have hsz2 : (strOf BL).size = BL.length := rfl
          have hcat : strOf c ++ strOf BL = strOf (c ++ BL) := strOf_cat _ _
          have hgt : ¬ 9223372036854775807 < 32 + BL.length := by omega
          have HDI : Hid ((Try.prog.info? 29).map (·.size) = some (bytesV d).length) := hid (by rw [info32]; simp [h33])
          have HDA : Hid ((Try.prog.info? 29).map (·.size) = some ((bytesV d).toArray).size) := hid (by rw [info32]; simp [h33])
          have HDO := hid (bytesV_one' d)
          have HDZ : Hid (((bytesV d).toArray).size = (byA st0 0).size) := hid (by simp [h33, byA])
          have HDC : Hid (((bytesV d).toArray).size = ((bytesV c).toArray).size) := hid (by simp [h32, h33])
          have HCB : Hid (∀ i u, (bytesV c)[i]? = some u → ((bytesV c).toArray)[i]? = some u) := hid fun i u hu => by rw [List.getElem?_toArray]; exact hu
          obtain ⟨D, hD⟩ : ∃ x, bytesV d = x := ⟨_, rfl⟩
          obtain ⟨C, hC⟩ : ∃ x, (bytesV c).toArray = x := ⟨_, rfl⟩
          rw [hD] at HDI HDA HDO HDZ HDC HRA
          rw [hC] at HDC HBK HCB
          have HD := hid hD; have HDd := hid hd; have HH32 := hid h32; have HM := hid hm
          clear hD hC hd hc hL h1 h2 h33 h32 hcs hEe hcw hEw hgr had hbk hg3 hoo hm hael hane hch hcells hrg1 hgd1 hae htl
          obtain ⟨wr1, hwr1⟩ : ∃ x, x = wr := ⟨wr, rfl⟩
          subst hwr1
          have hbl := blk_lt HBK.out
          go_upto_region 9 with (first
            | ((guard_target =~ wpList _ _ _ (⟨some 32, _, _, _, _, _⟩ :: _) _ _); refine wpList_load_mid rfl 29 (.tmp 31) rfl q3 (n * 32) rfl D _ HRA.out Try.underlying29 rfl HDI.out ?_)
            | ((guard_target =~ wpList _ _ _ (⟨none, .store _ _ _, _, _, _, _⟩ :: _) _ _); refine wpList_store_all rfl 29 (.tmp 12) (.tmp 32) rfl wr1.heap.size D.toArray rfl rfl (byA st0 0) 29 (blk_new wr1 _) HDZ.out HDA.out HDO.out ?_; intro w4 hb4 ho4 hs4; have HB4 := hid hb4; have HS4 := hid hs4; have HO44 := hid ((only_new wr1 (.cells (byA st0 0) 29)).trans ho4 (fun k hk e => by have e' : k = wr1.heap.size := e; omega)); clear hb4 ho4 hs4))
          have HSRC : Hid (∀ W, Only (fun _ => False) w4 W → Src W (.slice (some ⟨wr0.heap.size, 0, none⟩) 32 32) c) := hid fun W hW => by
            have hb := blk_only HBK.out (HO44.out.trans hW (fun _ _ e => e)) (fun e => e)
            refine ⟨_, 32, by rw [HH32.out], fun _ => ⟨wr0.heap.size, 0, rfl, fun i u hu => by rw [Nat.zero_add, cell_blk hb]; exact HCB.out i u hu⟩⟩
          have HEC : Hid (∀ W, Only (fun _ => False) w4 W → W.rangeAt ga (oa + n * 11) [.int .i64 e.id, .int .i64 e.tm, .int .i64 e.k, .int .i64 e.a, .int .i64 e.b, .string (strOf e.name), .string (strOf e.text), .int .i64 vk, .int .i64 vn, .string (strOf vs), .slice va vm vc]) := hid fun W hW j u hu => HCW.out W (HO44.out.trans hW (fun _ _ e => e)) j u hu
          have HBY : Hid (∀ W, Only (fun _ => False) w4 W → Calls Try.prog 45 #[.agg #[.int .i64 e.id, .int .i64 e.tm, .int .i64 e.k, .int .i64 e.a, .int .i64 e.b, .string (strOf e.name), .string (strOf e.text), .int .i64 vk, .int .i64 vn, .string (strOf vs), .slice va vm vc]] W fun x w' => x = .returned (.string (strOf BL)) ∧ Only (fun _ => False) W w') := hid fun W hW => HBT.out W (HO44.out.trans hW (fun _ _ e => e))
          have HEI : Hid ((Try.prog.info? 44).map (·.size) = some ([.int .i64 e.id, .int .i64 e.tm, .int .i64 e.k, .int .i64 e.a, .int .i64 e.b, .string (strOf e.name), .string (strOf e.text), .int .i64 vk, .int .i64 vn, .string (strOf vs), .slice va vm vc] : List Value).length) := hid info_ev
          have hnl11 : (oa + n * 11 : Nat) = oa + n * 11 := rfl
          refine wp_region_noPanic ?_
          refine region_pt 8 [0] (by kernel_rfl) (by kernel_rfl) (by kernel_rfl) [(33, fun _ v => v = .slice ad m cp), (34, fun _ v => v = .slice (some ⟨wr0.heap.size, 0, none⟩) 32 32), (35, fun _ v => v = .string (strOf c)), (36, fun _ v => v = .slice (some ⟨ga, oa, none⟩) l.length cl), (37, fun _ v => v = .int .i64 n), (38, fun _ v => v = .pointer (some ⟨ga, oa + n * 11, none⟩)), (39, fun _ v => v = .agg ([.int .i64 e.id, .int .i64 e.tm, .int .i64 e.k, .int .i64 e.a, .int .i64 e.b, .string (strOf e.name), .string (strOf e.text), .int .i64 vk, .int .i64 vn, .string (strOf vs), .slice va vm vc]).toArray), (40, fun _ v => v = .string (strOf BL))] (fun _ W => Only (fun _ => False) w4 W) (by show [33, 34, 35, 36, 37, 38, 39, 40].Nodup; decide) (by show ∀ d ∈ [33, 34, 35, 36, 37, 38, 39, 40], d < 74; decide) ((Only.refl _ _).drew) (.inr (fun _ _ _ _ _ h => h)) ?_ ?_ ?_
          · refine ⟨?_, trivial⟩
            · refine ⟨_, _, _, _, rfl, rfl, rfl, fun _ _ h => h, fun L a W hI hd => ?_⟩
              have e7 : a.eval (.tmp 7) = .slice ad m cp := hI.ev 7 (by show ¬ (7 ∈ [33, 34, 35, 36, 37, 38, 39, 40]); decide) rfl
              exact ⟨.slice ad m cp, fun W => pt_mv _ _ (by first | exact .inl rfl | exact .inr rfl) _ e7, fun W => rfl⟩
          · have hstab : PtStabs (Only (fun _ => False)) [(33, fun _ v => v = .slice ad m cp), (34, fun _ v => v = .slice (some ⟨wr0.heap.size, 0, none⟩) 32 32), (35, fun _ v => v = .string (strOf c)), (36, fun _ v => v = .slice (some ⟨ga, oa, none⟩) l.length cl), (37, fun _ v => v = .int .i64 n), (38, fun _ v => v = .pointer (some ⟨ga, oa + n * 11, none⟩)), (39, fun _ v => v = .agg ([.int .i64 e.id, .int .i64 e.tm, .int .i64 e.k, .int .i64 e.a, .int .i64 e.b, .string (strOf e.name), .string (strOf e.text), .int .i64 vk, .int .i64 vn, .string (strOf vs), .slice va vm vc]).toArray), (40, fun _ v => v = .string (strOf BL))] := ⟨fun _ _ _ _ h => h, fun _ _ _ _ h => h, fun _ _ _ _ h => h, fun _ _ _ _ h => h, fun _ _ _ _ h => h, fun _ _ _ _ h => h, fun _ _ _ _ h => h, fun _ _ _ _ h => h, trivial⟩
            refine PtAllS.cons rfl ⟨rfl, rfl⟩ ?_ (PtAllS.cons rfl ⟨rfl, rfl⟩ ?_ (PtAllS.cons rfl ⟨rfl, rfl⟩ ?_ (PtAllS.cons rfl ⟨rfl, rfl⟩ ?_ (PtAllS.cons rfl ⟨rfl, rfl⟩ ?_ (PtAllS.cons rfl ⟨rfl, rfl⟩ ?_ (PtAllS.cons rfl ⟨rfl, rfl⟩ ?_ (PtAllS.cons rfl ⟨rfl, rfl⟩ ?_ (PtAllS.nil rfl))))))))
            · intro L a W K hI hn hd hK
              have e7 : a.eval (.tmp 7) = .slice ad m cp := hI.ev 7 (by show ¬ (7 ∈ [33, 34, 35, 36, 37, 38, 39, 40]); decide) rfl
              exact pt_move _ (by first | exact .inl rfl | exact .inr rfl) _ e7 (hK _ _ hI.j PtKeep.refl rfl)
            · intro L a W K hI hn hd hK
              have e10 : a.eval (.tmp 10) = .pointer (some ⟨wr0.heap.size, 0, none⟩) := hI.ev 10 (by show ¬ (10 ∈ [33, 34, 35, 36, 37, 38, 39, 40]); decide) rfl
              exact pt_val (v := .slice (some ⟨wr0.heap.size, 0, none⟩) 32 32) (by unfold execOp; simp only [e10]; kernel_rfl) (hK _ _ hI.j PtKeep.refl rfl)
            · intro L a W K hI hn hd hK
              have e34 : a.eval (.tmp 34) = .slice (some ⟨wr0.heap.size, 0, none⟩) 32 32 := hI.fact 1 34 _ rfl (dep_of hd 1 (by kernel_rfl))
              exact pt_val (v := .string (strOf c)) (ex_conv rfl e34 (HSRC.out W hI.j)) (hK _ _ hI.j PtKeep.refl rfl)
            · intro L a W K hI hn hd hK
              have e9 : a.eval (.tmp 9) = .slice (some ⟨ga, oa, none⟩) l.length cl := hI.ev 9 (by show ¬ (9 ∈ [33, 34, 35, 36, 37, 38, 39, 40]); decide) rfl
              exact pt_move _ (by first | exact .inl rfl | exact .inr rfl) _ e9 (hK _ _ hI.j PtKeep.refl rfl)
            · intro L a W K hI hn hd hK
              have e11 : a.eval (.tmp 11) = .int .i64 n := hI.ev 11 (by show ¬ (11 ∈ [33, 34, 35, 36, 37, 38, 39, 40]); decide) rfl
              exact pt_move _ (by first | exact .inl rfl | exact .inr rfl) _ e11 (hK _ _ hI.j PtKeep.refl rfl)
            · intro L a W K hI hn hd hK
              have e36 : a.eval (.tmp 36) = .slice (some ⟨ga, oa, none⟩) l.length cl := hI.fact 3 36 _ rfl (dep_of hd 3 (by kernel_rfl))
              have e37 : a.eval (.tmp 37) = .int .i64 n := hI.fact 4 37 _ rfl (dep_of hd 4 (by kernel_rfl))
              exact pt_val (v := .pointer (some ⟨ga, oa + n * 11, none⟩)) (ex_idx rfl e36 e37 Try.underlying22 info_ev hlt) (hK _ _ hI.j PtKeep.refl rfl)
            · intro L a W K hI hn hd hK
              have e38 : a.eval (.tmp 38) = .pointer (some ⟨ga, oa + n * 11, none⟩) := hI.fact 5 38 _ rfl (dep_of hd 5 (by kernel_rfl))
              exact wp_load_mid _ (.tmp 38) rfl (ga) (oa + n * 11) e38 ([.int .i64 e.id, .int .i64 e.tm, .int .i64 e.k, .int .i64 e.a, .int .i64 e.b, .string (strOf e.name), .string (strOf e.text), .int .i64 vk, .int .i64 vn, .string (strOf vs), .slice va vm vc]) _ (HEC.out W hI.j) Try.underlying44 rfl (HEI.out) (hK _ _ hI.j PtKeep.refl rfl)
            · intro L a W K hI hn hd hK
              have e39 : a.eval (.tmp 39) = .agg ([.int .i64 e.id, .int .i64 e.tm, .int .i64 e.k, .int .i64 e.a, .int .i64 e.b, .string (strOf e.name), .string (strOf e.text), .int .i64 vk, .int .i64 vn, .string (strOf vs), .slice va vm vc]).toArray := hI.fact 6 39 _ rfl (dep_of hd 6 (by kernel_rfl))
              refine wp_callc (f := 45) (args := #[a.eval (.tmp 39)]) (by kernel_rfl) ?_
              rw [e39]
              refine (HBY.out _ hI.j).mono ?_
              rintro x W' ⟨rfl, ho⟩
              exact ⟨_, rfl, hK _ _ (hI.j.trans ho (fun _ _ e => e.elim)) (hstab.keep ho) rfl⟩
          · intro L a w5 hal hj hfs
            dsimp only [PtAll] at hfs
            obtain ⟨f33, f34, f35, f36, f37, f38, f39, f40, -⟩ := hfs
            have hA := hal.turned
            simp only [List.map_cons, List.map_nil, Act.turned, f33, f34, f35, f36, f37, f38, f39, f40] at hA
            simp only [Act.put, List.setIfInBounds_toArray, List.set_cons_zero, List.set_cons_succ] at hA
            clear hal f33 f34 f35 f36 f37 f38 f39 f40
            subst hA
            change wpList _ _ _ [_, _, _, _] _ _
            have hmb : m + 1 ≤ 1000000 := by have h1 := HM.out; have h2 := HTL.out k; omega
            have HO5 := hid hj
            have hz5 := hj.size
            have HW5 : Hid (Only (fun _ => False) wr1 w5) := hid (HO44.out.trans hj (fun _ _ e => e))
            have HB5 := hid (blk_only HB4.out hj (fun e => e)); have HK5 := hid (blk_only HBK.out HW5.out (fun e => e))
            clear hj
            go_wp2_with ((guard_target =~ wpList _ _ _ (⟨some 43, _, _, _, _, _⟩ :: _) _ _); refine wpList_gr (o := ⟨some 43, _, _, _, _, _⟩) rfl elStr (.tmp 33) (.tmp 42) rfl (HGR2.out.only (HW5.out.trans (only_new w5 _) (fun _ _ e => e)) (fun _ _ e => e)) rfl (some ⟨w5.heap.size, 0, none⟩) 1 1 rfl [strV (c ++ BL)] (SrcG.new (blk_new w5 _) rfl (by simp [strV, Value.oneCell'])) (by omega) (by omega) ?_; intro ao9 cp9 w9 hg9 ha9 ho9; have HG9 := hid hg9; have HA9 := hid ha9; have HO9 := hid ho9; clear hg9 ha9 ho9; have HB9 := hid (blk_only HB5.out ((only_new w5 (.cells #[.string (strOf (c ++ BL))] 9)).mono (fun _ _ e => e.elim) |>.trans HO9.out (fun _ _ e => e)) (fun e => by have := HGR2.out.lt e; omega)); have HK9 := hid (blk_only HK5.out ((only_new w5 (.cells #[.string (strOf (c ++ BL))] 9)).mono (fun _ _ e => e.elim) |>.trans HO9.out (fun _ _ e => e)) (fun e => (HAD2.out _ e).2.1 rfl)))
            refine NoPanic.normal ?_
            go_wp2_with (first
              | ((guard_target =~ wpList _ _ _ (⟨some 44, _, _, _, _, _⟩ :: _) _ _); refine wpList_load_row rfl 29 (.tmp 12) rfl wr1.heap.size rfl 29 D.toArray (0, 0) _ HB9.out Try.underlying29 rfl HDA.out ?_)
              | ((guard_target =~ wpList _ _ _ (⟨none, .store _ _ _, _, _, _, _⟩ :: _) _ _); refine wpList_store_all rfl 29 (.tmp 10) (.tmp 44) rfl wr0.heap.size D.toArray rfl rfl C 29 HK9.out HDC.out HDA.out HDO.out ?_; intro w6 hb6 ho6 hs6; have HB6 := hid hb6; have HS6 := hid hs6; have HO6 := hid ho6; clear hb6 ho6 hs6))
            have HC9 : Hid (Only (fun k => ad = some ⟨k, 0, none⟩) w5 w9) := hid (((only_new w5 _).mono (fun _ _ e => e.elim)).trans HO9.out (fun _ _ e => e))
            have HCC : Hid (Only (fun k => ad = some ⟨k, 0, none⟩) wr1 w9) := hid ((HW5.out.mono (fun _ _ e => e.elim)).trans HC9.out (fun _ _ e => e))
            have hw1s := HW5.out.size
            go_roundw
            case rel =>
              refine ⟨n + 1, m + 1, cp9, ao9, by go_num, by omega, rfl, ?_, ?_, ?_, ?_, ?_, ?_⟩
              · rw [HNT.out]; exact HG9.out.only HO6.out (fun q hq e => by
                  have e' : q = wr0.heap.size := e
                  rcases HA9.out with e2 | e2
                  · exact (HAD2.out q (by rw [← e2]; exact hq)).2.1 e'
                  · rw [hq] at e2
                    simp only [Option.some.injEq, Addr.mk.injEq, and_true] at e2
                    rw [World.size_alloc] at e2
                    omega)
              · intro q hq
                rcases HA9.out with e | e
                · exact HAD2.out q (by rw [← e]; exact hq)
                · rw [hq] at e
                  simp only [Option.some.injEq, Addr.mk.injEq, and_true] at e
                  rw [World.size_alloc] at e
                  exact ⟨by omega, by omega, fun e2 => by have := HG4.out.lt e2; omega⟩
              · rw [HDd.out, HD.out]; exact HB6.out
              · exact (HG4.out.only HCC.out (fun q hq e => (HAD2.out q e).2.2 hq)).only HO6.out (fun q hq e => by have h1 := HA3.out q hq; have h2 := HS2.out; have e' : q = wr0.heap.size := e; simp at h2; omega)
              · have h1 := HCC.out.size; have h2 := HO6.out.size; omega
              · exact (HOO.out.trans HCC.out (fun q hq e => by have h1 := HAD2.out q e; omega)).trans HO6.out (fun q hq e => by have e' : q = wr0.heap.size := e; omega)
            case measure => simp [intOf]; omega
        · obtain rfl : n = l.length := by omega
          have HTE : Hid (tx (k + 1) = tx k ++ (textS s l).take l.length) := hid (by rw [HTK.out, List.take_of_length_le (by rw [textS_len]; exact Nat.le_refl _)])
          clear hgr had hbk hg3 hoo
          go_wp2_with fail
          go_roundw
          case rel => exact ⟨k + 1, m, cp, ad, by go_num, by omega, rfl, by rw [HTE.out]; exact HGR2.out, fun q hq => (HAD2.out q hq).1, HOO.out⟩
          case measure => simp [intOf]; omega
    · obtain rfl : k = 2 := by omega
      have hNl := HTL.out 2
      obtain ⟨TS, hTS⟩ : ∃ x, tx 2 = x := ⟨_, rfl⟩
      rw [hTS] at hgr HGR hNl HTX
      have HTS := hid hTS
      have hn0 : n0 = TS.length := by have := hgr.1; rw [List.length_map] at this; omega
      subst hn0
      obtain ⟨wr0, hwr0⟩ : ∃ x, x = wr := ⟨wr, rfl⟩
      subst hwr0
      have HOK := hid (HO0.out.trans ho (fun _ _ e => e))
      have hadr := hgr.addr
      have hcpl := hgr.2.1
      clear hgr had ho hTS HLI HTL HTX0 HSUM
      go_wp2_with fail
      go_loopw [49] (fun i wr => ∃ n : Nat, i = .int .i64 n ∧ n ≤ TS.length ∧ (∀ (i j : Nat) (x y : List UInt8), i < n → j < i → TS[i]? = some x → TS[j]? = some y → x ≠ y → sha x ≠ sha y) ∧ Only (fun _ => False) wr0 wr) (fun i _ => TS.length - (intOf i).toNat)
      case atStart => exact ⟨0, rfl, Nat.zero_le _, fun i j x y h => by omega, Only.refl _ _⟩
      case round =>
        obtain ⟨n, rfl, hnl, hno, ho⟩ := hrel
        have HNO := hid hno; have HO2 := hid ho
        by_cases hlt : n < TS.length
        · have hni : (n : Int) < TS.length := by omega
          obtain ⟨x, hx⟩ : ∃ x, TS[n]? = some x := ⟨_, List.getElem?_eq_getElem hlt⟩
          obtain ⟨g, hg, hcells⟩ := HGR.out.cells (by omega)
          subst hg
          have hgl := HGR.out.lt rfl
          have hCW : ∀ W, Only (fun _ => False) wr0 W → ∀ i y, TS[i]? = some y → W.cell? ⟨g, i, none⟩ = some (.string (strOf y)) := fun W hW i y hi => by
            rw [World.cell?_of_block (hW.block g hgl (fun e => e))]
            exact hcells i _ (by rw [List.getElem?_map, hi]; rfl)
          have HCW := hid hCW
          have hcx := hCW wr ho n x hx
          have hxl := HTX.out x (List.mem_of_getElem? hx)
          have HX := hid hx
          have hsl : ∀ W : World, (Instr.sliceAt 94 (.slice (some ⟨g, 0, none⟩) TS.length cp) none (some (.int .i64 n)) none).run Try.prog W = .ok (.slice (some ⟨g, 0, none⟩) n cp) W := fun W => by
            have hso : (sizeOf 9).run Try.prog W = .ok 1 W := by kernel_rfl
            have hT := Try.underlying94
            have h1 : n ≤ cp := by omega
            go_simp
          have hslr := hsl wr
          clear hno ho hcells hCW hx hsl
          obtain ⟨wr1, hwr1⟩ : ∃ x, x = wr := ⟨wr, rfl⟩
          subst hwr1
          go_wp2_with fail
          go_loopw [58] (fun i wr => ∃ m : Nat, i = .int .i64 m ∧ m ≤ n ∧ (∀ (j : Nat) (y : List UInt8), j < m → TS[j]? = some y → x ≠ y → sha x ≠ sha y) ∧ Only (fun _ => False) wr0 wr) (fun i _ => n - (intOf i).toNat)
          case atStart => exact ⟨0, rfl, Nat.zero_le _, fun j y h => by omega, HO2.out⟩
          case round =>
            obtain ⟨m, rfl, hmn, hno, ho⟩ := hrel
            have HNO2 := hid hno; have HO3 := hid ho
            by_cases hmlt : m < n
            · have hmi : (m : Int) < n := by omega
              obtain ⟨y, hy⟩ : ∃ y, TS[m]? = some y := ⟨_, List.getElem?_eq_getElem (by omega)⟩
              have hcy := HCW.out wr ho m y hy
              have hyl := HTX.out y (List.mem_of_getElem? hy)
              have HY := hid hy
              clear hno ho hy
              by_cases hxy : x = y
              · subst hxy
                go_wp2_with fail
                go_roundw
                case rel =>
                  refine ⟨m + 1, by go_num, by omega, fun j y hj hy hne => ?_, HO3.out⟩
                  by_cases e : j = m
                  · subst e; rw [HY.out] at hy; exact absurd (Option.some.inj hy) hne
                  · exact HNO2.out j y (by omega) hy hne
                case measure => simp [intOf]; omega
              · have HOX := hid (fun wx => rof_c (w := wx) x (by omega))
                have HOY := hid (fun wx => rof_c (w := wx) y (by omega))
                have HEQ : Hid (∀ W : World, (Op.equalIn 10000 28 (.agg (bytesV (sha x)).toArray) (.agg (bytesV (sha y)).toArray)).run Try.prog W = .ok (decide (sha x = sha y)) W) := hid fun W => eqIn_arr W 28 Try.underlying28 cells_u8 (sha_len x) (sha_len y)
                have hne1 : ¬ (strOf x).toList = (strOf y).toList := by rw [strOf_list, strOf_list]; exact hxy
                have hne2 : ((strOf x).toList == (strOf y).toList) = false := by rw [strOf_list, strOf_list]; simpa using hxy
                have HXY := hid hxy
                obtain ⟨SX, hSX⟩ : ∃ z, (bytesV (sha x)).toArray = z := ⟨_, rfl⟩
                obtain ⟨SY, hSY⟩ : ∃ z, (bytesV (sha y)).toArray = z := ⟨_, rfl⟩
                rw [hSX, hSY] at HEQ
                simp only [hSX] at HOX
                simp only [hSY] at HOY
                obtain ⟨B, hB⟩ : ∃ b, decide (sha x = sha y) = b := ⟨_, rfl⟩
                rw [hB] at HEQ
                have HBB := hid hB
                clear hxy hSX hSY hB
                go_wp2_with fail
                refine (HOX.out _).mono ?_
                rintro z w5 ⟨rfl, ho5⟩
                have HO5 := hid (HO3.out.trans ho5 (fun _ _ e => e))
                clear ho5
                go_wp2_with fail
                refine (HOY.out _).mono ?_
                rintro z w6 ⟨rfl, ho6⟩
                have HO6 := hid (HO5.out.trans ho6 (fun _ _ e => e))
                have heq6 := HEQ.out w6
                clear ho6
                cases B with
                | true =>
                  go_wp2_with fail
                  go_ret
                  exact ⟨⟨true, rfl, fun _ => rfl⟩, HOK.out.trans HO6.out (fun _ _ e => e)⟩
                | false =>
                  have hns := of_decide_eq_false HBB.out
                  go_wp2_with fail
                  have hrr : ∃ m' : Nat, Value.int .i64 ((m : Int) + 1) = .int .i64 m' ∧ m' ≤ n ∧ (∀ (j : Nat) (y : List UInt8), j < m' → TS[j]? = some y → x ≠ y → sha x ≠ sha y) ∧ Only (fun _ => False) wr0 w6 := by
                    refine ⟨m + 1, by go_num, by omega, fun j z hj hz hne => ?_, HO6.out⟩
                    by_cases e : j = m
                    · subst e; rw [HY.out] at hz; obtain rfl := Option.some.inj hz; exact hns
                    · exact HNO2.out j z (by omega) hz hne
                  go_roundw
                  case rel =>
                    first
                      | (iterate 17 (apply Exists.intro)); refine And.intro ?_ rfl; exact hrr
                      | (iterate 16 (apply Exists.intro)); refine And.intro ?_ rfl; exact hrr
                      | (iterate 18 (apply Exists.intro)); refine And.intro ?_ rfl; exact hrr
                      | (iterate 15 (apply Exists.intro)); refine And.intro ?_ rfl; exact hrr
                      | (iterate 19 (apply Exists.intro)); refine And.intro ?_ rfl; exact hrr
                      | (iterate 14 (apply Exists.intro)); refine And.intro ?_ rfl; exact hrr
                      | (iterate 13 (apply Exists.intro)); refine And.intro ?_ rfl; exact hrr
                      | (iterate 20 (apply Exists.intro)); refine And.intro ?_ rfl; exact hrr
                  case measure => simp [intOf]; omega
            · obtain rfl : m = n := by omega
              clear hno ho
              go_wp2_with fail
              go_roundw
              case rel =>
                refine ⟨m + 1, by go_num, by omega, fun i j a b hi hj ha hb hne => ?_, HO3.out⟩
                by_cases e : i = m
                · subst e; rw [HX.out] at ha; obtain rfl := Option.some.inj ha; exact HNO2.out j b hj hb hne
                · exact HNO.out i j a b (by omega) hj ha hb hne
              case measure => simp [intOf]; omega
        · obtain rfl : n = TS.length := by omega
          clear hno ho
          go_wp2_with fail
          go_ret
          refine ⟨⟨false, rfl, fun ⟨a, ha, b, hb, hne, hs⟩ => ?_⟩, HOK.out.trans HO2.out (fun _ _ e => e)⟩
          rw [HTS.out] at ha hb
          obtain ⟨i, hi⟩ := List.mem_iff_getElem?.1 ha
          obtain ⟨j, hj⟩ := List.mem_iff_getElem?.1 hb
          have hil : i < TS.length := by
            rcases Nat.lt_or_ge i TS.length with h | h
            · exact h
            · rw [List.getElem?_eq_none h] at hi; cases hi
          have hjl : j < TS.length := by
            rcases Nat.lt_or_ge j TS.length with h | h
            · exact h
            · rw [List.getElem?_eq_none h] at hj; cases hj
          rcases Nat.lt_trichotomy i j with h | h | h
          · exact absurd hs.symm (HNO.out j i b a hjl h hj hi (fun e => hne e.symm))
          · subst h; rw [hi] at hj; exact absurd (Option.some.inj hj) hne
          · exact absurd hs (HNO.out i j a b hil h hi hj hne)
end
end Go.Proofs.Ytnoopajedgllhaa
