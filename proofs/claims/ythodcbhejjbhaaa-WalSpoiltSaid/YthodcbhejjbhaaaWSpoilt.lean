/- WalSpoilt's walk. -/
import Derived.Test.YthodcbhejjbhaaaSpL
import Derived.Test.YthodcbhejjbhaaaFrm
import Derived.Test.YthodcbhejjbhaaaRuns
namespace Go.Proofs.Ythodcbhejjbhaaa
open Go.RowKit
def wspW (w0 w : World) (l b s sg j : Nat) : Prop := ∃ r M Lr fv wv FF GG T0 fs, WS w0 w l b r s M Lr fv wv FF GG sg j T0 fs ∧ Lr.first = 0
noncomputable def wspB (id : Nat) : Code := ((Try.f6.body).bind (blkOf id)).getD .skip
theorem lit141 (v : Nat → Value) : ((List.range 141).map v).toArray = #[v 0, v 1, v 2, v 3, v 4, v 5, v 6, v 7, v 8, v 9, v 10, v 11, v 12, v 13, v 14, v 15, v 16, v 17, v 18, v 19, v 20, v 21, v 22, v 23, v 24, v 25, v 26, v 27, v 28, v 29, v 30, v 31, v 32, v 33, v 34, v 35, v 36, v 37, v 38, v 39, v 40, v 41, v 42, v 43, v 44, v 45, v 46, v 47, v 48, v 49, v 50, v 51, v 52, v 53, v 54, v 55, v 56, v 57, v 58, v 59, v 60, v 61, v 62, v 63, v 64, v 65, v 66, v 67, v 68, v 69, v 70, v 71, v 72, v 73, v 74, v 75, v 76, v 77, v 78, v 79, v 80, v 81, v 82, v 83, v 84, v 85, v 86, v 87, v 88, v 89, v 90, v 91, v 92, v 93, v 94, v 95, v 96, v 97, v 98, v 99, v 100, v 101, v 102, v 103, v 104, v 105, v 106, v 107, v 108, v 109, v 110, v 111, v 112, v 113, v 114, v 115, v 116, v 117, v 118, v 119, v 120, v 121, v 122, v 123, v 124, v 125, v 126, v 127, v 128, v 129, v 130, v 131, v 132, v 133, v 134, v 135, v 136, v 137, v 138, v 139, v 140] := by kernel_rfl
section
variable {w0 w : World} {Q : Exit → Act → World → Prop}
set_option maxRecDepth 100000 in
set_option maxHeartbeats 6400000 in
theorem wsp0 {a : Act} {ops : List LOp} {bo : Option Addr} {bc l b s sg : Nat} {v1 : Value} {v2 : Value} (hops : LOpsAt w0 (.slice bo ops.length bc) ops) (hn : ops.length ≤ 40) (hd : ∀ o ∈ ops, o.data.length ≤ 100) (hW : wspW w0 w l b s sg (0))
    (hL : Lv 141 a [(7, .pointer (some ⟨b, 0, none⟩)), (9, .pointer (some ⟨l, 0, none⟩)), (12, .pointer (some ⟨s, 0, none⟩)), (55, .slice bo ops.length bc), (56, .int .i64 ops.length), (57, .int .i64 0), (1, v1), (2, v2)])
    (hQ : ∀ a' w', Lv 141 a' [(7, .pointer (some ⟨b, 0, none⟩)), (9, .pointer (some ⟨l, 0, none⟩)), (12, .pointer (some ⟨s, 0, none⟩)), (1, v1), (2, v2)] → wspW w0 w' l b s sg (ops.length) → Q .normal a' w') :
    (wspB 0).wp Try.prog Q a w := by
  refine Code.wp_mono NoPanic.imp ?_
  conv => arg 2; whnf
  refine wp_block (wp_loop (fun a' w' => ∃ j : Nat, j ≤ ops.length ∧ Lv 141 a' [(7, .pointer (some ⟨b, 0, none⟩)), (9, .pointer (some ⟨l, 0, none⟩)), (12, .pointer (some ⟨s, 0, none⟩)), (55, .slice bo ops.length bc), (56, .int .i64 ops.length), (57, .int .i64 (j : Nat)), (1, v1), (2, v2)] ∧ wspW w0 w' l b s sg (j))
    (fun a' _ => ops.length - (intOf (a'.tmps.getD 57 undef)).toNat) ⟨0, Nat.zero_le _, hL, hW⟩ ?_)
  clear hL hW
  rintro a' w1 ⟨j, hj, hI, hws⟩
  obtain ⟨u, rfl, hu⟩ := act_fn hI
  rw [lit141] at hI ⊢
  obtain ⟨g7, g9, g12, g55, g56, g57, g1, g2, -⟩ := hI
  change u 7 = _ at g7
  change u 9 = _ at g9
  change u 12 = _ at g12
  change u 55 = _ at g55
  change u 56 = _ at g56
  change u 57 = _ at g57
  change u 1 = _ at g1
  change u 2 = _ at g2
  rw [g7, g9, g12, g55, g56, g57, g1, g2]
  clear g7 g9 g12 g55 g56 g57 g1 g2 hu
  have HQ := hid hQ; have HWS := hid hws
  clear hQ hws
  by_cases hjl : j < ops.length
  rotate_left
  · have hji : ¬ (j : Int) < ops.length := by omega
    obtain rfl : j = ops.length := by omega
    go_wp2_with fail
    exact HQ.out _ _ ⟨rfl, rfl, rfl, rfl, rfl, rfl, rfl⟩ HWS.out
  have hji : (j : Int) < ops.length := by omega
  obtain ⟨r, M, Lr, fv, wv, FF, GG, T0, fs, hw, hfz⟩ := HWS.out
  obtain ⟨o, hoj⟩ : ∃ t, ops[j]? = some t := ⟨_, List.getElem?_eq_getElem hjl⟩
  obtain ⟨bo', bc', heq, -, hel⟩ := hops
  simp only [Value.slice.injEq, true_and] at heq
  obtain ⟨rfl, rfl⟩ := heq
  obtain ⟨hat, g, of, rfl, hgl, hcl⟩ := hel j o hoj
  have hd1 := hd o (List.mem_of_getElem? hoj)
  obtain ⟨da, dc, hdv, -⟩ := hat.data
  have hsd := hat.data
  rw [hdv] at hsd
  have HSD := hid hsd
  have HR : Hid (w1.rangeAt g (of + j * 3) o.cells) := hid fun k u hk => (World.cell?_of_block (hw.lg.only.block g hgl (fun e => e))).trans (hcl k u hk)
  have HI3 : Hid ((Try.prog.info? 47).map (·.size) = some o.cells.length) := hid info_op8
  have HCE : Hid (o.cells.toArray = #[.int .i64 o.kind, .int .i64 o.often, .slice da o.data.length dc]) := hid (by unfold LOp.cells; rw [hdv])
  obtain ⟨kd, hkd⟩ : ∃ x, o.kind = x := ⟨_, rfl⟩
  obtain ⟨oft, hof⟩ : ∃ x, o.often = x := ⟨_, rfl⟩
  obtain ⟨dd, hdd⟩ : ∃ x, o.data = x := ⟨_, rfl⟩
  rw [hkd, hof, hdd] at HCE
  rw [hdd] at hd1 HSD
  have HW := hid hw
  have HFZ := hid hfz
  clear hfz
  clear hw hoj hel hat hcl hdv hsd hkd hof hdd HWS hd
  go_upto_region 15 with ((guard_target =~ wpList _ _ _ (⟨some 60, _, _, _, _, _⟩ :: _) _ _); refine wpList_load_mid rfl 47 (.tmp 59) rfl g (of + j * 3) rfl o.cells _ HR.out Try.underlying47 rfl HI3.out ?_; rw [HCE.out])
  obtain ⟨w2, hw2⟩ : ∃ x, w1.alloc (.cells #[.int .i64 kd, .int .i64 oft, .slice da dd.length dc] 47) = x := ⟨_, rfl⟩
  have hb12 : w2.heap[w1.heap.size]? = some (.cells #[.int .i64 kd, .int .i64 oft, .slice da dd.length dc] 47 (0, 0)) := by rw [← hw2]; exact blk_new _ _
  have ho12 : Only (fun _ => False) w1 w2 := by rw [← hw2]; exact only_new _ _
  rw [hw2]
  have HB12 := hid hb12
  have HW2 := hid (HW.out.same ho12)
  have c12 : w2.cell? ⟨w1.heap.size, 0, none⟩ = some (.int .i64 kd) := cell_blk HB12.out 0
  clear hw2 hb12 ho12 HW HR HI3 HCE
  by_cases hk4 : ¬ kd < 2
  · go_wp2_with fail
    exact ⟨⟨j + 1, by omega, ⟨rfl, rfl, rfl, rfl, rfl, by show Value.int .i64 _ = _; go_num, rfl, rfl, rfl, rfl⟩, ⟨_, _, _, _, _, _, _, _, _, HW2.out.more, HFZ.out⟩⟩, by simp [intOf]; omega⟩
  have hk4 : kd < 2 := Classical.not_not.1 hk4
  obtain ⟨t, ht⟩ : ∃ x, rept (oftN oft) dd = x := ⟨_, rfl⟩
  have ht6 : t.length ≤ 100000 := by
    rw [← ht, rept_len]
    have h1 : oftN oft ≤ 60 := by unfold oftN; omega
    have := Nat.mul_le_mul h1 hd1
    omega
  have HPL : Hid (Calls Try.prog 16 #[.pointer (some ⟨l, 0, none⟩), .agg (rcells Lr fv wv), .agg #[.int .i64 kd, .int .i64 oft, .slice da dd.length dc]] w2 fun e w' => ∃ fv' wv' F' G' B, e = .returned (.tuple #[.agg (rcells (Lr.play kd t) fv' wv'), .bool B]) ∧ LogAt w' l b r (M.play kd t) F' ∧ RLAt w' (Lr.play kd t) fv' wv' G' ∧ (∀ k, G' k → ¬ F' k) ∧ (∀ k, F' k → FF k ∨ w2.heap.size ≤ k) ∧ (∀ k, G' k → GG k ∨ w2.heap.size ≤ k) ∧ Only FF w2 w') := hid (by
    obtain ⟨n1, n2, n3, -, -⟩ := HW2.out.n (by omega)
    have h0 := play_c HW2.out.lg.log HW2.out.rl HW2.out.fg kd oft dd (HSD.out.same HW2.out.lg.only) hd1 (fun g o e hne hf => by
      have := src_lt HSD.out g o e hne
      have := HW2.out.lg.new g hf
      omega) n1 n2 n3
    rw [ht] at h0
    refine h0.mono ?_
    rintro e w' ⟨fv', wv', F', G', e1, e2⟩
    exact ⟨fv', wv', F', G', _, e1, e2⟩)
  clear HSD ht
  go_wp2_with (first | ((guard_target =~ wpList _ _ _ (⟨some 66, _, _, _, _, _⟩ :: _) _ _); refine wpList_load_row (o := ⟨some 66, _, _, _, _, _⟩) rfl 45 (.tmp 12) rfl s rfl 45 (rcells Lr fv wv) (0, 0) _ HW2.out.bs Try.underlying45 rfl info_rl ?_) | ((guard_target =~ wpList _ _ _ (⟨some 67, _, _, _, _, _⟩ :: _) _ _); refine wpList_load_row (o := ⟨some 67, _, _, _, _, _⟩) rfl 47 (.tmp 14) rfl w1.heap.size rfl 47 #[.int .i64 kd, .int .i64 oft, .slice da dd.length dc] (0, 0) _ HB12.out Try.underlying47 rfl info_op8 ?_))
  refine HPL.out.mono ?_
  rintro x w3 ⟨fv3, wv3, F3, G3, B3, rfl, hl3, hr3, hs3, hf3, hg3, ho3⟩
  have HB3 := hid (blk_only HW2.out.bs ho3 HW2.out.fz)
  have HONE := hid hr3.one
  have HL3 := hid hl3; have HR3 := hid hr3; have HS3 := hid hs3; have HF3 := hid hf3; have HG3 := hid hg3; have HO3 := hid ho3
  clear hl3 hr3 hs3 hf3 hg3 ho3 HPL HB12 c12
  go_wp2_with ((guard_target =~ wpList _ _ _ (⟨none, .store 45 (.tmp 12) _, _, _, _, _⟩ :: _) _ _); refine wpList_store_all rfl 45 (.tmp 12) (.tmp 69) rfl s (rcells (Lr.play kd t) fv3 wv3) rfl rfl (rcells Lr fv wv) 45 HB3.out rfl info_rl HONE.out ?_; intro w4 hb4 ho4 hs4; have HB4 := hid hb4; have HO4 := hid ho4; clear hb4 ho4 hs4)
  obtain ⟨T4, fs4, hw4⟩ := HW2.out.play (by omega) ht6 HL3.out HR3.out HS3.out HF3.out HG3.out HO3.out HB4.out HO4.out
  exact ⟨⟨j + 1, by omega, ⟨rfl, rfl, rfl, rfl, rfl, by show Value.int .i64 _ = _; go_num, rfl, rfl, rfl, rfl⟩, ⟨_, _, _, _, _, _, _, _, _, hw4, Lr.play_first kd t (by omega) HFZ.out⟩⟩, by simp [intOf]; omega⟩
end
theorem u8_of8 {n : Int} (h : (Lit.int .u8 n).wf = true) : ∃ x : UInt8, n = ((x.toNat : Nat) : Int) := by
  have hb : 0 ≤ n ∧ n < 256 := by
    simp [Lit.wf, IntKind.min, IntKind.max, IntKind.signed, IntKind.bits] at h
    omega
  refine ⟨UInt8.ofNat n.toNat, ?_⟩
  rw [UInt8.toNat_ofNat']
  omega
def SpI (at' j p : Nat) (B : Bool) (fs : List (Nat × List UInt8)) (w w' : World) : Prop := j ≤ fs.length ∧ insideL at' 0 fs = (B || insideL at' p (fs.drop j)) ∧ p + (layT p (fs.drop j)).length = (layT 0 fs).length ∧ Only (fun _ => False) w w'
def SpR (at' g o fc b : Nat) (v2 : Value) (fs : List (Nat × List UInt8)) (w : World) (a' : Act) (w' : World) : Prop := ∃ (j p : Nat) (B : Bool), Lv 141 a' [(1, .int .i64 (at' : Nat)), (2, v2), (7, .pointer (some ⟨b, 0, none⟩)), (15, .int .i64 (p : Nat)), (16, .bool B), (73, .slice (some ⟨g, o, none⟩) fs.length fc), (74, .int .i64 fs.length), (75, .int .i64 (j : Nat))] ∧ SpI at' j p B fs w w'
theorem inside_bound (p : Nat) (k : Nat) (s : List UInt8) (fs : List (Nat × List UInt8)) : (layT p ((k, s) :: fs)).length = (placeN p s.length - p) + (9 + s.length) + (layT (placeN p s.length + (9 + s.length)) fs).length := by
  rw [layT, List.length_append, first_len, Nat.add_assoc]
  have := place_le p s.length
  omega
section
variable {w0 w : World} {Q : Exit → Act → World → Prop}
set_option maxRecDepth 100000 in
set_option maxHeartbeats 6400000 in
theorem wsp2 {a : Act} {fs : List (Nat × List UInt8)} {g o fc b at' : Nat} {v2 : Value} (hgl : 0 < fs.length → g < w.heap.size) (hcl : ∀ j u, (fcs fs)[j]? = some u → w.cell? ⟨g, o + j, none⟩ = some u) (hlen : (layT 0 fs).length ≤ 4096) (hok : FOk fs) (hat : at' ≤ 4095) (hfl : fs.length ≤ 1000000)
    (hL : Lv 141 a [(1, .int .i64 (at' : Nat)), (2, v2), (7, .pointer (some ⟨b, 0, none⟩)), (15, .int .i64 0), (16, .bool false), (73, .slice (some ⟨g, o, none⟩) fs.length fc), (74, .int .i64 fs.length), (75, .int .i64 0)])
    (hQ : ∀ a' w', Lv 141 a' [(1, .int .i64 (at' : Nat)), (2, v2), (7, .pointer (some ⟨b, 0, none⟩)), (16, .bool (insideL at' 0 fs))] → Only (fun _ => False) w w' → Q .normal a' w') :
    (wspB 2).wp Try.prog Q a w := by
  refine Code.wp_mono NoPanic.imp ?_
  conv => arg 2; whnf
  refine wp_block (wp_loop (fun a' w' => SpR at' g o fc b v2 fs w a' w')
    (fun a' _ => fs.length - (intOf (a'.tmps.getD 75 undef)).toNat) ⟨0, 0, false, hL, ⟨Nat.zero_le _, by simp, by simp, Only.refl _ _⟩⟩ ?_)
  clear hL
  rintro a' w1 ⟨j, p, B, hI, hj, hin, hpl, ho⟩
  obtain ⟨u, rfl, hu⟩ := act_fn hI
  rw [lit141] at hI ⊢
  obtain ⟨g1, g2, g7, g15, g16, g73, g74, g75, -⟩ := hI
  change u 1 = _ at g1
  change u 2 = _ at g2
  change u 7 = _ at g7
  change u 15 = _ at g15
  change u 16 = _ at g16
  change u 73 = _ at g73
  change u 74 = _ at g74
  change u 75 = _ at g75
  rw [g1, g2, g7, g15, g16, g73, g74, g75]
  clear g1 g2 g7 g15 g16 g73 g74 g75 hu
  have HQ := hid hQ; have HIN := hid hin; have HPL := hid hpl; have HO := hid ho
  clear hQ hin hpl ho
  by_cases hjl : j < fs.length
  rotate_left
  · have hji : ¬ (j : Int) < fs.length := by omega
    have hB : insideL at' 0 fs = B := by
      have := HIN.out
      rw [List.drop_of_length_le (by omega)] at this
      simpa [insideL] using this
    have HB := hid hB
    clear hB
    go_wp2_with fail
    exact HQ.out _ _ ⟨rfl, rfl, rfl, by show Value.bool _ = _; rw [HB.out], rfl, rfl⟩ HO.out
  have hji : (j : Int) < fs.length := by omega
  obtain ⟨⟨k, s⟩, hfj⟩ : ∃ t, fs[j]? = some t := ⟨_, List.getElem?_eq_getElem hjl⟩
  have hs39 : s.length ≤ 2039 := (hok (k, s) (List.mem_of_getElem? hfj)).2.2
  have hfc := fcs_get hfj
  have hgl' := hgl (by omega)
  have HR : Hid (w1.rangeAt g (o + j * 2) [.int .i64 (k : Nat), .string (strOf s)]) := hid fun i u hu => (World.cell?_of_block (HO.out.block g hgl' (fun e => e))).trans (by
    match i, hu with
    | 0, hu => exact hcl _ _ (hfc.1.trans hu)
    | 1, hu => exact hcl _ _ (hfc.2.trans hu)
    | i + 2, hu => simp at hu)
  have HDR : Hid (fs.drop j = (k, s) :: fs.drop (j + 1)) := hid (by rw [List.drop_eq_getElem_cons hjl]; congr 1; exact Option.some.inj ((List.getElem?_eq_getElem hjl).symm.trans hfj))
  have HI2 : Hid ((Try.prog.info? 57).map (·.size) = some [Value.int .i64 (k : Nat), .string (strOf s)].length) := hid info_rfr
  have hszs : (strOf s).size = s.length := rfl
  have hbd := inside_bound p k s (fs.drop (j + 1))
  have hp4 : placeN p s.length + (9 + s.length) ≤ 4096 := by
    have h1 := HPL.out
    rw [HDR.out, hbd] at h1
    have := place_le p s.length
    omega
  have HBD := hid hbd
  have hple := place_le p s.length
  have hp0 : p ≤ 4096 := by omega
  clear hfj hfc hgl' hbd
  go_upto_region 22 with ((guard_target =~ wpList _ _ _ (⟨some 78, _, _, _, _, _⟩ :: _) _ _); refine wpList_load_mid rfl 57 (.tmp 77) rfl g (o + j * 2) rfl [.int .i64 (k : Nat), .string (strOf s)] _ HR.out Try.underlying57 rfl HI2.out ?_; rw [show ([.int .i64 (k : Nat), .string (strOf s)] : List Value).toArray = #[.int .i64 (k : Nat), .string (strOf s)] from rfl])
  obtain ⟨w2, hw2⟩ : ∃ y, w1.alloc (.cells #[.int .i64 (k : Nat), .string (strOf s)] 57) = y := ⟨_, rfl⟩
  have hb2 : w2.heap[w1.heap.size]? = some (.cells #[.int .i64 (k : Nat), .string (strOf s)] 57 (0, 0)) := by rw [← hw2]; exact blk_new _ _
  have ho12 : Only (fun _ => False) w1 w2 := by rw [← hw2]; exact only_new _ _
  rw [hw2]
  have d0 : w2.cell? ⟨w1.heap.size, 0, none⟩ = some (.int .i64 (k : Nat)) := cell_blk hb2 0
  have d1 : w2.cell? ⟨w1.heap.size, 1, none⟩ = some (.string (strOf s)) := cell_blk hb2 1
  have HO2 := hid (HO.out.trans ho12 (fun _ _ e => e))
  obtain ⟨n, hn⟩ : ∃ y, s.length = y := ⟨_, rfl⟩
  have HNE : Hid (∀ (q : Nat), q = placeN p n → ∀ B', B' = (B || (decide (q + 4 ≤ at') && decide (at' < q + (9 + n)) && decide (at' ≠ q + 8))) → insideL at' 0 fs = (B' || insideL at' (q + (9 + n)) (fs.drop (j + 1))) ∧ (q + (9 + n)) + (layT (q + (9 + n)) (fs.drop (j + 1))).length = (layT 0 fs).length) := hid fun q hq B' hB => by
    refine ⟨?_, ?_⟩
    · rw [HIN.out, HDR.out, hB]
      simp only [insideL, hn, ← hq, Bool.or_assoc]
    · have h1 := HPL.out
      rw [HDR.out, HBD.out, hn, ← hq] at h1
      rw [hn, ← hq] at hple
      omega
  rw [hn] at hszs hs39 hp4 hple
  clear hw2 hb2 ho12 HR HI2 HDR HIN HPL HBD hcl hn
  by_cases hft : roomN p < 9 + n
  · have hpq : placeN p n = p + roomN p := by unfold placeN; rw [if_pos hft]
    have hq : (p / 2048 + 1) * 2048 = placeN p n := by rw [hpq]; unfold roomN; omega
    obtain ⟨q, hqe⟩ : ∃ q, (p / 2048 + 1) * 2048 = q := ⟨_, rfl⟩
    have hqi : ((p : Int) / 2048 + 1) * 2048 = (q : Int) := by omega
    have hcmp : 2048 - (p : Int) % 2048 < 9 + (n : Int) := by unfold roomN at hft; omega
    have HF := hid (HNE.out q (by rw [← hqe]; exact hq))
    rw [← hq, hqe] at hp4
    clear hft hpq hq hqe HNE hple
    cases B with
    | true =>
      have hfin : SpI at' (j + 1) (q + (9 + n)) true fs w w2 := ⟨by omega, (HF.out true (by simp)).1, (HF.out true (by simp)).2, HO2.out⟩
      have HFIN := hid hfin
      clear hfin
      go_wp2_with fail
      exact ⟨⟨j + 1, q + (9 + n), true, ⟨rfl, rfl, rfl, congrArg (Value.int .i64) (by omega), rfl, rfl, rfl, by show Value.int .i64 _ = _; go_num, rfl, rfl⟩, HFIN.out⟩, by simp [intOf]; omega⟩
    | false =>
      by_cases g1 : (q : Int) + 4 ≤ at'
      rotate_left
      · have b1 : decide (q + 4 ≤ at') = false := decide_eq_false (by omega)
        have hfin : SpI at' (j + 1) (q + (9 + n)) false fs w w2 := ⟨by omega, (HF.out false (by simp [b1])).1, (HF.out false (by simp [b1])).2, HO2.out⟩
        have HFIN := hid hfin
        clear hfin
        go_wp2_with fail
        exact ⟨⟨j + 1, q + (9 + n), false, ⟨rfl, rfl, rfl, congrArg (Value.int .i64) (by omega), rfl, rfl, rfl, by show Value.int .i64 _ = _; go_num, rfl, rfl⟩, HFIN.out⟩, by simp [intOf]; omega⟩
      have b1 : decide (q + 4 ≤ at') = true := decide_eq_true (by omega)
      by_cases g2 : (at' : Int) < q + (9 + (n : Int))
      rotate_left
      · have b2 : decide (at' < q + (9 + n)) = false := decide_eq_false (by omega)
        have hfin : SpI at' (j + 1) (q + (9 + n)) false fs w w2 := ⟨by omega, (HF.out false (by simp [b1, b2])).1, (HF.out false (by simp [b1, b2])).2, HO2.out⟩
        have HFIN := hid hfin
        clear hfin
        go_wp2_with fail
        exact ⟨⟨j + 1, q + (9 + n), false, ⟨rfl, rfl, rfl, congrArg (Value.int .i64) (by omega), rfl, rfl, rfl, by show Value.int .i64 _ = _; go_num, rfl, rfl⟩, HFIN.out⟩, by simp [intOf]; omega⟩
      have b2 : decide (at' < q + (9 + n)) = true := decide_eq_true (by omega)
      by_cases g3 : at' = q + 8
      · have b3 : decide (at' ≠ q + 8) = false := decide_eq_false (by omega)
        have c3 : ((at' : Int) != (q : Int) + 8) = false := by rw [bne_eq_false_iff_eq]; omega
        clear g3
        have hfin : SpI at' (j + 1) (q + (9 + n)) false fs w w2 := ⟨by omega, (HF.out false (by simp only [b1, b2, b3]; rfl)).1, (HF.out false (by simp only [b1, b2, b3]; rfl)).2, HO2.out⟩
        have HFIN := hid hfin
        clear hfin
        go_wp2_with fail
        exact ⟨⟨j + 1, q + (9 + n), false, ⟨rfl, rfl, rfl, congrArg (Value.int .i64) (by omega), rfl, rfl, rfl, by show Value.int .i64 _ = _; go_num, rfl, rfl⟩, HFIN.out⟩, by simp [intOf]; omega⟩
      · have b3 : decide (at' ≠ q + 8) = true := decide_eq_true (by omega)
        have c3 : ((at' : Int) != (q : Int) + 8) = true := by rw [bne_iff_ne]; omega
        clear g3
        have hfin : SpI at' (j + 1) (q + (9 + n)) true fs w w2 := ⟨by omega, (HF.out true (by simp only [b1, b2, b3]; rfl)).1, (HF.out true (by simp only [b1, b2, b3]; rfl)).2, HO2.out⟩
        have HFIN := hid hfin
        clear hfin
        go_wp2_with fail
        exact ⟨⟨j + 1, q + (9 + n), true, ⟨rfl, rfl, rfl, congrArg (Value.int .i64) (by omega), rfl, rfl, rfl, by show Value.int .i64 _ = _; go_num, rfl, rfl⟩, HFIN.out⟩, by simp [intOf]; omega⟩
  · have hpq : placeN p n = p := by unfold placeN; rw [if_neg hft]
    have hcmp : ¬ 2048 - (p : Int) % 2048 < 9 + (n : Int) := by unfold roomN at hft; omega
    obtain ⟨q, hqe⟩ : ∃ q, p = q := ⟨_, rfl⟩
    have HF := hid (HNE.out q (by rw [hpq, hqe]))
    rw [hpq, hqe] at hp4
    subst hqe
    clear hft hpq HNE hple
    cases B with
    | true =>
      have hfin : SpI at' (j + 1) (p + (9 + n)) true fs w w2 := ⟨by omega, (HF.out true (by simp)).1, (HF.out true (by simp)).2, HO2.out⟩
      have HFIN := hid hfin
      clear hfin
      go_wp2_with fail
      exact ⟨⟨j + 1, p + (9 + n), true, ⟨rfl, rfl, rfl, congrArg (Value.int .i64) (by omega), rfl, rfl, rfl, by show Value.int .i64 _ = _; go_num, rfl, rfl⟩, HFIN.out⟩, by simp [intOf]; omega⟩
    | false =>
      by_cases g1 : (p : Int) + 4 ≤ at'
      rotate_left
      · have b1 : decide (p + 4 ≤ at') = false := decide_eq_false (by omega)
        have hfin : SpI at' (j + 1) (p + (9 + n)) false fs w w2 := ⟨by omega, (HF.out false (by simp [b1])).1, (HF.out false (by simp [b1])).2, HO2.out⟩
        have HFIN := hid hfin
        clear hfin
        go_wp2_with fail
        exact ⟨⟨j + 1, p + (9 + n), false, ⟨rfl, rfl, rfl, congrArg (Value.int .i64) (by omega), rfl, rfl, rfl, by show Value.int .i64 _ = _; go_num, rfl, rfl⟩, HFIN.out⟩, by simp [intOf]; omega⟩
      have b1 : decide (p + 4 ≤ at') = true := decide_eq_true (by omega)
      by_cases g2 : (at' : Int) < p + (9 + (n : Int))
      rotate_left
      · have b2 : decide (at' < p + (9 + n)) = false := decide_eq_false (by omega)
        have hfin : SpI at' (j + 1) (p + (9 + n)) false fs w w2 := ⟨by omega, (HF.out false (by simp [b1, b2])).1, (HF.out false (by simp [b1, b2])).2, HO2.out⟩
        have HFIN := hid hfin
        clear hfin
        go_wp2_with fail
        exact ⟨⟨j + 1, p + (9 + n), false, ⟨rfl, rfl, rfl, congrArg (Value.int .i64) (by omega), rfl, rfl, rfl, by show Value.int .i64 _ = _; go_num, rfl, rfl⟩, HFIN.out⟩, by simp [intOf]; omega⟩
      have b2 : decide (at' < p + (9 + n)) = true := decide_eq_true (by omega)
      by_cases g3 : at' = p + 8
      · have b3 : decide (at' ≠ p + 8) = false := decide_eq_false (by omega)
        have c3 : ((at' : Int) != (p : Int) + 8) = false := by rw [bne_eq_false_iff_eq]; omega
        clear g3
        have hfin : SpI at' (j + 1) (p + (9 + n)) false fs w w2 := ⟨by omega, (HF.out false (by simp only [b1, b2, b3]; rfl)).1, (HF.out false (by simp only [b1, b2, b3]; rfl)).2, HO2.out⟩
        have HFIN := hid hfin
        clear hfin
        go_wp2_with fail
        exact ⟨⟨j + 1, p + (9 + n), false, ⟨rfl, rfl, rfl, congrArg (Value.int .i64) (by omega), rfl, rfl, rfl, by show Value.int .i64 _ = _; go_num, rfl, rfl⟩, HFIN.out⟩, by simp [intOf]; omega⟩
      · have b3 : decide (at' ≠ p + 8) = true := decide_eq_true (by omega)
        have c3 : ((at' : Int) != (p : Int) + 8) = true := by rw [bne_iff_ne]; omega
        clear g3
        have hfin : SpI at' (j + 1) (p + (9 + n)) true fs w w2 := ⟨by omega, (HF.out true (by simp only [b1, b2, b3]; rfl)).1, (HF.out true (by simp only [b1, b2, b3]; rfl)).2, HO2.out⟩
        have HFIN := hid hfin
        clear hfin
        go_wp2_with fail
        exact ⟨⟨j + 1, p + (9 + n), true, ⟨rfl, rfl, rfl, congrArg (Value.int .i64) (by omega), rfl, rfl, rfl, by show Value.int .i64 _ = _; go_num, rfl, rfl⟩, HFIN.out⟩, by simp [intOf]; omega⟩
end
set_option maxRecDepth 100000 in
theorem wsp2' {w : World} {Q : Exit → Act → World → Prop} {a : Act} {fs : List (Nat × List UInt8)} {fa : Option Addr} {fc b at' : Nat} {v2 : Value} (hS : ∃ g o, fa = some ⟨g, o, none⟩ ∧ (0 < fs.length → g < w.heap.size) ∧ (∀ j u, (fcs fs)[j]? = some u → w.cell? ⟨g, o + j, none⟩ = some u) ∨ fs = []) (hlen : (layT 0 fs).length ≤ 4096) (hok : FOk fs) (hat : at' ≤ 4095) (hfl : fs.length ≤ 1000000)
    (hL : Lv 141 a [(1, .int .i64 (at' : Nat)), (2, v2), (7, .pointer (some ⟨b, 0, none⟩)), (15, .int .i64 0), (16, .bool false), (73, .slice fa fs.length fc), (74, .int .i64 fs.length), (75, .int .i64 0)])
    (hQ : ∀ a' w', Lv 141 a' [(1, .int .i64 (at' : Nat)), (2, v2), (7, .pointer (some ⟨b, 0, none⟩)), (16, .bool (insideL at' 0 fs))] → Only (fun _ => False) w w' → Q .normal a' w') :
    (wspB 2).wp Try.prog Q a w := by
  obtain ⟨g, o, h | h⟩ := hS
  · obtain ⟨rfl, h1, h2⟩ := h
    exact wsp2 h1 h2 hlen hok hat hfl hL hQ
  · subst h
    refine Code.wp_mono NoPanic.imp ?_
    conv => arg 2; whnf
    refine wp_block (wp_loop (fun a' w' => Lv 141 a' [(1, .int .i64 (at' : Nat)), (2, v2), (7, .pointer (some ⟨b, 0, none⟩)), (15, .int .i64 0), (16, .bool false), (73, .slice fa ([] : List (Nat × List UInt8)).length fc), (74, .int .i64 ([] : List (Nat × List UInt8)).length), (75, .int .i64 0)] ∧ w' = w) (fun _ _ => 0) ⟨hL, rfl⟩ ?_)
    rintro a' w1 ⟨hI, rfl⟩
    obtain ⟨u, rfl, hu⟩ := act_fn hI
    rw [lit141] at hI ⊢
    obtain ⟨g1, g2, g7, g15, g16, g73, g74, g75, -⟩ := hI
    change u 1 = _ at g1
    change u 2 = _ at g2
    change u 7 = _ at g7
    change u 15 = _ at g15
    change u 16 = _ at g16
    change u 73 = _ at g73
    change u 74 = _ at g74
    change u 75 = _ at g75
    rw [g1, g2, g7, g15, g16, g73, g74, g75]
    clear g1 g2 g7 g15 g16 g73 g74 g75 hu
    have HQ := hid hQ
    clear hQ hL
    go_wp2_with fail
    exact HQ.out _ _ ⟨rfl, rfl, rfl, rfl, rfl, rfl⟩ (Only.refl _ _)
section
variable {w : World}
set_option maxRecDepth 100000 in
set_option maxHeartbeats 6400000 in
theorem walspoilt_c {v : Value} {ops : List LOp} (h : LOpsAt w v ops) (ai : Int) (x : UInt8) : Calls Try.prog 6 #[v, .int .i64 ai, .int .u8 (x.toNat : Nat)] w fun e w' => e = .returned (.bool true) ∧ Only (fun _ => False) w w' := by
  have H := hid h
  obtain ⟨bo, bc, rfl, -, -⟩ := h
  have hxl : (x.toNat : Int) < 256 := by have := x.toNat_lt; omega
  go_enter Try.func6, Try.ntmps6
  go_wp2_with fail
  refine logs_c.mono ?_
  rintro e w1 ⟨rfl, ho1⟩
  have HO1 := hid ho1
  clear ho1
  have HFT := hid (fits8_c (w := w1) (lops_same H.out HO1.out))
  go_wp2_with fail
  refine HFT.out.mono ?_
  rintro e w2 ⟨⟨B, rfl, hB⟩, ho2⟩
  have HO2 := hid (HO1.out.trans ho2 (fun _ _ e => e))
  clear ho2 HO1 HFT
  cases B with
  | false =>
    go_wp2_with fail
    go_ret
    exact ⟨rfl, HO2.out⟩
  | true =>
    have HB := hid (hB rfl)
    clear hB
    by_cases h0 : ai < 0
    · go_wp2_with fail
      go_ret
      exact ⟨rfl, HO2.out⟩
    by_cases h4 : 4095 < ai
    · go_wp2_with fail
      go_ret
      exact ⟨rfl, HO2.out⟩
    by_cases hx : x = 0
    · have hxz : ((x.toNat : Int) == 0) = true := by rw [hx]; rfl
      clear hx
      go_wp2_with fail
      go_ret
      exact ⟨rfl, HO2.out⟩
    have hxz : ((x.toNat : Int) == 0) = false := by
      rw [beq_eq_false_iff_ne]
      intro e
      exact hx (UInt8.toNat_inj.1 (by show x.toNat = 0; omega))
    have HX := hid hx
    obtain ⟨at', rfl⟩ : ∃ m : Nat, ai = m := ⟨ai.toNat, by omega⟩
    have HNW : Hid (Calls Try.prog 10 #[.int .i64 34] w2 fun e w' => ∃ b F, e = .returned (.tuple #[.pointer (some ⟨b, 0, none⟩), .int .i64 0]) ∧ DiskAt w' b (DiskM.new 34) F ∧ Only (fun _ => False) w2 w' ∧ ∀ k, F k → w2.heap.size ≤ k) := hid (new_ok w2 34 (by decide) (by decide))
    clear hx
    go_wp2_with fail
    refine HNW.out.mono ?_
    rintro e w3 ⟨b, FD, rfl, hd, ho3, hf3⟩
    have HP0 := hid (LP.new (sg := 2) (n := 34) (by decide) (by decide) (by decide))
    have HOP := hid (lopen_c (w0 := w) hd (fun k hk => by have := hf3 k hk; have := HO2.out.size; omega) (HO2.out.trans ho3 (fun _ _ e => e)) HP0.out (by decide))
    clear hd hf3 ho3 HNW HO2 hxz
    go_wp2_with fail
    refine HOP.out.mono ?_
    rintro e w4 ⟨v4, l, r, lo4, F4, rfl, hl4, -, hfo4, -, -, -⟩
    obtain ⟨ao4, cap4, xs4, rfl, -⟩ := hfo4
    have HL4 := hid hl4
    clear hl4 HOP
    go_upto_block 0 with fail
    obtain ⟨w5, hw5⟩ : ∃ y, w4.alloc (.cells #[.int .i64 4096, .int .i64 0, .int .i64 0, .slice none 0 0, .slice none 0 0] 45) = y := ⟨_, rfl⟩
    have HWS := hid (WS.start HL4.out HP0.out rfl (by decide) (by decide) rfl hw5.symm)
    rw [hw5]
    clear hw5 HL4 HP0
    refine wsp0 (w0 := w) (w := w5) (a := _) (ops := ops) (bo := bo) (bc := bc) (l := l) (b := b) (s := w4.heap.size) (sg := 2) (v1 := .int .i64 (at' : Nat)) (v2 := .int .u8 (x.toNat : Nat)) H.out HB.out.1 HB.out.2 ⟨r, _, _, _, _, _, _, _, _, HWS.out, rfl⟩ ⟨rfl, rfl, rfl, rfl, rfl, rfl, rfl, rfl, rfl, rfl⟩ ?_
    intro a' w6 hI hws
    obtain ⟨u, rfl, hu⟩ := act_fn hI
    rw [lit141] at hI ⊢
    obtain ⟨g7, g9, g12, g1, g2, -⟩ := hI
    change u 7 = _ at g7
    change u 9 = _ at g9
    change u 12 = _ at g12
    change u 1 = _ at g1
    change u 2 = _ at g2
    rw [g7, g9, g12, g1, g2]
    clear g7 g9 g12 g1 g2 hu
    obtain ⟨r6, M, Lr, fv, wv, FF, GG, T0, fs, hw, hfz⟩ := hws
    have hT0 : T0 = [] := List.eq_nil_of_length_eq_zero (by rw [← hw.lp.hd, ← hw.sam.first]; exact hfz)
    subst hT0
    have HW := hid hw
    have HN := hid HB.out.1
    have hfv : ∃ fa fc, fv = .slice fa fs.length fc ∧ SrcG w6 fa fs.length 2 (fcs fs) := by
      obtain ⟨ax, c, e, -, h3, -⟩ := hw.rl.f
      rw [hw.sam.frames] at e h3
      exact ⟨ax, c, e, h3⟩
    obtain ⟨fa, fc, rfl, hsr⟩ := hfv
    have hsp : ∃ g o, fa = some ⟨g, o, none⟩ ∧ (0 < fs.length → g < w6.heap.size) ∧ (∀ j u, (fcs fs)[j]? = some u → w6.cell? ⟨g, o + j, none⟩ = some u) ∨ fs = [] := by
      by_cases h0 : 0 < fs.length
      · obtain ⟨g, o, e, h1, h2⟩ := hsr.spots h0 (by decide)
        exact ⟨g, o, .inl ⟨e, fun _ => h1, h2⟩⟩
      · exact ⟨0, 0, .inr (List.eq_nil_of_length_eq_zero (by omega))⟩
    obtain ⟨mk, ec, sp1, sp2, sp3, sp4, sp5, sp6⟩ := hw.lp.spoilt (at' := at') (by omega) x
    obtain ⟨FD6, hdk, hfk⟩ := hw.lg.log.disk
    have HDK := hid hdk
    have HSO := hid (fun W (hW : Only (fun _ => False) w6 W) => spoil_ok (hdk.only hW (fun _ _ e => e)) (2 + (at' : Int) / 128) (by omega) (by have := hw.lp.dn; omega) ((at' : Int) % 128) (by omega) (by omega) x)
    have HFD : Hid (∀ k, FD6 k → w.heap.size ≤ k) := hid fun k hk => hw.lg.new k (hfk k hk)
    have hln : (2 + (at' : Int) / 128).toNat = 2 + at' / 128 := by omega
    have hla : ((at' : Int) % 128).toNat = at' % 128 := by omega
    simp only [hln, hla] at HSO
    have HSP := hid (And.intro sp1 (And.intro sp2 (And.intro sp3 (And.intro sp4 sp5))))
    have c63 : w6.cell? ⟨w4.heap.size, 3, none⟩ = some (.slice fa fs.length fc) := cell_blk hw.bs 3
    have c60 : w6.cell? ⟨w4.heap.size, 0, none⟩ = some (.int .i64 (Lr.size : Nat)) := cell_blk hw.bs 0
    have HLEN := hid sp6; have HOK := hid hw.lp.fok; have HFL := hid (RLAt.fl hw)
    have HS := hid hsp
    clear hw hsr hdk hfk hln hla sp1 sp2 sp3 sp4 sp5 sp6 HWS HB hfz hsp
    go_upto_block 2 with fail
    have hgo : ∃ g o fc', fa = some ⟨g, o, none⟩ ∧ fc' = fc ∨ fs = [] := by
      obtain ⟨g, o, h | h⟩ := HS.out
      · exact ⟨g, o, fc, .inl ⟨h.1, rfl⟩⟩
      · exact ⟨0, 0, 0, .inr h⟩
    clear hgo
    refine wsp2' (w := w6) (a := _) (fs := fs) (fa := fa) (fc := fc) (b := b) (at' := at') (v2 := .int .u8 (x.toNat : Nat)) HS.out HLEN.out HOK.out (by omega) HFL.out ⟨rfl, rfl, rfl, rfl, rfl, rfl, rfl, rfl, rfl, rfl⟩ ?_
    intro a' w7 hI ho7
    obtain ⟨u, rfl, hu⟩ := act_fn hI
    rw [lit141] at hI ⊢
    obtain ⟨g1, g2, g7, g16, -⟩ := hI
    change u 1 = _ at g1
    change u 2 = _ at g2
    change u 7 = _ at g7
    change u 16 = _ at g16
    rw [g1, g2, g7, g16]
    clear g1 g2 g7 g16 hu
    have HO7 := hid ho7
    have HSO7 := hid (HSO.out w7 ho7)
    clear ho7 HSO c63 c60
    go_wp2_with fail
    refine HSO7.out.mono ?_
    rintro e w8 ⟨rfl, hd8, ho8⟩
    obtain ⟨s1, s2, s3, s4, s5⟩ := HSP.out
    have hO8 : Only (fun _ => False) w w8 := (HW.out.lg.only.trans HO7.out (fun _ _ e => e)).trans ho8 (fun k hk e => by have := HFD.out k e; omega)
    have hop := open_yes (sg := 2) hd8 HW.out.lp.rs.up HW.out.lp.sgn (by decide) s1 s2 (by rw [s3, s4]; exact Nat.zero_le _) (by rw [s4]; have := HLEN.out; omega) (T := spoilL (layT 0 fs) at' x) (by rw [length_spoilL, s4]) (by rw [s4]; exact s5) (by rw [length_spoilL]; have := HLEN.out; unfold ups; omega)
    rw [s3, s4] at hop
    have HOP := hid hop; have HO8 := hid hO8
    have hrd : insideL at' 0 fs = true → readA (spoilL (layT 0 fs) at' x) 0 (layT 0 fs).length = ([], 80) := fun hin => by
      have h1 := read_spoilt HX.out fs 0 (spoilL (layT 0 fs) at' x) HOK.out hin (Nat.zero_le _) (by rw [List.drop_zero, Nat.sub_zero]) ((layT 0 fs).length + 1) (by rw [length_spoilL]; omega)
      rw [length_spoilL] at h1
      exact h1
    have HRD := hid hrd
    clear hd8 ho8 hO8 hop hrd s1 s2 s3 s4 s5 HSO7
    go_wp2_with fail
    refine HOP.out.mono ?_
    rintro e w9 ⟨ho9, hq⟩
    have HO9 := hid (HO8.out.trans ho9 (fun _ _ e => e))
    clear ho9 HOP HO8
    cases hin : insideL at' 0 fs with
    | false =>
      clear HRD hin
      rcases hq with ⟨-, rfl⟩ | ⟨-, v9, l9, r9, lo9, F9, rfl, -, -, hfo9, -, -⟩
      · go_wp2_with fail
        go_ret
        exact ⟨rfl, HO9.out⟩
      · obtain ⟨ao9, cap9, xs9, rfl, -⟩ := hfo9
        go_wp2_with fail
        go_ret
        exact ⟨rfl, HO9.out⟩
    | true =>
      rw [HRD.out hin] at hq
      clear HRD hin
      rcases hq with ⟨-, rfl⟩ | ⟨h80, -⟩
      · go_wp2_with fail
        go_ret
        exact ⟨rfl, HO9.out⟩
      · exact absurd h80 (by decide)
end
end Go.Proofs.Ythodcbhejjbhaaa
