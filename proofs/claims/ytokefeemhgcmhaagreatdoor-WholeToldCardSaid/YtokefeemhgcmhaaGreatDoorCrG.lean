/- package cron: Parse, Text. -/
import Derived.Test.YtokefeemhgcmhaaGreatDoorCrF
namespace Go.Proofs.YtokefeemhgcmhaaGreatDoor
open Go.RowKit
def fval (lo hi : Nat) (p : List UInt8) : Int := (fieldR lo hi (pieces 44 p) 0).1
def fcode (lo hi : Nat) (p : List UInt8) : Int := (fieldR lo hi (pieces 44 p) 0).2
def starB (p : List UInt8) : Bool := p == [42]
/-- What is read of a text. -/
def parse5 (s pa pb pc pd pe : List UInt8) : Option SpM × Int :=
  if fcode 0 59 pa ≠ 0 then (none, fcode 0 59 pa) else if fcode 0 23 pb ≠ 0 then (none, fcode 0 23 pb) else if fcode 1 31 pc ≠ 0 then (none, fcode 1 31 pc)
  else if fcode 1 12 pd ≠ 0 then (none, fcode 1 12 pd) else if fcode 0 6 pe ≠ 0 then (none, fcode 0 6 pe)
  else (some ⟨fval 0 59 pa, fval 0 23 pb, fval 1 31 pc, fval 1 12 pd, fval 0 6 pe, starB pa, starB pb, starB pc, starB pd, starB pe, s⟩, 0)
def parseR (s : List UInt8) : Option SpM × Int :=
  if 128 < s.length then (none, 2) else match pieces 32 s with
  | [pa, pb, pc, pd, pe] => parse5 s pa pb pc pd pe
  | _ => (none, 40)
theorem parseR_len {s : List UInt8} (h : ¬ 128 < s.length) (hp : (pieces 32 s).length ≠ 5) : parseR s = (none, 40) := by
  unfold parseR
  rw [if_neg h]
  split
  · rename_i e; rw [e] at hp; exact absurd rfl hp
  · rfl
theorem parseR_five {s pa pb pc pd pe : List UInt8} (h : ¬ 128 < s.length) (hp : pieces 32 s = [pa, pb, pc, pd, pe]) : parseR s = parse5 s pa pb pc pd pe := by
  unfold parseR; rw [if_neg h, hp]
theorem five {α : Type} {l : List α} (h : l.length = 5) : ∃ a b c d e, l = [a, b, c, d, e] := by
  match l, h with
  | [a, b, c, d, e], _ => exact ⟨a, b, c, d, e, rfl⟩
/-- The pointer to what was read. -/
def CrAt (w w' : World) (o : Value) : Option SpM → Prop
  | none => o = .pointer none
  | some m => ∃ g, o = .pointer (some ⟨g, 0, none⟩) ∧ SpAt w' g m ∧ w.heap.size ≤ g
section
variable {w : World}
theorem crtext_c {g : Nat} {s : SpM} (hS : SpAt w g s) : Calls Tryz.prog 16 #[.pointer (some ⟨g, 0, none⟩)] w fun e w' => e = .returned (.string (strOf s.text)) ∧ w = w' := by
  have c := cell_blk hS 10
  have hc : w.cell? ⟨g, 10, none⟩ = some (.string (strOf s.text)) := c
  clear c hS
  go_enter Tryz.func16, Tryz.ntmps16
  go_wp2_with fail
  go_ret
  exact ⟨rfl, rfl⟩
set_option maxRecDepth 100000 in
set_option maxHeartbeats 12800000 in
theorem cparse_c (hm : MaxL w) (s : List UInt8) (hs : s.length ≤ 1000) : Calls Tryz.prog 14 #[.string (strOf s)] w fun e w' => ∃ o, e = .returned (.tuple #[o, .int .i64 (parseR s).2]) ∧ CrAt w w' o (parseR s).1 ∧ Only (fun _ => False) w w' := by
  have hsz : (strOf s).size = s.length := rfl
  obtain ⟨R, hR⟩ : ∃ x, parseR s = x := ⟨_, rfl⟩
  rw [hR]
  by_cases hl : 128 < s.length
  · have hli : (128 : Int) < (strOf s).size := by omega
    obtain rfl : R = (none, 2) := by rw [← hR]; unfold parseR; rw [if_pos hl]
    clear hR hsz
    go_enter Tryz.func14, Tryz.ntmps14
    go_wp2_with fail
    go_ret2
    exact ⟨_, rfl, rfl, Only.refl _ _⟩
  have hli : ¬ (128 : Int) < (strOf s).size := by omega
  have HM := hid hm
  have HSP := hid (crsplit_c hm s 32 (by omega))
  have hpl := pieces_len 32 s
  have hpn := pieces_le 32 s
  by_cases hp : (pieces 32 s).length = 5
  rotate_left
  · have hpb : (((pieces 32 s).length : Nat) : Int) ≠ 5 := by omega
    have hpb2 : ((((pieces 32 s).length : Nat) : Int) != 5) = true := bne_iff_ne.2 hpb
    obtain rfl : R = (none, 40) := by rw [← hR]; exact parseR_len hl hp
    obtain ⟨n, hn⟩ : ∃ x, (pieces 32 s).length = x := ⟨_, rfl⟩
    rw [hn] at HSP hpb2
    clear hR hsz hpb hp hn hpl hpn
    go_enter Tryz.func14, Tryz.ntmps14
    go_wp2_with fail
    refine HSP.out.mono ?_
    rintro x w2 ⟨rfl, -, ho⟩
    have HO := hid ho
    clear ho
    go_wp2_with fail
    go_ret2
    exact ⟨_, rfl, rfl, HO.out⟩
  obtain ⟨pa, pb, pc, pd, pe, h5⟩ := five hp
  have hr5 := parseR_five hl h5
  rw [hR] at hr5
  rw [h5] at HSP hpl
  have hla : pa.length ≤ 500 := by have := hpl pa (by simp); omega
  have hlb : pb.length ≤ 500 := by have := hpl pb (by simp); omega
  have hlc : pc.length ≤ 500 := by have := hpl pc (by simp); omega
  have hld : pd.length ≤ 500 := by have := hpl pd (by simp); omega
  have hle : pe.length ≤ 500 := by have := hpl pe (by simp); omega
  unfold parse5 fcode fval at hr5
  have HFL : Hid (∀ (W : World), MaxL W → ∀ (lo hi : Nat) (p : List UInt8), lo ≤ hi → hi ≤ 63 → p.length ≤ 500 → Calls Tryz.prog 32 #[.agg #[.int .i64 (lo : Nat), .int .i64 (hi : Nat)], .string (strOf p)] W fun e w' => e = .returned (.tuple #[.int .u64 (fieldR lo hi (pieces 44 p) 0).1, .int .i64 (fieldR lo hi (pieces 44 p) 0).2]) ∧ Only (fun _ => False) W w') := hid fun W hW lo hi p h1 h2 h3 => crfield_c hW lo hi h1 h2 p h3
  have HF0 : Hid (∀ W, MaxL W → Calls Tryz.prog 32 #[.agg #[.int .i64 0, .int .i64 59], .string (strOf pa)] W fun e w' => e = .returned (.tuple #[.int .u64 (fieldR 0 59 (pieces 44 pa) 0).1, .int .i64 (fieldR 0 59 (pieces 44 pa) 0).2]) ∧ Only (fun _ => False) W w') := hid fun W hW => HFL.out W hW 0 59 pa (by omega) (by omega) hla
  obtain ⟨⟨v0, c0⟩, hv0⟩ : ∃ x, fieldR 0 59 (pieces 44 pa) 0 = x := ⟨_, rfl⟩
  rw [hv0] at hr5 HF0
  simp only at HF0
  clear hv0
  have HF1 : Hid (∀ W, MaxL W → Calls Tryz.prog 32 #[.agg #[.int .i64 0, .int .i64 23], .string (strOf pb)] W fun e w' => e = .returned (.tuple #[.int .u64 (fieldR 0 23 (pieces 44 pb) 0).1, .int .i64 (fieldR 0 23 (pieces 44 pb) 0).2]) ∧ Only (fun _ => False) W w') := hid fun W hW => HFL.out W hW 0 23 pb (by omega) (by omega) hlb
  obtain ⟨⟨v1, c1⟩, hv1⟩ : ∃ x, fieldR 0 23 (pieces 44 pb) 0 = x := ⟨_, rfl⟩
  rw [hv1] at hr5 HF1
  simp only at HF1
  clear hv1
  have HF2 : Hid (∀ W, MaxL W → Calls Tryz.prog 32 #[.agg #[.int .i64 1, .int .i64 31], .string (strOf pc)] W fun e w' => e = .returned (.tuple #[.int .u64 (fieldR 1 31 (pieces 44 pc) 0).1, .int .i64 (fieldR 1 31 (pieces 44 pc) 0).2]) ∧ Only (fun _ => False) W w') := hid fun W hW => HFL.out W hW 1 31 pc (by omega) (by omega) hlc
  obtain ⟨⟨v2, c2⟩, hv2⟩ : ∃ x, fieldR 1 31 (pieces 44 pc) 0 = x := ⟨_, rfl⟩
  rw [hv2] at hr5 HF2
  simp only at HF2
  clear hv2
  have HF3 : Hid (∀ W, MaxL W → Calls Tryz.prog 32 #[.agg #[.int .i64 1, .int .i64 12], .string (strOf pd)] W fun e w' => e = .returned (.tuple #[.int .u64 (fieldR 1 12 (pieces 44 pd) 0).1, .int .i64 (fieldR 1 12 (pieces 44 pd) 0).2]) ∧ Only (fun _ => False) W w') := hid fun W hW => HFL.out W hW 1 12 pd (by omega) (by omega) hld
  obtain ⟨⟨v3, c3⟩, hv3⟩ : ∃ x, fieldR 1 12 (pieces 44 pd) 0 = x := ⟨_, rfl⟩
  rw [hv3] at hr5 HF3
  simp only at HF3
  clear hv3
  have HF4 : Hid (∀ W, MaxL W → Calls Tryz.prog 32 #[.agg #[.int .i64 0, .int .i64 6], .string (strOf pe)] W fun e w' => e = .returned (.tuple #[.int .u64 (fieldR 0 6 (pieces 44 pe) 0).1, .int .i64 (fieldR 0 6 (pieces 44 pe) 0).2]) ∧ Only (fun _ => False) W w') := hid fun W hW => HFL.out W hW 0 6 pe (by omega) (by omega) hle
  obtain ⟨⟨v4, c4⟩, hv4⟩ : ∃ x, fieldR 0 6 (pieces 44 pe) 0 = x := ⟨_, rfl⟩
  rw [hv4] at hr5 HF4
  simp only at HF4
  clear hv4
  simp only at hr5
  obtain ⟨b0, hb0⟩ : ∃ x, starB pa = x := ⟨_, rfl⟩
  obtain ⟨b1, hb1⟩ : ∃ x, starB pb = x := ⟨_, rfl⟩
  obtain ⟨b2, hb2⟩ : ∃ x, starB pc = x := ⟨_, rfl⟩
  obtain ⟨b3, hb3⟩ : ∃ x, starB pd = x := ⟨_, rfl⟩
  obtain ⟨b4, hb4⟩ : ∃ x, starB pe = x := ⟨_, rfl⟩
  rw [hb0, hb1, hb2, hb3, hb4] at hr5
  have HR5 := hid hr5
  have HSPN : Hid (∀ W, Calls Tryz.prog 31 #[] W fun e w' => e = .returned (.agg #[.int .i64 0, .int .i64 59, .int .i64 0, .int .i64 23, .int .i64 1, .int .i64 31, .int .i64 1, .int .i64 12, .int .i64 0, .int .i64 6]) ∧ Only (fun _ => False) W w') := hid fun W => crspans_c (w := W)
  have ht0 : ((strOf pa).toList == [42]) = b0 := by rw [strOf_list]; exact hb0
  have ht1 : ((strOf pb).toList == [42]) = b1 := by rw [strOf_list]; exact hb1
  have ht2 : ((strOf pc).toList == [42]) = b2 := by rw [strOf_list]; exact hb2
  have ht3 : ((strOf pd).toList == [42]) = b3 := by rw [strOf_list]; exact hb3
  have ht4 : ((strOf pe).toList == [42]) = b4 := by rw [strOf_list]; exact hb4
  have HT := hid (And.intro ht0 (And.intro ht1 (And.intro ht2 (And.intro ht3 ht4))))
  clear ht0 ht1 ht2 ht3 ht4 hb0 hb1 hb2 hb3 hb4
  clear hr5 hR h5 hp hpl hpn hm HFL hsz hla hlb hlc hld hle hl
  go_enter Tryz.func14, Tryz.ntmps14
  go_wp2_with fail
  refine HSP.out.mono ?_
  rintro x w2 ⟨rfl, hb2, ho2⟩
  obtain ⟨gp, hgp⟩ : ∃ x, w.heap.size = x := ⟨_, rfl⟩
  rw [hgp] at hb2 ⊢
  have HGP := hid hgp
  have HB2 : Hid (w2.heap[gp]? = some (.cells #[.string (strOf pa), .string (strOf pb), .string (strOf pc), .string (strOf pd), .string (strOf pe)] 9 (0, 0))) := hid hb2
  have HO2 := hid ho2
  have HM2 := hid (HM.out.only ho2 (fun e => e))
  clear hb2 ho2 hgp HSP HM
  go_upto_region 7 with fail
  obtain ⟨w3, hw3⟩ : ∃ x, w2.alloc (.cells #[.int .u64 0, .int .u64 0, .int .u64 0, .int .u64 0, .int .u64 0, .bool false, .bool false, .bool false, .bool false, .bool false, .string (strOf s)] 75) = x := ⟨_, rfl⟩
  rw [hw3]
  have hb3 : w3.heap[w2.heap.size]? = some (.cells #[.int .u64 0, .int .u64 0, .int .u64 0, .int .u64 0, .int .u64 0, .bool false, .bool false, .bool false, .bool false, .bool false, .string (strOf s)] 75 (0, 0)) := by rw [← hw3]; exact blk_new _ _
  have ho3 : Only (fun _ => False) w2 w3 := by rw [← hw3]; exact only_new _ _
  have hge : gp < w2.heap.size := blk_lt HB2.out
  obtain ⟨gc, hgc⟩ : ∃ x, w2.heap.size = x := ⟨_, rfl⟩
  rw [hgc] at hb3 hge ⊢
  have HB3 := hid hb3
  have HBP3 := hid (blk_only HB2.out ho3 (fun e => e))
  have HO3 := hid (HO2.out.trans ho3 (fun _ _ e => e))
  have HM3 := hid (HM2.out.only ho3 (fun e => e))
  have HGC : Hid (w.heap.size ≤ gc) := hid (by rw [HGP.out]; omega)
  clear hb3 ho3 hw3 HB2 HO2 HM2 hgc
  go_wp2_with fail
  refine (HSPN.out w3).mono ?_
  rintro x w4 ⟨rfl, ho4⟩
  have HB4 := hid (blk_only HB3.out ho4 (fun e => e))
  have HBP4 := hid (blk_only HBP3.out ho4 (fun e => e))
  have HO4 := hid (HO3.out.trans ho4 (fun _ _ e => e))
  have HM4 := hid (HM3.out.only ho4 (fun e => e))
  clear ho4 HB3 HBP3 HO3 HM3 HSPN
  go_wp2_with fail
  go_loopw [22] (fun iv wr => ∃ (i : Int), iv = .int .i64 i ∧ (0 ≤ i ∧ i ≤ 5) ∧ (0 < i → c0 = 0) ∧ (1 < i → c1 = 0) ∧ (2 < i → c2 = 0) ∧ (3 < i → c3 = 0) ∧ (4 < i → c4 = 0) ∧ wr.heap[gc]? = some (.cells #[.int .u64 (if 0 < i then v0 else 0), .int .u64 (if 1 < i then v1 else 0), .int .u64 (if 2 < i then v2 else 0), .int .u64 (if 3 < i then v3 else 0), .int .u64 (if 4 < i then v4 else 0), .bool (if 0 < i then b0 else false), .bool (if 1 < i then b1 else false), .bool (if 2 < i then b2 else false), .bool (if 3 < i then b3 else false), .bool (if 4 < i then b4 else false), .string (strOf s)] 75 (0, 0)) ∧ Only (fun k => k = gc) w4 wr) (fun iv _ => (5 - intOf iv).toNat)
  case atStart => exact ⟨0, rfl, by omega, by omega, by omega, by omega, by omega, by omega, HB4.out, Only.refl _ _⟩
  case round =>
    obtain ⟨i, rfl, hi, hc0, hc1, hc2, hc3, hc4, hbr, hor⟩ := hrel
    have HBR := hid hbr; have HOR := hid hor
    have HBPR := hid (blk_only HBP4.out hor (fun e => by omega))
    have HMR := hid (HM4.out.only hor (fun e => by subst e; have := HB4.out; obtain ⟨m, hmm⟩ := HM4.out; rw [World.cell?, this] at hmm; simp at hmm))
    clear hbr hor HB4 HBP4 HM4
    obtain rfl | rfl | rfl | rfl | rfl | rfl : i = 0 ∨ i = 1 ∨ i = 2 ∨ i = 3 ∨ i = 4 ∨ i = 5 := by omega
    · have hbr : wr.heap[gc]? = some (.cells #[.int .u64 0, .int .u64 0, .int .u64 0, .int .u64 0, .int .u64 0, .bool false, .bool false, .bool false, .bool false, .bool false, .string (strOf s)] 75 (0, 0)) := HBR.out
      have HBR2 := hid hbr
      clear hbr HBR
      have hix : (Instr.index 78 (.agg #[.int .i64 0, .int .i64 59, .int .i64 0, .int .i64 23, .int .i64 1, .int .i64 31, .int .i64 1, .int .i64 12, .int .i64 0, .int .i64 6]) (.int .i64 0)).run Tryz.prog wr = .ok (.agg #[.int .i64 0, .int .i64 59]) wr := by kernel_rfl
      go_upto_region 10 with fail
      clear hix
      obtain ⟨wa, hwa⟩ : ∃ x, wr.alloc (.cells #[.int .i64 0, .int .i64 59] 77) = x := ⟨_, rfl⟩
      rw [hwa]
      have hba : wa.heap[wr.heap.size]? = some (.cells #[.int .i64 0, .int .i64 59] 77 (0, 0)) := by rw [← hwa]; exact blk_new _ _
      have hoa : Only (fun _ => False) wr wa := by rw [← hwa]; exact only_new _ _
      obtain ⟨ga, hga⟩ : ∃ x, wr.heap.size = x := ⟨_, rfl⟩
      rw [hga] at hba ⊢
      have hgl : gc < ga := by rw [← hga]; exact blk_lt HBR2.out
      have HBA : Hid (∀ W, Only (fun _ => False) wa W → W.heap[ga]? = some (.cells #[.int .i64 0, .int .i64 59] 77 (0, 0))) := hid fun W hW => blk_only hba hW (fun e => e)
      have HBP : Hid (∀ W, Only (fun _ => False) wa W → W.heap[gp]? = some (.cells #[.string (strOf pa), .string (strOf pb), .string (strOf pc), .string (strOf pd), .string (strOf pe)] 9 (0, 0))) := hid fun W hW => blk_only HBPR.out (hoa.trans hW (fun _ _ e => e)) (fun e => e)
      have HBC : Hid (∀ W, Only (fun _ => False) wa W → W.heap[gc]? = some (.cells #[.int .u64 0, .int .u64 0, .int .u64 0, .int .u64 0, .int .u64 0, .bool false, .bool false, .bool false, .bool false, .bool false, .string (strOf s)] 75 (0, 0))) := hid fun W hW => blk_only HBR2.out (hoa.trans hW (fun _ _ e => e)) (fun e => e)
      have HMA := hid (HMR.out.only hoa (fun e => e))
      have HOA := hid (HOR.out.trans hoa (fun _ _ e => e.elim))
      clear hwa hba hoa hga HBR2 HBPR HMR HOR
      refine region_pt 11 [] (by kernel_rfl) (by kernel_rfl) (by kernel_rfl) [(27, fun _ v => v = .agg #[.int .i64 0, .int .i64 59]), (28, fun _ v => v = .slice (some ⟨gp, 0, none⟩) 5 5), (29, fun _ v => v = .int .i64 0), (30, fun _ v => v = .pointer (some ⟨gp, 0, none⟩)), (31, fun _ v => v = .string (strOf pa)), (32, fun _ v => v = .tuple #[.int .u64 v0, .int .i64 c0]), (26, fun _ v => v = .tuple #[.int .u64 v0, .int .i64 c0]), (33, fun _ v => v = .int .u64 v0), (34, fun _ v => v = .int .i64 c0), (8, fun _ v => v = .int .u64 v0), (9, fun _ v => v = .int .i64 c0)] (fun _ W => Only (fun _ => False) wa W) (by show [27, 28, 29, 30, 31, 32, 26, 33, 34, 8, 9].Nodup; decide) (by show ∀ d ∈ [27, 28, 29, 30, 31, 32, 26, 33, 34, 8, 9], d < 56; decide) ((Only.refl _ _).drew) (.inl rfl) ?_ ?_ ?_
      · exact trivial
      · have hstab : PtStabs (Only (fun _ => False)) [(27, fun _ v => v = .agg #[.int .i64 0, .int .i64 59]), (28, fun _ v => v = .slice (some ⟨gp, 0, none⟩) 5 5), (29, fun _ v => v = .int .i64 0), (30, fun _ v => v = .pointer (some ⟨gp, 0, none⟩)), (31, fun _ v => v = .string (strOf pa)), (32, fun _ v => v = .tuple #[.int .u64 v0, .int .i64 c0]), (26, fun _ v => v = .tuple #[.int .u64 v0, .int .i64 c0]), (33, fun _ v => v = .int .u64 v0), (34, fun _ v => v = .int .i64 c0), (8, fun _ v => v = .int .u64 v0), (9, fun _ v => v = .int .i64 c0)] := ⟨fun _ _ _ _ h => h, fun _ _ _ _ h => h, fun _ _ _ _ h => h, fun _ _ _ _ h => h, fun _ _ _ _ h => h, fun _ _ _ _ h => h, fun _ _ _ _ h => h, fun _ _ _ _ h => h, fun _ _ _ _ h => h, fun _ _ _ _ h => h, fun _ _ _ _ h => h, trivial⟩
        refine PtAllS.cons rfl ⟨rfl, rfl⟩ ?_ (PtAllS.cons rfl ⟨rfl, rfl⟩ ?_ (PtAllS.cons rfl ⟨rfl, rfl⟩ ?_ (PtAllS.cons rfl ⟨rfl, rfl⟩ ?_ (PtAllS.cons rfl ⟨rfl, rfl⟩ ?_ (PtAllS.cons rfl ⟨rfl, rfl⟩ ?_ (PtAllS.cons rfl ⟨rfl, rfl⟩ ?_ (PtAllS.cons rfl ⟨rfl, rfl⟩ ?_ (PtAllS.cons rfl ⟨rfl, rfl⟩ ?_ (PtAllS.cons rfl ⟨rfl, rfl⟩ ?_ (PtAllS.cons rfl ⟨rfl, rfl⟩ ?_ (PtAllS.nil rfl)))))))))))
        · intro L a W K hI hn hd hK
          have e7 : a.eval (.tmp 7) = .pointer (some ⟨ga, 0, none⟩) := hI.ev 7 (by show ¬ (7 ∈ [27, 28, 29, 30, 31, 32, 26, 33, 34, 8, 9]); decide) rfl
          exact wp_load_row _ (.tmp 7) rfl (ga) e7 77 (#[.int .i64 0, .int .i64 59]) (0, 0) _ (HBA.out W hI.j) Tryz.underlying77 rfl (by kernel_rfl) (hK _ _ hI.j PtKeep.refl rfl)
        · intro L a W K hI hn hd hK
          have e4 : a.eval (.tmp 4) = .slice (some ⟨gp, 0, none⟩) 5 5 := hI.ev 4 (by show ¬ (4 ∈ [27, 28, 29, 30, 31, 32, 26, 33, 34, 8, 9]); decide) rfl
          exact pt_move _ (by first | exact .inl rfl | exact .inr rfl) _ e4 (hK _ _ hI.j PtKeep.refl rfl)
        · intro L a W K hI hn hd hK
          have e6 : a.eval (.tmp 6) = .int .i64 0 := hI.ev 6 (by show ¬ (6 ∈ [27, 28, 29, 30, 31, 32, 26, 33, 34, 8, 9]); decide) rfl
          exact pt_move _ (by first | exact .inl rfl | exact .inr rfl) _ e6 (hK _ _ hI.j PtKeep.refl rfl)
        · intro L a W K hI hn hd hK
          have e28 : a.eval (.tmp 28) = .slice (some ⟨gp, 0, none⟩) 5 5 := hI.fact 1 28 _ rfl (dep_of hd 1 (by kernel_rfl))
          have e29 : a.eval (.tmp 29) = .int .i64 0 := hI.fact 2 29 _ rfl (dep_of hd 2 (by kernel_rfl))
          exact pt_val (v := .pointer (some ⟨gp, 0, none⟩)) (by unfold execOp; simp only [e28, e29]; kernel_rfl) (hK _ _ hI.j PtKeep.refl rfl)
        · intro L a W K hI hn hd hK
          have e30 : a.eval (.tmp 30) = .pointer (some ⟨gp, 0, none⟩) := hI.fact 3 30 _ rfl (dep_of hd 3 (by kernel_rfl))
          exact pt_load _ (.tmp 30) rfl ⟨gp, 0, none⟩ (.string (strOf pa)) _ e30 (cell_blk (HBP.out W hI.j) 0) Tryz.underlying9 rfl (hK _ _ hI.j PtKeep.refl rfl)
        · intro L a W K hI hn hd hK
          have e27 : a.eval (.tmp 27) = .agg #[.int .i64 0, .int .i64 59] := hI.fact 0 27 _ rfl (dep_of hd 0 (by kernel_rfl))
          have e31 : a.eval (.tmp 31) = .string (strOf pa) := hI.fact 4 31 _ rfl (dep_of hd 4 (by kernel_rfl))
          refine wp_callc (f := 32) (args := #[a.eval (.tmp 27), a.eval (.tmp 31)]) (by kernel_rfl) ?_
          rw [e27, e31]
          refine ((fun W h => HF0.out W (HMA.out.only h (fun e => e))) _ hI.j).mono ?_
          rintro x W' ⟨rfl, ho⟩
          exact ⟨_, rfl, hK _ _ (hI.j.trans ho (fun _ _ e => e.elim)) (hstab.keep ho) rfl⟩
        · intro L a W K hI hn hd hK
          have e32 : a.eval (.tmp 32) = .tuple #[.int .u64 v0, .int .i64 c0] := hI.fact 5 32 _ rfl (dep_of hd 5 (by kernel_rfl))
          exact pt_move _ (by first | exact .inl rfl | exact .inr rfl) _ e32 (hK _ _ hI.j PtKeep.refl rfl)
        · intro L a W K hI hn hd hK
          have e26 : a.eval (.tmp 26) = .tuple #[.int .u64 v0, .int .i64 c0] := hI.fact 6 26 _ rfl (dep_of hd 6 (by kernel_rfl))
          exact pt_val (v := .int .u64 v0) (by unfold execOp; simp only [e26]; kernel_rfl) (hK _ _ hI.j PtKeep.refl rfl)
        · intro L a W K hI hn hd hK
          have e26 : a.eval (.tmp 26) = .tuple #[.int .u64 v0, .int .i64 c0] := hI.fact 6 26 _ rfl (dep_of hd 6 (by kernel_rfl))
          exact pt_val (v := .int .i64 c0) (by unfold execOp; simp only [e26]; kernel_rfl) (hK _ _ hI.j PtKeep.refl rfl)
        · intro L a W K hI hn hd hK
          have e33 : a.eval (.tmp 33) = .int .u64 v0 := hI.fact 7 33 _ rfl (dep_of hd 7 (by kernel_rfl))
          exact pt_move _ (by first | exact .inl rfl | exact .inr rfl) _ e33 (hK _ _ hI.j PtKeep.refl rfl)
        · intro L a W K hI hn hd hK
          have e34 : a.eval (.tmp 34) = .int .i64 c0 := hI.fact 8 34 _ rfl (dep_of hd 8 (by kernel_rfl))
          exact pt_move _ (by first | exact .inl rfl | exact .inr rfl) _ e34 (hK _ _ hI.j PtKeep.refl rfl)
      · intro L a wb hal hj hfs
        dsimp only [PtAll] at hfs
        obtain ⟨f27, f28, f29, f30, f31, f32, f26, f33, f34, f8, f9, -⟩ := hfs
        have hA := hal.turned
        simp only [List.map_cons, List.map_nil, Act.turned, f27, f28, f29, f30, f31, f32, f26, f33, f34, f8, f9] at hA
        simp only [Act.put, List.setIfInBounds_toArray, List.set_cons_zero, List.set_cons_succ] at hA
        clear hal f27 f28 f29 f30 f31 f32 f26 f33 f34 f8 f9
        subst hA
        change wpList _ _ _ [] _ _
        have HBCB := hid (HBC.out _ hj)
        have HBPB := hid (HBP.out _ hj)
        have HOB := hid (HOA.out.trans hj (fun _ _ e => e.elim))
        clear HBC HBP HOA HBA HMA hj
        by_cases hcz : c0 = 0
        rotate_left
        · have hcb : (c0 != 0) = true := bne_iff_ne.2 hcz
          obtain rfl : R = (none, c0) := by have h := HR5.out; rw [if_pos hcz] at h; exact h
          clear HR5 hcz hc0 hc1 hc2 hc3 hc4
          go_wp2_with fail
          go_ret2
          exact ⟨_, rfl, rfl, (HO4.out.trans HOB.out (fun j hj e => by rw [e] at hj; have := HGC.out; omega))⟩
        subst hcz
        have hp0 : wb.cell? ⟨gp, 0, none⟩ = some (.string (strOf pa)) := cell_blk HBPB.out 0
        have ht := HT.out.1
        have hf0 : wb.cell? ⟨gc, 0, none⟩ = some (.int .u64 0) := cell_blk HBCB.out 0
        have hf1 : wb.cell? ⟨gc, 5, none⟩ = some (.bool false) := cell_blk HBCB.out 5
        have hz0 : wb.frozen? ⟨gc, 0, none⟩ = false := frozen_blk HBCB.out 0
        have hz1 : wb.frozen? ⟨gc, 5, none⟩ = false := frozen_blk HBCB.out 5
        have hne : gp ≠ gc := by omega
        go_wp2_with fail
        go_region
        all_goals
          go_wp2_with fail
          go_roundw
          case rel => exact ⟨1, rfl, by omega, fun _ => trivial, fun h => by omega, fun h => by omega, fun h => by omega, fun h => by omega, (blk_set (blk_set HBCB.out 0 (.int .u64 v0)) 5 (.bool b0)).trans (by kernel_rfl), ((HOB.out.setCell _ _ (fun _ => rfl)).setCell _ _ (fun _ => rfl)).drew⟩
          case measure => simp [intOf]
    · have hbr : wr.heap[gc]? = some (.cells #[.int .u64 v0, .int .u64 0, .int .u64 0, .int .u64 0, .int .u64 0, .bool b0, .bool false, .bool false, .bool false, .bool false, .string (strOf s)] 75 (0, 0)) := HBR.out
      have HBR2 := hid hbr
      clear hbr HBR
      have hix : (Instr.index 78 (.agg #[.int .i64 0, .int .i64 59, .int .i64 0, .int .i64 23, .int .i64 1, .int .i64 31, .int .i64 1, .int .i64 12, .int .i64 0, .int .i64 6]) (.int .i64 1)).run Tryz.prog wr = .ok (.agg #[.int .i64 0, .int .i64 23]) wr := by kernel_rfl
      go_upto_region 10 with fail
      clear hix
      obtain ⟨wa, hwa⟩ : ∃ x, wr.alloc (.cells #[.int .i64 0, .int .i64 23] 77) = x := ⟨_, rfl⟩
      rw [hwa]
      have hba : wa.heap[wr.heap.size]? = some (.cells #[.int .i64 0, .int .i64 23] 77 (0, 0)) := by rw [← hwa]; exact blk_new _ _
      have hoa : Only (fun _ => False) wr wa := by rw [← hwa]; exact only_new _ _
      obtain ⟨ga, hga⟩ : ∃ x, wr.heap.size = x := ⟨_, rfl⟩
      rw [hga] at hba ⊢
      have hgl : gc < ga := by rw [← hga]; exact blk_lt HBR2.out
      have HBA : Hid (∀ W, Only (fun _ => False) wa W → W.heap[ga]? = some (.cells #[.int .i64 0, .int .i64 23] 77 (0, 0))) := hid fun W hW => blk_only hba hW (fun e => e)
      have HBP : Hid (∀ W, Only (fun _ => False) wa W → W.heap[gp]? = some (.cells #[.string (strOf pa), .string (strOf pb), .string (strOf pc), .string (strOf pd), .string (strOf pe)] 9 (0, 0))) := hid fun W hW => blk_only HBPR.out (hoa.trans hW (fun _ _ e => e)) (fun e => e)
      have HBC : Hid (∀ W, Only (fun _ => False) wa W → W.heap[gc]? = some (.cells #[.int .u64 v0, .int .u64 0, .int .u64 0, .int .u64 0, .int .u64 0, .bool b0, .bool false, .bool false, .bool false, .bool false, .string (strOf s)] 75 (0, 0))) := hid fun W hW => blk_only HBR2.out (hoa.trans hW (fun _ _ e => e)) (fun e => e)
      have HMA := hid (HMR.out.only hoa (fun e => e))
      have HOA := hid (HOR.out.trans hoa (fun _ _ e => e.elim))
      clear hwa hba hoa hga HBR2 HBPR HMR HOR
      refine region_pt 11 [] (by kernel_rfl) (by kernel_rfl) (by kernel_rfl) [(27, fun _ v => v = .agg #[.int .i64 0, .int .i64 23]), (28, fun _ v => v = .slice (some ⟨gp, 0, none⟩) 5 5), (29, fun _ v => v = .int .i64 1), (30, fun _ v => v = .pointer (some ⟨gp, 1, none⟩)), (31, fun _ v => v = .string (strOf pb)), (32, fun _ v => v = .tuple #[.int .u64 v1, .int .i64 c1]), (26, fun _ v => v = .tuple #[.int .u64 v1, .int .i64 c1]), (33, fun _ v => v = .int .u64 v1), (34, fun _ v => v = .int .i64 c1), (8, fun _ v => v = .int .u64 v1), (9, fun _ v => v = .int .i64 c1)] (fun _ W => Only (fun _ => False) wa W) (by show [27, 28, 29, 30, 31, 32, 26, 33, 34, 8, 9].Nodup; decide) (by show ∀ d ∈ [27, 28, 29, 30, 31, 32, 26, 33, 34, 8, 9], d < 56; decide) ((Only.refl _ _).drew) (.inl rfl) ?_ ?_ ?_
      · exact trivial
      · have hstab : PtStabs (Only (fun _ => False)) [(27, fun _ v => v = .agg #[.int .i64 0, .int .i64 23]), (28, fun _ v => v = .slice (some ⟨gp, 0, none⟩) 5 5), (29, fun _ v => v = .int .i64 1), (30, fun _ v => v = .pointer (some ⟨gp, 1, none⟩)), (31, fun _ v => v = .string (strOf pb)), (32, fun _ v => v = .tuple #[.int .u64 v1, .int .i64 c1]), (26, fun _ v => v = .tuple #[.int .u64 v1, .int .i64 c1]), (33, fun _ v => v = .int .u64 v1), (34, fun _ v => v = .int .i64 c1), (8, fun _ v => v = .int .u64 v1), (9, fun _ v => v = .int .i64 c1)] := ⟨fun _ _ _ _ h => h, fun _ _ _ _ h => h, fun _ _ _ _ h => h, fun _ _ _ _ h => h, fun _ _ _ _ h => h, fun _ _ _ _ h => h, fun _ _ _ _ h => h, fun _ _ _ _ h => h, fun _ _ _ _ h => h, fun _ _ _ _ h => h, fun _ _ _ _ h => h, trivial⟩
        refine PtAllS.cons rfl ⟨rfl, rfl⟩ ?_ (PtAllS.cons rfl ⟨rfl, rfl⟩ ?_ (PtAllS.cons rfl ⟨rfl, rfl⟩ ?_ (PtAllS.cons rfl ⟨rfl, rfl⟩ ?_ (PtAllS.cons rfl ⟨rfl, rfl⟩ ?_ (PtAllS.cons rfl ⟨rfl, rfl⟩ ?_ (PtAllS.cons rfl ⟨rfl, rfl⟩ ?_ (PtAllS.cons rfl ⟨rfl, rfl⟩ ?_ (PtAllS.cons rfl ⟨rfl, rfl⟩ ?_ (PtAllS.cons rfl ⟨rfl, rfl⟩ ?_ (PtAllS.cons rfl ⟨rfl, rfl⟩ ?_ (PtAllS.nil rfl)))))))))))
        · intro L a W K hI hn hd hK
          have e7 : a.eval (.tmp 7) = .pointer (some ⟨ga, 0, none⟩) := hI.ev 7 (by show ¬ (7 ∈ [27, 28, 29, 30, 31, 32, 26, 33, 34, 8, 9]); decide) rfl
          exact wp_load_row _ (.tmp 7) rfl (ga) e7 77 (#[.int .i64 0, .int .i64 23]) (0, 0) _ (HBA.out W hI.j) Tryz.underlying77 rfl (by kernel_rfl) (hK _ _ hI.j PtKeep.refl rfl)
        · intro L a W K hI hn hd hK
          have e4 : a.eval (.tmp 4) = .slice (some ⟨gp, 0, none⟩) 5 5 := hI.ev 4 (by show ¬ (4 ∈ [27, 28, 29, 30, 31, 32, 26, 33, 34, 8, 9]); decide) rfl
          exact pt_move _ (by first | exact .inl rfl | exact .inr rfl) _ e4 (hK _ _ hI.j PtKeep.refl rfl)
        · intro L a W K hI hn hd hK
          have e6 : a.eval (.tmp 6) = .int .i64 1 := hI.ev 6 (by show ¬ (6 ∈ [27, 28, 29, 30, 31, 32, 26, 33, 34, 8, 9]); decide) rfl
          exact pt_move _ (by first | exact .inl rfl | exact .inr rfl) _ e6 (hK _ _ hI.j PtKeep.refl rfl)
        · intro L a W K hI hn hd hK
          have e28 : a.eval (.tmp 28) = .slice (some ⟨gp, 0, none⟩) 5 5 := hI.fact 1 28 _ rfl (dep_of hd 1 (by kernel_rfl))
          have e29 : a.eval (.tmp 29) = .int .i64 1 := hI.fact 2 29 _ rfl (dep_of hd 2 (by kernel_rfl))
          exact pt_val (v := .pointer (some ⟨gp, 1, none⟩)) (by unfold execOp; simp only [e28, e29]; kernel_rfl) (hK _ _ hI.j PtKeep.refl rfl)
        · intro L a W K hI hn hd hK
          have e30 : a.eval (.tmp 30) = .pointer (some ⟨gp, 1, none⟩) := hI.fact 3 30 _ rfl (dep_of hd 3 (by kernel_rfl))
          exact pt_load _ (.tmp 30) rfl ⟨gp, 1, none⟩ (.string (strOf pb)) _ e30 (cell_blk (HBP.out W hI.j) 1) Tryz.underlying9 rfl (hK _ _ hI.j PtKeep.refl rfl)
        · intro L a W K hI hn hd hK
          have e27 : a.eval (.tmp 27) = .agg #[.int .i64 0, .int .i64 23] := hI.fact 0 27 _ rfl (dep_of hd 0 (by kernel_rfl))
          have e31 : a.eval (.tmp 31) = .string (strOf pb) := hI.fact 4 31 _ rfl (dep_of hd 4 (by kernel_rfl))
          refine wp_callc (f := 32) (args := #[a.eval (.tmp 27), a.eval (.tmp 31)]) (by kernel_rfl) ?_
          rw [e27, e31]
          refine ((fun W h => HF1.out W (HMA.out.only h (fun e => e))) _ hI.j).mono ?_
          rintro x W' ⟨rfl, ho⟩
          exact ⟨_, rfl, hK _ _ (hI.j.trans ho (fun _ _ e => e.elim)) (hstab.keep ho) rfl⟩
        · intro L a W K hI hn hd hK
          have e32 : a.eval (.tmp 32) = .tuple #[.int .u64 v1, .int .i64 c1] := hI.fact 5 32 _ rfl (dep_of hd 5 (by kernel_rfl))
          exact pt_move _ (by first | exact .inl rfl | exact .inr rfl) _ e32 (hK _ _ hI.j PtKeep.refl rfl)
        · intro L a W K hI hn hd hK
          have e26 : a.eval (.tmp 26) = .tuple #[.int .u64 v1, .int .i64 c1] := hI.fact 6 26 _ rfl (dep_of hd 6 (by kernel_rfl))
          exact pt_val (v := .int .u64 v1) (by unfold execOp; simp only [e26]; kernel_rfl) (hK _ _ hI.j PtKeep.refl rfl)
        · intro L a W K hI hn hd hK
          have e26 : a.eval (.tmp 26) = .tuple #[.int .u64 v1, .int .i64 c1] := hI.fact 6 26 _ rfl (dep_of hd 6 (by kernel_rfl))
          exact pt_val (v := .int .i64 c1) (by unfold execOp; simp only [e26]; kernel_rfl) (hK _ _ hI.j PtKeep.refl rfl)
        · intro L a W K hI hn hd hK
          have e33 : a.eval (.tmp 33) = .int .u64 v1 := hI.fact 7 33 _ rfl (dep_of hd 7 (by kernel_rfl))
          exact pt_move _ (by first | exact .inl rfl | exact .inr rfl) _ e33 (hK _ _ hI.j PtKeep.refl rfl)
        · intro L a W K hI hn hd hK
          have e34 : a.eval (.tmp 34) = .int .i64 c1 := hI.fact 8 34 _ rfl (dep_of hd 8 (by kernel_rfl))
          exact pt_move _ (by first | exact .inl rfl | exact .inr rfl) _ e34 (hK _ _ hI.j PtKeep.refl rfl)
      · intro L a wb hal hj hfs
        dsimp only [PtAll] at hfs
        obtain ⟨f27, f28, f29, f30, f31, f32, f26, f33, f34, f8, f9, -⟩ := hfs
        have hA := hal.turned
        simp only [List.map_cons, List.map_nil, Act.turned, f27, f28, f29, f30, f31, f32, f26, f33, f34, f8, f9] at hA
        simp only [Act.put, List.setIfInBounds_toArray, List.set_cons_zero, List.set_cons_succ] at hA
        clear hal f27 f28 f29 f30 f31 f32 f26 f33 f34 f8 f9
        subst hA
        change wpList _ _ _ [] _ _
        have HBCB := hid (HBC.out _ hj)
        have HBPB := hid (HBP.out _ hj)
        have HOB := hid (HOA.out.trans hj (fun _ _ e => e.elim))
        clear HBC HBP HOA HBA HMA hj
        by_cases hcz : c1 = 0
        rotate_left
        · have hcb : (c1 != 0) = true := bne_iff_ne.2 hcz
          obtain rfl : R = (none, c1) := by have h := HR5.out; rw [if_neg (by rw [hc0 (by omega)]; simp)] at h; rw [if_pos hcz] at h; exact h
          clear HR5 hcz hc0 hc1 hc2 hc3 hc4
          go_wp2_with fail
          go_ret2
          exact ⟨_, rfl, rfl, (HO4.out.trans HOB.out (fun j hj e => by rw [e] at hj; have := HGC.out; omega))⟩
        subst hcz
        have hp0 : wb.cell? ⟨gp, 1, none⟩ = some (.string (strOf pb)) := cell_blk HBPB.out 1
        have ht := HT.out.2.1
        have hf0 : wb.cell? ⟨gc, 1, none⟩ = some (.int .u64 0) := cell_blk HBCB.out 1
        have hf1 : wb.cell? ⟨gc, 6, none⟩ = some (.bool false) := cell_blk HBCB.out 6
        have hz0 : wb.frozen? ⟨gc, 1, none⟩ = false := frozen_blk HBCB.out 1
        have hz1 : wb.frozen? ⟨gc, 6, none⟩ = false := frozen_blk HBCB.out 6
        have hne : gp ≠ gc := by omega
        go_wp2_with fail
        go_region
        all_goals
          go_wp2_with fail
          go_roundw
          case rel => exact ⟨2, rfl, by omega, fun _ => hc0 (by omega), fun _ => trivial, fun h => by omega, fun h => by omega, fun h => by omega, (blk_set (blk_set HBCB.out 1 (.int .u64 v1)) 6 (.bool b1)).trans (by kernel_rfl), ((HOB.out.setCell _ _ (fun _ => rfl)).setCell _ _ (fun _ => rfl)).drew⟩
          case measure => simp [intOf]
    · have hbr : wr.heap[gc]? = some (.cells #[.int .u64 v0, .int .u64 v1, .int .u64 0, .int .u64 0, .int .u64 0, .bool b0, .bool b1, .bool false, .bool false, .bool false, .string (strOf s)] 75 (0, 0)) := HBR.out
      have HBR2 := hid hbr
      clear hbr HBR
      have hix : (Instr.index 78 (.agg #[.int .i64 0, .int .i64 59, .int .i64 0, .int .i64 23, .int .i64 1, .int .i64 31, .int .i64 1, .int .i64 12, .int .i64 0, .int .i64 6]) (.int .i64 2)).run Tryz.prog wr = .ok (.agg #[.int .i64 1, .int .i64 31]) wr := by kernel_rfl
      go_upto_region 10 with fail
      clear hix
      obtain ⟨wa, hwa⟩ : ∃ x, wr.alloc (.cells #[.int .i64 1, .int .i64 31] 77) = x := ⟨_, rfl⟩
      rw [hwa]
      have hba : wa.heap[wr.heap.size]? = some (.cells #[.int .i64 1, .int .i64 31] 77 (0, 0)) := by rw [← hwa]; exact blk_new _ _
      have hoa : Only (fun _ => False) wr wa := by rw [← hwa]; exact only_new _ _
      obtain ⟨ga, hga⟩ : ∃ x, wr.heap.size = x := ⟨_, rfl⟩
      rw [hga] at hba ⊢
      have hgl : gc < ga := by rw [← hga]; exact blk_lt HBR2.out
      have HBA : Hid (∀ W, Only (fun _ => False) wa W → W.heap[ga]? = some (.cells #[.int .i64 1, .int .i64 31] 77 (0, 0))) := hid fun W hW => blk_only hba hW (fun e => e)
      have HBP : Hid (∀ W, Only (fun _ => False) wa W → W.heap[gp]? = some (.cells #[.string (strOf pa), .string (strOf pb), .string (strOf pc), .string (strOf pd), .string (strOf pe)] 9 (0, 0))) := hid fun W hW => blk_only HBPR.out (hoa.trans hW (fun _ _ e => e)) (fun e => e)
      have HBC : Hid (∀ W, Only (fun _ => False) wa W → W.heap[gc]? = some (.cells #[.int .u64 v0, .int .u64 v1, .int .u64 0, .int .u64 0, .int .u64 0, .bool b0, .bool b1, .bool false, .bool false, .bool false, .string (strOf s)] 75 (0, 0))) := hid fun W hW => blk_only HBR2.out (hoa.trans hW (fun _ _ e => e)) (fun e => e)
      have HMA := hid (HMR.out.only hoa (fun e => e))
      have HOA := hid (HOR.out.trans hoa (fun _ _ e => e.elim))
      clear hwa hba hoa hga HBR2 HBPR HMR HOR
      refine region_pt 11 [] (by kernel_rfl) (by kernel_rfl) (by kernel_rfl) [(27, fun _ v => v = .agg #[.int .i64 1, .int .i64 31]), (28, fun _ v => v = .slice (some ⟨gp, 0, none⟩) 5 5), (29, fun _ v => v = .int .i64 2), (30, fun _ v => v = .pointer (some ⟨gp, 2, none⟩)), (31, fun _ v => v = .string (strOf pc)), (32, fun _ v => v = .tuple #[.int .u64 v2, .int .i64 c2]), (26, fun _ v => v = .tuple #[.int .u64 v2, .int .i64 c2]), (33, fun _ v => v = .int .u64 v2), (34, fun _ v => v = .int .i64 c2), (8, fun _ v => v = .int .u64 v2), (9, fun _ v => v = .int .i64 c2)] (fun _ W => Only (fun _ => False) wa W) (by show [27, 28, 29, 30, 31, 32, 26, 33, 34, 8, 9].Nodup; decide) (by show ∀ d ∈ [27, 28, 29, 30, 31, 32, 26, 33, 34, 8, 9], d < 56; decide) ((Only.refl _ _).drew) (.inl rfl) ?_ ?_ ?_
      · exact trivial
      · have hstab : PtStabs (Only (fun _ => False)) [(27, fun _ v => v = .agg #[.int .i64 1, .int .i64 31]), (28, fun _ v => v = .slice (some ⟨gp, 0, none⟩) 5 5), (29, fun _ v => v = .int .i64 2), (30, fun _ v => v = .pointer (some ⟨gp, 2, none⟩)), (31, fun _ v => v = .string (strOf pc)), (32, fun _ v => v = .tuple #[.int .u64 v2, .int .i64 c2]), (26, fun _ v => v = .tuple #[.int .u64 v2, .int .i64 c2]), (33, fun _ v => v = .int .u64 v2), (34, fun _ v => v = .int .i64 c2), (8, fun _ v => v = .int .u64 v2), (9, fun _ v => v = .int .i64 c2)] := ⟨fun _ _ _ _ h => h, fun _ _ _ _ h => h, fun _ _ _ _ h => h, fun _ _ _ _ h => h, fun _ _ _ _ h => h, fun _ _ _ _ h => h, fun _ _ _ _ h => h, fun _ _ _ _ h => h, fun _ _ _ _ h => h, fun _ _ _ _ h => h, fun _ _ _ _ h => h, trivial⟩
        refine PtAllS.cons rfl ⟨rfl, rfl⟩ ?_ (PtAllS.cons rfl ⟨rfl, rfl⟩ ?_ (PtAllS.cons rfl ⟨rfl, rfl⟩ ?_ (PtAllS.cons rfl ⟨rfl, rfl⟩ ?_ (PtAllS.cons rfl ⟨rfl, rfl⟩ ?_ (PtAllS.cons rfl ⟨rfl, rfl⟩ ?_ (PtAllS.cons rfl ⟨rfl, rfl⟩ ?_ (PtAllS.cons rfl ⟨rfl, rfl⟩ ?_ (PtAllS.cons rfl ⟨rfl, rfl⟩ ?_ (PtAllS.cons rfl ⟨rfl, rfl⟩ ?_ (PtAllS.cons rfl ⟨rfl, rfl⟩ ?_ (PtAllS.nil rfl)))))))))))
        · intro L a W K hI hn hd hK
          have e7 : a.eval (.tmp 7) = .pointer (some ⟨ga, 0, none⟩) := hI.ev 7 (by show ¬ (7 ∈ [27, 28, 29, 30, 31, 32, 26, 33, 34, 8, 9]); decide) rfl
          exact wp_load_row _ (.tmp 7) rfl (ga) e7 77 (#[.int .i64 1, .int .i64 31]) (0, 0) _ (HBA.out W hI.j) Tryz.underlying77 rfl (by kernel_rfl) (hK _ _ hI.j PtKeep.refl rfl)
        · intro L a W K hI hn hd hK
          have e4 : a.eval (.tmp 4) = .slice (some ⟨gp, 0, none⟩) 5 5 := hI.ev 4 (by show ¬ (4 ∈ [27, 28, 29, 30, 31, 32, 26, 33, 34, 8, 9]); decide) rfl
          exact pt_move _ (by first | exact .inl rfl | exact .inr rfl) _ e4 (hK _ _ hI.j PtKeep.refl rfl)
        · intro L a W K hI hn hd hK
          have e6 : a.eval (.tmp 6) = .int .i64 2 := hI.ev 6 (by show ¬ (6 ∈ [27, 28, 29, 30, 31, 32, 26, 33, 34, 8, 9]); decide) rfl
          exact pt_move _ (by first | exact .inl rfl | exact .inr rfl) _ e6 (hK _ _ hI.j PtKeep.refl rfl)
        · intro L a W K hI hn hd hK
          have e28 : a.eval (.tmp 28) = .slice (some ⟨gp, 0, none⟩) 5 5 := hI.fact 1 28 _ rfl (dep_of hd 1 (by kernel_rfl))
          have e29 : a.eval (.tmp 29) = .int .i64 2 := hI.fact 2 29 _ rfl (dep_of hd 2 (by kernel_rfl))
          exact pt_val (v := .pointer (some ⟨gp, 2, none⟩)) (by unfold execOp; simp only [e28, e29]; kernel_rfl) (hK _ _ hI.j PtKeep.refl rfl)
        · intro L a W K hI hn hd hK
          have e30 : a.eval (.tmp 30) = .pointer (some ⟨gp, 2, none⟩) := hI.fact 3 30 _ rfl (dep_of hd 3 (by kernel_rfl))
          exact pt_load _ (.tmp 30) rfl ⟨gp, 2, none⟩ (.string (strOf pc)) _ e30 (cell_blk (HBP.out W hI.j) 2) Tryz.underlying9 rfl (hK _ _ hI.j PtKeep.refl rfl)
        · intro L a W K hI hn hd hK
          have e27 : a.eval (.tmp 27) = .agg #[.int .i64 1, .int .i64 31] := hI.fact 0 27 _ rfl (dep_of hd 0 (by kernel_rfl))
          have e31 : a.eval (.tmp 31) = .string (strOf pc) := hI.fact 4 31 _ rfl (dep_of hd 4 (by kernel_rfl))
          refine wp_callc (f := 32) (args := #[a.eval (.tmp 27), a.eval (.tmp 31)]) (by kernel_rfl) ?_
          rw [e27, e31]
          refine ((fun W h => HF2.out W (HMA.out.only h (fun e => e))) _ hI.j).mono ?_
          rintro x W' ⟨rfl, ho⟩
          exact ⟨_, rfl, hK _ _ (hI.j.trans ho (fun _ _ e => e.elim)) (hstab.keep ho) rfl⟩
        · intro L a W K hI hn hd hK
          have e32 : a.eval (.tmp 32) = .tuple #[.int .u64 v2, .int .i64 c2] := hI.fact 5 32 _ rfl (dep_of hd 5 (by kernel_rfl))
          exact pt_move _ (by first | exact .inl rfl | exact .inr rfl) _ e32 (hK _ _ hI.j PtKeep.refl rfl)
        · intro L a W K hI hn hd hK
          have e26 : a.eval (.tmp 26) = .tuple #[.int .u64 v2, .int .i64 c2] := hI.fact 6 26 _ rfl (dep_of hd 6 (by kernel_rfl))
          exact pt_val (v := .int .u64 v2) (by unfold execOp; simp only [e26]; kernel_rfl) (hK _ _ hI.j PtKeep.refl rfl)
        · intro L a W K hI hn hd hK
          have e26 : a.eval (.tmp 26) = .tuple #[.int .u64 v2, .int .i64 c2] := hI.fact 6 26 _ rfl (dep_of hd 6 (by kernel_rfl))
          exact pt_val (v := .int .i64 c2) (by unfold execOp; simp only [e26]; kernel_rfl) (hK _ _ hI.j PtKeep.refl rfl)
        · intro L a W K hI hn hd hK
          have e33 : a.eval (.tmp 33) = .int .u64 v2 := hI.fact 7 33 _ rfl (dep_of hd 7 (by kernel_rfl))
          exact pt_move _ (by first | exact .inl rfl | exact .inr rfl) _ e33 (hK _ _ hI.j PtKeep.refl rfl)
        · intro L a W K hI hn hd hK
          have e34 : a.eval (.tmp 34) = .int .i64 c2 := hI.fact 8 34 _ rfl (dep_of hd 8 (by kernel_rfl))
          exact pt_move _ (by first | exact .inl rfl | exact .inr rfl) _ e34 (hK _ _ hI.j PtKeep.refl rfl)
      · intro L a wb hal hj hfs
        dsimp only [PtAll] at hfs
        obtain ⟨f27, f28, f29, f30, f31, f32, f26, f33, f34, f8, f9, -⟩ := hfs
        have hA := hal.turned
        simp only [List.map_cons, List.map_nil, Act.turned, f27, f28, f29, f30, f31, f32, f26, f33, f34, f8, f9] at hA
        simp only [Act.put, List.setIfInBounds_toArray, List.set_cons_zero, List.set_cons_succ] at hA
        clear hal f27 f28 f29 f30 f31 f32 f26 f33 f34 f8 f9
        subst hA
        change wpList _ _ _ [] _ _
        have HBCB := hid (HBC.out _ hj)
        have HBPB := hid (HBP.out _ hj)
        have HOB := hid (HOA.out.trans hj (fun _ _ e => e.elim))
        clear HBC HBP HOA HBA HMA hj
        by_cases hcz : c2 = 0
        rotate_left
        · have hcb : (c2 != 0) = true := bne_iff_ne.2 hcz
          obtain rfl : R = (none, c2) := by have h := HR5.out; rw [if_neg (by rw [hc0 (by omega)]; simp)] at h; rw [if_neg (by rw [hc1 (by omega)]; simp)] at h; rw [if_pos hcz] at h; exact h
          clear HR5 hcz hc0 hc1 hc2 hc3 hc4
          go_wp2_with fail
          go_ret2
          exact ⟨_, rfl, rfl, (HO4.out.trans HOB.out (fun j hj e => by rw [e] at hj; have := HGC.out; omega))⟩
        subst hcz
        have hp0 : wb.cell? ⟨gp, 2, none⟩ = some (.string (strOf pc)) := cell_blk HBPB.out 2
        have ht := HT.out.2.2.1
        have hf0 : wb.cell? ⟨gc, 2, none⟩ = some (.int .u64 0) := cell_blk HBCB.out 2
        have hf1 : wb.cell? ⟨gc, 7, none⟩ = some (.bool false) := cell_blk HBCB.out 7
        have hz0 : wb.frozen? ⟨gc, 2, none⟩ = false := frozen_blk HBCB.out 2
        have hz1 : wb.frozen? ⟨gc, 7, none⟩ = false := frozen_blk HBCB.out 7
        have hne : gp ≠ gc := by omega
        go_wp2_with fail
        go_region
        all_goals
          go_wp2_with fail
          go_roundw
          case rel => exact ⟨3, rfl, by omega, fun _ => hc0 (by omega), fun _ => hc1 (by omega), fun _ => trivial, fun h => by omega, fun h => by omega, (blk_set (blk_set HBCB.out 2 (.int .u64 v2)) 7 (.bool b2)).trans (by kernel_rfl), ((HOB.out.setCell _ _ (fun _ => rfl)).setCell _ _ (fun _ => rfl)).drew⟩
          case measure => simp [intOf]
    · have hbr : wr.heap[gc]? = some (.cells #[.int .u64 v0, .int .u64 v1, .int .u64 v2, .int .u64 0, .int .u64 0, .bool b0, .bool b1, .bool b2, .bool false, .bool false, .string (strOf s)] 75 (0, 0)) := HBR.out
      have HBR2 := hid hbr
      clear hbr HBR
      have hix : (Instr.index 78 (.agg #[.int .i64 0, .int .i64 59, .int .i64 0, .int .i64 23, .int .i64 1, .int .i64 31, .int .i64 1, .int .i64 12, .int .i64 0, .int .i64 6]) (.int .i64 3)).run Tryz.prog wr = .ok (.agg #[.int .i64 1, .int .i64 12]) wr := by kernel_rfl
      go_upto_region 10 with fail
      clear hix
      obtain ⟨wa, hwa⟩ : ∃ x, wr.alloc (.cells #[.int .i64 1, .int .i64 12] 77) = x := ⟨_, rfl⟩
      rw [hwa]
      have hba : wa.heap[wr.heap.size]? = some (.cells #[.int .i64 1, .int .i64 12] 77 (0, 0)) := by rw [← hwa]; exact blk_new _ _
      have hoa : Only (fun _ => False) wr wa := by rw [← hwa]; exact only_new _ _
      obtain ⟨ga, hga⟩ : ∃ x, wr.heap.size = x := ⟨_, rfl⟩
      rw [hga] at hba ⊢
      have hgl : gc < ga := by rw [← hga]; exact blk_lt HBR2.out
      have HBA : Hid (∀ W, Only (fun _ => False) wa W → W.heap[ga]? = some (.cells #[.int .i64 1, .int .i64 12] 77 (0, 0))) := hid fun W hW => blk_only hba hW (fun e => e)
      have HBP : Hid (∀ W, Only (fun _ => False) wa W → W.heap[gp]? = some (.cells #[.string (strOf pa), .string (strOf pb), .string (strOf pc), .string (strOf pd), .string (strOf pe)] 9 (0, 0))) := hid fun W hW => blk_only HBPR.out (hoa.trans hW (fun _ _ e => e)) (fun e => e)
      have HBC : Hid (∀ W, Only (fun _ => False) wa W → W.heap[gc]? = some (.cells #[.int .u64 v0, .int .u64 v1, .int .u64 v2, .int .u64 0, .int .u64 0, .bool b0, .bool b1, .bool b2, .bool false, .bool false, .string (strOf s)] 75 (0, 0))) := hid fun W hW => blk_only HBR2.out (hoa.trans hW (fun _ _ e => e)) (fun e => e)
      have HMA := hid (HMR.out.only hoa (fun e => e))
      have HOA := hid (HOR.out.trans hoa (fun _ _ e => e.elim))
      clear hwa hba hoa hga HBR2 HBPR HMR HOR
      refine region_pt 11 [] (by kernel_rfl) (by kernel_rfl) (by kernel_rfl) [(27, fun _ v => v = .agg #[.int .i64 1, .int .i64 12]), (28, fun _ v => v = .slice (some ⟨gp, 0, none⟩) 5 5), (29, fun _ v => v = .int .i64 3), (30, fun _ v => v = .pointer (some ⟨gp, 3, none⟩)), (31, fun _ v => v = .string (strOf pd)), (32, fun _ v => v = .tuple #[.int .u64 v3, .int .i64 c3]), (26, fun _ v => v = .tuple #[.int .u64 v3, .int .i64 c3]), (33, fun _ v => v = .int .u64 v3), (34, fun _ v => v = .int .i64 c3), (8, fun _ v => v = .int .u64 v3), (9, fun _ v => v = .int .i64 c3)] (fun _ W => Only (fun _ => False) wa W) (by show [27, 28, 29, 30, 31, 32, 26, 33, 34, 8, 9].Nodup; decide) (by show ∀ d ∈ [27, 28, 29, 30, 31, 32, 26, 33, 34, 8, 9], d < 56; decide) ((Only.refl _ _).drew) (.inl rfl) ?_ ?_ ?_
      · exact trivial
      · have hstab : PtStabs (Only (fun _ => False)) [(27, fun _ v => v = .agg #[.int .i64 1, .int .i64 12]), (28, fun _ v => v = .slice (some ⟨gp, 0, none⟩) 5 5), (29, fun _ v => v = .int .i64 3), (30, fun _ v => v = .pointer (some ⟨gp, 3, none⟩)), (31, fun _ v => v = .string (strOf pd)), (32, fun _ v => v = .tuple #[.int .u64 v3, .int .i64 c3]), (26, fun _ v => v = .tuple #[.int .u64 v3, .int .i64 c3]), (33, fun _ v => v = .int .u64 v3), (34, fun _ v => v = .int .i64 c3), (8, fun _ v => v = .int .u64 v3), (9, fun _ v => v = .int .i64 c3)] := ⟨fun _ _ _ _ h => h, fun _ _ _ _ h => h, fun _ _ _ _ h => h, fun _ _ _ _ h => h, fun _ _ _ _ h => h, fun _ _ _ _ h => h, fun _ _ _ _ h => h, fun _ _ _ _ h => h, fun _ _ _ _ h => h, fun _ _ _ _ h => h, fun _ _ _ _ h => h, trivial⟩
        refine PtAllS.cons rfl ⟨rfl, rfl⟩ ?_ (PtAllS.cons rfl ⟨rfl, rfl⟩ ?_ (PtAllS.cons rfl ⟨rfl, rfl⟩ ?_ (PtAllS.cons rfl ⟨rfl, rfl⟩ ?_ (PtAllS.cons rfl ⟨rfl, rfl⟩ ?_ (PtAllS.cons rfl ⟨rfl, rfl⟩ ?_ (PtAllS.cons rfl ⟨rfl, rfl⟩ ?_ (PtAllS.cons rfl ⟨rfl, rfl⟩ ?_ (PtAllS.cons rfl ⟨rfl, rfl⟩ ?_ (PtAllS.cons rfl ⟨rfl, rfl⟩ ?_ (PtAllS.cons rfl ⟨rfl, rfl⟩ ?_ (PtAllS.nil rfl)))))))))))
        · intro L a W K hI hn hd hK
          have e7 : a.eval (.tmp 7) = .pointer (some ⟨ga, 0, none⟩) := hI.ev 7 (by show ¬ (7 ∈ [27, 28, 29, 30, 31, 32, 26, 33, 34, 8, 9]); decide) rfl
          exact wp_load_row _ (.tmp 7) rfl (ga) e7 77 (#[.int .i64 1, .int .i64 12]) (0, 0) _ (HBA.out W hI.j) Tryz.underlying77 rfl (by kernel_rfl) (hK _ _ hI.j PtKeep.refl rfl)
        · intro L a W K hI hn hd hK
          have e4 : a.eval (.tmp 4) = .slice (some ⟨gp, 0, none⟩) 5 5 := hI.ev 4 (by show ¬ (4 ∈ [27, 28, 29, 30, 31, 32, 26, 33, 34, 8, 9]); decide) rfl
          exact pt_move _ (by first | exact .inl rfl | exact .inr rfl) _ e4 (hK _ _ hI.j PtKeep.refl rfl)
        · intro L a W K hI hn hd hK
          have e6 : a.eval (.tmp 6) = .int .i64 3 := hI.ev 6 (by show ¬ (6 ∈ [27, 28, 29, 30, 31, 32, 26, 33, 34, 8, 9]); decide) rfl
          exact pt_move _ (by first | exact .inl rfl | exact .inr rfl) _ e6 (hK _ _ hI.j PtKeep.refl rfl)
        · intro L a W K hI hn hd hK
          have e28 : a.eval (.tmp 28) = .slice (some ⟨gp, 0, none⟩) 5 5 := hI.fact 1 28 _ rfl (dep_of hd 1 (by kernel_rfl))
          have e29 : a.eval (.tmp 29) = .int .i64 3 := hI.fact 2 29 _ rfl (dep_of hd 2 (by kernel_rfl))
          exact pt_val (v := .pointer (some ⟨gp, 3, none⟩)) (by unfold execOp; simp only [e28, e29]; kernel_rfl) (hK _ _ hI.j PtKeep.refl rfl)
        · intro L a W K hI hn hd hK
          have e30 : a.eval (.tmp 30) = .pointer (some ⟨gp, 3, none⟩) := hI.fact 3 30 _ rfl (dep_of hd 3 (by kernel_rfl))
          exact pt_load _ (.tmp 30) rfl ⟨gp, 3, none⟩ (.string (strOf pd)) _ e30 (cell_blk (HBP.out W hI.j) 3) Tryz.underlying9 rfl (hK _ _ hI.j PtKeep.refl rfl)
        · intro L a W K hI hn hd hK
          have e27 : a.eval (.tmp 27) = .agg #[.int .i64 1, .int .i64 12] := hI.fact 0 27 _ rfl (dep_of hd 0 (by kernel_rfl))
          have e31 : a.eval (.tmp 31) = .string (strOf pd) := hI.fact 4 31 _ rfl (dep_of hd 4 (by kernel_rfl))
          refine wp_callc (f := 32) (args := #[a.eval (.tmp 27), a.eval (.tmp 31)]) (by kernel_rfl) ?_
          rw [e27, e31]
          refine ((fun W h => HF3.out W (HMA.out.only h (fun e => e))) _ hI.j).mono ?_
          rintro x W' ⟨rfl, ho⟩
          exact ⟨_, rfl, hK _ _ (hI.j.trans ho (fun _ _ e => e.elim)) (hstab.keep ho) rfl⟩
        · intro L a W K hI hn hd hK
          have e32 : a.eval (.tmp 32) = .tuple #[.int .u64 v3, .int .i64 c3] := hI.fact 5 32 _ rfl (dep_of hd 5 (by kernel_rfl))
          exact pt_move _ (by first | exact .inl rfl | exact .inr rfl) _ e32 (hK _ _ hI.j PtKeep.refl rfl)
        · intro L a W K hI hn hd hK
          have e26 : a.eval (.tmp 26) = .tuple #[.int .u64 v3, .int .i64 c3] := hI.fact 6 26 _ rfl (dep_of hd 6 (by kernel_rfl))
          exact pt_val (v := .int .u64 v3) (by unfold execOp; simp only [e26]; kernel_rfl) (hK _ _ hI.j PtKeep.refl rfl)
        · intro L a W K hI hn hd hK
          have e26 : a.eval (.tmp 26) = .tuple #[.int .u64 v3, .int .i64 c3] := hI.fact 6 26 _ rfl (dep_of hd 6 (by kernel_rfl))
          exact pt_val (v := .int .i64 c3) (by unfold execOp; simp only [e26]; kernel_rfl) (hK _ _ hI.j PtKeep.refl rfl)
        · intro L a W K hI hn hd hK
          have e33 : a.eval (.tmp 33) = .int .u64 v3 := hI.fact 7 33 _ rfl (dep_of hd 7 (by kernel_rfl))
          exact pt_move _ (by first | exact .inl rfl | exact .inr rfl) _ e33 (hK _ _ hI.j PtKeep.refl rfl)
        · intro L a W K hI hn hd hK
          have e34 : a.eval (.tmp 34) = .int .i64 c3 := hI.fact 8 34 _ rfl (dep_of hd 8 (by kernel_rfl))
          exact pt_move _ (by first | exact .inl rfl | exact .inr rfl) _ e34 (hK _ _ hI.j PtKeep.refl rfl)
      · intro L a wb hal hj hfs
        dsimp only [PtAll] at hfs
        obtain ⟨f27, f28, f29, f30, f31, f32, f26, f33, f34, f8, f9, -⟩ := hfs
        have hA := hal.turned
        simp only [List.map_cons, List.map_nil, Act.turned, f27, f28, f29, f30, f31, f32, f26, f33, f34, f8, f9] at hA
        simp only [Act.put, List.setIfInBounds_toArray, List.set_cons_zero, List.set_cons_succ] at hA
        clear hal f27 f28 f29 f30 f31 f32 f26 f33 f34 f8 f9
        subst hA
        change wpList _ _ _ [] _ _
        have HBCB := hid (HBC.out _ hj)
        have HBPB := hid (HBP.out _ hj)
        have HOB := hid (HOA.out.trans hj (fun _ _ e => e.elim))
        clear HBC HBP HOA HBA HMA hj
        by_cases hcz : c3 = 0
        rotate_left
        · have hcb : (c3 != 0) = true := bne_iff_ne.2 hcz
          obtain rfl : R = (none, c3) := by have h := HR5.out; rw [if_neg (by rw [hc0 (by omega)]; simp)] at h; rw [if_neg (by rw [hc1 (by omega)]; simp)] at h; rw [if_neg (by rw [hc2 (by omega)]; simp)] at h; rw [if_pos hcz] at h; exact h
          clear HR5 hcz hc0 hc1 hc2 hc3 hc4
          go_wp2_with fail
          go_ret2
          exact ⟨_, rfl, rfl, (HO4.out.trans HOB.out (fun j hj e => by rw [e] at hj; have := HGC.out; omega))⟩
        subst hcz
        have hp0 : wb.cell? ⟨gp, 3, none⟩ = some (.string (strOf pd)) := cell_blk HBPB.out 3
        have ht := HT.out.2.2.2.1
        have hf0 : wb.cell? ⟨gc, 3, none⟩ = some (.int .u64 0) := cell_blk HBCB.out 3
        have hf1 : wb.cell? ⟨gc, 8, none⟩ = some (.bool false) := cell_blk HBCB.out 8
        have hz0 : wb.frozen? ⟨gc, 3, none⟩ = false := frozen_blk HBCB.out 3
        have hz1 : wb.frozen? ⟨gc, 8, none⟩ = false := frozen_blk HBCB.out 8
        have hne : gp ≠ gc := by omega
        go_wp2_with fail
        go_region
        all_goals
          go_wp2_with fail
          go_roundw
          case rel => exact ⟨4, rfl, by omega, fun _ => hc0 (by omega), fun _ => hc1 (by omega), fun _ => hc2 (by omega), fun _ => trivial, fun h => by omega, (blk_set (blk_set HBCB.out 3 (.int .u64 v3)) 8 (.bool b3)).trans (by kernel_rfl), ((HOB.out.setCell _ _ (fun _ => rfl)).setCell _ _ (fun _ => rfl)).drew⟩
          case measure => simp [intOf]
    · have hbr : wr.heap[gc]? = some (.cells #[.int .u64 v0, .int .u64 v1, .int .u64 v2, .int .u64 v3, .int .u64 0, .bool b0, .bool b1, .bool b2, .bool b3, .bool false, .string (strOf s)] 75 (0, 0)) := HBR.out
      have HBR2 := hid hbr
      clear hbr HBR
      have hix : (Instr.index 78 (.agg #[.int .i64 0, .int .i64 59, .int .i64 0, .int .i64 23, .int .i64 1, .int .i64 31, .int .i64 1, .int .i64 12, .int .i64 0, .int .i64 6]) (.int .i64 4)).run Tryz.prog wr = .ok (.agg #[.int .i64 0, .int .i64 6]) wr := by kernel_rfl
      go_upto_region 10 with fail
      clear hix
      obtain ⟨wa, hwa⟩ : ∃ x, wr.alloc (.cells #[.int .i64 0, .int .i64 6] 77) = x := ⟨_, rfl⟩
      rw [hwa]
      have hba : wa.heap[wr.heap.size]? = some (.cells #[.int .i64 0, .int .i64 6] 77 (0, 0)) := by rw [← hwa]; exact blk_new _ _
      have hoa : Only (fun _ => False) wr wa := by rw [← hwa]; exact only_new _ _
      obtain ⟨ga, hga⟩ : ∃ x, wr.heap.size = x := ⟨_, rfl⟩
      rw [hga] at hba ⊢
      have hgl : gc < ga := by rw [← hga]; exact blk_lt HBR2.out
      have HBA : Hid (∀ W, Only (fun _ => False) wa W → W.heap[ga]? = some (.cells #[.int .i64 0, .int .i64 6] 77 (0, 0))) := hid fun W hW => blk_only hba hW (fun e => e)
      have HBP : Hid (∀ W, Only (fun _ => False) wa W → W.heap[gp]? = some (.cells #[.string (strOf pa), .string (strOf pb), .string (strOf pc), .string (strOf pd), .string (strOf pe)] 9 (0, 0))) := hid fun W hW => blk_only HBPR.out (hoa.trans hW (fun _ _ e => e)) (fun e => e)
      have HBC : Hid (∀ W, Only (fun _ => False) wa W → W.heap[gc]? = some (.cells #[.int .u64 v0, .int .u64 v1, .int .u64 v2, .int .u64 v3, .int .u64 0, .bool b0, .bool b1, .bool b2, .bool b3, .bool false, .string (strOf s)] 75 (0, 0))) := hid fun W hW => blk_only HBR2.out (hoa.trans hW (fun _ _ e => e)) (fun e => e)
      have HMA := hid (HMR.out.only hoa (fun e => e))
      have HOA := hid (HOR.out.trans hoa (fun _ _ e => e.elim))
      clear hwa hba hoa hga HBR2 HBPR HMR HOR
      refine region_pt 11 [] (by kernel_rfl) (by kernel_rfl) (by kernel_rfl) [(27, fun _ v => v = .agg #[.int .i64 0, .int .i64 6]), (28, fun _ v => v = .slice (some ⟨gp, 0, none⟩) 5 5), (29, fun _ v => v = .int .i64 4), (30, fun _ v => v = .pointer (some ⟨gp, 4, none⟩)), (31, fun _ v => v = .string (strOf pe)), (32, fun _ v => v = .tuple #[.int .u64 v4, .int .i64 c4]), (26, fun _ v => v = .tuple #[.int .u64 v4, .int .i64 c4]), (33, fun _ v => v = .int .u64 v4), (34, fun _ v => v = .int .i64 c4), (8, fun _ v => v = .int .u64 v4), (9, fun _ v => v = .int .i64 c4)] (fun _ W => Only (fun _ => False) wa W) (by show [27, 28, 29, 30, 31, 32, 26, 33, 34, 8, 9].Nodup; decide) (by show ∀ d ∈ [27, 28, 29, 30, 31, 32, 26, 33, 34, 8, 9], d < 56; decide) ((Only.refl _ _).drew) (.inl rfl) ?_ ?_ ?_
      · exact trivial
      · have hstab : PtStabs (Only (fun _ => False)) [(27, fun _ v => v = .agg #[.int .i64 0, .int .i64 6]), (28, fun _ v => v = .slice (some ⟨gp, 0, none⟩) 5 5), (29, fun _ v => v = .int .i64 4), (30, fun _ v => v = .pointer (some ⟨gp, 4, none⟩)), (31, fun _ v => v = .string (strOf pe)), (32, fun _ v => v = .tuple #[.int .u64 v4, .int .i64 c4]), (26, fun _ v => v = .tuple #[.int .u64 v4, .int .i64 c4]), (33, fun _ v => v = .int .u64 v4), (34, fun _ v => v = .int .i64 c4), (8, fun _ v => v = .int .u64 v4), (9, fun _ v => v = .int .i64 c4)] := ⟨fun _ _ _ _ h => h, fun _ _ _ _ h => h, fun _ _ _ _ h => h, fun _ _ _ _ h => h, fun _ _ _ _ h => h, fun _ _ _ _ h => h, fun _ _ _ _ h => h, fun _ _ _ _ h => h, fun _ _ _ _ h => h, fun _ _ _ _ h => h, fun _ _ _ _ h => h, trivial⟩
        refine PtAllS.cons rfl ⟨rfl, rfl⟩ ?_ (PtAllS.cons rfl ⟨rfl, rfl⟩ ?_ (PtAllS.cons rfl ⟨rfl, rfl⟩ ?_ (PtAllS.cons rfl ⟨rfl, rfl⟩ ?_ (PtAllS.cons rfl ⟨rfl, rfl⟩ ?_ (PtAllS.cons rfl ⟨rfl, rfl⟩ ?_ (PtAllS.cons rfl ⟨rfl, rfl⟩ ?_ (PtAllS.cons rfl ⟨rfl, rfl⟩ ?_ (PtAllS.cons rfl ⟨rfl, rfl⟩ ?_ (PtAllS.cons rfl ⟨rfl, rfl⟩ ?_ (PtAllS.cons rfl ⟨rfl, rfl⟩ ?_ (PtAllS.nil rfl)))))))))))
        · intro L a W K hI hn hd hK
          have e7 : a.eval (.tmp 7) = .pointer (some ⟨ga, 0, none⟩) := hI.ev 7 (by show ¬ (7 ∈ [27, 28, 29, 30, 31, 32, 26, 33, 34, 8, 9]); decide) rfl
          exact wp_load_row _ (.tmp 7) rfl (ga) e7 77 (#[.int .i64 0, .int .i64 6]) (0, 0) _ (HBA.out W hI.j) Tryz.underlying77 rfl (by kernel_rfl) (hK _ _ hI.j PtKeep.refl rfl)
        · intro L a W K hI hn hd hK
          have e4 : a.eval (.tmp 4) = .slice (some ⟨gp, 0, none⟩) 5 5 := hI.ev 4 (by show ¬ (4 ∈ [27, 28, 29, 30, 31, 32, 26, 33, 34, 8, 9]); decide) rfl
          exact pt_move _ (by first | exact .inl rfl | exact .inr rfl) _ e4 (hK _ _ hI.j PtKeep.refl rfl)
        · intro L a W K hI hn hd hK
          have e6 : a.eval (.tmp 6) = .int .i64 4 := hI.ev 6 (by show ¬ (6 ∈ [27, 28, 29, 30, 31, 32, 26, 33, 34, 8, 9]); decide) rfl
          exact pt_move _ (by first | exact .inl rfl | exact .inr rfl) _ e6 (hK _ _ hI.j PtKeep.refl rfl)
        · intro L a W K hI hn hd hK
          have e28 : a.eval (.tmp 28) = .slice (some ⟨gp, 0, none⟩) 5 5 := hI.fact 1 28 _ rfl (dep_of hd 1 (by kernel_rfl))
          have e29 : a.eval (.tmp 29) = .int .i64 4 := hI.fact 2 29 _ rfl (dep_of hd 2 (by kernel_rfl))
          exact pt_val (v := .pointer (some ⟨gp, 4, none⟩)) (by unfold execOp; simp only [e28, e29]; kernel_rfl) (hK _ _ hI.j PtKeep.refl rfl)
        · intro L a W K hI hn hd hK
          have e30 : a.eval (.tmp 30) = .pointer (some ⟨gp, 4, none⟩) := hI.fact 3 30 _ rfl (dep_of hd 3 (by kernel_rfl))
          exact pt_load _ (.tmp 30) rfl ⟨gp, 4, none⟩ (.string (strOf pe)) _ e30 (cell_blk (HBP.out W hI.j) 4) Tryz.underlying9 rfl (hK _ _ hI.j PtKeep.refl rfl)
        · intro L a W K hI hn hd hK
          have e27 : a.eval (.tmp 27) = .agg #[.int .i64 0, .int .i64 6] := hI.fact 0 27 _ rfl (dep_of hd 0 (by kernel_rfl))
          have e31 : a.eval (.tmp 31) = .string (strOf pe) := hI.fact 4 31 _ rfl (dep_of hd 4 (by kernel_rfl))
          refine wp_callc (f := 32) (args := #[a.eval (.tmp 27), a.eval (.tmp 31)]) (by kernel_rfl) ?_
          rw [e27, e31]
          refine ((fun W h => HF4.out W (HMA.out.only h (fun e => e))) _ hI.j).mono ?_
          rintro x W' ⟨rfl, ho⟩
          exact ⟨_, rfl, hK _ _ (hI.j.trans ho (fun _ _ e => e.elim)) (hstab.keep ho) rfl⟩
        · intro L a W K hI hn hd hK
          have e32 : a.eval (.tmp 32) = .tuple #[.int .u64 v4, .int .i64 c4] := hI.fact 5 32 _ rfl (dep_of hd 5 (by kernel_rfl))
          exact pt_move _ (by first | exact .inl rfl | exact .inr rfl) _ e32 (hK _ _ hI.j PtKeep.refl rfl)
        · intro L a W K hI hn hd hK
          have e26 : a.eval (.tmp 26) = .tuple #[.int .u64 v4, .int .i64 c4] := hI.fact 6 26 _ rfl (dep_of hd 6 (by kernel_rfl))
          exact pt_val (v := .int .u64 v4) (by unfold execOp; simp only [e26]; kernel_rfl) (hK _ _ hI.j PtKeep.refl rfl)
        · intro L a W K hI hn hd hK
          have e26 : a.eval (.tmp 26) = .tuple #[.int .u64 v4, .int .i64 c4] := hI.fact 6 26 _ rfl (dep_of hd 6 (by kernel_rfl))
          exact pt_val (v := .int .i64 c4) (by unfold execOp; simp only [e26]; kernel_rfl) (hK _ _ hI.j PtKeep.refl rfl)
        · intro L a W K hI hn hd hK
          have e33 : a.eval (.tmp 33) = .int .u64 v4 := hI.fact 7 33 _ rfl (dep_of hd 7 (by kernel_rfl))
          exact pt_move _ (by first | exact .inl rfl | exact .inr rfl) _ e33 (hK _ _ hI.j PtKeep.refl rfl)
        · intro L a W K hI hn hd hK
          have e34 : a.eval (.tmp 34) = .int .i64 c4 := hI.fact 8 34 _ rfl (dep_of hd 8 (by kernel_rfl))
          exact pt_move _ (by first | exact .inl rfl | exact .inr rfl) _ e34 (hK _ _ hI.j PtKeep.refl rfl)
      · intro L a wb hal hj hfs
        dsimp only [PtAll] at hfs
        obtain ⟨f27, f28, f29, f30, f31, f32, f26, f33, f34, f8, f9, -⟩ := hfs
        have hA := hal.turned
        simp only [List.map_cons, List.map_nil, Act.turned, f27, f28, f29, f30, f31, f32, f26, f33, f34, f8, f9] at hA
        simp only [Act.put, List.setIfInBounds_toArray, List.set_cons_zero, List.set_cons_succ] at hA
        clear hal f27 f28 f29 f30 f31 f32 f26 f33 f34 f8 f9
        subst hA
        change wpList _ _ _ [] _ _
        have HBCB := hid (HBC.out _ hj)
        have HBPB := hid (HBP.out _ hj)
        have HOB := hid (HOA.out.trans hj (fun _ _ e => e.elim))
        clear HBC HBP HOA HBA HMA hj
        by_cases hcz : c4 = 0
        rotate_left
        · have hcb : (c4 != 0) = true := bne_iff_ne.2 hcz
          obtain rfl : R = (none, c4) := by have h := HR5.out; rw [if_neg (by rw [hc0 (by omega)]; simp)] at h; rw [if_neg (by rw [hc1 (by omega)]; simp)] at h; rw [if_neg (by rw [hc2 (by omega)]; simp)] at h; rw [if_neg (by rw [hc3 (by omega)]; simp)] at h; rw [if_pos hcz] at h; exact h
          clear HR5 hcz hc0 hc1 hc2 hc3 hc4
          go_wp2_with fail
          go_ret2
          exact ⟨_, rfl, rfl, (HO4.out.trans HOB.out (fun j hj e => by rw [e] at hj; have := HGC.out; omega))⟩
        subst hcz
        have hp0 : wb.cell? ⟨gp, 4, none⟩ = some (.string (strOf pe)) := cell_blk HBPB.out 4
        have ht := HT.out.2.2.2.2
        have hf0 : wb.cell? ⟨gc, 4, none⟩ = some (.int .u64 0) := cell_blk HBCB.out 4
        have hf1 : wb.cell? ⟨gc, 9, none⟩ = some (.bool false) := cell_blk HBCB.out 9
        have hz0 : wb.frozen? ⟨gc, 4, none⟩ = false := frozen_blk HBCB.out 4
        have hz1 : wb.frozen? ⟨gc, 9, none⟩ = false := frozen_blk HBCB.out 9
        have hne : gp ≠ gc := by omega
        go_wp2_with fail
        go_region
        all_goals
          go_wp2_with fail
          go_roundw
          case rel => exact ⟨5, rfl, by omega, fun _ => hc0 (by omega), fun _ => hc1 (by omega), fun _ => hc2 (by omega), fun _ => hc3 (by omega), fun _ => trivial, (blk_set (blk_set HBCB.out 4 (.int .u64 v4)) 9 (.bool b4)).trans (by kernel_rfl), ((HOB.out.setCell _ _ (fun _ => rfl)).setCell _ _ (fun _ => rfl)).drew⟩
          case measure => simp [intOf]
    · have hbr : wr.heap[gc]? = some (.cells #[.int .u64 v0, .int .u64 v1, .int .u64 v2, .int .u64 v3, .int .u64 v4, .bool b0, .bool b1, .bool b2, .bool b3, .bool b4, .string (strOf s)] 75 (0, 0)) := HBR.out
      obtain rfl : R = (some ⟨v0, v1, v2, v3, v4, b0, b1, b2, b3, b4, s⟩, 0) := by
        have h := HR5.out
        rw [hc0 (by omega), hc1 (by omega), hc2 (by omega), hc3 (by omega), hc4 (by omega)] at h
        simpa using h
      have HBR2 := hid hbr
      clear hbr HBR HR5 hc0 hc1 hc2 hc3 hc4
      go_wp2_with fail
      go_ret2
      exact ⟨_, rfl, ⟨gc, rfl, HBR2.out, HGC.out⟩, (HO4.out.trans HOR.out (fun j hj e => by rw [e] at hj; have := HGC.out; omega))⟩

end
end Go.Proofs.YtokefeemhgcmhaaGreatDoor
