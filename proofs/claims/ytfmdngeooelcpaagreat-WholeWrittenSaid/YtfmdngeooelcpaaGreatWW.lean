/- WholeWritten's walk. -/
import Derived.Test.YtfmdngeooelcpaaGreatWwB
import Derived.Test.YtfmdngeooelcpaaGreatSumQ
import Derived.Test.YtfmdngeooelcpaaGreatOpenC
namespace Go.Proofs.YtfmdngeooelcpaaGreat
open Go.RowKit
/-- A timer is cancelled. -/
def cz : EM := ⟨0, 0, 2, 1, 0, [], [], .nil⟩
theorem cz_rg : cz.rg := by unfold EM.rg cz; simp only [List.length_nil]; exact ⟨by omega, by omega, by omega, by omega, by omega, by omega, by omega, by unfold VT.nil; rw [VT.rg, VT.rgL]; simp⟩
theorem cz_all : cAll [cz] = 0 := by decide
theorem cz_wr : cwrL [cz] = [1, 2, 0, 1] := by decide
theorem cz_at (w : World) (G : Nat → Prop) : CAt w G cz (#[.int .i64 2, .int .i64 0, .int .i64 1, .int .i64 0, .string ⟨#[]⟩, .int .i64 0, .int .i64 0, .string ⟨#[]⟩, .slice none 0 0] : Array Value).toList := ⟨_, rfl, novls w G 0 0 []⟩
theorem sum1_lit : (bytesV sum1).toArray = #[.int .u8 1, .int .u8 0, .int .u8 0, .int .u8 0, .int .u8 0, .int .u8 0, .int .u8 0, .int .u8 0, .int .u8 0, .int .u8 0, .int .u8 0, .int .u8 0, .int .u8 0, .int .u8 0, .int .u8 0, .int .u8 0, .int .u8 0, .int .u8 0, .int .u8 0, .int .u8 0, .int .u8 0, .int .u8 0, .int .u8 0, .int .u8 0, .int .u8 0, .int .u8 0, .int .u8 0, .int .u8 0, .int .u8 0, .int .u8 0, .int .u8 0, .int .u8 0] := by kernel_rfl
section
variable {w : World}
set_option maxRecDepth 100000 in
set_option maxHeartbeats 6400000 in
theorem wwritten_c {v : Value} {es : List EM} (hE : CmsV w (fun k => k < w.heap.size) v es) (hg : ∀ e ∈ es, e.rg ∧ e.isC) (cr : Int) : Calls Tryz.prog 3 #[v, .int .i64 cr] w fun e w' => e = .returned (.bool true) ∧ Only (fun _ => False) w w' := by
  obtain ⟨ea, ec, hv⟩ := hE.len
  subst hv
  have HE := hid hE; have Hg := hid hg
  have HNW : Hid (Calls Tryz.prog 4 #[.int .i64 130] w fun e w' => ∃ b F, e = .returned (.tuple #[.pointer (some ⟨b, 0, none⟩), .int .i64 0]) ∧ DiskAt w' b (DiskM.new 130) F ∧ Only (fun _ => False) w w' ∧ ∀ k, F k → w.heap.size ≤ k) := hid (new_ok w 130 (by omega) (by omega))
  clear hE hg
  go_enter Tryz.func3, Tryz.ntmps3
  go_wp2_with fail
  refine HNW.out.mono ?_
  rintro x w1 ⟨b, FD, rfl, hd, ho1, hf1⟩
  have HP0 := hid (LP.new (sg := 8) (n := 130) (by omega) (by omega) (by decide))
  have HOP := hid (lopen_c (w0 := w) hd hf1 ho1 HP0.out (by decide))
  clear hd hf1 ho1 HNW
  go_wp2_with fail
  refine HOP.out.mono ?_
  rintro x w2 ⟨v2, l, r, lo2, F2, rfl, hl2, -, hfo2, -, -, -⟩
  obtain ⟨ao2, cap2, xs2, rfl, -⟩ := hfo2
  have HL2 := hid hl2
  have HEN : Hid (Calls Tryz.prog 6 #[.slice (some ⟨w2.heap.size, 0, none⟩) 1 1] (w2.alloc (.cells #[.int .i64 2, .int .i64 0, .int .i64 1, .int .i64 0, .string ⟨#[]⟩, .int .i64 0, .int .i64 0, .string ⟨#[]⟩, .slice none 0 0] 38)) fun e w' => ∃ bo bc, e = .returned (.tuple #[.slice bo ([1, 2, 0, 1] : List UInt8).length bc, .int .i64 0]) ∧ Src w' (.slice bo ([1, 2, 0, 1] : List UInt8).length bc) [1, 2, 0, 1] ∧ Only (fun _ => False) (w2.alloc (.cells #[.int .i64 2, .int .i64 0, .int .i64 1, .int .i64 0, .string ⟨#[]⟩, .int .i64 0, .int .i64 0, .string ⟨#[]⟩, .slice none 0 0] 38)) w') := hid (by
    have h1 := cencode_c (one_cmd (blk_new w2 (.cells #[.int .i64 2, .int .i64 0, .int .i64 1, .int .i64 0, .string ⟨#[]⟩, .int .i64 0, .int .i64 0, .string ⟨#[]⟩, .slice none 0 0] 38)) (cz_at (w2.alloc (.cells #[.int .i64 2, .int .i64 0, .int .i64 1, .int .i64 0, .string ⟨#[]⟩, .int .i64 0, .int .i64 0, .string ⟨#[]⟩, .slice none 0 0] 38)) (fun _ => False))) (fun k hk => by
      rw [World.size_alloc]
      rcases hk with e | e
      · exact e.elim
      · omega) (fun e he => by obtain rfl := List.mem_singleton.1 he; exact ⟨cz_rg, rfl, rfl⟩) (by show 1 ≤ 9223372036854775807; decide)
    refine h1.mono ?_
    rintro e w' ⟨v, e1, hn⟩
    rw [cz_all] at e1
    rw [if_pos cz_all, cz_wr] at hn
    obtain ⟨bo, bc, rfl, hgr, -, ho⟩ := hn
    exact ⟨bo, bc, e1, hgr.src, ho⟩)
  clear hl2 HOP
  go_wp2_with fail
  refine HEN.out.mono ?_
  rintro x w3 ⟨bo, bc, rfl, hs3, ho3⟩
  have HL3 := hid (HL2.out.same ((only_new _ _).trans ho3 (fun _ _ e => e)))
  have hcv : (convert 31 9 (.slice bo 4 bc)).run Tryz.prog w3 = .ok (.string (strOf [1, 2, 0, 1])) w3 := conv_str hs3
  have hne : ((strOf [1, 2, 0, 1]).toList == [1, 2, 0, 1]) = true := by decide +kernel
  clear ho3 HEN HL2 hs3
  by_cases h12 : 12 < es.length
  · have h12i : (12 : Int) < es.length := by omega
    go_wp2_with fail
    go_ret
    exact ⟨rfl, HL3.out.only⟩
  have h12i : ¬ (12 : Int) < es.length := by omega
  have HB13 := hid (blk_new w3 (.cells #[.int .u8 0, .int .u8 0, .int .u8 0, .int .u8 0, .int .u8 0, .int .u8 0, .int .u8 0, .int .u8 0, .int .u8 0, .int .u8 0, .int .u8 0, .int .u8 0, .int .u8 0, .int .u8 0, .int .u8 0, .int .u8 0, .int .u8 0, .int .u8 0, .int .u8 0, .int .u8 0, .int .u8 0, .int .u8 0, .int .u8 0, .int .u8 0, .int .u8 0, .int .u8 0, .int .u8 0, .int .u8 0, .int .u8 0, .int .u8 0, .int .u8 0, .int .u8 0] 40))
  have HO34 := hid (only_new w3 (.cells #[.int .u8 0, .int .u8 0, .int .u8 0, .int .u8 0, .int .u8 0, .int .u8 0, .int .u8 0, .int .u8 0, .int .u8 0, .int .u8 0, .int .u8 0, .int .u8 0, .int .u8 0, .int .u8 0, .int .u8 0, .int .u8 0, .int .u8 0, .int .u8 0, .int .u8 0, .int .u8 0, .int .u8 0, .int .u8 0, .int .u8 0, .int .u8 0, .int .u8 0, .int .u8 0, .int .u8 0, .int .u8 0, .int .u8 0, .int .u8 0, .int .u8 0, .int .u8 0] 40))
  go_upto_block 0 with ((guard_target =~ wpList _ _ _ (⟨none, .store 40 (.tmp 13) _, _, _, _, _⟩ :: _) _ _); refine wpList_store_all rfl 40 (.tmp 13) (.tmp 63) rfl w3.heap.size #[.int .u8 1, .int .u8 0, .int .u8 0, .int .u8 0, .int .u8 0, .int .u8 0, .int .u8 0, .int .u8 0, .int .u8 0, .int .u8 0, .int .u8 0, .int .u8 0, .int .u8 0, .int .u8 0, .int .u8 0, .int .u8 0, .int .u8 0, .int .u8 0, .int .u8 0, .int .u8 0, .int .u8 0, .int .u8 0, .int .u8 0, .int .u8 0, .int .u8 0, .int .u8 0, .int .u8 0, .int .u8 0, .int .u8 0, .int .u8 0, .int .u8 0, .int .u8 0] rfl rfl #[.int .u8 0, .int .u8 0, .int .u8 0, .int .u8 0, .int .u8 0, .int .u8 0, .int .u8 0, .int .u8 0, .int .u8 0, .int .u8 0, .int .u8 0, .int .u8 0, .int .u8 0, .int .u8 0, .int .u8 0, .int .u8 0, .int .u8 0, .int .u8 0, .int .u8 0, .int .u8 0, .int .u8 0, .int .u8 0, .int .u8 0, .int .u8 0, .int .u8 0, .int .u8 0, .int .u8 0, .int .u8 0, .int .u8 0, .int .u8 0, .int .u8 0, .int .u8 0] 40 HB13.out rfl info32 (by simp [Value.oneCell']) ?_; intro w4 hb5 ho5 hs5; have HB5 := hid hb5; have HO5 := hid ho5; clear hb5 ho5 hs5)
  try dsimp only [Act.put]
  have HO4 : Hid (Only (fun _ => False) w3 w4) := hid (HO34.out.trans HO5.out (fun k hk e => by have e' : k = w3.heap.size := e; omega))
  have HL4 := hid (HL3.out.same HO4.out)
  have HWB : Hid (WB w w4 l b r w3.heap.size _ F2 (wsm sum1 0 []) [] none 0 []) := hid ⟨HL4.out, by rw [show wsm sum1 0 [] = sum1 from rfl, sum1_lit]; exact HB5.out, rfl, Gr.nil, rfl, HL3.out.only.size, fun e => by have := HL3.out.log.lt e; omega, by simp⟩
  refine ww0 (w0 := w) (w := w4) (a := _) (es := es) (ea := ea) (ec := ec) (l := l) (b := b) (sb := w3.heap.size) (ao0 := none) (cp0 := 0) (cr := cr) HE.out Hg.out (by omega) ⟨r, _, F2, [], HWB.out, ⟨[], HP0.out.anew⟩, rfl, Nat.zero_le _, by simp⟩ ⟨rfl, rfl, rfl, rfl, rfl, rfl, rfl, rfl, rfl, rfl⟩ ?_ ?_
  · intro a' w' hI ho
    obtain ⟨u, rfl, hu⟩ := act_fn hI
    rw [lit196] at hI ⊢
    obtain ⟨g4, -⟩ := hI
    change u 4 = _ at g4
    rw [g4]
    clear hu
    go_ret
    exact ⟨rfl, ho⟩
  clear hcv hne HB13 HO34 HB5 HO5 HL3 HL4 HWB HP0
  intro a' w5 l5 Ks ao cp hI hws
  obtain ⟨u, rfl, hu⟩ := act_fn hI
  rw [lit196] at hI ⊢
  obtain ⟨g5, g12, g13, -⟩ := hI
  change u 5 = _ at g5
  change u 12 = _ at g12
  change u 13 = _ at g13
  rw [g5, g12, g13]
  clear g5 g12 g13 hu
  obtain ⟨r5, M5, F5, xs5, hwb, hwp⟩ := hws
  have HWB := hid hwb
  obtain ⟨T5, hlp⟩ := hwp.lp
  obtain ⟨FD5, hdk, hfk⟩ := hwb.lg.log.disk
  have HOK := hid hwp.ok
  have HKL := hid hwp.kl
  have HOP := hid (lopen_c (w0 := w) hdk (fun k hk => hwb.lg.new k (hfk k hk)) hwb.lg.only hlp (by omega))
  clear hwb hwp hdk hfk hlp
  go_wp2_with fail
  refine HOP.out.mono ?_
  rintro x w6 ⟨v6, l6, r6, lo6, F6, rfl, -, -, hfo6, -, -, ho6⟩
  have HFO := hid hfo6
  obtain ⟨ao6, cap6, xs6, rfl, -⟩ := hfo6
  have HO6 := hid ho6
  have hll := wfr_len Ks 0
  rw [hll] at HFO ⊢
  have HK6 : Hid (CmsV w6 (fun k => k < w6.heap.size) (.slice ao Ks.length cp) Ks) := hid (cms_of (HWB.out.gr.only HO6.out (fun _ _ e => e)) rfl (HWB.out.cx.only HO6.out (fun _ _ e => e)) (fun q hq => by have := HWB.out.gr.lt hq; have := HO6.out.size; omega) (fun k hk => by have := HWB.out.lg.only.size; have := HO6.out.size; omega))
  have hbb : ((Ks.length : Int) != (Ks.length : Int)) = false := by simp
  clear ho6 HOP
  have HB26 := hid (blk_new w6 (.cells #[.int .u8 0, .int .u8 0, .int .u8 0, .int .u8 0, .int .u8 0, .int .u8 0, .int .u8 0, .int .u8 0, .int .u8 0, .int .u8 0, .int .u8 0, .int .u8 0, .int .u8 0, .int .u8 0, .int .u8 0, .int .u8 0, .int .u8 0, .int .u8 0, .int .u8 0, .int .u8 0, .int .u8 0, .int .u8 0, .int .u8 0, .int .u8 0, .int .u8 0, .int .u8 0, .int .u8 0, .int .u8 0, .int .u8 0, .int .u8 0, .int .u8 0, .int .u8 0] 40))
  have HO67 := hid (only_new w6 (.cells #[.int .u8 0, .int .u8 0, .int .u8 0, .int .u8 0, .int .u8 0, .int .u8 0, .int .u8 0, .int .u8 0, .int .u8 0, .int .u8 0, .int .u8 0, .int .u8 0, .int .u8 0, .int .u8 0, .int .u8 0, .int .u8 0, .int .u8 0, .int .u8 0, .int .u8 0, .int .u8 0, .int .u8 0, .int .u8 0, .int .u8 0, .int .u8 0, .int .u8 0, .int .u8 0, .int .u8 0, .int .u8 0, .int .u8 0, .int .u8 0, .int .u8 0, .int .u8 0] 40))
  go_upto_block 2 with ((guard_target =~ wpList _ _ _ (⟨none, .store 40 (.tmp 26) _, _, _, _, _⟩ :: _) _ _); refine wpList_store_all rfl 40 (.tmp 26) (.tmp 151) rfl w6.heap.size #[.int .u8 1, .int .u8 0, .int .u8 0, .int .u8 0, .int .u8 0, .int .u8 0, .int .u8 0, .int .u8 0, .int .u8 0, .int .u8 0, .int .u8 0, .int .u8 0, .int .u8 0, .int .u8 0, .int .u8 0, .int .u8 0, .int .u8 0, .int .u8 0, .int .u8 0, .int .u8 0, .int .u8 0, .int .u8 0, .int .u8 0, .int .u8 0, .int .u8 0, .int .u8 0, .int .u8 0, .int .u8 0, .int .u8 0, .int .u8 0, .int .u8 0, .int .u8 0] rfl rfl #[.int .u8 0, .int .u8 0, .int .u8 0, .int .u8 0, .int .u8 0, .int .u8 0, .int .u8 0, .int .u8 0, .int .u8 0, .int .u8 0, .int .u8 0, .int .u8 0, .int .u8 0, .int .u8 0, .int .u8 0, .int .u8 0, .int .u8 0, .int .u8 0, .int .u8 0, .int .u8 0, .int .u8 0, .int .u8 0, .int .u8 0, .int .u8 0, .int .u8 0, .int .u8 0, .int .u8 0, .int .u8 0, .int .u8 0, .int .u8 0, .int .u8 0, .int .u8 0] 40 HB26.out rfl info32 (by simp [Value.oneCell']) ?_; intro w7 hb7 ho7 hs7; have HB7 := hid hb7; have HO7 := hid ho7; clear hb7 ho7 hs7)
  try dsimp only [Act.put]
  have HO7' : Hid (Only (fun _ => False) w6 w7) := hid (HO67.out.trans HO7.out (fun k hk e => by have e' : k = w6.heap.size := e; omega))
  have HWT : Hid (WT w6 w7 w6.heap.size Ks 0) := hid ⟨HO7'.out, by rw [show wsm sum1 0 (Ks.take 0) = sum1 from rfl, sum1_lit]; exact HB7.out, rfl⟩
  refine ww2 (w0 := w6) (w := w7) (a := _) (Ks := Ks) (sb := w3.heap.size) (tb := w6.heap.size) (lo := lo6) HK6.out (fun _ e => e) HOK.out (by have := HKL.out; omega) HFO.out (Nat.le_refl _) HWT.out ⟨rfl, rfl, rfl, rfl, rfl, rfl, rfl, rfl⟩ ?_
  intro a' w8 hI hwt
  have HWT8 := hid hwt
  obtain ⟨u, rfl, hu⟩ := act_fn hI
  rw [lit196] at hI ⊢
  obtain ⟨g13, g26, -⟩ := hI
  change u 13 = _ at g13
  change u 26 = _ at g26
  rw [g13, g26]
  clear g13 g26 hu hwt hbb
  have hsl := HWB.out.sl
  have HIS : Hid ((Tryz.prog.info? 40).map (·.size) = some (bytesV (wsm sum1 0 Ks)).toArray.size) := hid (by rw [info32]; simp [hsl])
  have hb13 := blk_only HWB.out.bs (HO6.out.trans HWT8.out.only (fun _ _ e => e)) (fun e => e)
  have hb26 := HWT8.out.blk
  rw [List.take_length] at hb26
  have HBA := hid hb13; have HBB := hid hb26
  have hq := eqIn_arr w8 40 Tryz.underlying40 cells_u8 hsl hsl
  rw [decide_eq_true (rfl : wsm sum1 0 Ks = wsm sum1 0 Ks)] at hq
  have HON := hid ((HWB.out.lg.only.trans HO6.out (fun _ _ e => e)).trans HWT8.out.only (fun _ _ e => e))
  clear hb13 hb26 hsl
  go_wp2_with (first | ((guard_target =~ wpList _ _ _ (⟨some 193, _, _, _, _, _⟩ :: _) _ _); refine wpList_load_row (o := ⟨some 193, _, _, _, _, _⟩) rfl 40 (.tmp 13) rfl w3.heap.size rfl 40 (bytesV (wsm sum1 0 Ks)).toArray (0, 0) _ HBA.out Tryz.underlying40 rfl HIS.out ?_) | ((guard_target =~ wpList _ _ _ (⟨some 194, _, _, _, _, _⟩ :: _) _ _); refine wpList_load_row (o := ⟨some 194, _, _, _, _, _⟩) rfl 40 (.tmp 26) rfl w6.heap.size rfl 40 (bytesV (wsm sum1 0 Ks)).toArray (0, 0) _ HBB.out Tryz.underlying40 rfl HIS.out ?_))
  go_ret
  exact ⟨rfl, HON.out⟩
end
end Go.Proofs.YtfmdngeooelcpaaGreat
