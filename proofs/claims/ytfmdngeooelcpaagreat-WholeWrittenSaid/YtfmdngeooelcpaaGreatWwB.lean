/- WholeWritten: the loop that reads back. -/
import Derived.Test.YtfmdngeooelcpaaGreatWwA
namespace Go.Proofs.YtfmdngeooelcpaaGreat
open Go.RowKit
theorem dec_enc {e : EM} (hg : e.Good) (hr : e.rg) : decR e.wr = (e.cl, 0) := by
  have h1 := ev_rt (r := RdM.of e.wr) (post := []) hg hr rfl (by simp [RdM.of, RdM.rest])
  have h2 : ((RdM.of e.wr).adv e.wr.length).done = 0 := by simp [RdM.done, RdM.adv, RdM.of]
  unfold decR
  rw [h1]
  simp only
  rw [h2]; rfl
theorem info_wwc : (Tryz.prog.info? 38).map (·.size) = some 9 := by kernel_rfl
theorem info_wwe : (Tryz.prog.info? 43).map (·.size) = some 11 := by kernel_rfl
theorem ends_closes {c : EM} (h : 1 ≤ c.k ∧ c.k ≤ 6) : closesB c.cev.k = cEnds c.k := by
  rcases c_k6 h with g | g | g | g | g | g <;> (unfold EM.cev; simp only [g]; simp [closesB, cEnds])
/-- The sum of what is read. -/
structure WT (w0 w : World) (tb : Nat) (Ks : List EM) (j : Nat) : Prop where
  only : Only (fun _ => False) w0 w
  blk : w.heap[tb]? = some (.cells (bytesV (wsm sum1 0 (Ks.take j))).toArray 40 (0, 0))
  len : (wsm sum1 0 (Ks.take j)).length = 32
theorem wsm_len : ∀ (l : List EM) (n : Nat) (s : List UInt8), s.length = 32 → (wsm s n l).length = 32
  | [], _, _, h => h
  | c :: l, n, s, h => by rw [wsm]; exact wsm_len l (n + 1) _ (linkR_len s _)
section
variable {w0 w : World} {Q : Exit → Act → World → Prop}
set_option maxRecDepth 100000 in
set_option maxHeartbeats 12800000 in
theorem ww2 {a : Act} {Ks : List EM} {ao fa : Option Addr} {cp fc sb tb lo : Nat} {G : Nat → Prop} (hK : CmsV w0 G (.slice ao Ks.length cp) Ks) (hG : ∀ k, G k → k < w0.heap.size) (hok : ∀ c ∈ Ks, c.CGood ∧ c.rg ∧ c.isC) (hn : Ks.length ≤ 12) (hF : FOut w0 lo (wfr 0 Ks) (.slice fa Ks.length fc)) (htb : w0.heap.size ≤ tb) (hT : WT w0 w tb Ks 0)
    (hL : Lv 196 a [(12, .slice ao Ks.length cp), (13, .pointer (some ⟨sb, 0, none⟩)), (26, .pointer (some ⟨tb, 0, none⟩)), (152, .slice fa Ks.length fc), (153, .int .i64 Ks.length), (154, .int .i64 0)])
    (hQ : ∀ a' w', Lv 196 a' [(13, .pointer (some ⟨sb, 0, none⟩)), (26, .pointer (some ⟨tb, 0, none⟩))] → WT w0 w' tb Ks Ks.length → Q .normal a' w') :
    (wwB 2).wp Tryz.prog Q a w := by
  refine Code.wp_mono NoPanic.imp ?_
  conv => arg 2; whnf
  refine wp_block (wp_loop (fun a' w' => ∃ (j : Nat), j ≤ Ks.length ∧ Lv 196 a' [(12, .slice ao Ks.length cp), (13, .pointer (some ⟨sb, 0, none⟩)), (26, .pointer (some ⟨tb, 0, none⟩)), (152, .slice fa Ks.length fc), (153, .int .i64 Ks.length), (154, .int .i64 (j : Nat))] ∧ WT w0 w' tb Ks j)
    (fun a' _ => Ks.length - (intOf (a'.tmps.getD 154 undef)).toNat) ⟨0, Nat.zero_le _, hL, hT⟩ ?_)
  clear hL hT
  rintro a' w1 ⟨j, hj, hI, hwt⟩
  obtain ⟨u, rfl, hu⟩ := act_fn hI
  rw [lit196] at hI ⊢
  obtain ⟨g12, g13, g26, g152, g153, g154, -⟩ := hI
  change u 12 = _ at g12
  change u 13 = _ at g13
  change u 26 = _ at g26
  change u 152 = _ at g152
  change u 153 = _ at g153
  change u 154 = _ at g154
  rw [g12, g13, g26, g152, g153, g154]
  clear g12 g13 g26 g152 g153 g154 hu
  have HQ := hid hQ; have HWT := hid hwt
  clear hQ hwt
  by_cases hjl : j < Ks.length
  rotate_left
  · have hji : ¬ (j : Int) < Ks.length := by omega
    obtain rfl : j = Ks.length := by omega
    go_wp2_with fail
    exact HQ.out _ _ ⟨rfl, rfl, rfl, rfl⟩ HWT.out
  have hji : (j : Int) < Ks.length := by omega
  obtain ⟨c, hcj⟩ : ∃ t, Ks[j]? = some t := ⟨_, List.getElem?_eq_getElem hjl⟩
  obtain ⟨hcg, hcr, hcC⟩ := hok c (List.mem_of_getElem? hcj)
  have HTK := hid (wsm_take sum1 hcj)
  obtain ⟨a', c', g, o, heq, hne, hel⟩ := hK
  simp only [Value.slice.injEq, true_and] at heq
  obtain ⟨rfl, rfl⟩ := heq
  obtain ⟨rfl, hgl0⟩ := hne (by rintro rfl; simp at hjl)
  have hgl := hG g hgl0
  obtain ⟨cs, hcs, hC⟩ := hel j c hcj
  obtain ⟨vk, vn, vs, va, vm, vc, rfl, hV⟩ := hC.form
  obtain ⟨q, cap, hfv, hlq, hfr⟩ := hF.at (by rw [wfr_len]; omega)
  simp only [Value.slice.injEq] at hfv
  obtain ⟨rfl, -, rfl⟩ := hfv
  obtain ⟨pa, pc, hf1, hf2, hbo⟩ := hfr j 1 _ (wfr_get Ks 0 j c hcj)
  have hkb : 1 ≤ ((j + 1 : Nat) : Int) ∧ ((j + 1 : Nat) : Int) ≤ 1048576 := by omega
  rw [Nat.zero_add] at hf2 hbo
  have hgood := cev_good hcg hkb
  have hrg := cevw_rg hcg hcr hkb
  have hwl := cev_len hcg hkb
  have hcl := wid_cl c ((j + 1 : Nat) : Int)
  have hfit := (fits_iff hcg.k (a := c) ((j + 1 : Nat) : Int)).2 rfl
  have hecl : closesB (c.cev.wid ((j + 1 : Nat) : Int)).k = cEnds c.k := ends_closes hcg.k
  obtain ⟨e, hev⟩ : ∃ x, c.cev.wid ((j + 1 : Nat) : Int) = x := ⟨_, rfl⟩
  rw [hev] at hgood hrg hwl hcl hfit hecl hf2 hbo
  have HTK' : Hid (wsm sum1 0 (Ks.take (j + 1)) = linkR (wsm sum1 0 (Ks.take j)) e) := hid (by rw [← hev]; exact HTK.out)
  have hdr := dec_enc hgood hrg
  rw [hcl] at hdr
  have hqb : q < w0.heap.size := World.block_lt_of_cell? _ _ hf1
  have c0 : w1.cell? ⟨q, j * 2, none⟩ = some (.int .i64 (1 : Nat)) := (World.cell?_of_block (HWT.out.only.block q hqb (fun e => e))).trans hf1
  have c1 : w1.cell? ⟨q, j * 2 + 1, none⟩ = some (.slice pa e.wr.length pc) := (World.cell?_of_block (HWT.out.only.block q hqb (fun e => e))).trans hf2
  have HBO := hid hbo
  have HRC : Hid (∀ W, Only (fun _ => False) w0 W → W.rangeAt g (o + j * 9) [.int .i64 c.k, .int .i64 c.tm, .int .i64 c.a, .int .i64 c.b, .string (strOf c.name), .int .i64 vk, .int .i64 vn, .string (strOf vs), .slice va vm vc]) := hid fun W hW k u hk => (World.cell?_of_block (hW.block g hgl (fun e => e))).trans (hcs k u hk)
  have HC : Hid (∀ W, Only (fun _ => False) w0 W → CAt W G c [.int .i64 c.k, .int .i64 c.tm, .int .i64 c.a, .int .i64 c.b, .string (strOf c.name), .int .i64 vk, .int .i64 vn, .string (strOf vs), .slice va vm vc]) := hid fun W hW => hC.same hW
  have HG : Hid (∀ k, G k → k < w0.heap.size) := hid hG
  have HCG := hid hcg; have HCR := hid hcr; have HDR := hid hdr; have HFT := hid hfit; have HEC := hid hecl; have HRG := hid hrg; have HWL := hid hwl
  clear hel hcs hC hV hf1 hf2 hbo hfr hcg hcr hcC hgood hrg hwl hcl hfit hecl hdr hev hcj HTK hkb hgl0 hne hok hF hG hlq
  go_upto_region 43 with fail
  obtain ⟨w2, hw2⟩ : ∃ x, w1.alloc (.cells #[.int .i64 1, .slice pa e.wr.length pc] 53) = x := ⟨_, rfl⟩
  have hb28 : w2.heap[w1.heap.size]? = some (.cells #[.int .i64 1, .slice pa e.wr.length pc] 53 (0, 0)) := by rw [← hw2]; exact blk_new _ _
  have ho12 : Only (fun _ => False) w1 w2 := by rw [← hw2]; exact only_new _ _
  rw [hw2]
  have e1 : w2.cell? ⟨w1.heap.size, 1, none⟩ = some (.slice pa e.wr.length pc) := cell_blk hb28 1
  have HO12 := hid ho12
  have HO02 := hid (HWT.out.only.trans ho12 (fun _ _ e => e))
  have HDC := hid (decode_c (HBO.out.kept HO02.out).src (by have := HWL.out; omega))
  clear hw2 hb28 ho12 HBO c0 c1
  go_wp2_with fail
  refine HDC.out.mono ?_
  rintro x w3 hd
  unfold Decd at hd
  rw [HDR.out] at hd
  obtain ⟨ds, rfl, hE3, ho3⟩ := hd
  obtain ⟨uk, un, us, ua, um, uc, rfl, hU⟩ := hE3.form
  have HE3 := hid hE3
  have HO3 := hid ho3
  have HO03 := hid (HO02.out.trans ho3 (fun _ _ e => e))
  have HB29 := hid (blk_new w3 (.cells #[.int .i64 0, .int .i64 0, .int .i64 0, .int .i64 0, .int .i64 0, .string (strOf []), .string (strOf []), .int .i64 0, .int .i64 0, .string (strOf []), .slice none 0 0] 43))
  have HO34 := hid (only_new w3 (.cells #[.int .i64 0, .int .i64 0, .int .i64 0, .int .i64 0, .int .i64 0, .string (strOf []), .string (strOf []), .int .i64 0, .int .i64 0, .string (strOf []), .slice none 0 0] 43))
  clear hE3 ho3 hU HDC e1
  go_upto_region 44 with ((guard_target =~ wpList _ _ _ (⟨none, .store 43 (.tmp 29) _, _, _, _, _⟩ :: _) _ _); refine wpList_store_all rfl 43 (.tmp 29) (.tmp 163) rfl w3.heap.size #[.int .i64 e.id, .int .i64 e.tm, .int .i64 e.k, .int .i64 e.a, .int .i64 e.b, .string (strOf e.name), .string (strOf e.text), .int .i64 uk, .int .i64 un, .string (strOf us), .slice ua um uc] rfl rfl #[.int .i64 0, .int .i64 0, .int .i64 0, .int .i64 0, .int .i64 0, .string (strOf []), .string (strOf []), .int .i64 0, .int .i64 0, .string (strOf []), .slice none 0 0] 43 HB29.out rfl info_evc (by simp [Value.oneCell']) ?_; intro w4 hb5 ho5 hs5; have HB5 := hid hb5; have HO5 := hid ho5; clear hb5 ho5 hs5)
  try dsimp only [Act.put]
  obtain ⟨eb, heb⟩ : ∃ x, w3.heap.size = x := ⟨_, rfl⟩
  have HO4 : Hid (Only (fun _ => False) w3 w4) := hid (HO34.out.trans HO5.out (fun k hk e => by have e' : k = w3.heap.size := e; omega))
  have HO04 := hid (HO03.out.trans HO4.out (fun _ _ e => e))
  rw [heb] at HB5 ⊢
  have HE4 : Hid (∀ W, Only (fun _ => False) w4 W → EAt W (New w2 w3) e [.int .i64 e.id, .int .i64 e.tm, .int .i64 e.k, .int .i64 e.a, .int .i64 e.b, .string (strOf e.name), .string (strOf e.text), .int .i64 uk, .int .i64 un, .string (strOf us), .slice ua um uc]) := hid fun W hW => (HE3.out.same HO4.out).same hW
  have HE4L : Hid (∀ k, New w2 w3 k → k < w4.heap.size) := hid fun k hk => by have := hk.2; have := HO4.out.size; omega
  have HB4 : Hid (∀ W, Only (fun _ => False) w4 W → W.heap[eb]? = some (.cells #[.int .i64 e.id, .int .i64 e.tm, .int .i64 e.k, .int .i64 e.a, .int .i64 e.b, .string (strOf e.name), .string (strOf e.text), .int .i64 uk, .int .i64 un, .string (strOf us), .slice ua um uc] 43 (0, 0))) := hid fun W hW => blk_only HB5.out hW (fun e => e)
  have HT4 : Hid (∀ W, Only (fun _ => False) w4 W → W.heap[tb]? = some (.cells (bytesV (wsm sum1 0 (Ks.take j))).toArray 40 (0, 0))) := hid fun W hW => by
    have h1 : Only (fun _ => False) w1 W := (HO12.out.trans HO3.out (fun _ _ e => e)).trans (HO4.out.trans hW (fun _ _ e => e)) (fun _ _ e => e)
    exact blk_only HWT.out.blk h1 (fun e => e)
  have HFI : Hid (∀ W, Only (fun _ => False) w4 W → Calls Tryz.prog 16 #[.agg ([.int .i64 c.k, .int .i64 c.tm, .int .i64 c.a, .int .i64 c.b, .string (strOf c.name), .int .i64 vk, .int .i64 vn, .string (strOf vs), .slice va vm vc] : List Value).toArray, .agg #[.int .i64 e.id, .int .i64 e.tm, .int .i64 e.k, .int .i64 e.a, .int .i64 e.b, .string (strOf e.name), .string (strOf e.text), .int .i64 uk, .int .i64 un, .string (strOf us), .slice ua um uc]] W fun x w' => x = .returned (.bool true) ∧ Only (fun _ => False) W w') := hid fun W hW => by
    have hz := HO04.out.size; have hz2 := hW.size
    have h1 := cfits_c (HC.out W (HO04.out.trans hW (fun _ _ e => e))) (HE4.out W hW) (fun k hk => by have := HG.out k hk; omega) (fun k hk => by have := HE4L.out k hk; omega) HCR.out HRG.out.2.2.2.2.2.2.2 (by have := cgood_parts HCG.out; omega) HCG.out.k
    rw [HFT.out] at h1; exact h1
  have HEN : Hid (∀ W, Only (fun _ => False) w4 W → Calls Tryz.prog 17 #[.agg ([.int .i64 c.k, .int .i64 c.tm, .int .i64 c.a, .int .i64 c.b, .string (strOf c.name), .int .i64 vk, .int .i64 vn, .string (strOf vs), .slice va vm vc] : List Value).toArray] W fun x w' => x = .returned (.bool (cEnds c.k)) ∧ Only (fun _ => False) W w') := hid fun W hW => cmends_c (HC.out W (HO04.out.trans hW (fun _ _ e => e)))
  have HCL : Hid (∀ W, Only (fun _ => False) w4 W → Calls Tryz.prog 18 #[.agg #[.int .i64 e.id, .int .i64 e.tm, .int .i64 e.k, .int .i64 e.a, .int .i64 e.b, .string (strOf e.name), .string (strOf e.text), .int .i64 uk, .int .i64 un, .string (strOf us), .slice ua um uc]] W fun x w' => x = .returned (.bool (cEnds c.k)) ∧ Only (fun _ => False) W w') := hid fun W hW => by
    have h1 := closes_c (HE4.out W hW)
    rw [HEC.out] at h1; exact h1
  have HLK : Hid (∀ W, Only (fun _ => False) w4 W → Calls Tryz.prog 12 #[.agg (bytesV (wsm sum1 0 (Ks.take j))).toArray, .agg #[.int .i64 e.id, .int .i64 e.tm, .int .i64 e.k, .int .i64 e.a, .int .i64 e.b, .string (strOf e.name), .string (strOf e.text), .int .i64 uk, .int .i64 un, .string (strOf us), .slice ua um uc]] W fun x w' => ∃ cd, x = .returned (.tuple #[.agg (bytesV (linkR (wsm sum1 0 (Ks.take j)) e)).toArray, .int .i64 cd]) ∧ Only (fun _ => False) W w') := hid fun W hW => by
    refine (elink_c HWT.out.len (HE4.out W hW) (fun k hk => by have := HE4L.out k hk; have := hW.size; omega) HRG.out).mono ?_
    rintro x w' ⟨e1, e2⟩
    exact ⟨_, e1, e2⟩
  obtain ⟨en, hen⟩ : ∃ x, cEnds c.k = x := ⟨_, rfl⟩
  rw [hen] at HEN HCL
  have hnee : (en != en) = false := by simp
  have HNEE := hid hnee
  clear hen hnee HE3 HB29 HO34 HB5 HO5 HC HFT HEC heb
  refine region_pg 18 [] (by kernel_rfl) (by kernel_rfl) (by kernel_rfl) [(165, fun _ v => v = .int .i64 0), (166, fun _ v => v = .bool false), (167, fun _ v => v = .bool false), (168, fun _ v => v = .slice (some ⟨g, o, none⟩) Ks.length cp), (169, fun _ v => v = .int .i64 (j : Nat)), (170, fun _ v => v = .pointer (some ⟨g, o + j * 9, none⟩)), (171, fun _ v => v = .agg ([.int .i64 c.k, .int .i64 c.tm, .int .i64 c.a, .int .i64 c.b, .string (strOf c.name), .int .i64 vk, .int .i64 vn, .string (strOf vs), .slice va vm vc]).toArray), (172, fun _ v => v = .agg #[.int .i64 e.id, .int .i64 e.tm, .int .i64 e.k, .int .i64 e.a, .int .i64 e.b, .string (strOf e.name), .string (strOf e.text), .int .i64 uk, .int .i64 un, .string (strOf us), .slice ua um uc]), (173, fun _ v => v = .bool true), (174, fun _ v => v = .bool false), (175, fun _ v => v = .bool false), (176, fun _ v => v = .bool false), (177, fun _ v => v = .slice (some ⟨g, o, none⟩) Ks.length cp), (178, fun _ v => v = .int .i64 (j : Nat)), (179, fun _ v => v = .pointer (some ⟨g, o + j * 9, none⟩)), (180, fun _ v => v = .agg ([.int .i64 c.k, .int .i64 c.tm, .int .i64 c.a, .int .i64 c.b, .string (strOf c.name), .int .i64 vk, .int .i64 vn, .string (strOf vs), .slice va vm vc]).toArray), (181, fun _ v => v = .bool en), (182, fun _ v => v = .agg #[.int .i64 e.id, .int .i64 e.tm, .int .i64 e.k, .int .i64 e.a, .int .i64 e.b, .string (strOf e.name), .string (strOf e.text), .int .i64 uk, .int .i64 un, .string (strOf us), .slice ua um uc])] (fun _ W => Only (fun _ => False) w4 W) (by show [165, 166, 167, 168, 169, 170, 171, 172, 173, 174, 175, 176, 177, 178, 179, 180, 181, 182].Nodup; decide) (by show ∀ d ∈ [165, 166, 167, 168, 169, 170, 171, 172, 173, 174, 175, 176, 177, 178, 179, 180, 181, 182], d < 196; decide) ((Only.refl _ _).drew) (.inl rfl) ?_ ?_ ?_
  · exact trivial
  · have hstab : PtStabs (Only (fun _ => False)) [(165, fun _ v => v = .int .i64 0), (166, fun _ v => v = .bool false), (167, fun _ v => v = .bool false), (168, fun _ v => v = .slice (some ⟨g, o, none⟩) Ks.length cp), (169, fun _ v => v = .int .i64 (j : Nat)), (170, fun _ v => v = .pointer (some ⟨g, o + j * 9, none⟩)), (171, fun _ v => v = .agg ([.int .i64 c.k, .int .i64 c.tm, .int .i64 c.a, .int .i64 c.b, .string (strOf c.name), .int .i64 vk, .int .i64 vn, .string (strOf vs), .slice va vm vc]).toArray), (172, fun _ v => v = .agg #[.int .i64 e.id, .int .i64 e.tm, .int .i64 e.k, .int .i64 e.a, .int .i64 e.b, .string (strOf e.name), .string (strOf e.text), .int .i64 uk, .int .i64 un, .string (strOf us), .slice ua um uc]), (173, fun _ v => v = .bool true), (174, fun _ v => v = .bool false), (175, fun _ v => v = .bool false), (176, fun _ v => v = .bool false), (177, fun _ v => v = .slice (some ⟨g, o, none⟩) Ks.length cp), (178, fun _ v => v = .int .i64 (j : Nat)), (179, fun _ v => v = .pointer (some ⟨g, o + j * 9, none⟩)), (180, fun _ v => v = .agg ([.int .i64 c.k, .int .i64 c.tm, .int .i64 c.a, .int .i64 c.b, .string (strOf c.name), .int .i64 vk, .int .i64 vn, .string (strOf vs), .slice va vm vc]).toArray), (181, fun _ v => v = .bool en), (182, fun _ v => v = .agg #[.int .i64 e.id, .int .i64 e.tm, .int .i64 e.k, .int .i64 e.a, .int .i64 e.b, .string (strOf e.name), .string (strOf e.text), .int .i64 uk, .int .i64 un, .string (strOf us), .slice ua um uc])] := ⟨fun _ _ _ _ h => h, fun _ _ _ _ h => h, fun _ _ _ _ h => h, fun _ _ _ _ h => h, fun _ _ _ _ h => h, fun _ _ _ _ h => h, fun _ _ _ _ h => h, fun _ _ _ _ h => h, fun _ _ _ _ h => h, fun _ _ _ _ h => h, fun _ _ _ _ h => h, fun _ _ _ _ h => h, fun _ _ _ _ h => h, fun _ _ _ _ h => h, fun _ _ _ _ h => h, fun _ _ _ _ h => h, fun _ _ _ _ h => h, fun _ _ _ _ h => h, trivial⟩
    refine PgAllS.cons rfl rfl (.inl ⟨rfl, rfl⟩) ?_ (PgAllS.cons rfl rfl (.inl ⟨rfl, rfl⟩) ?_ (PgAllS.cons rfl rfl (.inl ⟨rfl, rfl⟩) ?_ (PgAllS.cons rfl rfl (.inr ⟨_, _, _, _, _, rfl, rfl, rfl, rfl, by kernel_rfl⟩) ?_ (PgAllS.cons rfl rfl (.inr ⟨_, _, _, _, _, rfl, rfl, rfl, rfl, by kernel_rfl⟩) ?_ (PgAllS.cons rfl rfl (.inr ⟨_, _, _, _, _, rfl, rfl, rfl, rfl, by kernel_rfl⟩) ?_ (PgAllS.cons rfl rfl (.inr ⟨_, _, _, _, _, rfl, rfl, rfl, rfl, by kernel_rfl⟩) ?_ (PgAllS.cons rfl rfl (.inr ⟨_, _, _, _, _, rfl, rfl, rfl, rfl, by kernel_rfl⟩) ?_ (PgAllS.cons rfl rfl (.inr ⟨_, _, _, _, _, rfl, rfl, rfl, rfl, by kernel_rfl⟩) ?_ (PgAllS.cons rfl rfl (.inr ⟨_, _, _, _, _, rfl, rfl, rfl, rfl, by kernel_rfl⟩) ?_ (PgAllS.cons rfl rfl (.inl ⟨rfl, rfl⟩) ?_ (PgAllS.cons rfl rfl (.inl ⟨rfl, rfl⟩) ?_ (PgAllS.cons rfl rfl (.inr ⟨_, _, _, _, _, rfl, rfl, rfl, rfl, by kernel_rfl⟩) ?_ (PgAllS.cons rfl rfl (.inr ⟨_, _, _, _, _, rfl, rfl, rfl, rfl, by kernel_rfl⟩) ?_ (PgAllS.cons rfl rfl (.inr ⟨_, _, _, _, _, rfl, rfl, rfl, rfl, by kernel_rfl⟩) ?_ (PgAllS.cons rfl rfl (.inr ⟨_, _, _, _, _, rfl, rfl, rfl, rfl, by kernel_rfl⟩) ?_ (PgAllS.cons rfl rfl (.inr ⟨_, _, _, _, _, rfl, rfl, rfl, rfl, by kernel_rfl⟩) ?_ (PgAllS.cons rfl rfl (.inr ⟨_, _, _, _, _, rfl, rfl, rfl, rfl, by kernel_rfl⟩) ?_ (PgAllS.nil rfl))))))))))))))))))
    · intro L a W K hI hn hd hK
      have e30 : a.eval (.tmp 30) = .int .i64 0 := hI.ev 30 (by show ¬ (30 ∈ [165, 166, 167, 168, 169, 170, 171, 172, 173, 174, 175, 176, 177, 178, 179, 180, 181, 182]); decide) rfl
      exact pt_move _ (by first | exact .inl rfl | exact .inr rfl) _ e30 (hK _ _ hI.j PtKeep.refl rfl)
    · intro L a W K hI hn hd hK
      have e165 : a.eval (.tmp 165) = .int .i64 0 := hI.fact 0 165 _ rfl (dep_of hd 0 (by kernel_rfl))
      exact pt_val (v := .bool false) (by unfold execOp; simp only [e165]; kernel_rfl) (hK _ _ hI.j PtKeep.refl rfl)
    · intro L a W K hI hn hd hK
      have e166 : a.eval (.tmp 166) = .bool false := hI.fact 1 166 _ rfl (dep_of hd 1 (by kernel_rfl))
      exact pt_move _ (by first | exact .inl rfl | exact .inr rfl) _ e166 (hK _ _ hI.j PtKeep.refl rfl)
    · intro L a W K hI hn hd hK
      have e12 : a.eval (.tmp 12) = .slice (some ⟨g, o, none⟩) Ks.length cp := hI.ev 12 (by show ¬ (12 ∈ [165, 166, 167, 168, 169, 170, 171, 172, 173, 174, 175, 176, 177, 178, 179, 180, 181, 182]); decide) rfl
      exact pt_move _ (by first | exact .inl rfl | exact .inr rfl) _ e12 (hK _ _ hI.j PtKeep.refl rfl)
    · intro L a W K hI hn hd hK
      have e27 : a.eval (.tmp 27) = .int .i64 (j : Nat) := hI.ev 27 (by show ¬ (27 ∈ [165, 166, 167, 168, 169, 170, 171, 172, 173, 174, 175, 176, 177, 178, 179, 180, 181, 182]); decide) rfl
      exact pt_move _ (by first | exact .inl rfl | exact .inr rfl) _ e27 (hK _ _ hI.j PtKeep.refl rfl)
    · intro L a W K hI hn hd hK
      have e168 : a.eval (.tmp 168) = .slice (some ⟨g, o, none⟩) Ks.length cp := hI.fact 3 168 _ rfl (dep_of hd 3 (by kernel_rfl))
      have e169 : a.eval (.tmp 169) = .int .i64 (j : Nat) := hI.fact 4 169 _ rfl (dep_of hd 4 (by kernel_rfl))
      exact pt_val (v := .pointer (some ⟨g, o + j * 9, none⟩)) (ex_idx rfl e168 e169 Tryz.underlying22 info_wwc hjl) (hK _ _ hI.j PtKeep.refl rfl)
    · intro L a W K hI hn hd hK
      have e170 : a.eval (.tmp 170) = .pointer (some ⟨g, o + j * 9, none⟩) := hI.fact 5 170 _ rfl (dep_of hd 5 (by kernel_rfl))
      exact wp_load_mid _ (.tmp 170) rfl (g) (o + j * 9) e170 ([.int .i64 c.k, .int .i64 c.tm, .int .i64 c.a, .int .i64 c.b, .string (strOf c.name), .int .i64 vk, .int .i64 vn, .string (strOf vs), .slice va vm vc]) _ (HRC.out W (HO04.out.trans hI.j (fun _ _ e => e))) Tryz.underlying38 rfl (info_wwc) (hK _ _ hI.j PtKeep.refl rfl)
    · intro L a W K hI hn hd hK
      have e29 : a.eval (.tmp 29) = .pointer (some ⟨eb, 0, none⟩) := hI.ev 29 (by show ¬ (29 ∈ [165, 166, 167, 168, 169, 170, 171, 172, 173, 174, 175, 176, 177, 178, 179, 180, 181, 182]); decide) rfl
      exact wp_load_row _ (.tmp 29) rfl (eb) e29 43 (#[.int .i64 e.id, .int .i64 e.tm, .int .i64 e.k, .int .i64 e.a, .int .i64 e.b, .string (strOf e.name), .string (strOf e.text), .int .i64 uk, .int .i64 un, .string (strOf us), .slice ua um uc]) (0, 0) _ (HB4.out W hI.j) Tryz.underlying43 rfl (info_wwe) (hK _ _ hI.j PtKeep.refl rfl)
    · intro L a W K hI hn hd hK
      have e171 : a.eval (.tmp 171) = .agg ([.int .i64 c.k, .int .i64 c.tm, .int .i64 c.a, .int .i64 c.b, .string (strOf c.name), .int .i64 vk, .int .i64 vn, .string (strOf vs), .slice va vm vc]).toArray := hI.fact 6 171 _ rfl (dep_of hd 6 (by kernel_rfl))
      have e172 : a.eval (.tmp 172) = .agg #[.int .i64 e.id, .int .i64 e.tm, .int .i64 e.k, .int .i64 e.a, .int .i64 e.b, .string (strOf e.name), .string (strOf e.text), .int .i64 uk, .int .i64 un, .string (strOf us), .slice ua um uc] := hI.fact 7 172 _ rfl (dep_of hd 7 (by kernel_rfl))
      refine wp_callc (f := 16) (args := #[a.eval (.tmp 171), a.eval (.tmp 172)]) (by kernel_rfl) ?_
      rw [e171, e172]
      refine (HFI.out _ hI.j).mono ?_
      rintro x W' ⟨rfl, ho⟩
      exact ⟨_, rfl, hK _ _ (hI.j.trans ho (fun _ _ e => e.elim)) (hstab.keep ho) rfl⟩
    · intro L a W K hI hn hd hK
      have e173 : a.eval (.tmp 173) = .bool true := hI.fact 8 173 _ rfl (dep_of hd 8 (by kernel_rfl))
      exact pt_val (v := .bool false) (by unfold execOp; simp only [e173]; kernel_rfl) (hK _ _ hI.j PtKeep.refl rfl)
    · intro L a W K hI hn hd hK
      have e167 : a.eval (.tmp 167) = .bool false := hI.fact 2 167 _ rfl (dep_of hd 2 (by kernel_rfl))
      have e174 : a.eval (.tmp 174) = .bool false := hI.fact 9 174 _ rfl (dep_of hd 9 (by kernel_rfl))
      exact pt_val (v := .bool false) (by unfold execOp; simp only [e167, e174]; kernel_rfl) (hK _ _ hI.j PtKeep.refl rfl)
    · intro L a W K hI hn hd hK
      have e175 : a.eval (.tmp 175) = .bool false := hI.fact 10 175 _ rfl (dep_of hd 10 (by kernel_rfl))
      exact pt_move _ (by first | exact .inl rfl | exact .inr rfl) _ e175 (hK _ _ hI.j PtKeep.refl rfl)
    · intro L a W K hI hn hd hK
      have e12 : a.eval (.tmp 12) = .slice (some ⟨g, o, none⟩) Ks.length cp := hI.ev 12 (by show ¬ (12 ∈ [165, 166, 167, 168, 169, 170, 171, 172, 173, 174, 175, 176, 177, 178, 179, 180, 181, 182]); decide) rfl
      exact pt_move _ (by first | exact .inl rfl | exact .inr rfl) _ e12 (hK _ _ hI.j PtKeep.refl rfl)
    · intro L a W K hI hn hd hK
      have e27 : a.eval (.tmp 27) = .int .i64 (j : Nat) := hI.ev 27 (by show ¬ (27 ∈ [165, 166, 167, 168, 169, 170, 171, 172, 173, 174, 175, 176, 177, 178, 179, 180, 181, 182]); decide) rfl
      exact pt_move _ (by first | exact .inl rfl | exact .inr rfl) _ e27 (hK _ _ hI.j PtKeep.refl rfl)
    · intro L a W K hI hn hd hK
      have e177 : a.eval (.tmp 177) = .slice (some ⟨g, o, none⟩) Ks.length cp := hI.fact 12 177 _ rfl (dep_of hd 12 (by kernel_rfl))
      have e178 : a.eval (.tmp 178) = .int .i64 (j : Nat) := hI.fact 13 178 _ rfl (dep_of hd 13 (by kernel_rfl))
      exact pt_val (v := .pointer (some ⟨g, o + j * 9, none⟩)) (ex_idx rfl e177 e178 Tryz.underlying22 info_wwc hjl) (hK _ _ hI.j PtKeep.refl rfl)
    · intro L a W K hI hn hd hK
      have e179 : a.eval (.tmp 179) = .pointer (some ⟨g, o + j * 9, none⟩) := hI.fact 14 179 _ rfl (dep_of hd 14 (by kernel_rfl))
      exact wp_load_mid _ (.tmp 179) rfl (g) (o + j * 9) e179 ([.int .i64 c.k, .int .i64 c.tm, .int .i64 c.a, .int .i64 c.b, .string (strOf c.name), .int .i64 vk, .int .i64 vn, .string (strOf vs), .slice va vm vc]) _ (HRC.out W (HO04.out.trans hI.j (fun _ _ e => e))) Tryz.underlying38 rfl (info_wwc) (hK _ _ hI.j PtKeep.refl rfl)
    · intro L a W K hI hn hd hK
      have e180 : a.eval (.tmp 180) = .agg ([.int .i64 c.k, .int .i64 c.tm, .int .i64 c.a, .int .i64 c.b, .string (strOf c.name), .int .i64 vk, .int .i64 vn, .string (strOf vs), .slice va vm vc]).toArray := hI.fact 15 180 _ rfl (dep_of hd 15 (by kernel_rfl))
      refine wp_callc (f := 17) (args := #[a.eval (.tmp 180)]) (by kernel_rfl) ?_
      rw [e180]
      refine (HEN.out _ hI.j).mono ?_
      rintro x W' ⟨rfl, ho⟩
      exact ⟨_, rfl, hK _ _ (hI.j.trans ho (fun _ _ e => e.elim)) (hstab.keep ho) rfl⟩
    · intro L a W K hI hn hd hK
      have e29 : a.eval (.tmp 29) = .pointer (some ⟨eb, 0, none⟩) := hI.ev 29 (by show ¬ (29 ∈ [165, 166, 167, 168, 169, 170, 171, 172, 173, 174, 175, 176, 177, 178, 179, 180, 181, 182]); decide) rfl
      exact wp_load_row _ (.tmp 29) rfl (eb) e29 43 (#[.int .i64 e.id, .int .i64 e.tm, .int .i64 e.k, .int .i64 e.a, .int .i64 e.b, .string (strOf e.name), .string (strOf e.text), .int .i64 uk, .int .i64 un, .string (strOf us), .slice ua um uc]) (0, 0) _ (HB4.out W hI.j) Tryz.underlying43 rfl (info_wwe) (hK _ _ hI.j PtKeep.refl rfl)
  · intro L a w5z hal hj hfs
    dsimp only [PtAll] at hfs
    obtain ⟨f165, f166, f167, f168, f169, f170, f171, f172, f173, f174, f175, f176, f177, f178, f179, f180, f181, f182, -⟩ := hfs
    have hA := hal.turned
    simp only [List.map_cons, List.map_nil, Act.turned, f165, f166, f167, f168, f169, f170, f171, f172, f173, f174, f175, f176, f177, f178, f179, f180, f181, f182] at hA
    simp only [Act.put, List.setIfInBounds_toArray, List.set_cons_zero, List.set_cons_succ] at hA
    clear hal f165 f166 f167 f168 f169 f170 f171 f172 f173 f174 f175 f176 f177 f178 f179 f180 f181 f182
    subst hA
    change wpList _ _ _ [_, _, _] _ _
    have hnee := HNEE.out
    go_wp2_with fail
    refine (HCL.out w5z hj).mono ?_
    rintro x w5 ⟨rfl, ho5⟩
    have HOJ := hid (hj.trans ho5 (fun _ _ e => e))
    clear ho5
    have hsl := HWT.out.len
    have HIS : Hid ((Tryz.prog.info? 40).map (·.size) = some (bytesV (wsm sum1 0 (Ks.take j))).toArray.size) := hid (by rw [info32]; simp [hsl])
    have hl2 := linkR_len (wsm sum1 0 (Ks.take j)) e
    have HIS2 : Hid ((Tryz.prog.info? 40).map (·.size) = some (bytesV (linkR (wsm sum1 0 (Ks.take j)) e)).toArray.size) := hid (by rw [info32]; simp [hl2])
    have HSZ : Hid ((bytesV (linkR (wsm sum1 0 (Ks.take j)) e)).toArray.size = (bytesV (wsm sum1 0 (Ks.take j))).toArray.size) := hid (by simp [hl2, hsl])
    have HON : Hid ((bytesV (linkR (wsm sum1 0 (Ks.take j)) e)).toArray.all (·.oneCell') = true) := hid (by simp [bytesV, Value.oneCell'])
    have HL32 := hid hl2
    have HT5 := hid (HT4.out w5 HOJ.out); have HB5 := hid (HB4.out w5 HOJ.out); have HLK5 := hid (HLK.out w5 HOJ.out)
    clear hj hsl hl2
    go_wp2_with (first | ((guard_target =~ wpList _ _ _ (⟨some 187, _, _, _, _, _⟩ :: _) _ _); refine wpList_load_row (o := ⟨some 187, _, _, _, _, _⟩) rfl 40 (.tmp 26) rfl tb rfl 40 (bytesV (wsm sum1 0 (Ks.take j))).toArray (0, 0) _ HT5.out Tryz.underlying40 rfl HIS.out ?_) | ((guard_target =~ wpList _ _ _ (⟨some 188, _, _, _, _, _⟩ :: _) _ _); refine wpList_load_row (o := ⟨some 188, _, _, _, _, _⟩) rfl 43 (.tmp 29) rfl eb rfl 43 #[.int .i64 e.id, .int .i64 e.tm, .int .i64 e.k, .int .i64 e.a, .int .i64 e.b, .string (strOf e.name), .string (strOf e.text), .int .i64 uk, .int .i64 un, .string (strOf us), .slice ua um uc] (0, 0) _ HB5.out Tryz.underlying43 rfl info_wwe ?_))
    refine HLK5.out.mono ?_
    rintro x w6 ⟨cd, rfl, ho6⟩
    have HT6 := hid (blk_only HT5.out ho6 (fun e => e))
    have HO06 := hid ((HO04.out.trans HOJ.out (fun _ _ e => e)).trans ho6 (fun _ _ e => e))
    clear ho6 HLK5
    go_upto_region 47 with ((guard_target =~ wpList _ _ _ (⟨none, .store 40 (.tmp 26) _, _, _, _, _⟩ :: _) _ _); refine wpList_store_all rfl 40 (.tmp 26) (.tmp 190) rfl tb (bytesV (linkR (wsm sum1 0 (Ks.take j)) e)).toArray rfl rfl (bytesV (wsm sum1 0 (Ks.take j))).toArray 40 HT6.out HSZ.out HIS2.out HON.out ?_; intro w7 hb7 ho7 hs7; have HB7 := hid hb7; have HO7 := hid ho7; clear hb7 ho7 hs7)
    try dsimp only [Act.put]
    have HW7 : Hid (WT w0 w7 tb Ks (j + 1)) := hid ⟨HO06.out.trans HO7.out (fun k hk e => by have e' : k = tb := e; omega), by rw [HTK'.out]; exact HB7.out, by rw [HTK'.out]; exact HL32.out⟩
    go_wp2_with fail
    exact ⟨⟨j + 1, by omega, ⟨rfl, rfl, rfl, rfl, rfl, by show Value.int .i64 _ = _; go_num, rfl, rfl⟩, HW7.out⟩, by simp [intOf]; omega⟩
end
end Go.Proofs.YtfmdngeooelcpaaGreat
