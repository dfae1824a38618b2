/- WholeWritten: its loops. -/
import Derived.Test.YtfmdngeooelcpaaGreatTwL
import Derived.Test.YtfmdngeooelcpaaGreatCmF
import Derived.Test.YtfmdngeooelcpaaGreatCmK
import Derived.Test.YtfmdngeooelcpaaGreatEvD
import Derived.Test.YtfmdngeooelcpaaGreatFrm
import Derived.Test.YtfmdngeooelcpaaGreatRuns
import Derived.Test.YtfmdngeooelcpaaGreatPg
namespace Go.Proofs.YtfmdngeooelcpaaGreat
open Go.RowKit
noncomputable def wwB (id : Nat) : Code := ((Tryz.f3.body).bind (blkOf id)).getD .skip
theorem lit196 (v : Nat → Value) : ((List.range 196).map v).toArray = #[v 0, v 1, v 2, v 3, v 4, v 5, v 6, v 7, v 8, v 9, v 10, v 11, v 12, v 13, v 14, v 15, v 16, v 17, v 18, v 19, v 20, v 21, v 22, v 23, v 24, v 25, v 26, v 27, v 28, v 29, v 30, v 31, v 32, v 33, v 34, v 35, v 36, v 37, v 38, v 39, v 40, v 41, v 42, v 43, v 44, v 45, v 46, v 47, v 48, v 49, v 50, v 51, v 52, v 53, v 54, v 55, v 56, v 57, v 58, v 59, v 60, v 61, v 62, v 63, v 64, v 65, v 66, v 67, v 68, v 69, v 70, v 71, v 72, v 73, v 74, v 75, v 76, v 77, v 78, v 79, v 80, v 81, v 82, v 83, v 84, v 85, v 86, v 87, v 88, v 89, v 90, v 91, v 92, v 93, v 94, v 95, v 96, v 97, v 98, v 99, v 100, v 101, v 102, v 103, v 104, v 105, v 106, v 107, v 108, v 109, v 110, v 111, v 112, v 113, v 114, v 115, v 116, v 117, v 118, v 119, v 120, v 121, v 122, v 123, v 124, v 125, v 126, v 127, v 128, v 129, v 130, v 131, v 132, v 133, v 134, v 135, v 136, v 137, v 138, v 139, v 140, v 141, v 142, v 143, v 144, v 145, v 146, v 147, v 148, v 149, v 150, v 151, v 152, v 153, v 154, v 155, v 156, v 157, v 158, v 159, v 160, v 161, v 162, v 163, v 164, v 165, v 166, v 167, v 168, v 169, v 170, v 171, v 172, v 173, v 174, v 175, v 176, v 177, v 178, v 179, v 180, v 181, v 182, v 183, v 184, v 185, v 186, v 187, v 188, v 189, v 190, v 191, v 192, v 193, v 194, v 195] := by kernel_rfl
def sum1 : List UInt8 := 1 :: List.replicate 31 0
theorem info_ww : (Tryz.prog.info? 53).map (·.size) = some 2 := by kernel_rfl
theorem linkR_len (s : List UInt8) (e : EM) : (linkR s e).length = 32 := by
  unfold linkR
  split
  · exact link_len s e
  · simp
/-- A command alone, as a slice. -/
theorem one_cmd {w : World} {g : Nat} {Gp : Nat → Prop} {c : EM} {cs : List Value} (hb : w.heap[g]? = some (.cells cs.toArray 38 (0, 0))) (hC : CAt w Gp c cs) : CmsV w (fun k => Gp k ∨ k = g) (.slice (some ⟨g, 0, none⟩) 1 1) [c] := by
  refine ⟨_, 1, g, 0, rfl, fun _ => ⟨rfl, .inr rfl⟩, fun i e hi => ?_⟩
  match i, hi with
  | 0, hi =>
    obtain rfl := Option.some.inj hi
    refine ⟨cs, fun j u hj => ?_, hC.mono (fun k hk => .inl hk)⟩
    rw [show 0 + 0 * 9 + j = j from by omega]
    refine (cell_blk hb j).trans ?_
    simpa using hj
  | i + 1, hi => simp at hi
/-- The world: the log, the sum, the commands that are kept. -/
structure WB (w0 w : World) (l b r sb : Nat) (M : WM) (FF : Nat → Prop) (s : List UInt8) (Ks : List EM) (ao : Option Addr) (cp : Nat) (xs : List Value) : Prop where
  lg : LgAt w0 w l b r M FF
  bs : w.heap[sb]? = some (.cells (bytesV s).toArray 40 (0, 0))
  sl : s.length = 32
  gr : Gr w 38 9 ao Ks.length cp xs
  cx : CXs w (fun k => k < w0.heap.size) Ks xs
  s0 : w0.heap.size ≤ sb
  sf : ¬ FF sb
  ad : ∀ q, ao = some ⟨q, 0, none⟩ → w0.heap.size ≤ q ∧ ¬ FF q ∧ q ≠ sb
section
variable {w0 w w' : World} {l b r sb cp : Nat} {M M' : WM} {FF : Nat → Prop} {s : List UInt8} {Ks : List EM} {ao : Option Addr} {xs : List Value}
theorem WB.same (h : WB w0 w l b r sb M FF s Ks ao cp xs) (ho : Only (fun _ => False) w w') : WB w0 w' l b r sb M FF s Ks ao cp xs :=
  ⟨h.lg.same ho, blk_only h.bs ho (fun e => e), h.sl, h.gr.only ho (fun _ _ e => e), h.cx.only ho (fun _ _ e => e), h.s0, h.sf, h.ad⟩
theorem WB.step (h : WB w0 w l b r sb M FF s Ks ao cp xs) (hs : LStep w w' l b r M' FF) : ∃ F', WB w0 w' l b r sb M' F' s Ks ao cp xs ∧ (∀ k, F' k → FF k ∨ w.heap.size ≤ k) ∧ Only FF w w' := by
  obtain ⟨F', h1, h2, h3⟩ := hs
  have hz := h.lg.only.size
  have hsl := blk_lt h.bs
  exact ⟨F', ⟨⟨h1, fun k hk => (h3 k hk).elim (h.lg.new k) (fun e => by omega), h.lg.only.trans h2 (fun k hl hk => by have := h.lg.new k hk; omega)⟩, blk_only h.bs h2 h.sf, h.sl, h.gr.only h2 (fun q hq => (h.ad q hq).2.1), h.cx.only h2 (fun k hk hf => by have := h.lg.new k hf; omega), h.s0, fun e => (h3 sb e).elim h.sf (fun e => by omega), fun q hq => ⟨(h.ad q hq).1, fun e => (h3 q e).elim (h.ad q hq).2.1 (fun e => by have := h.gr.lt hq; omega), (h.ad q hq).2.2⟩⟩, h3, h2⟩
theorem WB.append (h : WB w0 w l b r sb M FF s Ks ao cp xs) {c : EM} {cs : List Value} {ao' : Option Addr} {cp' : Nat} (hg : Gr w' 38 9 ao' (Ks.length + 1) cp' (xs ++ cs)) (hc : CAt w (fun k => k < w0.heap.size) c cs) (ha : ∀ q, ao' = some ⟨q, 0, none⟩ → ao = ao' ∨ w.heap.size ≤ q) (ho : Only (fun k => ao = some ⟨k, 0, none⟩) w w') : WB w0 w' l b r sb M FF s (Ks ++ [c]) ao' cp' (xs ++ cs) := by
  have hz := h.lg.only.size
  have hsl := blk_lt h.bs
  have hn : ∀ k, k < w0.heap.size → ¬ ao = some ⟨k, 0, none⟩ := fun k hk e => by have := (h.ad k e).1; omega
  refine ⟨⟨h.lg.log.only ho (fun k hk e => (h.ad k e).2.1 hk), h.lg.new, h.lg.only.trans ho (fun k hk e => hn k hk e)⟩, blk_only h.bs ho (fun e => (h.ad sb e).2.2 rfl), h.sl, by rw [List.length_append]; exact hg, (h.cx.only ho hn).snoc (hc.only ho hn), h.s0, h.sf, fun q hq => ?_⟩
  rcases ha q hq with e | e
  · exact h.ad q (e.trans hq)
  · exact ⟨by omega, fun hf => by have := h.lg.log.lt hf; omega, by omega⟩
theorem WB.sum (h : WB w0 w l b r sb M FF s Ks ao cp xs) {s' : List UInt8} (hs : s'.length = 32) (hb : w'.heap[sb]? = some (.cells (bytesV s').toArray 40 (0, 0))) (ho : Only (fun k => k = sb) w w') : WB w0 w' l b r sb M FF s' Ks ao cp xs :=
  ⟨⟨h.lg.log.only ho (fun k hk e => h.sf (by have e' : k = sb := e; exact e' ▸ hk)), h.lg.new, h.lg.only.trans ho (fun k hk e => by have e' : k = sb := e; have := h.s0; omega)⟩, hb, hs, h.gr.only ho (fun q hq e => (h.ad q hq).2.2 (by have e' : q = sb := e; exact e')), h.cx.only ho (fun k hk e => by have e' : k = sb := e; have := h.s0; omega), h.s0, h.sf, h.ad⟩
/-- Behind a crash, opened anew. -/
theorem WB.reopen (h : WB w0 w l b r sb M FF s Ks ao cp xs) {FD F2 : Nat → Prop} {l2 r2 : Nat} {w'' : World} (hD : ∀ k, FD k → FF k) (ho : Only FD w w') (ho2 : Only (fun _ => False) w' w'') (hl : LgAt w0 w'' l2 b r2 M' F2) (h2 : ∀ k, F2 k → FD k ∨ w'.heap.size ≤ k) : WB w0 w'' l2 b r2 sb M' F2 s Ks ao cp xs := by
  have h3 : Only FF w w'' := (ho.mono (fun k _ e => hD k e)).trans ho2 (fun _ _ e => e.elim)
  have hz := ho.size
  have hsl := blk_lt h.bs
  exact ⟨hl, blk_only h.bs h3 h.sf, h.sl, h.gr.only h3 (fun q hq => (h.ad q hq).2.1), h.cx.only h3 (fun k hk hf => by have := h.lg.new k hf; omega), h.s0, fun e => (h2 sb e).elim (fun e => h.sf (hD _ e)) (fun e => by omega), fun q hq => ⟨(h.ad q hq).1, fun e => (h2 q e).elim (fun e => (h.ad q hq).2.1 (hD _ e)) (fun e => by have := h.gr.lt hq; omega), (h.ad q hq).2.2⟩⟩
/-- The log's own number of steps. -/
structure WP (M : WM) (Ks : List EM) (j : Nat) : Prop where
  lp : ∃ T0, LP M 8 j T0 (wfr 0 Ks)
  wt : M.wait = []
  kl : Ks.length ≤ j
  ok : ∀ c ∈ Ks, c.CGood ∧ c.rg ∧ c.isC
theorem WP.more {j : Nat} (h : WP M Ks j) : WP M Ks (j + 1) := ⟨let ⟨T0, h1⟩ := h.lp; ⟨T0, h1.more (Nat.le_succ j)⟩, h.wt, Nat.le_succ_of_le h.kl, h.ok⟩
end
def WWs (w0 w : World) (l b sb j : Nat) (Ks : List EM) (ao : Option Addr) (cp : Nat) : Prop := ∃ r M FF xs, WB w0 w l b r sb M FF (wsm sum1 0 Ks) Ks ao cp xs ∧ WP M Ks j
section
variable {w0 w : World} {Q : Exit → Act → World → Prop}
set_option maxRecDepth 100000 in
set_option maxHeartbeats 12800000 in
theorem ww0 {a : Act} {es : List EM} {ea : Option Addr} {ec l b sb cp0 : Nat} {ao0 : Option Addr} {cr : Int} (hE : CmsV w0 (fun k => k < w0.heap.size) (.slice ea es.length ec) es) (hg : ∀ e ∈ es, e.rg ∧ e.isC) (hn : es.length ≤ 12) (hW : WWs w0 w l b sb 0 [] ao0 cp0)
    (hL : Lv 196 a [(1, .int .i64 cr), (5, .pointer (some ⟨b, 0, none⟩)), (7, .pointer (some ⟨l, 0, none⟩)), (12, .slice ao0 0 cp0), (13, .pointer (some ⟨sb, 0, none⟩)), (64, .slice ea es.length ec), (65, .int .i64 es.length), (66, .int .i64 0)])
    (hR : ∀ a' w', Lv 196 a' [(4, .bool true)] → Only (fun _ => False) w0 w' → Q .ret a' w')
    (hQ : ∀ a' w' l Ks ao cp, Lv 196 a' [(5, .pointer (some ⟨b, 0, none⟩)), (12, .slice ao Ks.length cp), (13, .pointer (some ⟨sb, 0, none⟩))] → WWs w0 w' l b sb es.length Ks ao cp → Q .normal a' w') :
    (wwB 0).wp Tryz.prog Q a w := by
  refine Code.wp_mono NoPanic.imp ?_
  conv => arg 2; whnf
  refine wp_block (wp_loop (fun a' w' => ∃ (j l : Nat) (Ks : List EM) (ao : Option Addr) (cp : Nat), j ≤ es.length ∧ Lv 196 a' [(1, .int .i64 cr), (5, .pointer (some ⟨b, 0, none⟩)), (7, .pointer (some ⟨l, 0, none⟩)), (12, .slice ao Ks.length cp), (13, .pointer (some ⟨sb, 0, none⟩)), (64, .slice ea es.length ec), (65, .int .i64 es.length), (66, .int .i64 (j : Nat))] ∧ WWs w0 w' l b sb j Ks ao cp)
    (fun a' _ => es.length - (intOf (a'.tmps.getD 66 undef)).toNat) ⟨0, l, [], ao0, cp0, Nat.zero_le _, hL, hW⟩ ?_)
  clear hL hW
  rintro a' w1 ⟨j, l, Ks, ao, cp, hj, hI, hws⟩
  obtain ⟨u, rfl, hu⟩ := act_fn hI
  rw [lit196] at hI ⊢
  obtain ⟨g1, g5, g7, g12, g13, g64, g65, g66, -⟩ := hI
  change u 1 = _ at g1
  change u 5 = _ at g5
  change u 7 = _ at g7
  change u 12 = _ at g12
  change u 13 = _ at g13
  change u 64 = _ at g64
  change u 65 = _ at g65
  change u 66 = _ at g66
  rw [g1, g5, g7, g12, g13, g64, g65, g66]
  clear g1 g5 g7 g12 g13 g64 g65 g66 hu
  have HQ := hid hQ; have HR := hid hR; have HWS := hid hws
  clear hQ hR hws
  by_cases hjl : j < es.length
  rotate_left
  · have hji : ¬ (j : Int) < es.length := by omega
    obtain rfl : j = es.length := by omega
    go_wp2_with fail
    exact HQ.out _ _ _ _ _ _ ⟨rfl, rfl, rfl, rfl, rfl⟩ HWS.out
  have hji : (j : Int) < es.length := by omega
  obtain ⟨r, M, FF, xs, hwb, hwp⟩ := HWS.out
  obtain ⟨c, hcj⟩ : ∃ t, es[j]? = some t := ⟨_, List.getElem?_eq_getElem hjl⟩
  obtain ⟨hcg, hcC⟩ := hg c (List.mem_of_getElem? hcj)
  obtain ⟨a', c', g, o, heq, hne, hel⟩ := hE
  simp only [Value.slice.injEq, true_and] at heq
  obtain ⟨rfl, rfl⟩ := heq
  obtain ⟨rfl, hgl⟩ := hne (by rintro rfl; simp at hjl)
  obtain ⟨cs, hcs, hC⟩ := hel j c hcj
  obtain ⟨vk, vn, vs, va, vm, vc, rfl, hV⟩ := hC.form
  have hKl := hwp.kl
  have HC0 := hid hC
  have HR9 : Hid (w1.rangeAt g (o + j * 9) [.int .i64 c.k, .int .i64 c.tm, .int .i64 c.a, .int .i64 c.b, .string (strOf c.name), .int .i64 vk, .int .i64 vn, .string (strOf vs), .slice va vm vc]) := hid fun k u hk => (World.cell?_of_block (hwb.lg.only.block g hgl (fun e => e))).trans (hcs k u hk)
  have HI9 : Hid ((Tryz.prog.info? 38).map (·.size) = some ([.int .i64 c.k, .int .i64 c.tm, .int .i64 c.a, .int .i64 c.b, .string (strOf c.name), .int .i64 vk, .int .i64 vn, .string (strOf vs), .slice va vm vc] : List Value).length) := hid (by kernel_rfl)
  have HWB := hid hwb; have HWP := hid hwp; have HCG := hid hcg; have HCC := hid hcC
  have HVS := hid hV
  clear hwb hwp hcj hel hcs hC hV hcg hcC HWS hg hne
  go_upto_region 15 with ((guard_target =~ wpList _ _ _ (⟨some 70, _, _, _, _, _⟩ :: _) _ _); refine wpList_load_mid rfl 38 (.tmp 69) rfl g (o + j * 9) rfl [.int .i64 c.k, .int .i64 c.tm, .int .i64 c.a, .int .i64 c.b, .string (strOf c.name), .int .i64 vk, .int .i64 vn, .string (strOf vs), .slice va vm vc] _ HR9.out Tryz.underlying38 rfl HI9.out ?_; rw [show ([.int .i64 c.k, .int .i64 c.tm, .int .i64 c.a, .int .i64 c.b, .string (strOf c.name), .int .i64 vk, .int .i64 vn, .string (strOf vs), .slice va vm vc] : List Value).toArray = #[.int .i64 c.k, .int .i64 c.tm, .int .i64 c.a, .int .i64 c.b, .string (strOf c.name), .int .i64 vk, .int .i64 vn, .string (strOf vs), .slice va vm vc] from rfl])
  obtain ⟨w2, hw2⟩ : ∃ x, w1.alloc (.cells #[.int .i64 c.k, .int .i64 c.tm, .int .i64 c.a, .int .i64 c.b, .string (strOf c.name), .int .i64 vk, .int .i64 vn, .string (strOf vs), .slice va vm vc] 38) = x := ⟨_, rfl⟩
  have hb15 : w2.heap[w1.heap.size]? = some (.cells #[.int .i64 c.k, .int .i64 c.tm, .int .i64 c.a, .int .i64 c.b, .string (strOf c.name), .int .i64 vk, .int .i64 vn, .string (strOf vs), .slice va vm vc] 38 (0, 0)) := by rw [← hw2]; exact blk_new _ _
  have ho12 : Only (fun _ => False) w1 w2 := by rw [← hw2]; exact only_new _ _
  rw [hw2]
  obtain ⟨cb, hcb⟩ : ∃ x, w1.heap.size = x := ⟨_, rfl⟩
  rw [hcb] at hb15 ⊢
  have HB15 := hid hb15
  have HW2 := hid (HWB.out.same ho12)
  have HNC : Hid (¬ FF cb ∧ cb ≠ sb ∧ (∀ q, ao = some ⟨q, 0, none⟩ → cb ≠ q) ∧ w0.heap.size ≤ cb) := hid (by
    rw [← hcb]
    exact ⟨fun e => by have := HWB.out.lg.log.lt e; omega, fun e => by have := blk_lt HWB.out.bs; omega, fun q hq e => by have := HWB.out.gr.lt hq; omega, HWB.out.lg.only.size⟩)
  have HIC : Hid ((Tryz.prog.info? 38).map (·.size) = some (#[.int .i64 c.k, .int .i64 c.tm, .int .i64 c.a, .int .i64 c.b, .string (strOf c.name), .int .i64 vk, .int .i64 vn, .string (strOf vs), .slice va vm vc] : Array Value).size) := hid (by kernel_rfl)
  have hCw : ∀ W : World, Only (fun _ => False) w0 W → CAt W (fun k => k < w0.heap.size) c [.int .i64 c.k, .int .i64 c.tm, .int .i64 c.a, .int .i64 c.b, .string (strOf c.name), .int .i64 vk, .int .i64 vn, .string (strOf vs), .slice va vm vc] := fun _ hW => HC0.out.same hW
  have HCK := hid (ccheck_c (hCw _ HW2.out.lg.only) (fun k hk => Nat.lt_of_lt_of_le hk HW2.out.lg.only.size) HCG.out)
  have HCW := hid hCw
  clear hw2 hb15 ho12 hcb HWB HR9 HI9 hCw
  go_wp2_with ((guard_target =~ wpList _ _ _ (⟨some 71, _, _, _, _, _⟩ :: _) _ _); refine wpList_load_row (o := ⟨some 71, _, _, _, _, _⟩) rfl 38 (.tmp 15) rfl cb rfl 38 #[.int .i64 c.k, .int .i64 c.tm, .int .i64 c.a, .int .i64 c.b, .string (strOf c.name), .int .i64 vk, .int .i64 vn, .string (strOf vs), .slice va vm vc] (0, 0) _ HB15.out Tryz.underlying38 rfl HIC.out ?_)
  refine HCK.out.mono ?_
  rintro x w3 ⟨rfl, ho3⟩
  have HW3 := hid (HW2.out.same ho3)
  have HB3 := hid (blk_only HB15.out ho3 (fun e => e))
  clear ho3 HCK HW2 HB15
  by_cases hck : c.cchk = 0
  rotate_left
  · have hnb : (c.cchk != 0) = true := by rw [bne_iff_ne]; exact hck
    have HEN : Hid (Calls Tryz.prog 6 #[.slice (some ⟨w3.heap.size, 0, none⟩) 1 1] (w3.alloc (.cells #[.int .i64 c.k, .int .i64 c.tm, .int .i64 c.a, .int .i64 c.b, .string (strOf c.name), .int .i64 vk, .int .i64 vn, .string (strOf vs), .slice va vm vc] 38)) fun e w' => ∃ v cd, e = .returned (.tuple #[v, .int .i64 cd]) ∧ cd ≠ 0 ∧ Only (fun _ => False) (w3.alloc (.cells #[.int .i64 c.k, .int .i64 c.tm, .int .i64 c.a, .int .i64 c.b, .string (strOf c.name), .int .i64 vk, .int .i64 vn, .string (strOf vs), .slice va vm vc] 38)) w') := hid (by
      have hb := blk_new w3 (.cells #[.int .i64 c.k, .int .i64 c.tm, .int .i64 c.a, .int .i64 c.b, .string (strOf c.name), .int .i64 vk, .int .i64 vn, .string (strOf vs), .slice va vm vc] 38)
      have ho := HW3.out.lg.only.trans (only_new w3 (.cells #[.int .i64 c.k, .int .i64 c.tm, .int .i64 c.a, .int .i64 c.b, .string (strOf c.name), .int .i64 vk, .int .i64 vn, .string (strOf vs), .slice va vm vc] 38)) (fun _ _ e => e)
      have h1 := cencode_c (one_cmd hb (HCW.out _ ho)) (fun k hk => by
        have hz := HW3.out.lg.only.size
        rw [World.size_alloc]
        rcases hk with e | e <;> omega) (fun e he => by obtain rfl := List.mem_singleton.1 he; exact ⟨HCG.out, HCC.out⟩) (by show 1 ≤ 9223372036854775807; decide)
      refine h1.mono ?_
      rintro e w' ⟨v, e1, ⟨-, -, -, -, -, e2⟩⟩
      exact ⟨v, _, e1, fun e3 => hck (cgood_chk ((cgood_of e3).2 c (List.mem_singleton.2 rfl))), e2⟩)
    clear hck
    go_wp2_with ((guard_target =~ wpList _ _ _ (⟨some 75, _, _, _, _, _⟩ :: _) _ _); refine wpList_load_row (o := ⟨some 75, _, _, _, _, _⟩) rfl 38 (.tmp 15) rfl cb rfl 38 #[.int .i64 c.k, .int .i64 c.tm, .int .i64 c.a, .int .i64 c.b, .string (strOf c.name), .int .i64 vk, .int .i64 vn, .string (strOf vs), .slice va vm vc] (0, 0) _ HB3.out Tryz.underlying38 rfl HIC.out ?_)
    refine HEN.out.mono ?_
    rintro x w4 ⟨v, cd, rfl, hcd, ho4⟩
    have HW4 := hid (HW3.out.same ((only_new _ _).trans ho4 (fun _ _ e => e)))
    have hcb0 : (cd == 0) = false := beq_eq_false_iff_ne.2 hcd
    clear hcd ho4 HEN
    go_wp2_with fail
    exact ⟨⟨j + 1, l, _, _, _, by omega, ⟨rfl, rfl, rfl, rfl, rfl, rfl, rfl, by show Value.int .i64 _ = _; go_num, rfl, rfl⟩, ⟨r, M, FF, xs, HW4.out, HWP.out.more⟩⟩, by simp [intOf]; omega⟩
  have hnb : (c.cchk != 0) = false := by rw [hck]; rfl
  have HGD := hid (cchk_good hck)
  clear hck
  have HEV := hid (cevent_c (HCW.out _ HW3.out.lg.only) (fun k hk => Nat.lt_of_lt_of_le hk HW3.out.lg.only.size) HCG.out (by have := cgood_parts HGD.out; omega))
  go_wp2_with ((guard_target =~ wpList _ _ _ (⟨some 82, _, _, _, _, _⟩ :: _) _ _); refine wpList_load_row (o := ⟨some 82, _, _, _, _, _⟩) rfl 38 (.tmp 15) rfl cb rfl 38 #[.int .i64 c.k, .int .i64 c.tm, .int .i64 c.a, .int .i64 c.b, .string (strOf c.name), .int .i64 vk, .int .i64 vn, .string (strOf vs), .slice va vm vc] (0, 0) _ HB3.out Tryz.underlying38 rfl HIC.out ?_)
  refine HEV.out.mono ?_
  rintro x w4 ⟨ds, rfl, hE4, ho4, hsf4⟩
  obtain ⟨uk, un, us, ua, um, uc, hds, hU⟩ := hE4.form
  have hdA : ds.toArray = #[.int .i64 0, .int .i64 c.cev.tm, .int .i64 c.cev.k, .int .i64 c.cev.a, .int .i64 c.cev.b, .string (strOf c.cev.name), .string (strOf c.cev.text), .int .i64 uk, .int .i64 un, .string (strOf us), .slice ua um uc] := by rw [hds, cev_id]
  rw [hdA]
  have HU := hid hU
  have HW4 := hid (HW3.out.same ho4)
  have HGL3 : Hid (∀ q, ao = some ⟨q, 0, none⟩ → q < w3.heap.size) := hid fun q hq => HW3.out.gr.lt hq
  have HW3F : Hid (∀ k, FF k → k < w3.heap.size) := hid fun k hk => HW3.out.lg.log.lt hk
  have HB4 := hid (blk_only HB3.out ho4 (fun e => e))
  have HB18 := hid (blk_new w4 (.cells #[.int .i64 0, .int .i64 0, .int .i64 0, .int .i64 0, .int .i64 0, .string (strOf []), .string (strOf []), .int .i64 0, .int .i64 0, .string (strOf []), .slice none 0 0] 43))
  have HO45 := hid (only_new w4 (.cells #[.int .i64 0, .int .i64 0, .int .i64 0, .int .i64 0, .int .i64 0, .string (strOf []), .string (strOf []), .int .i64 0, .int .i64 0, .string (strOf []), .slice none 0 0] 43))
  clear hds hdA hU hE4 ho4 hsf4 HEV HW3 HB3
  go_upto_region 20 with ((guard_target =~ wpList _ _ _ (⟨none, .store 43 (.tmp 18) _, _, _, _, _⟩ :: _) _ _); refine wpList_store_all rfl 43 (.tmp 18) (.tmp 83) rfl w4.heap.size #[.int .i64 0, .int .i64 c.cev.tm, .int .i64 c.cev.k, .int .i64 c.cev.a, .int .i64 c.cev.b, .string (strOf c.cev.name), .string (strOf c.cev.text), .int .i64 uk, .int .i64 un, .string (strOf us), .slice ua um uc] rfl rfl #[.int .i64 0, .int .i64 0, .int .i64 0, .int .i64 0, .int .i64 0, .string (strOf []), .string (strOf []), .int .i64 0, .int .i64 0, .string (strOf []), .slice none 0 0] 43 HB18.out rfl info_evc (by simp [Value.oneCell']) ?_; intro w5 hb5 ho5 hs5; have HB5 := hid hb5; have HO5 := hid ho5; clear hb5 ho5 hs5)
  try dsimp only [Act.put]
  obtain ⟨eb, heb⟩ : ∃ x, w4.heap.size = x := ⟨_, rfl⟩
  have HNE : Hid (¬ FF eb ∧ eb ≠ sb ∧ eb ≠ cb ∧ w0.heap.size ≤ eb) := hid (by
    rw [← heb]
    exact ⟨fun e => by have := HW4.out.lg.log.lt e; omega, fun e => by have := blk_lt HW4.out.bs; omega, fun e => by have := blk_lt HB4.out; omega, HW4.out.lg.only.size⟩)
  have HO5' : Hid (Only (fun _ => False) w4 w5) := hid (HO45.out.trans HO5.out (fun k hk e => by have e' : k = w4.heap.size := e; omega))
  rw [heb] at HB5 ⊢
  have HNA : Hid (∀ q, ao = some ⟨q, 0, none⟩ → ¬ New w3 w4 q) := hid (fun q hq e => by have := HGL3.out q hq; have := e.1; omega)
  have HNQ : Hid (∀ q, ao = some ⟨q, 0, none⟩ → q ≠ eb) := hid (fun q hq e => by have := HW4.out.gr.lt hq; omega)
  have HNN : Hid (∀ k, New w3 w4 k → ¬ FF k) := hid (fun k hk hf => by have := HW3F.out k hf; have := hk.1; omega)
  have hnew : ¬ New w3 w4 eb := fun e => by have := e.2; omega
  have HNW : Hid (¬ New w3 w4 eb) := hid hnew
  have e0 : w5.cell? ⟨eb, 0, none⟩ = some (.int .i64 0) := cell_blk HB5.out 0
  have ze := frozen_blk HB5.out
  have hb6 : (w5.setCell ⟨eb, 0, none⟩ (.int .i64 ((Ks.length : Int) + 1))).heap[eb]? = some (.cells #[.int .i64 ((Ks.length : Int) + 1), .int .i64 c.cev.tm, .int .i64 c.cev.k, .int .i64 c.cev.a, .int .i64 c.cev.b, .string (strOf c.cev.name), .string (strOf c.cev.text), .int .i64 uk, .int .i64 un, .string (strOf us), .slice ua um uc] 43 (0, 0)) := by
    have := blk_set HB5.out 0 (.int .i64 ((Ks.length : Int) + 1))
    simpa using this
  have HB6 := hid hb6
  have HO56 := hid (only_set (w := w5) eb 0 (.int .i64 ((Ks.length : Int) + 1)))
  clear hb6 hnew heb HB18 HO45 HO5
  go_upto_region 21 with fail
  obtain ⟨w6, hw6⟩ : ∃ x, w5.setCell ⟨eb, 0, none⟩ (.int .i64 ((Ks.length : Int) + 1)) = x := ⟨_, rfl⟩
  rw [hw6] at HB6 HO56 ⊢
  clear hw6 e0 ze
  have hkb : 1 ≤ (Ks.length : Int) + 1 ∧ (Ks.length : Int) + 1 ≤ 1048576 := by omega
  obtain ⟨ev, hev⟩ : ∃ x, c.cev.wid ((Ks.length : Int) + 1) = x := ⟨_, rfl⟩
  have HEV := hid hev
  have hgood := cev_good HGD.out hkb
  have hrg := cevw_rg HGD.out HCG.out hkb
  have hwl := cev_len HGD.out hkb
  rw [hev] at hgood hrg hwl
  have hE6 : EAt w6 (New w3 w4) ev [.int .i64 ((Ks.length : Int) + 1), .int .i64 c.cev.tm, .int .i64 c.cev.k, .int .i64 c.cev.a, .int .i64 c.cev.b, .string (strOf c.cev.name), .string (strOf c.cev.text), .int .i64 uk, .int .i64 un, .string (strOf us), .slice ua um uc] := ⟨[.int .i64 uk, .int .i64 un, .string (strOf us), .slice ua um uc], by rw [← hev]; rfl, by
    rw [← hev]
    exact (HU.out.only HO5'.out (fun _ _ e => e)).only HO56.out (fun k hk e => HNW.out (by have e' : k = eb := e; exact e' ▸ hk))⟩
  have HO46 : Hid (Only (fun k => k = eb) w4 w6) := hid ((HO5'.out.mono (fun _ _ e => e.elim)).trans HO56.out (fun _ _ e => e))
  have hchk := good_chk hgood
  have HEN : Hid (Calls Tryz.prog 9 #[.agg #[.int .i64 ((Ks.length : Int) + 1), .int .i64 c.cev.tm, .int .i64 c.cev.k, .int .i64 c.cev.a, .int .i64 c.cev.b, .string (strOf c.cev.name), .string (strOf c.cev.text), .int .i64 uk, .int .i64 un, .string (strOf us), .slice ua um uc]] w6 fun e w' => ∃ v, e = .returned (.tuple #[v, .int .i64 0]) ∧ NewB w6 w' v ev.wr) := hid (by
    have h1 := encode_c hE6 (fun k hk => by have := hk.2; have := HO46.out.size; omega) hrg
    refine h1.mono ?_
    rintro e w' ⟨v, e1, e2⟩
    rw [hchk] at e1
    rw [if_pos hchk] at e2
    exact ⟨v, e1, e2⟩)
  have HLK : Hid (∀ W, Only (fun k => k ≠ eb ∧ ¬ New w3 w4 k) w6 W → Calls Tryz.prog 12 #[.agg (bytesV (wsm sum1 0 Ks)).toArray, .agg #[.int .i64 ((Ks.length : Int) + 1), .int .i64 c.cev.tm, .int .i64 c.cev.k, .int .i64 c.cev.a, .int .i64 c.cev.b, .string (strOf c.cev.name), .string (strOf c.cev.text), .int .i64 uk, .int .i64 un, .string (strOf us), .slice ua um uc]] W fun x w' => ∃ cd, x = .returned (.tuple #[.agg (bytesV (linkR (wsm sum1 0 Ks) ev)).toArray, .int .i64 cd]) ∧ Only (fun _ => False) W w') := hid fun W hW => by
    refine (elink_c HW4.out.sl (hE6.only hW (fun k hk e => e.2 hk)) (fun k hk => by have := hk.2; have := HO46.out.size; have := hW.size; omega) hrg).mono ?_
    rintro e w' ⟨e1, e2⟩
    exact ⟨_, e1, e2⟩
  have HW6 : Hid (WB w0 w6 l b r sb M FF (wsm sum1 0 Ks) Ks ao cp xs) := hid (by
    have h := HW4.out
    have hN := HNE.out
    have ho := HO46.out
    exact ⟨⟨h.lg.log.only ho (fun k hk e => hN.1 (by have e' : k = eb := e; exact e' ▸ hk)), h.lg.new, h.lg.only.trans ho (fun k hk e => by have e' : k = eb := e; omega)⟩, blk_only h.bs ho (fun e => hN.2.1 (by have e' : sb = eb := e; exact e'.symm)), h.sl, h.gr.only ho (fun q hq e => by have e' : q = eb := e; have := h.gr.lt hq; have := HNW.out; exact HNQ.out q hq e'), h.cx.only ho (fun k hk e => by have e' : k = eb := e; omega), h.s0, h.sf, h.ad⟩)
  have HB6C := hid (blk_only HB4.out HO46.out (fun e => HNE.out.2.2.1 (by have e' : cb = eb := e; exact e'.symm)))
  have HIE : Hid ((Tryz.prog.info? 43).map (·.size) = some (#[.int .i64 ((Ks.length : Int) + 1), .int .i64 c.cev.tm, .int .i64 c.cev.k, .int .i64 c.cev.a, .int .i64 c.cev.b, .string (strOf c.cev.name), .string (strOf c.cev.text), .int .i64 uk, .int .i64 un, .string (strOf us), .slice ua um uc] : Array Value).size) := hid (by kernel_rfl)
  have HGDW := hid hgood; have HWL := hid hwl
  clear hev hgood hrg hchk hE6 HU hkb hwl HB4 HB5 HO5' HO56 HW4
  go_wp2_with ((guard_target =~ wpList _ _ _ (⟨some 89, _, _, _, _, _⟩ :: _) _ _); refine wpList_load_row (o := ⟨some 89, _, _, _, _, _⟩) rfl 43 (.tmp 18) rfl eb rfl 43 #[.int .i64 ((Ks.length : Int) + 1), .int .i64 c.cev.tm, .int .i64 c.cev.k, .int .i64 c.cev.a, .int .i64 c.cev.b, .string (strOf c.cev.name), .string (strOf c.cev.text), .int .i64 uk, .int .i64 un, .string (strOf us), .slice ua um uc] (0, 0) _ HB6.out Tryz.underlying43 rfl HIE.out ?_)
  refine HEN.out.mono ?_
  rintro x w7 ⟨v, rfl, hnb7⟩
  obtain ⟨bo7, bc7, rfl, hgr7, hnw7, ho7⟩ := hnb7
  have HW7 := hid (HW6.out.same ho7)
  have HO67 := hid ho7
  have HB7C := hid (blk_only HB6C.out ho7 (fun e => e)); have HB7 := hid (blk_only HB6.out ho7 (fun e => e))
  obtain ⟨T0, hlp⟩ := HWP.out.lp
  obtain ⟨hp1, -, -, hh1, ht1, q1, wt1⟩ := hlp.submit ev.wr
  rw [HWP.out.wt, if_neg (by have := HWL.out; omega), if_neg (by decide)] at q1 wt1
  have HSB : Hid (Calls Tryz.prog 10 #[.pointer (some ⟨l, 0, none⟩), .slice bo7 ev.wr.length bc7] w7 fun e w' => e = .returned (.int .i64 0) ∧ LStep w7 w' l b r (M.submit ev.wr).1 FF) := hid (by
    have h1 := submit_c HW7.out.lg.log _ ev.wr hgr7.src (by have := HWL.out; omega)
    rw [q1] at h1; exact h1)
  obtain ⟨M1, hM1⟩ : ∃ x, (M.submit ev.wr).1 = x := ⟨_, rfl⟩
  rw [hM1] at hp1 wt1 HSB
  have HP1 := hid hp1; have HWT1 : Hid (M1.wait = [ev.wr]) := hid wt1
  clear hgr7 hnw7 ho7 hlp hp1 hh1 ht1 q1 wt1 hM1 HEN HW6 HB6C HB6
  go_wp2_with fail
  refine HSB.out.mono ?_
  rintro x w8 ⟨rfl, hs8⟩
  obtain ⟨F8, hw8, hf8, ho8⟩ := HW7.out.step hs8
  have HW8 := hid hw8; have HO78 := hid ho8
  have hz6 := HO67.out.size
  have hel6 : eb < w7.heap.size := by have := blk_lt HB7.out; omega
  have hcl6 : cb < w7.heap.size := by have := blk_lt HB7C.out; omega
  have HNE8 : Hid (¬ F8 eb) := hid fun e => (hf8 eb e).elim HNE.out.1 (fun e => by omega)
  have HNC8 : Hid (¬ F8 cb) := hid fun e => (hf8 cb e).elim HNC.out.1 (fun e => by omega)
  have HB8 := hid (blk_only HB7.out ho8 HNE.out.1); have HB8C := hid (blk_only HB7C.out ho8 HNC.out.1)
  have HNM : Hid (∀ k, New w3 w4 k → ¬ F8 k) := hid fun k hk hf => (hf8 k hf).elim (HNN.out k hk) (fun e => by have := hk.2; have := HO46.out.size; omega)
  obtain ⟨n2, M2, hn2, hnl2, e2, hp2, hw2⟩ := HP1.out.commit (by omega)
  rw [HWT1.out] at hnl2 e2 hp2 hw2
  have hnl2 : n2 ≤ 1 := hnl2
  have HCM : Hid (Calls Tryz.prog 11 #[.pointer (some ⟨l, 0, none⟩)] w8 fun e w' => e = .returned (.tuple #[.int .i64 (n2 : Nat), .int .i64 (if n2 = [ev.wr].length then 0 else 3)]) ∧ LStep w8 w' l b r M2 F8) := hid (by
    have h1 := HP1.out.dn; have h2 := HP1.out.rs.tail; have h3 := HP1.out.tl; have h4 := HP1.out.len
    have h9 : j * 1000000000 ≤ 12 * 1000000000 := Nat.mul_le_mul_right _ (by omega)
    have h6 := commit_c HW8.out.lg.log (by rw [HP1.out.first, HP1.out.count]; exact h1) (by omega)
    rw [e2] at h6; exact h6)
  have hn01 : n2 = 0 ∨ n2 = 1 := by omega
  have HP2 := hid hp2; have HW2' := hid hw2
  clear hs8 hw8 hf8 ho8 hn2 hnl2 e2 hp2 hw2 HSB HP1 HWT1 HW7 HB7 HB7C
  rcases hn01 with rfl | rfl
  · rw [if_neg (by simp)] at HCM
    go_wp2_with fail
    refine HCM.out.mono ?_
    rintro x w9 ⟨rfl, hs9⟩
    obtain ⟨F9, hw9, -, -⟩ := HW8.out.step hs9
    have HO9 := hid hw9.lg.only
    clear hs9 hw9 HCM
    go_wp2_with fail
    exact HR.out _ _ ⟨rfl, rfl, rfl⟩ HO9.out
  rw [if_pos (by simp)] at HCM
  go_wp2_with fail
  refine HCM.out.mono ?_
  rintro x w9 ⟨rfl, hs9⟩
  obtain ⟨F9, hw9, hf9, ho9⟩ := HW8.out.step hs9
  have HW9 := hid hw9
  have hz8 := HO78.out.size
  have HB9 := hid (blk_only HB8.out ho9 HNE8.out); have HB9C := hid (blk_only HB8C.out ho9 HNC8.out)
  have HNE9 : Hid (¬ F9 eb) := hid fun e => (hf9 eb e).elim HNE8.out (fun e => by omega)
  have HWP9 : Hid (WP M2 (Ks ++ [c]) (j + 1)) := hid ⟨⟨T0, by
    have h1 := HP2.out
    rw [wfr_snoc, Nat.zero_add, show (((Ks.length + 1 : Nat)) : Int) = (Ks.length : Int) + 1 from rfl, HEV.out]
    exact h1⟩, HW2'.out, by rw [List.length_append]; have := HWP.out.kl; show Ks.length + 1 ≤ j + 1; omega, fun x hx => (List.mem_append.1 hx).elim (HWP.out.ok x) (fun e => by rw [List.mem_singleton.1 e]; exact ⟨HGD.out, HCG.out, HCC.out⟩)⟩
  have HO69 : Hid (Only (fun k => k ≠ eb ∧ ¬ New w3 w4 k) w6 w9) := hid ((HO67.out.mono (fun _ _ e => e.elim)).trans ((HO78.out.mono (G := fun k => k ≠ eb ∧ ¬ New w3 w4 k) (fun k _ e => ⟨fun e' => HNE.out.1 (e' ▸ e), fun e' => HNN.out k e' e⟩)).trans (ho9.mono (G := fun k => k ≠ eb ∧ ¬ New w3 w4 k) (fun k _ e => ⟨fun e' => HNE8.out (e' ▸ e), fun e' => HNM.out k e' e⟩)) (fun _ _ e => e)) (fun _ _ e => e))
  clear hs9 hw9 hf9 ho9 HCM HP2 HW2' HO78 HW8 HB8 HB8C
  have HGA : Hid (Gr (w9.alloc (.cells #[.int .i64 c.k, .int .i64 c.tm, .int .i64 c.a, .int .i64 c.b, .string (strOf c.name), .int .i64 vk, .int .i64 vn, .string (strOf vs), .slice va vm vc] 38)) 38 9 ao Ks.length cp xs) := hid (HW9.out.gr.only (only_new _ _) (fun _ _ e => e))
  have HSG : Hid (SrcG (w9.alloc (.cells #[.int .i64 c.k, .int .i64 c.tm, .int .i64 c.a, .int .i64 c.b, .string (strOf c.name), .int .i64 vk, .int .i64 vn, .string (strOf vs), .slice va vm vc] 38)) (some ⟨w9.heap.size, 0, none⟩) 1 9 [.int .i64 c.k, .int .i64 c.tm, .int .i64 c.a, .int .i64 c.b, .string (strOf c.name), .int .i64 vk, .int .i64 vn, .string (strOf vs), .slice va vm vc]) := hid (SrcG.new (blk_new _ _) rfl (by simp [Value.oneCell']))
  go_upto_region 28 with (first | ((guard_target =~ wpList _ _ _ (⟨some 111, _, _, _, _, _⟩ :: _) _ _); refine wpList_load_row (o := ⟨some 111, _, _, _, _, _⟩) rfl 38 (.tmp 15) rfl cb rfl 38 #[.int .i64 c.k, .int .i64 c.tm, .int .i64 c.a, .int .i64 c.b, .string (strOf c.name), .int .i64 vk, .int .i64 vn, .string (strOf vs), .slice va vm vc] (0, 0) _ HB9C.out Tryz.underlying38 rfl HIC.out ?_) | ((guard_target =~ wpList _ _ _ (⟨some 113, _, _, _, _, _⟩ :: _) _ _); refine wpList_gr (o := ⟨some 113, _, _, _, _, _⟩) rfl elC (.tmp 110) (.tmp 112) rfl HGA.out rfl (some ⟨w9.heap.size, 0, none⟩) 1 1 rfl [.int .i64 c.k, .int .i64 c.tm, .int .i64 c.a, .int .i64 c.b, .string (strOf c.name), .int .i64 vk, .int .i64 vn, .string (strOf vs), .slice va vm vc] HSG.out (by omega) (by omega) ?_; intro ao' cp' w10 hg10 ha10 ho10; have HG10 := hid hg10; have HA10 := hid ha10; have HO10 := hid ho10; clear hg10 ha10 ho10))
  try dsimp only [Act.put]
  have hO9 := only_new w9 (.cells #[.int .i64 c.k, .int .i64 c.tm, .int .i64 c.a, .int .i64 c.b, .string (strOf c.name), .int .i64 vk, .int .i64 vn, .string (strOf vs), .slice va vm vc] 38)
  have HW10 : Hid (WB w0 w10 l b r sb M2 F9 (wsm sum1 0 Ks) (Ks ++ [c]) ao' cp' (xs ++ [.int .i64 c.k, .int .i64 c.tm, .int .i64 c.a, .int .i64 c.b, .string (strOf c.name), .int .i64 vk, .int .i64 vn, .string (strOf vs), .slice va vm vc])) := hid ((HW9.out.same hO9).append HG10.out (HCW.out _ (HW9.out.lg.only.trans hO9 (fun _ _ e => e))) (fun q hq => HA10.out.imp (fun e => e.symm) (fun e => by rw [hq] at e; simp only [Option.some.injEq, Addr.mk.injEq, and_true] at e; omega)) HO10.out)
  have HB10 := hid (blk_only (blk_only HB9.out hO9 (fun e => e)) HO10.out (fun e => HNQ.out eb e rfl))
  have HO610 : Hid (Only (fun k => k ≠ eb ∧ ¬ New w3 w4 k) w6 w10) := hid (HO69.out.trans ((hO9.mono (fun _ _ e => e.elim)).trans (HO10.out.mono (G := fun k => k ≠ eb ∧ ¬ New w3 w4 k) (fun k _ e => ⟨HNQ.out k e, HNA.out k e⟩)) (fun _ _ e => e)) (fun _ _ e => e))
  have HLK10 := hid (HLK.out w10 HO610.out)
  have hsl := HW10.out.sl
  have HIS : Hid ((Tryz.prog.info? 40).map (·.size) = some (bytesV (wsm sum1 0 Ks)).toArray.size) := hid (by rw [info32]; simp [hsl])
  have hl2 := linkR_len (wsm sum1 0 Ks) ev
  have HIS2 : Hid ((Tryz.prog.info? 40).map (·.size) = some (bytesV (linkR (wsm sum1 0 Ks) ev)).toArray.size) := hid (by rw [info32]; simp [hl2])
  have HSZ : Hid ((bytesV (linkR (wsm sum1 0 Ks) ev)).toArray.size = (bytesV (wsm sum1 0 Ks)).toArray.size) := hid (by simp [hl2, hsl])
  have HON : Hid ((bytesV (linkR (wsm sum1 0 Ks) ev)).toArray.all (·.oneCell') = true) := hid (by simp [bytesV, Value.oneCell'])
  have HL32 := hid hl2
  clear hO9 hsl hl2 HGA HSG HW9 HB9 HB9C HG10 HA10 HO69 HLK HO67
  go_wp2_with (first | ((guard_target =~ wpList _ _ _ (⟨some 115, _, _, _, _, _⟩ :: _) _ _); refine wpList_load_row (o := ⟨some 115, _, _, _, _, _⟩) rfl 40 (.tmp 13) rfl sb rfl 40 (bytesV (wsm sum1 0 Ks)).toArray (0, 0) _ HW10.out.bs Tryz.underlying40 rfl HIS.out ?_) | ((guard_target =~ wpList _ _ _ (⟨some 116, _, _, _, _, _⟩ :: _) _ _); refine wpList_load_row (o := ⟨some 116, _, _, _, _, _⟩) rfl 43 (.tmp 18) rfl eb rfl 43 #[.int .i64 ((Ks.length : Int) + 1), .int .i64 c.cev.tm, .int .i64 c.cev.k, .int .i64 c.cev.a, .int .i64 c.cev.b, .string (strOf c.cev.name), .string (strOf c.cev.text), .int .i64 uk, .int .i64 un, .string (strOf us), .slice ua um uc] (0, 0) _ HB10.out Tryz.underlying43 rfl HIE.out ?_))
  refine HLK10.out.mono ?_
  rintro x w11 ⟨cd, rfl, ho11⟩
  have HW11 := hid (HW10.out.same ho11)
  clear ho11 HLK10 HW10 HB10 HO610
  go_upto_region 29 with ((guard_target =~ wpList _ _ _ (⟨none, .store 40 (.tmp 13) _, _, _, _, _⟩ :: _) _ _); refine wpList_store_all rfl 40 (.tmp 13) (.tmp 118) rfl sb (bytesV (linkR (wsm sum1 0 Ks) ev)).toArray rfl rfl (bytesV (wsm sum1 0 Ks)).toArray 40 HW11.out.bs HSZ.out HIS2.out HON.out ?_; intro w12 hb12 ho12 hs12; have HB12 := hid hb12; have HO12 := hid ho12; clear hb12 ho12 hs12)
  try dsimp only [Act.put]
  have HW12 : Hid (WB w0 w12 l b r sb M2 F9 (wsm sum1 0 (Ks ++ [c])) (Ks ++ [c]) ao' cp' (xs ++ [.int .i64 c.k, .int .i64 c.tm, .int .i64 c.a, .int .i64 c.b, .string (strOf c.name), .int .i64 vk, .int .i64 vn, .string (strOf vs), .slice va vm vc])) := hid (by
    have h1 := HW11.out.sum HL32.out HB12.out HO12.out
    have h2 : wsm sum1 0 (Ks ++ [c]) = linkR (wsm sum1 0 Ks) ev := by
      rw [wsm_snoc, Nat.zero_add, show (((Ks.length + 1 : Nat)) : Int) = (Ks.length : Int) + 1 from rfl, HEV.out]
    rw [h2]; exact h1)
  clear HW11 HB12 HO12
  by_cases hcr : (j : Int) = cr
  rotate_left
  · have hcb : ((j : Int) == cr) = false := beq_eq_false_iff_ne.2 hcr
    clear hcr
    go_wp2_with fail
    exact ⟨⟨j + 1, l, Ks ++ [c], ao', cp', by omega, ⟨rfl, rfl, rfl, by show Value.slice _ _ _ = _; rw [List.length_append]; rfl, rfl, rfl, rfl, by show Value.int .i64 _ = _; go_num, rfl, rfl⟩, ⟨r, M2, F9, _, HW12.out, HWP9.out⟩⟩, by simp [intOf]; omega⟩
  have hcb : ((j : Int) == cr) = true := beq_iff_eq.2 hcr
  clear hcr
  obtain ⟨FD, hd12, hfd⟩ := HW12.out.lg.log.disk
  have HFD := hid hfd
  have HCR := hid (crash_c hd12 (.slice none 0 0) [] ⟨_, _, rfl, fun h => absurd rfl h⟩ (fun g o c e => by simp at e) (by decide) (-1) 0)
  clear hd12 hfd
  go_wp2_with fail
  refine HCR.out.mono ?_
  rintro x w13 ⟨rfl, hd13, ho13⟩
  have HUP := hid (up_c hd13)
  have HO13 := hid ho13
  clear hd13 ho13 HCR
  go_wp2_with fail
  refine HUP.out.mono ?_
  rintro x w14 ⟨rfl, hd14, ho14⟩
  have HO14 : Hid (Only FD w12 w14) := hid (HO13.out.trans ho14 (fun _ _ e => e))
  obtain ⟨T9, hlp9⟩ := HWP9.out.lp
  have hlp10 := hlp9.crashed [] (-1) 0
  have HOP := hid (lopen_c (w0 := w0) (M := { M2 with D := (M2.D.crash [] (-1) 0).up }) hd14 (fun k hk => HW12.out.lg.new k (HFD.out k hk)) (HW12.out.lg.only.trans HO14.out (fun k hk e => by have := HW12.out.lg.new k (HFD.out k e); omega)) hlp10 (by omega))
  have HLP := hid hlp10.anew
  clear hd14 ho14 hlp9 hlp10 HUP HO13
  go_wp2_with fail
  refine HOP.out.mono ?_
  rintro x w15 ⟨v15, l2, r2, lo15, F15, rfl, hl15, -, hfo15, -, hk15, ho15⟩
  obtain ⟨ao15, cap15, xs15, rfl, -⟩ := hfo15
  have HW15 := hid (HW12.out.reopen HFD.out HO14.out ho15 hl15 hk15)
  have HWP15 : Hid (WP _ (Ks ++ [c]) (j + 1)) := hid ⟨⟨T9, HLP.out⟩, rfl, HWP9.out.kl, HWP9.out.ok⟩
  clear hl15 hk15 ho15 HOP HLP HW12 HO14
  go_wp2_with fail
  exact ⟨⟨j + 1, l2, Ks ++ [c], ao', cp', by omega, ⟨rfl, rfl, rfl, by show Value.slice _ _ _ = _; rw [List.length_append]; rfl, rfl, rfl, rfl, by show Value.int .i64 _ = _; go_num, rfl, rfl⟩, ⟨r2, _, F15, _, HW15.out, HWP15.out⟩⟩, by simp [intOf]; omega⟩
end
end Go.Proofs.YtfmdngeooelcpaaGreat
