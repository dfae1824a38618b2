/- foliotlaw18: keeps. -/
import Derived.Test.YtnoopajedgllhaaHsG
import Derived.Test.YtnoopajedgllhaaRf09S
namespace Go.Proofs.Ytnoopajedgllhaa
open Go.RowKit
def s7 : List UInt8 := 7 :: List.replicate 31 0
theorem s7_len : s7.length = 32 := rfl
def k0 : EM := ⟨0, 3, 1, 0, 0, [], [], .nil⟩
def k1 : EM := ⟨0, 4, 14, 0, 0, [103, 111], [], .nil⟩
def k0' : EM := ⟨1, 3, 1, 0, 0, [], [], .nil⟩
def k1' : EM := ⟨2, 4, 14, 0, 0, [103, 111], [], .nil⟩
theorem s7_arr : (bytesV s7).toArray = #[.int .u8 7, .int .u8 0, .int .u8 0, .int .u8 0, .int .u8 0, .int .u8 0, .int .u8 0, .int .u8 0, .int .u8 0, .int .u8 0, .int .u8 0, .int .u8 0, .int .u8 0, .int .u8 0, .int .u8 0, .int .u8 0, .int .u8 0, .int .u8 0, .int .u8 0, .int .u8 0, .int .u8 0, .int .u8 0, .int .u8 0, .int .u8 0, .int .u8 0, .int .u8 0, .int .u8 0, .int .u8 0, .int .u8 0, .int .u8 0, .int .u8 0, .int .u8 0] := by kernel_rfl
theorem k_numb : numb 0 [k0, k1] = [k0', k1'] := by
  have h : VT.nil.cl = VT.nil := by rw [VT.nil, VT.cl]; rfl
  simp only [numb, EM.nth, EM.cl, k0, k1, k0', k1', h]; rfl
theorem k0_chk : k0'.chk = 0 := by kernel_rfl
theorem k1_chk : k1'.chk = 0 := by kernel_rfl
theorem k_chk : hchk false 0 0 [k0, k1] = 0 := by
  have h0 : (k0.nth 0).chk = 0 := k0_chk
  have h1 : (k1.nth 1).chk = 0 := k1_chk
  rw [hchk, if_neg (by decide), if_neg (by simp [k0]), if_neg (by rw [h0]; simp), if_neg (by simp), if_neg (by simp [k0]), if_neg (by simp [k0])]
  rw [hchk, if_neg (by decide), if_neg (by simp [k1]), if_neg (by rw [h1]; simp), if_neg (by simp [k0, closesB]), if_neg (by simp [k1]), if_neg (by simp [k0, k1, outsideB]), hchk]
theorem k_ver : verR (sumS s7 [k0', k1']) 0 s7 [k0', k1'] = 0 := by
  rw [verR, if_neg (by simp [k0']), if_neg (by rw [k0_chk]; simp), verR, if_neg (by simp [k1']), if_neg (by rw [k1_chk]; simp), verR]
  exact if_pos rfl
theorem k_len : (hwr s7 [k0', k1']).length = 80 := by
  have h1 : (sumS s7 [k0', k1']).length = 32 := sumS_len s7_len _
  have h2 : ([k0', k1'].flatMap EM.wr).length = 15 := by kernel_rfl
  unfold hwr
  rw [List.length_append, List.length_append, List.length_append, h1, h2]; rfl
theorem vt_nil (w : World) (G : Nat → Prop) : VAt w G VT.nil [.int .i64 0, .int .i64 0, .string (strOf []), .slice none 0 0] := by
  rw [VT.nil, VAt]; exact ⟨none, 0, 0, 0, rfl, by simp, by rw [VLs]; trivial⟩
theorem k_rg : ∀ e ∈ [k0, k1], e.rg := by
  have hn : VT.nil.rg := by rw [VT.nil, VT.rg]; refine ⟨by decide, by decide, by decide, by decide, by decide, by decide, ?_⟩; rw [VT.rgL]; trivial
  intro e he
  simp only [List.mem_cons, List.not_mem_nil, or_false] at he
  rcases he with rfl | rfl
  · exact ⟨by decide, by decide, by decide, by decide, by decide, by decide, by decide, hn⟩
  · exact ⟨by decide, by decide, by decide, by decide, by decide, by decide, by decide, hn⟩
theorem k_rg2 : ∀ e ∈ [k0', k1'], e.rg := by
  have hn : VT.nil.rg := by rw [VT.nil, VT.rg]; refine ⟨by decide, by decide, by decide, by decide, by decide, by decide, ?_⟩; rw [VT.rgL]; trivial
  intro e he
  simp only [List.mem_cons, List.not_mem_nil, or_false] at he
  rcases he with rfl | rfl
  · exact ⟨by decide, by decide, by decide, by decide, by decide, by decide, by decide, hn⟩
  · exact ⟨by decide, by decide, by decide, by decide, by decide, by decide, by decide, hn⟩
/-- The same events. -/
def samL : List EM → List EM → Bool
  | [], [] => true
  | e :: l, f :: m => e.same f && samL l m
  | _, _ => false
theorem samL_ne : ∀ {l m : List EM}, l.length ≠ m.length → samL l m = false
  | [], [], h => absurd rfl h
  | [], _ :: _, _ => rfl
  | _ :: _, [], _ => rfl
  | e :: l, f :: m, h => by rw [samL, samL_ne (l := l) (m := m) (by simpa using h), Bool.and_false]
theorem k_sz : ∀ e ∈ [k0, k1], e.v.sz ≤ 1000000 := by
  have hn : VT.nil.sz ≤ 1000000 := by rw [VT.nil, VT.sz, VT.szL]; decide
  intro e he
  simp only [List.mem_cons, List.not_mem_nil, or_false] at he
  rcases he with rfl | rfl <;> exact hn
section
variable {w : World}
theorem k_evs {w : World} {g : Nat} {T : TypeId} (h : w.heap[g]? = some (.cells #[.int .i64 0, .int .i64 3, .int .i64 1, .int .i64 0, .int .i64 0, .string ⟨#[]⟩, .string ⟨#[]⟩, .int .i64 0, .int .i64 0, .string ⟨#[]⟩, .slice none 0 0, .int .i64 0, .int .i64 4, .int .i64 14, .int .i64 0, .int .i64 0, .string ⟨#[103, 111]⟩, .string ⟨#[]⟩, .int .i64 0, .int .i64 0, .string ⟨#[]⟩, .slice none 0 0] T (0, 0))) : EvsV w (fun k => k = g) (.slice (some ⟨g, 0, none⟩) 2 2) [k0, k1] := by
  refine ⟨_, 2, g, 0, rfl, fun _ => ⟨rfl, rfl⟩, fun i e hi => ?_⟩
  match i, hi with
  | 0, hi =>
    obtain rfl : k0 = e := by simpa using hi
    refine ⟨k0.cells [.int .i64 0, .int .i64 0, .string (strOf []), .slice none 0 0], fun j u hj => ?_, ⟨_, rfl, vt_nil _ _⟩⟩
    have hjl : j < 11 := by
      rcases Nat.lt_or_ge j 11 with g | g
      · exact g
      · rw [List.getElem?_eq_none (by simpa [EM.cells] using g)] at hj; cases hj
    rw [cell_blk h]
    have : j = 0 ∨ j = 1 ∨ j = 2 ∨ j = 3 ∨ j = 4 ∨ j = 5 ∨ j = 6 ∨ j = 7 ∨ j = 8 ∨ j = 9 ∨ j = 10 := by omega
    rcases this with rfl | rfl | rfl | rfl | rfl | rfl | rfl | rfl | rfl | rfl | rfl <;> exact hj
  | 1, hi =>
    obtain rfl : k1 = e := by simpa using hi
    refine ⟨k1.cells [.int .i64 0, .int .i64 0, .string (strOf []), .slice none 0 0], fun j u hj => ?_, ⟨_, rfl, vt_nil _ _⟩⟩
    have hjl : j < 11 := by
      rcases Nat.lt_or_ge j 11 with g | g
      · exact g
      · rw [List.getElem?_eq_none (by simpa [EM.cells] using g)] at hj; cases hj
    rw [cell_blk h]
    have : j = 0 ∨ j = 1 ∨ j = 2 ∨ j = 3 ∨ j = 4 ∨ j = 5 ∨ j = 6 ∨ j = 7 ∨ j = 8 ∨ j = 9 ∨ j = 10 := by omega
    rcases this with rfl | rfl | rfl | rfl | rfl | rfl | rfl | rfl | rfl | rfl | rfl <;> exact hj
  | i + 2, hi => simp at hi
/-- A field of an event that was handed out. -/
theorem OutE.cell {B : Nat → Prop} {w : World} {ad : Option Addr} {n cap : Nat} {xs : List Value} {es : List EM} (h : OutE B w ad n cap xs es) {i : Nat} {e : EM} (hi : es[i]? = some e) : ∃ q, ad = some ⟨q, 0, none⟩ ∧ w.cell? ⟨q, i * 11, none⟩ = some (.int .i64 e.id) ∧ w.cell? ⟨q, i * 11 + 5, none⟩ = some (.string (strOf e.name)) := by
  have hil : i < es.length := by
    rcases Nat.lt_or_ge i es.length with g | g
    · exact g
    · rw [List.getElem?_eq_none g] at hi; cases hi
  obtain ⟨q, hq, hc⟩ := h.gr.cells (by rw [h.len]; omega)
  obtain ⟨ds, h1, h2⟩ := EXs.at' h.exs i e hi
  obtain ⟨k, m, s, a, b, c, rfl, -⟩ := h2.form
  exact ⟨q, hq, hc _ _ (h1 0 _ rfl), hc _ _ (h1 5 _ rfl)⟩
set_option maxRecDepth 100000 in
set_option maxHeartbeats 6400000 in
theorem keeps_c : Calls Try.prog 11 #[] w fun x w' => x = .returned (.bool true) ∧ Only (fun _ => False) w w' := by
  have HNE := hid (hnew_c (w := w) (s := s7) s7_len)
  have HS7 : Hid (∀ W, (binOp .neq 29 (.agg (bytesV s7).toArray) (.agg #[.int .u8 7, .int .u8 0, .int .u8 0, .int .u8 0, .int .u8 0, .int .u8 0, .int .u8 0, .int .u8 0, .int .u8 0, .int .u8 0, .int .u8 0, .int .u8 0, .int .u8 0, .int .u8 0, .int .u8 0, .int .u8 0, .int .u8 0, .int .u8 0, .int .u8 0, .int .u8 0, .int .u8 0, .int .u8 0, .int .u8 0, .int .u8 0, .int .u8 0, .int .u8 0, .int .u8 0, .int .u8 0, .int .u8 0, .int .u8 0, .int .u8 0, .int .u8 0])).run Try.prog W = .ok (.bool false) W) := hid fun W => by rw [← s7_arr, neq_sum W s7_len s7_len]; simp
  rw [s7_arr] at HNE
  obtain ⟨SL, hSL⟩ : ∃ x, bytesV s7 = x := ⟨_, rfl⟩
  rw [hSL] at HS7
  have HSL := hid hSL
  clear hSL
  have hev1 : ∀ W : World, EvsV (W.alloc (.cells #[.int .i64 0, .int .i64 3, .int .i64 1, .int .i64 0, .int .i64 0, .string ⟨#[]⟩, .string ⟨#[]⟩, .int .i64 0, .int .i64 0, .string ⟨#[]⟩, .slice none 0 0, .int .i64 0, .int .i64 4, .int .i64 14, .int .i64 0, .int .i64 0, .string ⟨#[103, 111]⟩, .string ⟨#[]⟩, .int .i64 0, .int .i64 0, .string ⟨#[]⟩, .slice none 0 0] 44)) (fun k => k = W.heap.size) (.slice (some ⟨W.heap.size, 0, none⟩) 2 2) [k0, k1] := fun W => k_evs (blk_new W _)
  have HEV := hid hev1
  clear hev1
  go_enter Try.func11, Try.ntmps11
  go_wp2_with fail
  refine HNE.out.mono ?_
  rintro x w1 ⟨hb, rfl, hh, hsz1, ho1⟩
  have HL := hid (hlen_c hh)
  have HSM := hid (hsum2_c hh)
  have hs0 : sumS s7 [] = s7 := rfl
  rw [hs0, HSL.out] at HSM
  have HH := hid hh; have HO1 := hid ho1
  have hhb : hb < w1.heap.size := by obtain ⟨_, _, _, _, _, H⟩ := hh; exact H.lt hb H.fb
  clear hh ho1 hs0
  go_wp2_with fail
  refine HL.out.mono ?_
  rintro x w1' ⟨rfl, rfl⟩
  go_wp2_with fail
  refine HSM.out.mono ?_
  rintro x w2 ⟨rfl, ho2⟩
  have HO2 := hid ho2
  have hz2 := ho2.size
  have hq7 := HS7.out
  have HAP := hid (happend_c (w := w2.alloc (.cells #[.int .i64 0, .int .i64 3, .int .i64 1, .int .i64 0, .int .i64 0, .string ⟨#[]⟩, .string ⟨#[]⟩, .int .i64 0, .int .i64 0, .string ⟨#[]⟩, .slice none 0 0, .int .i64 0, .int .i64 4, .int .i64 14, .int .i64 0, .int .i64 0, .string ⟨#[103, 111]⟩, .string ⟨#[]⟩, .int .i64 0, .int .i64 0, .string ⟨#[]⟩, .slice none 0 0] 44)) ((HH.out.same ho2).same (only_new _ _)) (HEV.out w2) (fun k hk => by have e' : k = w2.heap.size := hk; refine ⟨by simp; omega, fun h => ?_⟩; have e2 : k = hb := h; omega) k_rg k_sz (by decide))
  clear ho2
  go_wp2_with fail
  clear hq7
  refine HAP.out.mono ?_
  rintro x w3 (⟨-, ad, cap, xs, F', B, rfl, hh, hout, hdis, hF', hB, ho3⟩ | ⟨hne, -⟩)
  rotate_left
  · exact absurd k_chk hne
  have hes : [] ++ numb ([] : List EM).length [k0, k1] = [k0', k1'] := by rw [List.nil_append]; exact k_numb
  have hnb : numb ([] : List EM).length [k0, k1] = [k0', k1'] := k_numb
  rw [hes] at hh
  rw [hnb] at hout
  obtain ⟨q, rfl, ho0, -⟩ := hout.cell (i := 1) (e := k1') rfl
  have HO3 := hid ho3; have HH3 := hid hh
  have HPG := hid (hpage_c hh 2 9 (by decide))
  have hql := World.block_lt_of_cell? _ _ ho0
  have hpl : pageL [k0', k1'] 2 9 = [k1'] := rfl
  have hpe : pageE [k0', k1'] 2 9 = 0 := by simp [pageE]
  rw [hpl, hpe] at HPG
  have HC1 := hid ho0
  clear hh hout hdis hF' hB ho3 hes hnb hpl hpe HAP ho0
  go_wp2_with fail
  refine HPG.out.mono ?_
  rintro x w4 ⟨ad2, cap2, xs2, rfl, hout2, ho4⟩
  obtain ⟨q2, rfl, -, hn2⟩ := hout2.cell (i := 0) (e := k1') rfl
  have hc1 : w4.cell? ⟨q, 11, none⟩ = some (.int .i64 2) := (World.cell?_of_block (ho4.block q (World.block_lt_of_cell? _ _ HC1.out) (fun e => e))).trans HC1.out
  have hn3 : w4.cell? ⟨q2, 5, none⟩ = some (.string ⟨#[103, 111]⟩) := hn2
  have HO4 := hid ho4
  have HH4 := hid (HH3.out.same ho4)
  have HCL := hid (hclosed_c HH4.out)
  have hcl : closedL [k0', k1'] = false := rfl
  rw [hcl] at HCL
  have hq5 : (⟨#[103, 111]⟩ : ByteArray).toList = [103, 111] := by simp [ByteArray.toList_eq]
  clear hout2 ho4 hn2 hcl
  go_wp2_with fail
  refine HCL.out.mono ?_
  rintro x w5 ⟨rfl, ho5⟩
  have HO5 := hid ho5
  have HH5 := hid (HH4.out.same ho5)
  have HSM5 := hid (hsum2_c HH5.out)
  clear ho5
  go_wp2_with fail
  refine HSM5.out.mono ?_
  rintro x w6 ⟨rfl, ho6⟩
  have HO6 := hid ho6
  have HH6 := hid (HH5.out.same ho6)
  have HAL := hid (hall_c HH6.out)
  clear ho6
  go_wp2_with fail
  refine HAL.out.mono ?_
  rintro x w7 ⟨ad7, cap7, xs7, rfl, hout7, ho7⟩
  have HO7 := hid ho7
  have HH7 := hid (HH6.out.same ho7)
  have hvf := hverify_c (w := w7) (s := s7) (last := sumS s7 [k0', k1']) s7_len (sumS_len s7_len _) hout7.evs (fun k hk => hk.2) k_rg2 (by decide)
  rw [k_ver, s7_arr] at hvf
  have HVF := hid hvf
  clear ho7 hout7 hvf
  go_wp2_with fail
  refine HVF.out.mono ?_
  rintro x w8 ⟨rfl, ho8⟩
  have HO8 := hid ho8
  have hby := hbytes_c (HH7.out.same ho8)
  rw [k_len] at hby
  have HBY := hid hby
  clear ho8 hby
  go_wp2_with fail
  refine HBY.out.mono ?_
  rintro x w9 ⟨rfl, ho9⟩
  have HO9 := hid ho9
  clear ho9
  go_wp2_with fail
  go_ret
  refine ⟨rfl, ?_⟩
  have h1 : Only (fun k => k = hb) w1' w3 := ((HO2.out.trans (only_new w2 (.cells #[.int .i64 0, .int .i64 3, .int .i64 1, .int .i64 0, .int .i64 0, .string ⟨#[]⟩, .string ⟨#[]⟩, .int .i64 0, .int .i64 0, .string ⟨#[]⟩, .slice none 0 0, .int .i64 0, .int .i64 4, .int .i64 14, .int .i64 0, .int .i64 0, .string ⟨#[103, 111]⟩, .string ⟨#[]⟩, .int .i64 0, .int .i64 0, .string ⟨#[]⟩, .slice none 0 0] 44)) (fun _ _ e => e)).mono (G := fun k => k = hb) (fun _ _ e => e.elim)).trans HO3.out (fun _ _ e => e)
  have h2 : Only (fun _ => False) w3 w9 := (((((HO4.out.trans HO5.out (fun _ _ e => e)).trans HO6.out (fun _ _ e => e)).trans HO7.out (fun _ _ e => e)).trans HO8.out (fun _ _ e => e)).trans HO9.out (fun _ _ e => e))
  have h3 : Only (fun k => k = hb) w1' w9 := h1.trans h2 (fun _ _ e => e.elim)
  exact HO1.out.trans h3 (fun k hk e => by have e' : k = hb := e; omega)
set_option maxRecDepth 100000 in
set_option maxHeartbeats 1600000 in
theorem same_c {v u : Value} {l m : List EM} {G H : Nat → Prop} (hE : EvsV w G v l) (hF : EvsV w H u m) (hg : ∀ e ∈ l, e.v.rg ∧ e.v.kd) (hh : ∀ e ∈ m, e.v.rg ∧ e.v.kd) (hll : l.length ≤ 1000000) :
    Calls Try.prog 16 #[v, u] w fun x w' => x = .returned (.bool (samL l m)) ∧ Only (fun _ => False) w w' := by
  obtain ⟨ad, cap, g, o, rfl, hne, hel⟩ := hE
  obtain ⟨ad2, cap2, g2, o2, rfl, hne2, hel2⟩ := hF
  have HNE := hid hne; have HEL := hid hel; have HNE2 := hid hne2; have HEL2 := hid hel2; have Hg := hid hg; have Hh := hid hh
  clear hne hel hne2 hel2 hg hh
  by_cases hlen : l.length = m.length
  · have hlb : ((l.length : Int) != (m.length : Int)) = false := by simp [hlen]
    have HLN := hid hlen
    have hml : m.length ≤ 1000000 := by omega
    clear hlen
    go_enter Try.func16, Try.ntmps16
    go_wp2_with fail
    go_loopw [13] (fun i wr => ∃ j : Nat, i = .int .i64 j ∧ j ≤ l.length ∧ samL l m = samL (l.drop j) (m.drop j) ∧ Only (fun _ => False) w wr) (fun i _ => l.length - (intOf i).toNat)
    case atStart => exact ⟨0, rfl, Nat.zero_le _, rfl, Only.refl _ _⟩
    case round =>
      obtain ⟨j, rfl, hj, hs, ho⟩ := hrel
      have HS := hid hs; have HO := hid ho
      clear hs
      by_cases hjl : j < l.length
      · have hji : (j : Int) < l.length := by omega
        have hjm : (j : Int) < m.length := by have := HLN.out; omega
        obtain ⟨e, he⟩ : ∃ t, l[j]? = some t := ⟨_, List.getElem?_eq_getElem hjl⟩
        obtain ⟨f, hf⟩ : ∃ t, m[j]? = some t := ⟨_, List.getElem?_eq_getElem (by omega)⟩
        obtain ⟨rfl, hGg⟩ := HNE.out (by rintro rfl; simp at hjl)
        obtain ⟨rfl, hHg⟩ := HNE2.out (by rintro rfl; simp at hf)
        obtain ⟨cs, hcs, hEe⟩ := HEL.out j e he
        obtain ⟨ds, hds, hEf⟩ := HEL2.out j f hf
        have HSN : Hid (samL l m = (e.same f && samL (l.drop (j + 1)) (m.drop (j + 1)))) := hid (by rw [HS.out, drop_get he, drop_get hf, samL])
        have HR : Hid (∀ W, Only (fun _ => False) w W → W.rangeAt g (o + j * 11) cs ∧ W.rangeAt g2 (o2 + j * 11) ds) := hid fun W hW => ⟨fun i u hu => (World.cell?_of_block (hW.block g (World.block_lt_of_cell? _ _ (hcs i u hu)) (fun e => e))).trans (hcs i u hu), fun i u hu => (World.cell?_of_block (hW.block g2 (World.block_lt_of_cell? _ _ (hds i u hu)) (fun e => e))).trans (hds i u hu)⟩
        have hg1 := Hg.out e (List.mem_of_getElem? he)
        have hh1 := Hh.out f (List.mem_of_getElem? hf)
        have HSA : Hid (∀ W, Only (fun _ => False) wr W → Calls Try.prog 37 #[.agg cs.toArray, .agg ds.toArray] W fun x w' => x = .returned (.bool (e.same f)) ∧ Only (fun _ => False) W w') := hid fun W hW => r9same_c (hEe.same (HO.out.trans hW (fun _ _ e => e))) (hEf.same (HO.out.trans hW (fun _ _ e => e))) hg1.1 hh1.1 hg1.2 hh1.2
        have hc1 := hEe.len11; have hc2 := hEf.len11
        have HI1 : Hid ((Try.prog.info? 44).map (·.size) = some cs.length) := hid (by rw [info_ev, hc1])
        have HI2 : Hid ((Try.prog.info? 44).map (·.size) = some ds.length) := hid (by rw [info_ev, hc2])
        obtain ⟨C, hC⟩ : ∃ C, cs = C := ⟨_, rfl⟩
        rw [hC] at HSA HI1 HR
        obtain ⟨D, hD⟩ : ∃ D, ds = D := ⟨_, rfl⟩
        rw [hD] at HSA HI2 HR
        obtain ⟨B, hB⟩ : ∃ B, e.same f = B := ⟨_, rfl⟩
        rw [hB] at HSA HSN
        have hsw := ho.size
        clear hC hD hB hcs hds hEe hEf hg1 hh1 hc1 hc2 he hf hGg hHg ho
        obtain ⟨wy, hwy⟩ : ∃ x, x = wr := ⟨wr, rfl⟩
        subst hwy
        cases B with
        | false =>
          have HF : Hid (samL l m = false) := hid (by rw [HSN.out]; rfl)
          go_wp2_with fail
          refine region_pt 10 [] (by kernel_rfl) (by kernel_rfl) (by kernel_rfl) [(16, fun _ v => v = .slice (some ⟨g, o, none⟩) l.length cap), (17, fun _ v => v = .int .i64 j), (18, fun _ v => v = .pointer (some ⟨g, o + j * 11, none⟩)), (19, fun _ v => v = .agg (C).toArray), (20, fun _ v => v = .slice (some ⟨g2, o2, none⟩) m.length cap2), (21, fun _ v => v = .int .i64 j), (22, fun _ v => v = .pointer (some ⟨g2, o2 + j * 11, none⟩)), (23, fun _ v => v = .agg (D).toArray), (24, fun _ v => v = .bool false), (25, fun _ v => v = .bool (!false))] (fun _ W => Only (fun _ => False) wy W) (by show [16, 17, 18, 19, 20, 21, 22, 23, 24, 25].Nodup; decide) (by show ∀ d ∈ [16, 17, 18, 19, 20, 21, 22, 23, 24, 25], d < 27; decide) ((Only.refl _ _).drew) (.inl rfl) ?_ ?_ ?_
          · exact trivial
          · have hstab : PtStabs (Only (fun _ => False)) [(16, fun _ v => v = .slice (some ⟨g, o, none⟩) l.length cap), (17, fun _ v => v = .int .i64 j), (18, fun _ v => v = .pointer (some ⟨g, o + j * 11, none⟩)), (19, fun _ v => v = .agg (C).toArray), (20, fun _ v => v = .slice (some ⟨g2, o2, none⟩) m.length cap2), (21, fun _ v => v = .int .i64 j), (22, fun _ v => v = .pointer (some ⟨g2, o2 + j * 11, none⟩)), (23, fun _ v => v = .agg (D).toArray), (24, fun _ v => v = .bool false), (25, fun _ v => v = .bool (!false))] := ⟨fun _ _ _ _ h => h, fun _ _ _ _ h => h, fun _ _ _ _ h => h, fun _ _ _ _ h => h, fun _ _ _ _ h => h, fun _ _ _ _ h => h, fun _ _ _ _ h => h, fun _ _ _ _ h => h, fun _ _ _ _ h => h, fun _ _ _ _ h => h, trivial⟩
            refine PtAllS.cons rfl ⟨rfl, rfl⟩ ?_ (PtAllS.cons rfl ⟨rfl, rfl⟩ ?_ (PtAllS.cons rfl ⟨rfl, rfl⟩ ?_ (PtAllS.cons rfl ⟨rfl, rfl⟩ ?_ (PtAllS.cons rfl ⟨rfl, rfl⟩ ?_ (PtAllS.cons rfl ⟨rfl, rfl⟩ ?_ (PtAllS.cons rfl ⟨rfl, rfl⟩ ?_ (PtAllS.cons rfl ⟨rfl, rfl⟩ ?_ (PtAllS.cons rfl ⟨rfl, rfl⟩ ?_ (PtAllS.cons rfl ⟨rfl, rfl⟩ ?_ (PtAllS.nil rfl))))))))))
            · intro L a W K hI hn hd hK
              have e0 : a.eval (.tmp 0) = .slice (some ⟨g, o, none⟩) l.length cap := hI.ev 0 (by show ¬ (0 ∈ [16, 17, 18, 19, 20, 21, 22, 23, 24, 25]); decide) rfl
              exact pt_move _ (by first | exact .inl rfl | exact .inr rfl) _ e0 (hK _ _ hI.j PtKeep.refl rfl)
            · intro L a W K hI hn hd hK
              have e5 : a.eval (.tmp 5) = .int .i64 j := hI.ev 5 (by show ¬ (5 ∈ [16, 17, 18, 19, 20, 21, 22, 23, 24, 25]); decide) rfl
              exact pt_move _ (by first | exact .inl rfl | exact .inr rfl) _ e5 (hK _ _ hI.j PtKeep.refl rfl)
            · intro L a W K hI hn hd hK
              have e16 : a.eval (.tmp 16) = .slice (some ⟨g, o, none⟩) l.length cap := hI.fact 0 16 _ rfl (dep_of hd 0 (by kernel_rfl))
              have e17 : a.eval (.tmp 17) = .int .i64 j := hI.fact 1 17 _ rfl (dep_of hd 1 (by kernel_rfl))
              exact pt_val (v := .pointer (some ⟨g, o + j * 11, none⟩)) (by unfold execOp; simp only [e16, e17]; go_simp) (hK _ _ hI.j PtKeep.refl rfl)
            · intro L a W K hI hn hd hK
              have e18 : a.eval (.tmp 18) = .pointer (some ⟨g, o + j * 11, none⟩) := hI.fact 2 18 _ rfl (dep_of hd 2 (by kernel_rfl))
              exact wp_load_mid _ (.tmp 18) rfl (g) (o + j * 11) e18 (C) _ ((HR.out _ (HO.out.trans hI.j (fun _ _ e => e))).1) Try.underlying44 rfl (HI1.out) (hK _ _ hI.j PtKeep.refl rfl)
            · intro L a W K hI hn hd hK
              have e1 : a.eval (.tmp 1) = .slice (some ⟨g2, o2, none⟩) m.length cap2 := hI.ev 1 (by show ¬ (1 ∈ [16, 17, 18, 19, 20, 21, 22, 23, 24, 25]); decide) rfl
              exact pt_move _ (by first | exact .inl rfl | exact .inr rfl) _ e1 (hK _ _ hI.j PtKeep.refl rfl)
            · intro L a W K hI hn hd hK
              have e5 : a.eval (.tmp 5) = .int .i64 j := hI.ev 5 (by show ¬ (5 ∈ [16, 17, 18, 19, 20, 21, 22, 23, 24, 25]); decide) rfl
              exact pt_move _ (by first | exact .inl rfl | exact .inr rfl) _ e5 (hK _ _ hI.j PtKeep.refl rfl)
            · intro L a W K hI hn hd hK
              have e20 : a.eval (.tmp 20) = .slice (some ⟨g2, o2, none⟩) m.length cap2 := hI.fact 4 20 _ rfl (dep_of hd 4 (by kernel_rfl))
              have e21 : a.eval (.tmp 21) = .int .i64 j := hI.fact 5 21 _ rfl (dep_of hd 5 (by kernel_rfl))
              exact pt_val (v := .pointer (some ⟨g2, o2 + j * 11, none⟩)) (by unfold execOp; simp only [e20, e21]; go_simp) (hK _ _ hI.j PtKeep.refl rfl)
            · intro L a W K hI hn hd hK
              have e22 : a.eval (.tmp 22) = .pointer (some ⟨g2, o2 + j * 11, none⟩) := hI.fact 6 22 _ rfl (dep_of hd 6 (by kernel_rfl))
              exact wp_load_mid _ (.tmp 22) rfl (g2) (o2 + j * 11) e22 (D) _ ((HR.out _ (HO.out.trans hI.j (fun _ _ e => e))).2) Try.underlying44 rfl (HI2.out) (hK _ _ hI.j PtKeep.refl rfl)
            · intro L a W K hI hn hd hK
              have e19 : a.eval (.tmp 19) = .agg (C).toArray := hI.fact 3 19 _ rfl (dep_of hd 3 (by kernel_rfl))
              have e23 : a.eval (.tmp 23) = .agg (D).toArray := hI.fact 7 23 _ rfl (dep_of hd 7 (by kernel_rfl))
              refine wp_callc (f := 37) (args := #[a.eval (.tmp 19), a.eval (.tmp 23)]) (by kernel_rfl) ?_
              rw [e19, e23]
              refine (HSA.out _ hI.j).mono ?_
              rintro x W' ⟨rfl, ho⟩
              exact ⟨_, rfl, hK _ _ (hI.j.trans ho (fun _ _ e => e.elim)) (hstab.keep ho) rfl⟩
            · intro L a W K hI hn hd hK
              have e24 : a.eval (.tmp 24) = .bool false := hI.fact 8 24 _ rfl (dep_of hd 8 (by kernel_rfl))
              exact pt_val (v := .bool (!false)) (by unfold execOp; simp only [e24]; kernel_rfl) (hK _ _ hI.j PtKeep.refl rfl)
          · intro L a W hal hj hfs
            dsimp only [PtAll] at hfs
            obtain ⟨f16, f17, f18, f19, f20, f21, f22, f23, f24, f25, -⟩ := hfs
            have hA := hal.turned
            simp only [List.map_cons, List.map_nil, Act.turned, f16, f17, f18, f19, f20, f21, f22, f23, f24, f25] at hA
            simp only [Act.put, List.setIfInBounds_toArray, List.set_cons_zero, List.set_cons_succ] at hA
            clear hal f16 f17 f18 f19 f20 f21 f22 f23 f24 f25
            subst hA
            change wpList _ _ _ [] _ _
            have HJ := hid hj
            clear hj
            go_wp2_with fail
            go_ret
            exact ⟨by rw [HF.out]; rfl, HO.out.trans HJ.out (fun _ _ e => e)⟩
        | true =>
          have HF : Hid (samL l m = samL (l.drop (j + 1)) (m.drop (j + 1))) := hid (by rw [HSN.out]; simp)
          go_wp2_with fail
          refine region_pt 10 [] (by kernel_rfl) (by kernel_rfl) (by kernel_rfl) [(16, fun _ v => v = .slice (some ⟨g, o, none⟩) l.length cap), (17, fun _ v => v = .int .i64 j), (18, fun _ v => v = .pointer (some ⟨g, o + j * 11, none⟩)), (19, fun _ v => v = .agg (C).toArray), (20, fun _ v => v = .slice (some ⟨g2, o2, none⟩) m.length cap2), (21, fun _ v => v = .int .i64 j), (22, fun _ v => v = .pointer (some ⟨g2, o2 + j * 11, none⟩)), (23, fun _ v => v = .agg (D).toArray), (24, fun _ v => v = .bool true), (25, fun _ v => v = .bool (!true))] (fun _ W => Only (fun _ => False) wy W) (by show [16, 17, 18, 19, 20, 21, 22, 23, 24, 25].Nodup; decide) (by show ∀ d ∈ [16, 17, 18, 19, 20, 21, 22, 23, 24, 25], d < 27; decide) ((Only.refl _ _).drew) (.inl rfl) ?_ ?_ ?_
          · exact trivial
          · have hstab : PtStabs (Only (fun _ => False)) [(16, fun _ v => v = .slice (some ⟨g, o, none⟩) l.length cap), (17, fun _ v => v = .int .i64 j), (18, fun _ v => v = .pointer (some ⟨g, o + j * 11, none⟩)), (19, fun _ v => v = .agg (C).toArray), (20, fun _ v => v = .slice (some ⟨g2, o2, none⟩) m.length cap2), (21, fun _ v => v = .int .i64 j), (22, fun _ v => v = .pointer (some ⟨g2, o2 + j * 11, none⟩)), (23, fun _ v => v = .agg (D).toArray), (24, fun _ v => v = .bool true), (25, fun _ v => v = .bool (!true))] := ⟨fun _ _ _ _ h => h, fun _ _ _ _ h => h, fun _ _ _ _ h => h, fun _ _ _ _ h => h, fun _ _ _ _ h => h, fun _ _ _ _ h => h, fun _ _ _ _ h => h, fun _ _ _ _ h => h, fun _ _ _ _ h => h, fun _ _ _ _ h => h, trivial⟩
            refine PtAllS.cons rfl ⟨rfl, rfl⟩ ?_ (PtAllS.cons rfl ⟨rfl, rfl⟩ ?_ (PtAllS.cons rfl ⟨rfl, rfl⟩ ?_ (PtAllS.cons rfl ⟨rfl, rfl⟩ ?_ (PtAllS.cons rfl ⟨rfl, rfl⟩ ?_ (PtAllS.cons rfl ⟨rfl, rfl⟩ ?_ (PtAllS.cons rfl ⟨rfl, rfl⟩ ?_ (PtAllS.cons rfl ⟨rfl, rfl⟩ ?_ (PtAllS.cons rfl ⟨rfl, rfl⟩ ?_ (PtAllS.cons rfl ⟨rfl, rfl⟩ ?_ (PtAllS.nil rfl))))))))))
            · intro L a W K hI hn hd hK
              have e0 : a.eval (.tmp 0) = .slice (some ⟨g, o, none⟩) l.length cap := hI.ev 0 (by show ¬ (0 ∈ [16, 17, 18, 19, 20, 21, 22, 23, 24, 25]); decide) rfl
              exact pt_move _ (by first | exact .inl rfl | exact .inr rfl) _ e0 (hK _ _ hI.j PtKeep.refl rfl)
            · intro L a W K hI hn hd hK
              have e5 : a.eval (.tmp 5) = .int .i64 j := hI.ev 5 (by show ¬ (5 ∈ [16, 17, 18, 19, 20, 21, 22, 23, 24, 25]); decide) rfl
              exact pt_move _ (by first | exact .inl rfl | exact .inr rfl) _ e5 (hK _ _ hI.j PtKeep.refl rfl)
            · intro L a W K hI hn hd hK
              have e16 : a.eval (.tmp 16) = .slice (some ⟨g, o, none⟩) l.length cap := hI.fact 0 16 _ rfl (dep_of hd 0 (by kernel_rfl))
              have e17 : a.eval (.tmp 17) = .int .i64 j := hI.fact 1 17 _ rfl (dep_of hd 1 (by kernel_rfl))
              exact pt_val (v := .pointer (some ⟨g, o + j * 11, none⟩)) (by unfold execOp; simp only [e16, e17]; go_simp) (hK _ _ hI.j PtKeep.refl rfl)
            · intro L a W K hI hn hd hK
              have e18 : a.eval (.tmp 18) = .pointer (some ⟨g, o + j * 11, none⟩) := hI.fact 2 18 _ rfl (dep_of hd 2 (by kernel_rfl))
              exact wp_load_mid _ (.tmp 18) rfl (g) (o + j * 11) e18 (C) _ ((HR.out _ (HO.out.trans hI.j (fun _ _ e => e))).1) Try.underlying44 rfl (HI1.out) (hK _ _ hI.j PtKeep.refl rfl)
            · intro L a W K hI hn hd hK
              have e1 : a.eval (.tmp 1) = .slice (some ⟨g2, o2, none⟩) m.length cap2 := hI.ev 1 (by show ¬ (1 ∈ [16, 17, 18, 19, 20, 21, 22, 23, 24, 25]); decide) rfl
              exact pt_move _ (by first | exact .inl rfl | exact .inr rfl) _ e1 (hK _ _ hI.j PtKeep.refl rfl)
            · intro L a W K hI hn hd hK
              have e5 : a.eval (.tmp 5) = .int .i64 j := hI.ev 5 (by show ¬ (5 ∈ [16, 17, 18, 19, 20, 21, 22, 23, 24, 25]); decide) rfl
              exact pt_move _ (by first | exact .inl rfl | exact .inr rfl) _ e5 (hK _ _ hI.j PtKeep.refl rfl)
            · intro L a W K hI hn hd hK
              have e20 : a.eval (.tmp 20) = .slice (some ⟨g2, o2, none⟩) m.length cap2 := hI.fact 4 20 _ rfl (dep_of hd 4 (by kernel_rfl))
              have e21 : a.eval (.tmp 21) = .int .i64 j := hI.fact 5 21 _ rfl (dep_of hd 5 (by kernel_rfl))
              exact pt_val (v := .pointer (some ⟨g2, o2 + j * 11, none⟩)) (by unfold execOp; simp only [e20, e21]; go_simp) (hK _ _ hI.j PtKeep.refl rfl)
            · intro L a W K hI hn hd hK
              have e22 : a.eval (.tmp 22) = .pointer (some ⟨g2, o2 + j * 11, none⟩) := hI.fact 6 22 _ rfl (dep_of hd 6 (by kernel_rfl))
              exact wp_load_mid _ (.tmp 22) rfl (g2) (o2 + j * 11) e22 (D) _ ((HR.out _ (HO.out.trans hI.j (fun _ _ e => e))).2) Try.underlying44 rfl (HI2.out) (hK _ _ hI.j PtKeep.refl rfl)
            · intro L a W K hI hn hd hK
              have e19 : a.eval (.tmp 19) = .agg (C).toArray := hI.fact 3 19 _ rfl (dep_of hd 3 (by kernel_rfl))
              have e23 : a.eval (.tmp 23) = .agg (D).toArray := hI.fact 7 23 _ rfl (dep_of hd 7 (by kernel_rfl))
              refine wp_callc (f := 37) (args := #[a.eval (.tmp 19), a.eval (.tmp 23)]) (by kernel_rfl) ?_
              rw [e19, e23]
              refine (HSA.out _ hI.j).mono ?_
              rintro x W' ⟨rfl, ho⟩
              exact ⟨_, rfl, hK _ _ (hI.j.trans ho (fun _ _ e => e.elim)) (hstab.keep ho) rfl⟩
            · intro L a W K hI hn hd hK
              have e24 : a.eval (.tmp 24) = .bool true := hI.fact 8 24 _ rfl (dep_of hd 8 (by kernel_rfl))
              exact pt_val (v := .bool (!true)) (by unfold execOp; simp only [e24]; kernel_rfl) (hK _ _ hI.j PtKeep.refl rfl)
          · intro L a W hal hj hfs
            dsimp only [PtAll] at hfs
            obtain ⟨f16, f17, f18, f19, f20, f21, f22, f23, f24, f25, -⟩ := hfs
            have hA := hal.turned
            simp only [List.map_cons, List.map_nil, Act.turned, f16, f17, f18, f19, f20, f21, f22, f23, f24, f25] at hA
            simp only [Act.put, List.setIfInBounds_toArray, List.set_cons_zero, List.set_cons_succ] at hA
            clear hal f16 f17 f18 f19 f20 f21 f22 f23 f24 f25
            subst hA
            change wpList _ _ _ [] _ _
            have HJ := hid hj
            clear hj
            go_wp2_with fail
            go_roundw
            case rel => exact ⟨j + 1, by go_num, by omega, HF.out, HO.out.trans HJ.out (fun _ _ e => e)⟩
            case measure => simp [intOf]; omega
      · have HF : Hid (samL l m = true) := hid (by rw [HS.out, List.drop_of_length_le (by omega), List.drop_of_length_le (by have := HLN.out; omega), samL])
        have hjl2 : ¬ (j : Int) < l.length := by omega
        go_wp2_with fail
        go_ret
        exact ⟨by rw [HF.out]; rfl, HO.out⟩
  · have hlb : ((l.length : Int) != (m.length : Int)) = true := by simp; omega
    have HF : Hid (samL l m = false) := hid (samL_ne hlen)
    clear hlen
    go_enter Try.func16, Try.ntmps16
    go_wp2_with fail
    go_ret
    exact ⟨by rw [HF.out]; rfl, Only.refl _ _⟩
end
end Go.Proofs.Ytnoopajedgllhaa
