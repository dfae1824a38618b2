/- command.Decode. -/
import Derived.Test.YtihidpfkdpjdpaaGreatDoorCmD
namespace Go.Proofs.YtihidpfkdpjdpaaGreatDoor
open Go.RowKit
/-- Cells, one command behind the other. -/
def CXs (w : World) (G : Nat → Prop) : List EM → List Value → Prop
  | [], xs => xs = []
  | t :: ts, xs => ∃ cs ys, xs = cs ++ ys ∧ CAt w G t cs ∧ CXs w G ts ys
section
variable {w w' : World} {G F : Nat → Prop}
theorem CXs.only (ho : Only F w w') (hd : ∀ k, G k → ¬ F k) : ∀ {l : List EM} {xs : List Value}, CXs w G l xs → CXs w' G l xs
  | [], _, h => h
  | _ :: _, _, ⟨cs, ys, e, h1, h2⟩ => ⟨cs, ys, e, h1.only ho hd, CXs.only ho hd h2⟩
theorem CXs.mono {G' : Nat → Prop} (hd : ∀ k, G k → G' k) : ∀ {l : List EM} {xs : List Value}, CXs w G l xs → CXs w G' l xs
  | [], _, h => h
  | _ :: _, _, ⟨cs, ys, e, h1, h2⟩ => ⟨cs, ys, e, h1.mono hd, CXs.mono hd h2⟩
theorem CXs.snoc {t : EM} {cs : List Value} (ht : CAt w G t cs) : ∀ {l : List EM} {xs : List Value}, CXs w G l xs → CXs w G (l ++ [t]) (xs ++ cs)
  | [], _, h => by
    have h' : _ = ([] : List Value) := h
    subst h'
    exact ⟨cs, [], by simp, ht, rfl⟩
  | _ :: _, _, ⟨cs', ys, e, h1, h2⟩ => ⟨cs', ys ++ cs, by rw [e, List.append_assoc], h1, CXs.snoc ht h2⟩
theorem CXs.at' : ∀ {l : List EM} {xs : List Value}, CXs w G l xs → ∀ (i : Nat) (e : EM), l[i]? = some e → ∃ cs, (∀ j u, cs[j]? = some u → xs[i * 9 + j]? = some u) ∧ CAt w G e cs
  | [], _, _, i, e, h => by simp at h
  | t :: ts, _, ⟨cs, ys, rfl, h1, h2⟩, 0, e, h => by
    simp only [List.getElem?_cons_zero, Option.some.injEq] at h
    subst h
    refine ⟨cs, fun j u hj => ?_, h1⟩
    rw [Nat.zero_mul, Nat.zero_add, List.getElem?_append_left (by rcases Nat.lt_or_ge j cs.length with g | g; exact g; rw [List.getElem?_eq_none g] at hj; cases hj)]; exact hj
  | t :: ts, _, ⟨cs, ys, rfl, h1, h2⟩, i + 1, e, h => by
    simp only [List.getElem?_cons_succ] at h
    obtain ⟨ds, h3, h4⟩ := CXs.at' h2 i e h
    refine ⟨ds, fun j u hj => ?_, h4⟩
    have h11 := h1.len
    rw [List.getElem?_append_right (by omega), h11, show (i + 1) * 9 + j - 9 = i * 9 + j from by omega]
    exact h3 j u hj
theorem CmsV.mono {v : Value} {G' : Nat → Prop} {es : List EM} (h : CmsV w G v es) (hd : ∀ k, G k → G' k) : CmsV w G' v es := by
  obtain ⟨a, c, g, o, h1, h2, h3⟩ := h
  refine ⟨a, c, g, o, h1, fun e => ⟨(h2 e).1, hd g (h2 e).2⟩, fun i e hi => ?_⟩
  obtain ⟨cs, h4, h5⟩ := h3 i e hi
  exact ⟨cs, h4, h5.mono hd⟩
theorem CmsV.nil {a : Option Addr} {c : Nat} : CmsV w G (.slice a 0 c) [] := ⟨a, c, 0, 0, rfl, fun h => absurd rfl h, fun i e hi => by simp at hi⟩
theorem cms_of {ao : Option Addr} {n cp : Nat} {xs : List Value} {L : List EM} {G' : Nat → Prop} (hgr : Gr w 26 9 ao n cp xs) (hn : n = L.length) (hvx : CXs w G L xs) (hao : ∀ q, ao = some ⟨q, 0, none⟩ → G' q) (hd : ∀ k, G k → G' k) : CmsV w G' (.slice ao n cp) L := by
  subst hn
  rcases Nat.eq_zero_or_pos L.length with h0 | h0
  · have h0' := List.eq_nil_of_length_eq_zero h0
    exact ⟨ao, cp, 0, 0, rfl, fun h => absurd h0' h, fun i e hi => by rw [h0'] at hi; simp at hi⟩
  · obtain ⟨q, hq, hcells⟩ := hgr.cells h0
    refine ⟨ao, cp, q, 0, rfl, fun _ => ⟨hq, hao q hq⟩, fun i e hi => ?_⟩
    obtain ⟨ds, h3, h4⟩ := CXs.at' hvx i e hi
    exact ⟨ds, fun k u hk => by rw [Nat.zero_add]; exact hcells _ _ (h3 k u hk), h4.mono hd⟩
theorem elC : Elem Tryz.prog 40 26 9 104 := .mk Tryz.underlying40 (z := .agg #[.int .i64 0, .int .i64 0, .int .i64 0, .int .i64 0, .string ⟨#[]⟩, .int .i64 0, .int .i64 0, .string ⟨#[]⟩, .slice none 0 0]) (by kernel_rfl) rfl
theorem cmd_ones (k t a b : Int) (s1 : ByteArray) (vk vn : Int) (s : ByteArray) (va : Option Addr) (m c : Nat) : ∀ u ∈ ([Value.int .i64 k, .int .i64 t, .int .i64 a, .int .i64 b, .string s1, .int .i64 vk, .int .i64 vn, .string s, .slice va m c] : List Value), u.oneCell' = true := by simp [Value.oneCell']
/-- What command.Decode leaves. -/
def CDecd (w : World) (l : List UInt8) (x : Ending) (w' : World) : Prop := ∃ v, x = .returned (.tuple #[v, .int .i64 (cdR l).2]) ∧ CmsV w' (New w w') v (cdR l).1 ∧ Only (fun _ => False) w w' ∧ ∀ e ∈ (cdR l).1, e.rg ∧ e.isC
set_option maxRecDepth 100000 in
set_option maxHeartbeats 3200000 in
theorem cdecode_c {v : Value} {l : List UInt8} (hs : Src w v l) (hl : l.length ≤ 1000000000) : Calls Tryz.prog 19 #[v] w (CDecd w l) := by
  have HR := hid (read_c v l hs hl)
  obtain ⟨a0, c0, rfl⟩ := hs.len
  clear hs hl
  obtain ⟨⟨n, r0⟩, hnr⟩ : ∃ x, (RdM.of l).num 256 = x := ⟨_, rfl⟩
  have hn256 : n ≤ 256 := by have := num_le (r := RdM.of l) (most := 256); rw [hnr] at this; exact this
  have HNR := hid hnr
  clear hnr
  go_enter Tryz.func19, Tryz.ntmps19
  go_wp2_with fail
  refine HR.out.mono ?_
  rintro e w1 ⟨b, g, rfl, hr, hb, hg, ho⟩
  have hlt := hr.lt
  have HNM := hid (rnum_c hr 256 (by decide))
  rw [HNR.out] at HNM
  simp only at HNM
  have HO1 := hid ho
  have hs1 := ho.size
  clear hr ho HR
  go_wp2_with fail
  refine HNM.out.mono ?_
  rintro e w2 ⟨rfl, hr2, ho2⟩
  have HR2 := hid hr2
  have HO2 : Hid (Only (fun _ => False) w w2) := hid ((HO1.out.trans ho2 (fun j hj e => by have e' : j = b := e; omega)))
  have hs2 := ho2.size
  clear hr2 ho2 HNM
  go_wp2_with fail
  go_loopw [13, 5] (fun i s wr => ∃ (j cp : Nat) (ao : Option Addr) (xs : List Value) (L : List EM) (rj : RdM), i = .int .u64 j ∧ j ≤ n ∧ s = .slice ao L.length cp ∧ Gr wr 26 9 ao L.length cp xs ∧ (∀ q, ao = some ⟨q, 0, none⟩ → w2.heap.size ≤ q) ∧ CXs wr (fun q => w2.heap.size ≤ q ∧ q < wr.heap.size ∧ ao ≠ some ⟨q, 0, none⟩) L xs ∧ Rd wr b g rj ∧ (∀ e ∈ L, e.rg ∧ e.isC) ∧ L.length = j ∧ rdCs n r0 = (L ++ (rdCs (n - j) rj).1, (rdCs (n - j) rj).2) ∧ w2.heap.size ≤ wr.heap.size ∧ Only (fun _ => False) w wr) (fun i _ _ => n - (intOf i).toNat)
  case atStart => exact ⟨0, 0, none, [], [], r0, rfl, Nat.zero_le _, rfl, Gr.nil, by simp, rfl, HR2.out, by simp, rfl, by simp, Nat.le_refl _, HO2.out⟩
  case round =>
    obtain ⟨j, cp, ao, xs, L, rj, rfl, hj, rfl, hgr, hao, hvx, hrj, hlg, hlj, hrd, hw2, ho⟩ := hrel
    have HGR := hid hgr; have HAO := hid hao; have HVX := hid hvx; have HRJ := hid hrj; have HLG := hid hlg; have HRD := hid hrd; have HO := hid ho
    have hso := ho.size
    have hll : L.length ≤ n := by omega
    have HLJ := hid hlj
    clear hgr hao hvx hrj hlg hrd ho hlj
    by_cases hjl : j < n
    · have hji : (j : Int) < n := by omega
      obtain ⟨m, hm⟩ : ∃ m, n - j = m + 1 := ⟨n - j - 1, by omega⟩
      have HRR := hid (cread_c HRJ.out)
      have HM : Hid (rdCs (m + 1) rj = if rj.cm.2.err ≠ 0 then ([], rj.cm.2) else (rj.cm.1 :: (rdCs m rj.cm.2).1, (rdCs m rj.cm.2).2)) := hid rfl
      obtain ⟨⟨x, rn⟩, hx⟩ : ∃ x, rj.cm = x := ⟨_, rfl⟩
      rw [hx] at HRR HM
      simp only at HRR HM
      have hgb : ∀ q, ao = some ⟨q, 0, none⟩ → q ≠ b := fun q hq => by have := HAO.out q hq; omega
      have HGB := hid hgb
      clear hx hgb
      go_wp2_with fail
      refine HRR.out.mono ?_
      rintro e w5 ⟨⟨cs, rfl, hC5, hr5, ho5⟩, hxg, hxc⟩
      obtain ⟨vk, vn, vs, va, vm, vc, rfl, hV5⟩ := hC5.form
      simp only at hr5 hV5 hxg hxc ⊢
      have hal := only_new w5 (.cells #[.int .i64 x.k, .int .i64 x.tm, .int .i64 x.a, .int .i64 x.b, .string (strOf x.name), .int .i64 vk, .int .i64 vn, .string (strOf vs), .slice va vm vc] 26)
      have HC5 := hid hC5; have HV5 := hid hV5; have HO5 := hid ho5; have HXG := hid hxg; have HXC := hid hxc; have HAL := hid hal
      have HR6 := hid (hr5.same hal)
      have HER := hid (rerr_c HR6.out)
      have HSG : Hid (SrcG ((w5.alloc (.cells #[.int .i64 x.k, .int .i64 x.tm, .int .i64 x.a, .int .i64 x.b, .string (strOf x.name), .int .i64 vk, .int .i64 vn, .string (strOf vs), .slice va vm vc] 26)).alloc (.cells #[.int .i64 x.k, .int .i64 x.tm, .int .i64 x.a, .int .i64 x.b, .string (strOf x.name), .int .i64 vk, .int .i64 vn, .string (strOf vs), .slice va vm vc] 26)) (some ⟨w5.heap.size + 1, 0, none⟩) 1 9 [.int .i64 x.k, .int .i64 x.tm, .int .i64 x.a, .int .i64 x.b, .string (strOf x.name), .int .i64 vk, .int .i64 vn, .string (strOf vs), .slice va vm vc]) := hid (by have := SrcG.new (size := 9) (blk_new (w5.alloc (.cells #[.int .i64 x.k, .int .i64 x.tm, .int .i64 x.a, .int .i64 x.b, .string (strOf x.name), .int .i64 vk, .int .i64 vn, .string (strOf vs), .slice va vm vc] 26)) (.cells #[.int .i64 x.k, .int .i64 x.tm, .int .i64 x.a, .int .i64 x.b, .string (strOf x.name), .int .i64 vk, .int .i64 vn, .string (strOf vs), .slice va vm vc] 26)) rfl (cmd_ones x.k x.tm x.a x.b (strOf x.name) vk vn (strOf vs) va vm vc); simpa using this)
      have hs5 := ho5.size
      clear hC5 hV5 hr5 ho5 hxg hxc hal HRR
      by_cases he : rn.err = 0
      · have heb : (rn.err != 0) = false := by simp [he]
        have HST : Hid (rdCs n r0 = (L ++ [x] ++ (rdCs m rn).1, (rdCs m rn).2)) := hid (by rw [HRD.out, hm, HM.out, if_neg (by simp [he])]; simp)
        have hmj : n - (j + 1) = m := by omega
        have HMJ := hid hmj
        have HLJ2 := hid (show L.length < n from by have := HLJ.out; omega)
        have hll2 := HLJ2.out
        clear he hm hmj
        go_wp2_with fail
        refine HER.out.mono ?_
        rintro e w6 ⟨rfl, rfl⟩
        go_wp2_with ((guard_target =~ wpList _ _ _ (⟨some 23, _, _, _, _, _⟩ :: _) _ _); refine wpList_gr (o := ⟨some 23, _, _, _, _, _⟩) rfl elC (.tmp 20) (.tmp 22) rfl (HGR.out.only (((HO5.out.trans (HAL.out.mono (G := fun q => q = b) (fun _ _ e => e.elim)) (fun _ _ e => e)).trans ((only_new _ _).mono (fun _ _ e => e.elim)) (fun _ _ e => e))) (fun q hq e => HGB.out q hq e)) rfl (some ⟨w5.heap.size + 1, 0, none⟩) 1 1 rfl [.int .i64 x.k, .int .i64 x.tm, .int .i64 x.a, .int .i64 x.b, .string (strOf x.name), .int .i64 vk, .int .i64 vn, .string (strOf vs), .slice va vm vc] HSG.out (by omega) (by omega) ?_; intro ao' cp' w9 hg9 ha9 ho9; have HG9 := hid hg9; have HA9 := hid ha9; have HO9 := hid ho9; clear hg9 ha9 ho9)
        go_roundw
        case rel =>
          have hoB : Only (fun q => q = b) wr ((w5.alloc (.cells #[.int .i64 x.k, .int .i64 x.tm, .int .i64 x.a, .int .i64 x.b, .string (strOf x.name), .int .i64 vk, .int .i64 vn, .string (strOf vs), .slice va vm vc] 26)).alloc (.cells #[.int .i64 x.k, .int .i64 x.tm, .int .i64 x.a, .int .i64 x.b, .string (strOf x.name), .int .i64 vk, .int .i64 vn, .string (strOf vs), .slice va vm vc] 26)) := ((HO5.out.trans (HAL.out.mono (G := fun q => q = b) (fun _ _ e => e.elim)) (fun _ _ e => e)).trans ((only_new _ _).mono (fun _ _ e => e.elim)) (fun _ _ e => e))
          have hoC : Only (fun q => ao = some ⟨q, 0, none⟩ ∨ q = b) wr w9 := (hoB.mono (fun _ _ e => .inr e)).trans HO9.out (fun _ _ e => .inl e)
          have hoD : Only (fun q => ao = some ⟨q, 0, none⟩) w5 w9 := ((HAL.out.trans (only_new _ _) (fun _ _ e => e)).mono (fun _ _ e => e.elim)).trans HO9.out (fun _ _ e => e)
          have hs9 : w5.heap.size + 2 ≤ w9.heap.size := by have := HO9.out.size; simpa using this
          have hao' : ∀ q, ao' = some ⟨q, 0, none⟩ → (ao = some ⟨q, 0, none⟩ ∨ q = w5.heap.size + 1 + 1) := fun q hq => by
            rcases HA9.out with e | e
            · exact .inl (by rw [← e]; exact hq)
            · rw [hq] at e; simp only [Option.some.injEq, Addr.mk.injEq, and_true, World.size_alloc] at e; exact .inr e
          refine ⟨j + 1, cp', ao', _, L ++ [x], rn, by go_num, by omega, by rw [List.length_append]; rfl, by rw [List.length_append]; exact HG9.out, fun q hq => ?_, ?_, ?_, fun e he => ?_, by rw [List.length_append, List.length_singleton, HLJ.out], by rw [HMJ.out]; exact HST.out, by omega, ?_⟩
          · rcases hao' q hq with h | h
            · exact HAO.out _ h
            · omega
          · have k1 : CAt w9 (fun q => w2.heap.size ≤ q ∧ q < w9.heap.size ∧ ao' ≠ some ⟨q, 0, none⟩) x [.int .i64 x.k, .int .i64 x.tm, .int .i64 x.a, .int .i64 x.b, .string (strOf x.name), .int .i64 vk, .int .i64 vn, .string (strOf vs), .slice va vm vc] :=
              (HC5.out.only hoD (fun i hi e => by have := HGR.out.lt e; have := hi.1; omega)).mono (fun i hi => by
                have h3 : wr.heap.size ≤ i := hi.1
                have h4 : i < w5.heap.size := hi.2
                refine ⟨by omega, by omega, fun e => ?_⟩
                rcases hao' i e with h | h
                · have := HGR.out.lt h; omega
                · omega)
            have k2 : CXs w9 (fun q => w2.heap.size ≤ q ∧ q < w9.heap.size ∧ ao' ≠ some ⟨q, 0, none⟩) L xs :=
              (HVX.out.only hoC (fun i hi e => by
                obtain ⟨h3, h4, h5⟩ := hi
                rcases e with e | e
                · exact h5 e
                · omega)).mono (fun i hi => by
                obtain ⟨h3, h4, h5⟩ := hi
                refine ⟨h3, by omega, fun e => ?_⟩
                rcases hao' i e with h | h
                · exact h5 h
                · omega)
            exact CXs.snoc k1 k2
          · exact (HR6.out.same (only_new _ _)).only HO9.out (fun e => by have := HAO.out b e; omega) (fun e => by have := HAO.out g e; omega)
          · rcases List.mem_append.1 he with h | h
            · exact HLG.out e h
            · rw [List.mem_singleton.1 h]; exact ⟨HXG.out, HXC.out⟩
          · exact HO.out.trans hoC (fun i hi e => by
              rcases e with e | e
              · have := HAO.out _ e; omega
              · omega)
        case measure => simp [intOf]; omega
      · have heb : (rn.err != 0) = true := by simpa using he
        have HST : Hid (rdCs n r0 = (L, rn)) := hid (by rw [HRD.out, hm, HM.out, if_pos he]; simp)
        have hgr7 := HGR.out.only (HO5.out.trans (HAL.out.mono (G := fun q => q = b) (fun _ _ e => e.elim)) (fun _ _ e => e)) (fun q hq e => HGB.out q hq e)
        have hvx7 := HVX.out.only (HO5.out.trans (HAL.out.mono (G := fun q => q = b) (fun _ _ e => e.elim)) (fun _ _ e => e)) (fun q hq e => by have := hq.1; have e' : q = b := e; omega)
        have ho7 : Only (fun _ => False) w (w5.alloc (.cells #[.int .i64 x.k, .int .i64 x.tm, .int .i64 x.a, .int .i64 x.b, .string (strOf x.name), .int .i64 vk, .int .i64 vn, .string (strOf vs), .slice va vm vc] 26)) := HO.out.trans (HO5.out.trans (HAL.out.mono (G := fun q => q = b) (fun _ _ e => e.elim)) (fun _ _ e => e)) (fun q hq e => by have e' : q = b := e; omega)
        have hvx8 := hvx7.mono (G' := fun q => w2.heap.size ≤ q ∧ q < (w5.alloc (.cells #[.int .i64 x.k, .int .i64 x.tm, .int .i64 x.a, .int .i64 x.b, .string (strOf x.name), .int .i64 vk, .int .i64 vn, .string (strOf vs), .slice va vm vc] 26)).heap.size ∧ ao ≠ some ⟨q, 0, none⟩) (fun q hq => ⟨hq.1, by have := hq.2.1; simp; omega, hq.2.2⟩)
        have HGR7 := hid hgr7; have HVX7 := hid hvx8; have HO6 := hid ho7
        clear he hm hgr7 hvx7 ho7 hvx8
        go_wp2_with fail
        refine HER.out.mono ?_
        rintro e w6 ⟨rfl, rfl⟩
        have HEN := hid (rend_c HR6.out)
        obtain ⟨dn, hdn⟩ : ∃ d, rn.done = d := ⟨_, rfl⟩
        rw [hdn] at HEN
        have HD : Hid (cdR l = if dn ≠ 0 then ([], dn) else if cAll L ≠ 0 then ([], cAll L) else (L, 0)) := hid (by unfold cdR; rw [HNR.out]; simp only; rw [HST.out]; simp only; rw [hdn])
        clear hdn
        go_wp2_with fail
        refine HEN.out.mono ?_
        rintro e w7 ⟨rfl, nd, hw7⟩
        have ho7 : Only (fun _ => False) (w5.alloc (.cells #[.int .i64 x.k, .int .i64 x.tm, .int .i64 x.a, .int .i64 x.b, .string (strOf x.name), .int .i64 vk, .int .i64 vn, .string (strOf vs), .slice va vm vc] 26)) w7 := by rw [hw7]; exact only_drewN _ nd
        have HO7 := hid (HO6.out.trans ho7 (fun _ _ e => e))
        have HCS := hid (cms_of (HGR7.out.only ho7 (fun _ _ e => e)) rfl (HVX7.out.only ho7 (fun _ _ e => e)) (G' := fun q => w.heap.size ≤ q ∧ q < w7.heap.size) (fun q hq => ⟨by have := HAO.out q hq; omega, by have := HGR7.out.lt hq; have := ho7.size; omega⟩) (fun q hq => ⟨by have := hq.1; omega, by have := hq.2.1; have := ho7.size; omega⟩))
        clear hw7 ho7 HEN
        by_cases hd0 : dn = 0
        · subst hd0
          have HAL := hid (call_c HCS.out (fun k hk => hk.2) (fun e he => (HLG.out e he).1) (by omega))
          obtain ⟨ck, hck⟩ : ∃ y, cAll L = y := ⟨_, rfl⟩
          rw [hck] at HAL HD
          clear hck
          go_wp2_with fail
          refine HAL.out.mono ?_
          rintro e w8 ⟨rfl, ho8⟩
          have HO8 := hid (HO7.out.trans ho8 (fun _ _ e => e))
          have HCS8 := hid (HCS.out.same ho8)
          have hs8 := ho8.size
          clear ho8 HAL
          by_cases hc0 : ck = 0
          · subst hc0
            have HF : Hid (cdR l = (L, 0)) := hid (by rw [HD.out]; simp)
            go_wp2_with fail
            go_ret2
            unfold CDecd
            rw [HF.out]
            exact ⟨_, rfl, HCS8.out.mono (fun k hk => ⟨hk.1, by have := hk.2; omega⟩), HO8.out, HLG.out⟩
          · have hcb : (ck != 0) = true := by simpa using hc0
            have HF : Hid (cdR l = ([], ck)) := hid (by rw [HD.out, if_neg (by simp), if_pos hc0])
            clear hc0
            go_wp2_with fail
            go_ret2
            unfold CDecd
            rw [HF.out]
            exact ⟨_, rfl, CmsV.nil, HO8.out, by simp⟩
        · have hdb : (dn != 0) = true := by simpa using hd0
          have HF : Hid (cdR l = ([], dn)) := hid (by rw [HD.out, if_pos hd0])
          clear hd0
          go_wp2_with fail
          go_ret2
          unfold CDecd
          rw [HF.out]
          exact ⟨_, rfl, CmsV.nil, HO7.out, by simp⟩
    · have hje : n - j = 0 := by omega
      have HST : Hid (rdCs n r0 = (L, rj)) := hid (by rw [HRD.out, hje]; simp [rdCs])
      have hjl2 : ¬ (j : Int) < n := by omega
      clear hje
      have HEN := hid (rend_c HRJ.out)
      obtain ⟨dn, hdn⟩ : ∃ d, rj.done = d := ⟨_, rfl⟩
      rw [hdn] at HEN
      have HD : Hid (cdR l = if dn ≠ 0 then ([], dn) else if cAll L ≠ 0 then ([], cAll L) else (L, 0)) := hid (by unfold cdR; rw [HNR.out]; simp only; rw [HST.out]; simp only; rw [hdn])
      clear hdn
      go_wp2_with fail
      refine HEN.out.mono ?_
      rintro e w7 ⟨rfl, nd, hw7⟩
      have ho7 : Only (fun _ => False) wr w7 := by rw [hw7]; exact only_drewN _ nd
      have HO7 := hid (HO.out.trans ho7 (fun _ _ e => e))
      have HCS := hid (cms_of (HGR.out.only ho7 (fun _ _ e => e)) rfl (HVX.out.only ho7 (fun _ _ e => e)) (G' := fun q => w.heap.size ≤ q ∧ q < w7.heap.size) (fun q hq => ⟨by have := HAO.out q hq; omega, by have := HGR.out.lt hq; have := ho7.size; omega⟩) (fun q hq => ⟨by have := hq.1; omega, by have := hq.2.1; have := ho7.size; omega⟩))
      clear hw7 ho7 HEN
      by_cases hd0 : dn = 0
      · subst hd0
        have HAL := hid (call_c HCS.out (fun k hk => hk.2) (fun e he => (HLG.out e he).1) (by omega))
        obtain ⟨ck, hck⟩ : ∃ y, cAll L = y := ⟨_, rfl⟩
        rw [hck] at HAL HD
        clear hck
        go_wp2_with fail
        refine HAL.out.mono ?_
        rintro e w8 ⟨rfl, ho8⟩
        have HO8 := hid (HO7.out.trans ho8 (fun _ _ e => e))
        have HCS8 := hid (HCS.out.same ho8)
        have hs8 := ho8.size
        clear ho8 HAL
        by_cases hc0 : ck = 0
        · subst hc0
          have HF : Hid (cdR l = (L, 0)) := hid (by rw [HD.out]; simp)
          go_wp2_with fail
          go_ret2
          unfold CDecd
          rw [HF.out]
          exact ⟨_, rfl, HCS8.out.mono (fun k hk => ⟨hk.1, by have := hk.2; omega⟩), HO8.out, HLG.out⟩
        · have hcb : (ck != 0) = true := by simpa using hc0
          have HF : Hid (cdR l = ([], ck)) := hid (by rw [HD.out, if_neg (by simp), if_pos hc0])
          clear hc0
          go_wp2_with fail
          go_ret2
          unfold CDecd
          rw [HF.out]
          exact ⟨_, rfl, CmsV.nil, HO8.out, by simp⟩
      · have hdb : (dn != 0) = true := by simpa using hd0
        have HF : Hid (cdR l = ([], dn)) := hid (by rw [HD.out, if_pos hd0])
        clear hd0
        go_wp2_with fail
        go_ret2
        unfold CDecd
        rw [HF.out]
        exact ⟨_, rfl, CmsV.nil, HO7.out, by simp⟩
end
end Go.Proofs.YtihidpfkdpjdpaaGreatDoor
