/- HistoryPages' walk. -/
import Derived.Test.YtnoopajedgllhaaHsL
import Derived.Deep.Cut
import Derived.Deep.CutRange
import Derived.Deep.CutBlock
namespace Go.Proofs.Ytnoopajedgllhaa
open Go.RowKit
def s0 : List UInt8 := List.replicate 32 0
theorem s0_len : s0.length = 32 := rfl
theorem s0_arr : (bytesV s0).toArray = byA st0 0 := by kernel_rfl
theorem cell_in {w w' : World} {F : Nat → Prop} (ho : Only F w w') {p : Addr} {u : Value} (hF : ¬ F p.block) (h : w.cell? p = some u) : w'.cell? p = some u := (World.cell?_of_block (ho.block p.block (World.block_lt_of_cell? _ _ h) hF)).trans h
/-- What the pages read so far hold. -/
structure Got (B : Nat → Prop) (w : World) (ao : Option Addr) (k cp : Nat) (xs : List Value) (es : List EM) : Prop where
  gr : Gr w 44 11 ao k cp xs
  len : k = es.length
  new : ∀ q, ao = some ⟨q, 0, none⟩ → B q
  exs : EXs w (fun q => B q ∧ q < w.heap.size ∧ ao ≠ some ⟨q, 0, none⟩) es xs
theorem Got.only {F B : Nat → Prop} {wa wb : World} {ao : Option Addr} {k cp : Nat} {xs : List Value} {es : List EM} (h : Got B wa ao k cp xs es) (ho : Only F wa wb) (hF : ∀ k, B k → k < wa.heap.size → ¬ F k) : Got B wb ao k cp xs es where
  gr := h.gr.only ho fun g hg => hF g (h.new g hg) (h.gr.lt hg)
  len := h.len
  new := h.new
  exs := (h.exs.only ho fun _ hk => hF _ hk.1 hk.2.1).mono fun _ hk => ⟨hk.1, Nat.lt_of_lt_of_le hk.2.1 ho.size, hk.2.2⟩
theorem EXs.app {w : World} {G : Nat → Prop} : ∀ {l m : List EM} {xs ys : List Value}, EXs w G l xs → EXs w G m ys → EXs w G (l ++ m) (xs ++ ys)
  | [], _, _, _, h, g => by
    have h' : _ = ([] : List Value) := h
    subst h'; simpa using g
  | _ :: _, _, _, _, ⟨cs, zs, e, h1, h2⟩, g => ⟨cs, zs ++ _, by rw [e, List.append_assoc], h1, EXs.app h2 g⟩
theorem Got.evs {B : Nat → Prop} {w : World} {ao : Option Addr} {k cp : Nat} {xs : List Value} {es : List EM} (h : Got B w ao k cp xs es) : EvsV w (fun k => B k ∧ k < w.heap.size) (.slice ao k cp) es := by
  have hn := h.len
  subst hn
  rcases Nat.eq_zero_or_pos es.length with h0 | h0
  · have h0' := List.eq_nil_of_length_eq_zero h0
    exact ⟨ao, cp, 0, 0, rfl, fun h => absurd h0' h, fun i e hi => by rw [h0'] at hi; simp at hi⟩
  · obtain ⟨q, hq, hcells⟩ := h.gr.cells h0
    refine ⟨ao, cp, q, 0, rfl, fun _ => ⟨hq, h.new q hq, h.gr.lt hq⟩, fun i e hi => ?_⟩
    obtain ⟨ds, h3, h4⟩ := EXs.at' h.exs i e hi
    exact ⟨ds, fun k u hk => by rw [Nat.zero_add]; exact hcells _ _ (h3 k u hk), h4.mono fun k hk => ⟨hk.1, hk.2.1⟩⟩
/-- A page of it as the source of an append. -/
theorem OutE.src {B : Nat → Prop} {w : World} {ad : Option Addr} {n cap : Nat} {xs : List Value} {es : List EM} (h : OutE B w ad n cap xs es) : SrcG w ad n 11 xs := by
  refine ⟨h.gr.1, fun h0 => ?_, ?_⟩
  · obtain ⟨q, hq, hc⟩ := h.gr.cells h0
    exact ⟨_, hq, fun j u hj => by rw [addr_add, Nat.zero_add]; exact hc j u hj⟩
  · have : ∀ {l : List EM} {xs : List Value} {G : Nat → Prop}, EXs w G l xs → ∀ u ∈ xs, u.oneCell' = true := by
      intro l
      induction l with
      | nil => intro xs G h u hu; have h' : xs = [] := h; subst h'; simp at hu
      | cons e l ih =>
        rintro xs G ⟨cs, ys, rfl, h1, h2⟩ u hu
        rcases List.mem_append.1 hu with hu | hu
        · obtain ⟨k, m, s, a, b, c, rfl, -⟩ := h1.form
          exact ev_ones _ _ _ _ _ _ _ _ _ _ _ _ _ u hu
        · exact ih h2 u hu
    exact this h.exs
section
variable {w : World}
set_option maxRecDepth 100000 in
set_option maxHeartbeats 12800000 in
theorem pages_c {v u : Value} {l : List EM} {ns : List Int} (hE : EvsV w (fun k => k < w.heap.size) v l) (hg : ∀ e ∈ l, e.rg) (hll : l.length ≤ 9223372036854775807) (f : Int) (hf : -9223372036854775808 ≤ f ∧ f ≤ 9223372036854775807) (hS : SrcV w u (intsV ns)) (hnl : ns.length ≤ 9223372036854775807) :
    Calls Try.prog 3 #[v, .int .i64 f, u] w fun x w' => x = .returned (.bool true) ∧ Only (fun _ => False) w w' := by
  obtain ⟨ad, cap, rfl⟩ := hE.len
  obtain ⟨au, cu, rfl, hsc⟩ := hS
  rw [length_intsV]
  have HE := hid hE; have Hg := hid hg; have HSC := hid hsc
  clear hE hg hsc
  go_enter Try.func3, Try.ntmps3
  go_wp2_with fail
  refine keeps_c.mono ?_
  rintro x w1 ⟨rfl, ho1⟩
  have HSM := hid (small_c (HE.out.same ho1) (fun k hk => Nat.lt_of_lt_of_le hk ho1.size) (fun e he => (Hg.out e he).2.2.2.2.2.2.2) hll)
  have HO1 := hid ho1
  clear ho1
  go_wp2_with fail
  refine HSM.out.mono ?_
  rintro x w2 ⟨rfl, ho2⟩
  have HO2 := hid (HO1.out.trans ho2 (fun _ _ e => e))
  clear ho2 HSM HO1
  by_cases hsm : (smB l 300 && decide (l.length ≤ 40)) = true
  rotate_left
  · have hsf : (smB l 300 && decide (l.length ≤ 40)) = false := by simpa using hsm
    rw [hsf]
    clear hsm hsf
    go_wp2_with fail
    go_ret
    exact ⟨rfl, HO2.out⟩
  rw [hsm]
  have hl40 : l.length ≤ 40 := by simp only [Bool.and_eq_true, decide_eq_true_eq] at hsm; exact hsm.2
  have Hsz := hid (fun (e : EM) (he : e ∈ l) => (show e.v.sz ≤ 1000000 by
    simp only [Bool.and_eq_true] at hsm
    have := sm_sz (by decide) hsm.1 e he; omega))
  clear hsm
  by_cases hn60 : 60 < ns.length
  · have hni : (60 : Int) < ns.length := by omega
    go_wp2_with fail
    go_ret
    exact ⟨rfl, HO2.out⟩
  have hni : ¬ (60 : Int) < ns.length := by omega
  have HNW := hid (hnew_c (w := w2) (s := s0) s0_len)
  rw [s0_arr] at HNW
  go_wp2_with fail
  refine HNW.out.mono ?_
  rintro x w3 ⟨hb, rfl, hh, hsz3, ho3⟩
  have hsz2 := HO2.out.size
  have HAP := hid (happend_c hh (HE.out.same (HO2.out.trans ho3 (fun _ _ e => e))) (fun k hk => ⟨by have := ho3.size; omega, fun e => by have e' : k = hb := e; omega⟩) Hg.out Hsz.out (by omega))
  have HO3 := hid (HO2.out.trans ho3 (fun _ _ e => e))
  have hz3 := ho3.size
  clear hh ho3 HNW
  go_wp2_with fail
  refine HAP.out.mono ?_
  rintro x w4 (⟨-, adA, capA, xsA, F', B, rfl, hh, -, -, hF', -, ho4⟩ | ⟨hne, rfl, ho4⟩)
  rotate_left
  · have HO4 := hid (HO3.out.trans ho4 (fun _ _ e => e))
    obtain ⟨ck, hck⟩ : ∃ x, hchk (closedL []) ([] : List EM).length (lastT 0 []) l = x := ⟨_, rfl⟩
    rw [hck] at hne ⊢
    have hnb : (ck != 0) = true := by simpa using hne
    clear hne hck ho4
    go_wp2_with fail
    go_ret
    exact ⟨rfl, HO4.out⟩
  have ho5 : Only (fun _ => False) w w4 := HO3.out.trans ho4 (fun k hk e => by have e' : k = hb := e; omega)
  obtain ⟨es, hes⟩ : ∃ es, [] ++ numb ([] : List EM).length l = es := ⟨_, rfl⟩
  have hel : es.length = l.length := by rw [← hes, List.nil_append, numb_len]
  rw [hes] at hh
  have HH := hid hh
  have HKD : Hid (∀ e ∈ es, e.v.rg ∧ e.v.kd) := hid (by obtain ⟨_, _, _, _, _, H⟩ := hh; exact hok_kd H.ok)
  have HPG := hid (hpage_c hh f 5 hf)
  have HO4 := hid ho5
  have hz4 := ho5.size
  clear hh ho4 ho5 hes hF' HAP
  go_wp2_with fail
  refine HPG.out.mono ?_
  rintro x w5 ⟨adP, capP, xsP, rfl, houtP, ho5⟩
  have HOP := hid houtP
  have HO5 := hid (HO4.out.trans ho5 (fun _ _ e => e))
  have HH5 := hid (HH.out.same ho5)
  have hz5 := HO5.out.size
  clear houtP ho5 HPG
  obtain ⟨n, hn⟩ : ∃ n, l.length = n := ⟨_, rfl⟩
  rw [hn] at hel hl40 hll ⊢
  have HEL := hid hel
  obtain ⟨np, hnp⟩ : ∃ x, (pageL es f 5).length = x := ⟨_, rfl⟩
  obtain ⟨pe, hpe⟩ : ∃ x, pageE es f 5 = x := ⟨_, rfl⟩
  rw [hnp] at HOP ⊢
  rw [hpe]
  have HNP := hid hnp; have HPE := hid hpe
  clear hnp hpe
  go_upto_block 0 with fail
  go_cut [43] from 43 to 77 (fun _ wx => Only (fun _ => False) w5 wx)
  case first =>
    by_cases hr : f < 1 ∨ (es.length : Int) + 1 < f ∨ (5 : Int) < 0
    · have hb1 : (pe != 1) = false := by rw [← HPE.out, pageE, if_pos hr]; rfl
      have hb2 : ((np : Int) != 0) = false := by rw [← HNP.out, pageL, if_pos hr]; rfl
      have hq : (decide (f < 1) || decide ((n : Int) + 1 < f)) = true := by simp only [Bool.or_eq_true, decide_eq_true_eq]; omega
      clear hr
      go_wp2_with fail
      all_goals (go_meet; exact Only.refl _ _)
    · obtain ⟨f0, hf0⟩ : ∃ f0 : Nat, f - 1 = (f0 : Int) := ⟨(f - 1).toNat, by omega⟩
      obtain ⟨M, hM⟩ : ∃ M : Nat, min n (f0 + 5) = M := ⟨_, rfl⟩
      have hMi : min (n : Int) (f + 4) = (M : Int) := by omega
      have hpl : pageL es f 5 = (es.drop f0).take (M - f0) := by
        rw [pageL, if_neg hr, hf0]
        show (es.drop f0).take 5 = _
        rcases Nat.lt_or_ge (n - f0) 5 with g | g
        · rw [List.take_of_length_le (by rw [List.length_drop]; omega), List.take_of_length_le (by rw [List.length_drop]; omega)]
        · congr 1; omega
      have hb1 : (pe != 0) = false := by rw [← HPE.out, pageE, if_neg hr]; rfl
      have hpL : ((es.drop f0).take (M - f0)).length = M - f0 := by rw [List.length_take, List.length_drop]; omega
      rw [hpl] at HOP
      have hnpl : np = M - f0 := by rw [← HNP.out, hpl, hpL]
      have hq : (decide (f < 1) || decide ((n : Int) + 1 < f)) = false := by simp only [Bool.or_eq_false_iff, decide_eq_false_iff_not]; omega
      have hfa : ¬ f < 1 := by omega
      have hfb : ¬ (n : Int) + 1 < f := by omega
      have hfM : f0 ≤ M := by omega
      have hMn : M ≤ n := by omega
      have HAL := hid (hall_c HH5.out)
      rw [hel] at HAL
      have HPK : Hid (∀ e ∈ (es.drop f0).take (M - f0), e.v.rg ∧ e.v.kd) := hid (fun e he => HKD.out e (List.mem_of_mem_drop (List.mem_of_mem_take he)))
      obtain ⟨PL, hPL⟩ : ∃ P, (es.drop f0).take (M - f0) = P := ⟨_, rfl⟩
      rw [hPL] at HOP HPK hpL
      have HPL := hid hPL; have HpL := hid hpL; have HMn := hid hM; have HNL := hid hnpl
      clear hpl hPL hpL hr hM hnpl
      go_wp2_with fail
      refine HAL.out.mono ?_
      rintro x w6 ⟨ad6, cap6, xs6, rfl, hout6, ho6⟩
      have HO6 := hid ho6
      have HOU := hid hout6
      have hle := hout6.gr.2.1
      have hMc : (M : Int) ≤ cap6 := by omega
      have hfMi : (f0 : Int) ≤ M := by omega
      have HEP := HOP.out.only ho6 (fun _ _ _ e => e)
      have HEPv := hid HEP.evs
      clear ho6 HEP HAL
      rcases hout6.gr.addr with hnil | ⟨q, hq6⟩
      · subst hnil
        have hn0 : n = 0 := by
          rcases Nat.eq_zero_or_pos n with h | h
          · exact h
          · obtain ⟨q, hq, -⟩ := hout6.gr.cells h
            cases hq
        have hc0 : cap6 = 0 := by rcases hout6.gr.2.2 with ⟨-, h⟩ | ⟨q, h, -⟩; exact h; cases h
        obtain rfl : M = 0 := by omega
        obtain rfl : f0 = 0 := by omega
        have hPn : PL = [] := List.eq_nil_of_length_eq_zero (by rw [HpL.out])
        subst hc0
        have HSA := hid (same_c (w := w6) HEPv.out (evs_nil (fun _ => False) none 0) HPK.out (by simp) (by rw [HpL.out]; omega))
        have hsl : samL PL [] = true := by rw [hPn]; rfl
        rw [hsl] at HSA
        clear hout6 hsl hPn hn0
        go_wp2_with fail
        refine HSA.out.mono ?_
        rintro x w7 ⟨rfl, ho7⟩
        have HO7 := hid ho7
        clear ho7
        go_wp2_with fail
        go_meet
        exact HO6.out.trans HO7.out (fun _ _ e => e)
      · subst hq6
        by_cases hfc : f0 < cap6
        · have hfci : (f0 : Int) < cap6 := by omega
          have HSA := hid (same_c (w := w6) HEPv.out (HOU.out.sub f0 (M - f0) (cap6 - f0) (by omega)) HPK.out (by rw [HPL.out]; exact HPK.out) (by rw [HpL.out]; omega))
          rw [HPL.out, samL_self] at HSA
          clear hout6 hfc
          go_wp2_with fail
          refine HSA.out.mono ?_
          rintro x w7 ⟨rfl, ho7⟩
          have HO7 := hid ho7
          clear ho7
          go_wp2_with fail
          go_meet
          exact HO6.out.trans HO7.out (fun _ _ e => e)
        · obtain rfl : f0 = cap6 := by omega
          obtain rfl : M = f0 := by omega
          have hPn : PL = [] := List.eq_nil_of_length_eq_zero (by rw [HpL.out]; omega)
          have HSA := hid (same_c (w := w6) HEPv.out (evs_nil (fun _ => False) (some ⟨q, 0, none⟩) 0) HPK.out (by simp) (by rw [HpL.out]; omega))
          have hsl : samL PL [] = true := by rw [hPn]; rfl
          rw [hsl] at HSA
          clear hout6 hsl hPn hfc
          go_wp2_with fail
          refine HSA.out.mono ?_
          rintro x w7 ⟨rfl, ho7⟩
          have HO7 := hid ho7
          clear ho7
          go_wp2_with fail
          go_meet
          exact HO6.out.trans HO7.out (fun _ _ e => e)
  case rest =>
    obtain ⟨w8, hw8⟩ : ∃ x, x = wc := ⟨wc, rfl⟩
    subst hw8
    have HOC := hid hcut
    have hz8 := hcut.size
    clear hcut HOP HNP HPE
    go_wp2_with fail
    go_loopw [80, 12] (fun i v wr => ∃ (j k cp : Nat) (ao : Option Addr) (xs : List Value), i = .int .i64 j ∧ j ≤ ns.length ∧ v = .slice ao k cp ∧ k ≤ n ∧ Got (fun q => w8.heap.size ≤ q) wr ao k cp xs (es.take k) ∧ Only (fun _ => False) w8 wr) (fun i _ _ => ns.length - (intOf i).toNat)
    case atStart => exact ⟨0, 0, 0, none, [], rfl, Nat.zero_le _, rfl, Nat.zero_le _, ⟨Gr.nil, by simp, by simp, by rw [List.take_zero]; rfl⟩, Only.refl _ _⟩
    case round =>
      obtain ⟨j, k, cp, ao, xs, rfl, hj, rfl, hkn, hgot, ho⟩ := hrel
      obtain ⟨wy, hwy⟩ : ∃ x, x = wr := ⟨wr, rfl⟩
      subst hwy
      have HGT := hid hgot; have HO := hid ho
      have hzy := ho.size
      have HHy := hid (HH5.out.same (HOC.out.trans ho (fun _ _ e => e)))
      clear hgot ho
      by_cases hjl : j < ns.length
      · have hji : (j : Int) < ns.length := by omega
        obtain ⟨m, hm⟩ : ∃ t, ns[j]? = some t := ⟨_, List.getElem?_eq_getElem hjl⟩
        obtain ⟨g, o, hau, hcl⟩ := HSC.out (by intro h; have h2 := congrArg List.length h; rw [length_intsV, List.length_nil] at h2; omega)
        have hcm : wy.cell? ⟨g, o + j, none⟩ = some (.int .i64 m) := cell_in ((HO5.out.trans HOC.out (fun _ _ e => e)).trans HO.out (fun _ _ e => e)) (fun e => e) (hcl j _ (by rw [intsV_get, hm]; rfl))
        have HPG := hid (hpage_c HHy.out ((k : Int) + 1) m (by omega))
        obtain ⟨np, hnp⟩ : ∃ x, (pageL es ((k : Int) + 1) m).length = x := ⟨_, rfl⟩
        obtain ⟨pe, hpe⟩ : ∃ x, pageE es ((k : Int) + 1) m = x := ⟨_, rfl⟩
        rw [hnp, hpe] at HPG
        have HNP := hid hnp; have HPE := hid hpe
        subst hau
        clear hcl hnp hpe hm
        go_wp2_with fail
        refine HPG.out.mono ?_
        rintro x w9 ⟨adQ, capQ, xsQ, rfl, houtQ, ho9⟩
        have HOQ := hid houtQ; have HO9 := hid ho9
        have hz9 := ho9.size
        clear houtQ ho9
        by_cases hm0 : m < 0
        · have hb1 : (pe != 1) = false := by rw [← HPE.out, pageE, if_pos (.inr (.inr hm0))]; rfl
          go_wp2_with fail
          go_roundw
          case rel => exact ⟨j + 1, k, cp, ao, xs, by go_num, by omega, rfl, hkn, HGT.out.only HO9.out (fun _ _ _ e => e), HO.out.trans HO9.out (fun _ _ e => e)⟩
          case measure => simp [intOf]; omega
        · have hcond : ¬ ((k : Int) + 1 < 1 ∨ (es.length : Int) + 1 < (k : Int) + 1 ∨ m < 0) := by omega
          have hb1 : (pe != 0) = false := by rw [← HPE.out, pageE, if_neg hcond]; rfl
          obtain ⟨m0, rfl⟩ : ∃ m0 : Nat, m = (m0 : Int) := ⟨m.toNat, by omega⟩
          have hpl : pageL es ((k : Int) + 1) m0 = (es.drop k).take np := by
            have h1 : pageL es ((k : Int) + 1) m0 = (es.drop k).take (min m0 256) := by
              rw [pageL, if_neg hcond, show ((k : Int) + 1 - 1).toNat = k from by omega]
              congr 1; omega
            have h2 := HNP.out
            rw [h1, List.length_take, List.length_drop] at h2
            rw [h1]
            rcases Nat.lt_or_ge (min m0 256) (es.length - k) with h | h
            · congr 1; omega
            · rw [List.take_of_length_le (by rw [List.length_drop]; omega), List.take_of_length_le (by rw [List.length_drop]; omega)]
          have hnpl : np = min (min m0 256) (n - k) := by
            have h2 := HNP.out
            rw [hpl, List.length_take, List.length_drop] at h2
            have h3 : (pageL es ((k : Int) + 1) m0).length = min (min m0 256) (es.length - k) := by
              rw [pageL, if_neg hcond, show ((k : Int) + 1 - 1).toNat = k from by omega, List.length_take, List.length_drop]
              omega
            rw [HNP.out] at h3; omega
          have hmin : min (min (m0 : Int) ((n : Int) - k)) 256 = (np : Int) := by omega
          rw [hpl] at HOQ
          have HPLQ := hid hpl
          have hk40 : k + np ≤ 40 := by omega
          have hknp : k + np ≤ n := by omega
          clear hpl hcond hm0 hnpl
          go_wp2_with ((guard_target =~ wpList _ _ _ (⟨some 113, _, _, _, _, _⟩ :: _) _ _); refine wpList_gr rfl elE (.tmp 111) (.tmp 112) rfl (HGT.out.only HO9.out (fun _ _ _ e => e)).gr rfl adQ np capQ rfl xsQ HOQ.out.src (by omega) (by omega) ?_; intro ao' cp' w10 hg10 ha10 ho10; have HG10 := hid hg10; have HA10 := hid ha10; have HO10 := hid ho10; clear hg10 ha10 ho10)
          go_roundw
          case rel =>
            have hao : ∀ q, ao = some ⟨q, 0, none⟩ → q < wy.heap.size := fun q hq => HGT.out.gr.lt hq
            have hz10 := HO10.out.size
            have hne : ∀ q, q < w9.heap.size → ao ≠ some ⟨q, 0, none⟩ → ao' ≠ some ⟨q, 0, none⟩ := fun q hq hn e => by
              rcases HA10.out with h | h
              · exact hn (by rw [← h, e])
              · rw [h] at e
                simp only [Option.some.injEq, Addr.mk.injEq, and_true] at e
                omega
            refine ⟨j + 1, k + np, cp', ao', xs ++ xsQ, by go_num, by omega, rfl, hknp, ⟨HG10.out, by rw [List.length_take, HEL.out]; omega, fun q hq => ?_, ?_⟩, ?_⟩
            · rcases HA10.out with h | h
              · exact HGT.out.new q (by rw [← h, hq])
              · rw [h] at hq
                simp only [Option.some.injEq, Addr.mk.injEq, and_true] at hq
                omega
            · rw [show es.take (k + np) = es.take k ++ (es.drop k).take np from List.take_add]
              refine EXs.app ?_ ?_
              · exact (((HGT.out.only HO9.out (fun _ _ _ e => e)).exs).only HO10.out (fun q hq => hq.2.2)).mono (fun q hq => ⟨hq.1, by omega, hne q hq.2.1 hq.2.2⟩)
              · refine (HOQ.out.exs.only HO10.out (fun q hq e => ?_)).mono (fun q hq => ⟨?_, ?_, hne q hq.2.1 (fun e => ?_)⟩)
                · have h1 : wy.heap.size ≤ q := hq.1
                  have := hao q e; omega
                · have h1 : wy.heap.size ≤ q := hq.1
                  omega
                · have := hq.2.1; omega
                · have h1 : wy.heap.size ≤ q := hq.1
                  have := hao q e; omega
            · exact (HO.out.trans HO9.out (fun _ _ e => e)).trans HO10.out (fun q hq e => by have := HGT.out.new q e; omega)
          case measure => simp [intOf]; omega
      · have hjl2 : ¬ (j : Int) < ns.length := by omega
        have HAL := hid (hall_c HHy.out)
        rw [HEL.out] at HAL
        go_wp2_with fail
        refine HAL.out.mono ?_
        rintro x w9 ⟨ad6, cap6, xs6, rfl, hout6, ho6⟩
        have HO6 := hid ho6
        have hle := hout6.gr.2.1
        have hkc : (k : Int) ≤ cap6 := by omega
        have HGV := hid (HGT.out.only ho6 (fun _ _ _ e => e)).evs
        have HPK : Hid (∀ e ∈ es.take k, e.v.rg ∧ e.v.kd) := hid (fun e he => HKD.out e (List.mem_of_mem_take he))
        have hkl : (es.take k).length = k := by rw [List.length_take]; omega
        have HSA : Hid (Calls Try.prog 16 #[.slice ao k cp, .slice ad6 k cap6] w9 fun x w' => x = .returned (.bool true) ∧ Only (fun _ => False) w9 w') := hid (by
          rcases hout6.gr.addr with hnil | ⟨q, hq6⟩
          · subst hnil
            have hn0 : n = 0 := by
              rcases Nat.eq_zero_or_pos n with h | h
              · exact h
              · obtain ⟨q, hq, -⟩ := hout6.gr.cells h
                cases hq
            obtain rfl : k = 0 := by omega
            have := same_c (w := w9) HGV.out (evs_nil (fun _ => False) none cap6) HPK.out (by simp) (by omega)
            simpa [samL] using this
          · subst hq6
            have h1 := hout6.sub 0 k cap6 (by omega)
            rw [List.drop_zero, Nat.zero_mul] at h1
            have := same_c (w := w9) HGV.out h1 HPK.out HPK.out (by omega)
            rw [samL_self] at this
            exact this)
        have hnl2 := hout6.gr.addr
        clear hout6 ho6 hkl
        rcases hnl2 with rfl | ⟨q, rfl⟩
        all_goals
          go_wp2_with fail
          refine HSA.out.mono ?_
          rintro x w10 ⟨rfl, ho10⟩
          have HO10 := hid ho10
          clear ho10
          go_wp2_with fail
          go_ret
          exact ⟨rfl, ((((HO5.out.trans HOC.out (fun _ _ e => e)).trans HO.out (fun _ _ e => e)).trans HO6.out (fun _ _ e => e)).trans HO10.out (fun _ _ e => e))⟩
end
end Go.Proofs.Ytnoopajedgllhaa
