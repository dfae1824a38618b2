/- value's reading of texts: numbers. -/
import Derived.Test.YtokefeemhgcmhaaGreatDoorVQuo
import Derived.Deep.CutRange
import Derived.Deep.CutBlock
namespace Go.Proofs.YtokefeemhgcmhaaGreatDoor
open Go.RowKit

theorem fr_size (w : World) (a : Addr) (n : Nat) : (w.freeze a n).heap.size = w.heap.size := by
  unfold World.freeze
  split
  · rfl
  · simp
theorem fr_only (w : World) (a : Addr) (n : Nat) : Only (fun k => k = a.block) w (w.freeze a n) := by
  refine ⟨?_, ?_, ?_, by rw [fr_size]; exact Nat.le_refl _, fun k _ hk => ?_⟩
  · unfold World.freeze; split <;> rfl
  · unfold World.freeze; split <;> rfl
  · unfold World.freeze; split <;> rfl
  · unfold World.freeze
    split
    · rfl
    · simp only [Array.getElem?_modify]
      rw [if_neg (fun e => hk e.symm)]
theorem only_bw (w : World) (t : TypeId) (s : ByteArray) : Only (fun _ => False) w (Lib.bytesWorld w t s) :=
  (((Only.refl (fun _ => False) w).drew.alloc _).mono (fun _ _ e => e.elim) |>.trans (fr_only _ _ _) (fun k hk e => by have e' : k = w.heap.size := e; omega))
theorem only_bl {w w' : World} (h : Below w.heap.size w w') : Only (fun _ => False) w w' := ⟨h.os, h.tape, h.output, h.size, fun k hk _ => h.block k hk⟩
/-- The errors' variables. -/
def Ers (w : World) : Prop := (∃ ev, w.cell? ⟨2, 0, none⟩ = some ev ∧ (ev = .nilIface ∨ ∃ te pe, ev = .iface te pe)) ∧ ∃ ev, w.cell? ⟨3, 0, none⟩ = some ev ∧ (ev = .nilIface ∨ ∃ te pe, ev = .iface te pe)
theorem Ers.same {w w' : World} (h : Ers w) (ho : Only (fun _ => False) w w') : Ers w' := by
  obtain ⟨⟨e1, h1, h2⟩, e2, h3, h4⟩ := h
  exact ⟨⟨e1, (World.cell?_of_block (ho.block _ (World.block_lt_of_cell? _ _ h1) (fun e => e))).trans h1, h2⟩, e2, (World.cell?_of_block (ho.block _ (World.block_lt_of_cell? _ _ h3) (fun e => e))).trans h3, h4⟩
/-- What the library's variables hold, whatever is written into one block. -/
def Env (b : Nat) (w : World) : Prop := ∀ w', Only (fun k => k = b) w w' → Tab w' ∧ Ers w'
theorem Env.step {b : Nat} {w w' : World} (h : Env b w) (ho : Only (fun k => k = b) w w') : Env b w' := fun w2 h2 => h w2 (ho.trans h2 (fun _ _ e => e))
theorem Env.same {b : Nat} {w w' : World} (h : Env b w) (ho : Only (fun _ => False) w w') : Env b w' := h.step (ho.mono (fun _ _ e => e.elim))
/-- strconv.ParseInt(s, 10, 64). -/
theorem pint_c {w : World} (s : List UInt8) (hl : s.length ≤ 1000000000) (hE : Ers w) : Calls Tryz.prog 60 #[.string (strOf s), .int .i64 10, .int .i64 64] w fun e w' =>
    (∃ n err, e = .returned (.tuple #[.int .i64 n, err]) ∧ ((Lib.parseIntB 64 s = .ok n ∧ err = .nilIface) ∨ ((∀ v, Lib.parseIntB 64 s ≠ .ok v) ∧ ∃ t p, err = .iface t p)) ∧ -9223372036854775808 ≤ n ∧ n ≤ 9223372036854775807) ∧ Only (fun _ => False) w w' := by
  have hd : (strOf s).data.toList = s := strOf_data s
  have hsz : (strOf s).size = s.length := rfl
  obtain ⟨⟨e1, h1, h2⟩, e2, h3, h4⟩ := hE
  rcases hp : Lib.parseIntB 64 s with v | _ | _
  ·
    have hb := Lib.parseIntB_bounds hp
    have e : ((2 ^ (64 - 1) : Nat) : Int) = 9223372036854775808 := by decide
    rw [e] at hb
    refine (Tryz.strconv_ParseInt_10_at64_ok (strOf s) (by omega) v (by rw [hd]; exact hp) w).mono ?_
    rintro x w' ⟨rfl, hw⟩
    refine ⟨⟨v, _, rfl, .inl ⟨rfl, rfl⟩, by omega, by omega⟩, ?_⟩
    rcases hw with rfl | ⟨t, rfl⟩
    · exact Only.refl _ _
    · exact only_bw _ _ _
  ·
    refine (Tryz.strconv_ParseInt_10_at64_syn (strOf s) (by omega) (by rw [hd]; exact hp.trans rfl) e1 w h1 h2).mono ?_
    rintro x w' ⟨N, rfl, -, -, hb⟩
    exact ⟨⟨0, _, rfl, .inr ⟨(fun v e => by cases e), _, _, rfl⟩, by decide, by decide⟩, only_bl hb⟩
  ·
    refine (Tryz.strconv_ParseInt_10_at64_range (strOf s) (by omega) (by rw [hd]; exact hp) e2 w h3 h4).mono ?_
    rintro x w' ⟨N, rfl, -, -, hb⟩
    refine ⟨⟨_, _, rfl, .inr ⟨(fun v e => by cases e), _, _, rfl⟩, ?_, ?_⟩, only_bl hb⟩
    · unfold Lib.intSat; split <;> decide
    · unfold Lib.intSat; split <;> decide
/-- What number answers. -/
def NumA (w : World) (b : Nat) (s : List UInt8) (dp : Bool) (l : List UInt8) (E : Nat) (e : Ending) (w' : World) : Prop :=
  ((∃ v, rdInt l = some v ∧ e = .returned (.tuple #[.int .i64 v, .bool true])) ∨ (rdInt l = none ∧ ∃ v, e = .returned (.tuple #[.int .i64 v, .bool false]))) ∧ TAt w' b s E dp ∧ Only (fun k => k = b) w w'
theorem num_extract (l : List UInt8) (a n : Nat) : (strOf l).extract a (a + n) = strOf ((l.drop a).take n) := by
  apply ByteArray.ext
  apply Array.toList_inj.1
  simp [strOf, ByteArray.data_extract, List.extract_eq_take_drop]
theorem runN_cons {s : List UInt8} {a : Nat} {c : UInt8} (h : s[a]? = some c) : runN (s.drop a) = if isDg c = true then runN (s.drop (a + 1)) + 1 else 0 := by rw [drop_at h, runN]
section
variable {w : World} {b : Nat} {s : List UInt8} {a : Nat} {dp : Bool}
theorem eat_sign (h : TAt w b s a dp) : Calls Tryz.prog 37 #[.pointer (some ⟨b, 0, none⟩), .int .u8 45] w fun e w' => ∃ bb a1, e = .returned (.bool bb) ∧ TAt w' b s a1 dp ∧ a ≤ a1 ∧ a1 + runN (s.drop a1) = a + numN (s.drop a) ∧ Only (fun k => k = b) w w' := by
  by_cases hc : s[a]? = some 45
  · refine (eat_yes h 45 hc).mono ?_
    rintro e w' ⟨rfl, h1, h2⟩
    refine ⟨_, _, rfl, h1, by omega, ?_, h2⟩
    unfold numN
    rw [if_pos (by rw [get_drop]; exact hc), List.drop_drop]; omega
  · refine (eat_no h 45 hc).mono ?_
    rintro e w' ⟨rfl, h1, h2⟩
    refine ⟨_, _, rfl, h1, by omega, ?_, h2.mono (fun _ _ e => e.elim)⟩
    unfold numN
    rw [if_neg (by rw [get_drop]; exact hc)]
set_option maxRecDepth 100000 in
set_option maxHeartbeats 1600000 in
theorem number_c (h : TAt w b s a dp) (hE : Env b w) : Calls Tryz.prog 39 #[.pointer (some ⟨b, 0, none⟩)] w (NumA w b s dp ((s.drop a).take (numN (s.drop a))) (a + numN (s.drop a))) := by
  obtain ⟨N, hN⟩ : ∃ N, numN (s.drop a) = N := ⟨_, rfl⟩
  obtain ⟨l, hl⟩ : ∃ l, (s.drop a).take N = l := ⟨_, rfl⟩
  have HS := hid (eat_sign h)
  rw [hN] at HS ⊢
  rw [hl]
  have HL := hid hl; have HN := hid hN
  have H := hid h; have HER := hid hE
  have HBL := hid (show b < w.heap.size from h.cells.2.2.2.2)
  have HSL := hid (show s.length ≤ 1000000000 from h.2.2)
  obtain ⟨c0, c1, c2, cz, hlb⟩ := h.cells
  clear h hE hN hl
  go_enter Tryz.func39, Tryz.ntmps39
  go_wp2_with fail
  refine HS.out.mono ?_
  rintro e w1 ⟨bb, a1, rfl, ht1, ha1, hr1, ho1⟩
  have HT1 := hid ht1; have HA1 := hid ha1; have HR1 := hid hr1; have HO1 := hid ho1
  clear ht1 ha1 hr1 ho1 HS c0 c1 c2 cz hlb
  go_wp2_with fail
  go_loopw [] (fun wr => ∃ a' : Nat, TAt wr b s a' dp ∧ a ≤ a' ∧ a' + runN (s.drop a') = a + N ∧ Only (fun k => k = b) w wr) (fun wr => s.length - atOf wr b)
  case atStart => exact ⟨a1, HT1.out, HA1.out, HR1.out, HO1.out⟩
  case round =>
    obtain ⟨a', ht, haa, hr, ho⟩ := hrel
    have HT := hid ht; have HR := hid hr; have HO := hid ho; have HAA := hid haa
    have HM : Hid (atOf wr b = a') := hid ht.atOf
    obtain ⟨c0, c1, c2, cz, hlb⟩ := ht.cells
    have hss : (strOf s).size = s.length := rfl
    have hsl := HSL.out
    have hab : (a' : Int) ≤ 1000000000 := by have := ht.2.1; omega
    have hal := ht.2.1
    clear hr ho haa ht
    by_cases hlt : a' < s.length
    · have hai : a' < (strOf s).size := hlt
      have hai2 : (a' : Int) < (strOf s).size := by omega
      obtain ⟨c, hc⟩ : ∃ c, s[a']? = some c := ⟨_, List.getElem?_eq_getElem hlt⟩
      obtain ⟨cn, hcn⟩ : ∃ cn, c.toNat = cn := ⟨_, rfl⟩
      have hcl : cn < 256 := by rw [← hcn]; exact c.toNat_lt
      have hcv : ((((strOf s)[a']'hai).toNat : Nat) : Int) = cn := by rw [strOf_at hc, hcn]
      have hdg : (48 ≤ cn ∧ cn ≤ 57) ↔ isDg c = true := by
        unfold isDg
        simp only [Bool.and_eq_true, decide_eq_true_eq]
        rw [UInt8.le_iff_toNat_le, UInt8.le_iff_toNat_le, hcn]
        exact Iff.rfl
      have HDG := hid hdg; have HRN := hid (runN_cons hc)
      have HLT := hid hlt
      clear hcn hc hdg hlt hss hal
      by_cases h48 : (48 : Int) ≤ cn
      · by_cases h57 : (cn : Int) ≤ 57
        · have HZ : Hid (runN (s.drop a') = runN (s.drop (a' + 1)) + 1) := hid (by rw [HRN.out, if_pos (HDG.out.1 ⟨by omega, by omega⟩)])
          go_wp2_with fail
          go_quiet (fail)
          go_wp2_with fail
          go_roundw
          case rel =>
            exact ⟨a' + 1, HT.out.set (a' + 1) HLT.out, by have := HAA.out; omega, by have := HR.out; rw [HZ.out] at this; omega, HO.out.trans (only_dset _ _ _ _ _) (fun _ _ e => e)⟩
          case measure =>
            have e1 := (HT.out.set (nq := nq) (a' + 1) HLT.out).atOf
            have e2 := HM.out
            have e3 := HLT.out
            have e4 : ((a' + 1 : Nat) : Int) = (a' : Int) + 1 := rfl
            rw [e4] at e1
            rw [e1, e2]; omega
        · have HZ : Hid (runN (s.drop a') = 0) := hid (by rw [HRN.out, if_neg (fun h => by have := HDG.out.2 h; omega)])
          go_wp2_with fail
          go_quiet (fail)
          have HT3 := hid (HT.out.same (only_drewN wr nq))
          have HO3 := hid (HO.out.trans ((only_drewN wr nq).mono (fun _ _ e => e.elim)) (fun _ _ e => e))
          obtain ⟨w3, hw3⟩ : ∃ w3, wr.drewN nq = w3 := ⟨_, rfl⟩
          rw [hw3] at HT3 HO3 ⊢
          clear c0 c1 c2 cz hlb hw3
          obtain ⟨c0, c1, c2, cz, hlb⟩ := HT3.out.cells
          have haa := HAA.out
          have haai : (a : Int) ≤ a' := by omega
          have hai0 : (0 : Int) ≤ a := by omega
          have hals : (a' : Int) ≤ (strOf s).size := by have : (strOf s).size = s.length := rfl; have := HT3.out.2.1; omega
          have hals2 : a' ≤ (strOf s).size := by omega
          have HEN : Hid (a' = a + N) := hid (by have := HR.out; rw [HZ.out] at this; omega)
          go_wp2_with fail
          go_quiet (fail)
          have HT4 := hid (HT3.out.same (only_drewN w3 nq))
          have HO4 := hid (HO3.out.trans ((only_drewN w3 nq).mono (fun _ _ e => e.elim)) (fun _ _ e => e))
          obtain ⟨w4, hw4⟩ : ∃ w4, w3.drewN nq = w4 := ⟨_, rfl⟩
          rw [hw4] at HT4 HO4 ⊢
          clear c0 c1 c2 cz hlb hw4 haa haai hai0 hals hals2
          have hex : (strOf s).extract a a' = strOf l := by rw [HEN.out, num_extract, HL.out]
          have HP := hid (pint_c (w := w4) l (by rw [← HL.out, List.length_take, List.length_drop]; have := HSL.out; omega) (HER.out w4 HO4.out).2)
          rw [hex]
          clear hex
          go_wp2_with fail
          refine HP.out.mono ?_
          rintro e w5 ⟨⟨v, err, rfl, hve, hv1, hv2⟩, ho5⟩
          have HT5 := hid (HT4.out.same ho5)
          have HO5 := hid (HO4.out.trans (ho5.mono (fun _ _ e => e.elim)) (fun _ _ e => e))
          clear ho5 HP
          rcases hve with ⟨hpv, rfl⟩ | ⟨hpv, t, p, rfl⟩
          · have HF := hid (fmt_c (w := w5) v hv1 hv2 (HER.out w5 HO5.out).1)
            have HPV := hid hpv
            clear hpv
            by_cases hil : Lib.itoa v = l
            · have hbq : ((strOf (Lib.itoa v)).toList == (strOf l).toList) = true := by rw [hil]; simp
              have HRD : Hid (rdInt l = some v) := hid (by unfold rdInt; rw [HPV.out]; simp only; rw [if_pos hil])
              clear hil
              go_wp2_with fail
              refine HF.out.mono ?_
              rintro e w6 ⟨rfl, ho6⟩
              have HO6 := hid ho6
              clear ho6
              go_wp2_with fail
              go_ret2
              exact ⟨.inl ⟨v, HRD.out, rfl⟩, by rw [← HEN.out]; exact HT5.out.same HO6.out, HO5.out.trans (HO6.out.mono (fun _ _ e => e.elim)) (fun _ _ e => e)⟩
            · have hbq : ((strOf (Lib.itoa v)).toList == (strOf l).toList) = false := by rw [strOf_list, strOf_list]; simpa using hil
              have HRD : Hid (rdInt l = none) := hid (by unfold rdInt; rw [HPV.out]; simp only; rw [if_neg hil])
              clear hil
              go_wp2_with fail
              refine HF.out.mono ?_
              rintro e w6 ⟨rfl, ho6⟩
              have HO6 := hid ho6
              clear ho6
              go_wp2_with fail
              go_ret2
              exact ⟨.inr ⟨HRD.out, v, rfl⟩, by rw [← HEN.out]; exact HT5.out.same HO6.out, HO5.out.trans (HO6.out.mono (fun _ _ e => e.elim)) (fun _ _ e => e)⟩
          · have HRD : Hid (rdInt l = none) := hid (by
              unfold rdInt
              rcases hq : Lib.parseIntB 64 l with u | _ | _
              · exact absurd hq (hpv u)
              · rfl
              · rfl)
            clear hpv
            go_wp2_with fail
            go_ret2
            exact ⟨.inr ⟨HRD.out, v, rfl⟩, by rw [← HEN.out]; exact HT5.out, HO5.out⟩
      · have HZ : Hid (runN (s.drop a') = 0) := hid (by rw [HRN.out, if_neg (fun h => by have := HDG.out.2 h; omega)])
        have hd1 : decide ((48 : Int) ≤ cn) = false := decide_eq_false h48
        have hd2 : ¬ 48 ≤ cn := by omega
        have hd3 : decide (48 ≤ cn) = false := decide_eq_false hd2
        have hd4 : cn < 48 := by omega
        go_wp2_with fail
        go_quiet (fail)
        have HT3 := hid (HT.out.same (only_drewN wr nq))
        have HO3 := hid (HO.out.trans ((only_drewN wr nq).mono (fun _ _ e => e.elim)) (fun _ _ e => e))
        obtain ⟨w3, hw3⟩ : ∃ w3, wr.drewN nq = w3 := ⟨_, rfl⟩
        rw [hw3] at HT3 HO3 ⊢
        clear c0 c1 c2 cz hlb hw3
        obtain ⟨c0, c1, c2, cz, hlb⟩ := HT3.out.cells
        have haa := HAA.out
        have haai : (a : Int) ≤ a' := by omega
        have hai0 : (0 : Int) ≤ a := by omega
        have hals : (a' : Int) ≤ (strOf s).size := by have : (strOf s).size = s.length := rfl; have := HT3.out.2.1; omega
        have hals2 : a' ≤ (strOf s).size := by omega
        have HEN : Hid (a' = a + N) := hid (by have := HR.out; rw [HZ.out] at this; omega)
        go_wp2_with fail
        go_quiet (fail)
        have HT4 := hid (HT3.out.same (only_drewN w3 nq))
        have HO4 := hid (HO3.out.trans ((only_drewN w3 nq).mono (fun _ _ e => e.elim)) (fun _ _ e => e))
        obtain ⟨w4, hw4⟩ : ∃ w4, w3.drewN nq = w4 := ⟨_, rfl⟩
        rw [hw4] at HT4 HO4 ⊢
        clear c0 c1 c2 cz hlb hw4 haa haai hai0 hals hals2
        have hex : (strOf s).extract a a' = strOf l := by rw [HEN.out, num_extract, HL.out]
        have HP := hid (pint_c (w := w4) l (by rw [← HL.out, List.length_take, List.length_drop]; have := HSL.out; omega) (HER.out w4 HO4.out).2)
        rw [hex]
        clear hex
        go_wp2_with fail
        refine HP.out.mono ?_
        rintro e w5 ⟨⟨v, err, rfl, hve, hv1, hv2⟩, ho5⟩
        have HT5 := hid (HT4.out.same ho5)
        have HO5 := hid (HO4.out.trans (ho5.mono (fun _ _ e => e.elim)) (fun _ _ e => e))
        clear ho5 HP
        rcases hve with ⟨hpv, rfl⟩ | ⟨hpv, t, p, rfl⟩
        · have HF := hid (fmt_c (w := w5) v hv1 hv2 (HER.out w5 HO5.out).1)
          have HPV := hid hpv
          clear hpv
          by_cases hil : Lib.itoa v = l
          · have hbq : ((strOf (Lib.itoa v)).toList == (strOf l).toList) = true := by rw [hil]; simp
            have HRD : Hid (rdInt l = some v) := hid (by unfold rdInt; rw [HPV.out]; simp only; rw [if_pos hil])
            clear hil
            go_wp2_with fail
            refine HF.out.mono ?_
            rintro e w6 ⟨rfl, ho6⟩
            have HO6 := hid ho6
            clear ho6
            go_wp2_with fail
            go_ret2
            exact ⟨.inl ⟨v, HRD.out, rfl⟩, by rw [← HEN.out]; exact HT5.out.same HO6.out, HO5.out.trans (HO6.out.mono (fun _ _ e => e.elim)) (fun _ _ e => e)⟩
          · have hbq : ((strOf (Lib.itoa v)).toList == (strOf l).toList) = false := by rw [strOf_list, strOf_list]; simpa using hil
            have HRD : Hid (rdInt l = none) := hid (by unfold rdInt; rw [HPV.out]; simp only; rw [if_neg hil])
            clear hil
            go_wp2_with fail
            refine HF.out.mono ?_
            rintro e w6 ⟨rfl, ho6⟩
            have HO6 := hid ho6
            clear ho6
            go_wp2_with fail
            go_ret2
            exact ⟨.inr ⟨HRD.out, v, rfl⟩, by rw [← HEN.out]; exact HT5.out.same HO6.out, HO5.out.trans (HO6.out.mono (fun _ _ e => e.elim)) (fun _ _ e => e)⟩
        · have HRD : Hid (rdInt l = none) := hid (by
            unfold rdInt
            rcases hq : Lib.parseIntB 64 l with u | _ | _
            · exact absurd hq (hpv u)
            · rfl
            · rfl)
          clear hpv
          go_wp2_with fail
          go_ret2
          exact ⟨.inr ⟨HRD.out, v, rfl⟩, by rw [← HEN.out]; exact HT5.out, HO5.out⟩
    · have hai : ¬ a' < (strOf s).size := hlt
      have HZ : Hid (runN (s.drop a') = 0) := hid (by rw [List.drop_eq_nil_of_le (by omega)]; rfl)
      clear hlt hss hal
      go_wp2_with fail
      go_quiet (fail)
      have HT3 := hid (HT.out.same (only_drewN wr nq))
      have HO3 := hid (HO.out.trans ((only_drewN wr nq).mono (fun _ _ e => e.elim)) (fun _ _ e => e))
      obtain ⟨w3, hw3⟩ : ∃ w3, wr.drewN nq = w3 := ⟨_, rfl⟩
      rw [hw3] at HT3 HO3 ⊢
      clear c0 c1 c2 cz hlb hw3
      obtain ⟨c0, c1, c2, cz, hlb⟩ := HT3.out.cells
      have haa := HAA.out
      have haai : (a : Int) ≤ a' := by omega
      have hai0 : (0 : Int) ≤ a := by omega
      have hals : (a' : Int) ≤ (strOf s).size := by have : (strOf s).size = s.length := rfl; have := HT3.out.2.1; omega
      have hals2 : a' ≤ (strOf s).size := by omega
      have HEN : Hid (a' = a + N) := hid (by have := HR.out; rw [HZ.out] at this; omega)
      go_wp2_with fail
      go_quiet (fail)
      have HT4 := hid (HT3.out.same (only_drewN w3 nq))
      have HO4 := hid (HO3.out.trans ((only_drewN w3 nq).mono (fun _ _ e => e.elim)) (fun _ _ e => e))
      obtain ⟨w4, hw4⟩ : ∃ w4, w3.drewN nq = w4 := ⟨_, rfl⟩
      rw [hw4] at HT4 HO4 ⊢
      clear c0 c1 c2 cz hlb hw4 haa haai hai0 hals hals2
      have hex : (strOf s).extract a a' = strOf l := by rw [HEN.out, num_extract, HL.out]
      have HP := hid (pint_c (w := w4) l (by rw [← HL.out, List.length_take, List.length_drop]; have := HSL.out; omega) (HER.out w4 HO4.out).2)
      rw [hex]
      clear hex
      go_wp2_with fail
      refine HP.out.mono ?_
      rintro e w5 ⟨⟨v, err, rfl, hve, hv1, hv2⟩, ho5⟩
      have HT5 := hid (HT4.out.same ho5)
      have HO5 := hid (HO4.out.trans (ho5.mono (fun _ _ e => e.elim)) (fun _ _ e => e))
      clear ho5 HP
      rcases hve with ⟨hpv, rfl⟩ | ⟨hpv, t, p, rfl⟩
      · have HF := hid (fmt_c (w := w5) v hv1 hv2 (HER.out w5 HO5.out).1)
        have HPV := hid hpv
        clear hpv
        by_cases hil : Lib.itoa v = l
        · have hbq : ((strOf (Lib.itoa v)).toList == (strOf l).toList) = true := by rw [hil]; simp
          have HRD : Hid (rdInt l = some v) := hid (by unfold rdInt; rw [HPV.out]; simp only; rw [if_pos hil])
          clear hil
          go_wp2_with fail
          refine HF.out.mono ?_
          rintro e w6 ⟨rfl, ho6⟩
          have HO6 := hid ho6
          clear ho6
          go_wp2_with fail
          go_ret2
          exact ⟨.inl ⟨v, HRD.out, rfl⟩, by rw [← HEN.out]; exact HT5.out.same HO6.out, HO5.out.trans (HO6.out.mono (fun _ _ e => e.elim)) (fun _ _ e => e)⟩
        · have hbq : ((strOf (Lib.itoa v)).toList == (strOf l).toList) = false := by rw [strOf_list, strOf_list]; simpa using hil
          have HRD : Hid (rdInt l = none) := hid (by unfold rdInt; rw [HPV.out]; simp only; rw [if_neg hil])
          clear hil
          go_wp2_with fail
          refine HF.out.mono ?_
          rintro e w6 ⟨rfl, ho6⟩
          have HO6 := hid ho6
          clear ho6
          go_wp2_with fail
          go_ret2
          exact ⟨.inr ⟨HRD.out, v, rfl⟩, by rw [← HEN.out]; exact HT5.out.same HO6.out, HO5.out.trans (HO6.out.mono (fun _ _ e => e.elim)) (fun _ _ e => e)⟩
      · have HRD : Hid (rdInt l = none) := hid (by
          unfold rdInt
          rcases hq : Lib.parseIntB 64 l with u | _ | _
          · exact absurd hq (hpv u)
          · rfl
          · rfl)
        clear hpv
        go_wp2_with fail
        go_ret2
        exact ⟨.inr ⟨HRD.out, v, rfl⟩, by rw [← HEN.out]; exact HT5.out, HO5.out⟩
end
end Go.Proofs.YtokefeemhgcmhaaGreatDoor
