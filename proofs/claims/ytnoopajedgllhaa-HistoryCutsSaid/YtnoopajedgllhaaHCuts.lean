/- HistoryCuts' walk. -/
import Derived.Test.YtnoopajedgllhaaHsL
import Derived.Test.YtnoopajedgllhaaHsM
namespace Go.Proofs.Ytnoopajedgllhaa
open Go.RowKit
def s5 : List UInt8 := 5 :: List.replicate 31 0
theorem s5_len : s5.length = 32 := rfl
theorem s5_arr : (bytesV s5).toArray = #[.int .u8 5, .int .u8 0, .int .u8 0, .int .u8 0, .int .u8 0, .int .u8 0, .int .u8 0, .int .u8 0, .int .u8 0, .int .u8 0, .int .u8 0, .int .u8 0, .int .u8 0, .int .u8 0, .int .u8 0, .int .u8 0, .int .u8 0, .int .u8 0, .int .u8 0, .int .u8 0, .int .u8 0, .int .u8 0, .int .u8 0, .int .u8 0, .int .u8 0, .int .u8 0, .int .u8 0, .int .u8 0, .int .u8 0, .int .u8 0, .int .u8 0, .int .u8 0] := by kernel_rfl
theorem hchk_take : ∀ (l : List EM) (m : Nat) (c : Bool) (n : Nat) (t : Int), hchk c n t l = 0 → hchk c n t (l.take m) = 0
  | [], m, c, n, t, _ => by simp [hchk]
  | x :: l, 0, c, n, t, _ => by simp [hchk]
  | x :: l, m + 1, c, n, t, h => by
    rw [List.take_succ_cons]
    rw [hchk] at h ⊢
    by_cases h1 : 4096 < n + 1
    · rw [if_pos h1] at h; simp at h
    rw [if_neg h1] at h ⊢
    by_cases h2 : x.id ≠ 0 ∧ x.id ≠ ((n + 1 : Nat) : Int)
    · rw [if_pos h2] at h; simp at h
    rw [if_neg h2] at h ⊢
    by_cases h3 : (x.nth n).chk ≠ 0
    · rw [if_pos h3] at h; exact absurd h h3
    rw [if_neg h3] at h ⊢
    by_cases h4 : c = true
    · rw [if_pos h4] at h; simp at h
    rw [if_neg h4] at h ⊢
    by_cases h5 : (n = 0 ∧ x.k ≠ 1) ∨ (n ≠ 0 ∧ x.k = 1)
    · rw [if_pos h5] at h; simp at h
    rw [if_neg h5] at h ⊢
    by_cases h6 : outsideB x.k = true ∧ x.tm < t
    · rw [if_pos h6] at h; simp at h
    rw [if_neg h6] at h ⊢
    exact hchk_take l m _ _ _ h
theorem EvsV.take {w : World} {G : Nat → Prop} {a : Option Addr} {n c : Nat} {l : List EM} (h : EvsV w G (.slice a n c) l) (m : Nat) (hm : m ≤ n) (d : Nat) : EvsV w G (.slice a m d) (l.take m) := by
  obtain ⟨a', c', g, o, e, h2, h3⟩ := h
  simp only [Value.slice.injEq] at e
  obtain ⟨rfl, rfl, rfl⟩ := e
  refine ⟨a, d, g, o, by rw [List.length_take, Nat.min_eq_left hm], fun hne => h2 (by rintro rfl; simp at hne), fun i e hi => ?_⟩
  have him : i < m := by
    rcases Nat.lt_or_ge i m with q | q
    · exact q
    · rw [List.getElem?_eq_none (by rw [List.length_take]; omega)] at hi; cases hi
  rw [List.getElem?_take_of_lt him] at hi
  exact h3 i e hi
section
open Go.ChangeShapes Go.WideShapes Go.ChangeAt
variable {H : Type} {enc : TypeId × Value → H} {W : World} {base : Nat} {spare : Nat → Bool} {held : Bool} {fuel : Nat} {x : DataW H × List MemPlace} {v : Value}
theorem evs_cap (h : DataW.trod enc Try.prog W base spare held fuel 22 [v] = some x) : ∀ a k c, v = .slice a k c → k ≤ c := by
  intro a k c e
  rcases DataW.trod_slice Try.underlying22 h with ⟨hcs, _⟩ | ⟨ad, len, cap, elems, rest, m, hm, hcs, _, _, hlc, _⟩
  · simp at hcs; subst hcs
    simp only [Value.slice.injEq] at e; omega
  · simp at hcs; subst hcs
    simp only [Value.slice.injEq] at e; omega
end
section
variable {w : World}
set_option maxRecDepth 100000 in
set_option maxHeartbeats 12800000 in
theorem cuts_c {v u : Value} {l m : List EM} (hE : EvsV w (fun k => k < w.heap.size) v l) (hg : ∀ e ∈ l, e.rg) (hll : l.length ≤ 9223372036854775807) (n : Int) (hM : EvsV w (fun k => k < w.heap.size) u m) (hgm : ∀ e ∈ m, e.rg) (hlm : m.length ≤ 9223372036854775807) (hcap : ∀ a k c, v = .slice a k c → k ≤ c) :
    Calls Try.prog 7 #[v, .int .i64 n, u] w fun x w' => x = .returned (.bool true) ∧ Only (fun _ => False) w w' := by
  obtain ⟨ad, cap, rfl⟩ := hE.len
  obtain ⟨am, cam, rfl⟩ := hM.len
  have hlc := hcap _ _ _ rfl
  have HE := hid hE; have Hg := hid hg; have HM := hid hM; have Hgm := hid hgm
  have haz : ad = none → l.length = 0 := fun e => by
    subst e
    rcases Nat.eq_zero_or_pos l.length with h | h
    · exact h
    · obtain ⟨a', c', g, o, e2, h2, -⟩ := hE
      obtain ⟨h3, -⟩ := h2 (List.length_pos_iff.1 h)
      simp only [Value.slice.injEq] at e2
      rw [← e2.1] at h3; cases h3
  have HAZ := hid haz
  clear hE hg hM hgm hcap haz
  go_enter Try.func7, Try.ntmps7
  go_wp2_with fail
  refine keeps_c.mono ?_
  rintro x w1 ⟨rfl, ho1⟩
  have HSM := hid (small_c (HE.out.same ho1) (fun k hk => Nat.lt_of_lt_of_le hk ho1.size) (fun e he => (Hg.out e he).2.2.2.2.2.2.2) hll)
  have HO1 := hid ho1
  clear ho1
  go_wp2_with fail
  refine HSM.out.mono ?_
  rintro x w2 ⟨rfl, ho2⟩
  have HO2 := hid (HO1.out.trans ho2 (fun _ _ e => e))
  clear ho2 HSM HO1
  by_cases hsm : (smB l 300 && decide (l.length ≤ 40)) = true
  rotate_left
  · have hsf : (smB l 300 && decide (l.length ≤ 40)) = false := by simpa using hsm
    rw [hsf]
    clear hsm hsf
    go_wp2_with fail
    go_ret
    exact ⟨rfl, HO2.out⟩
  rw [hsm]
  have hl40 : l.length ≤ 40 := by simp only [Bool.and_eq_true, decide_eq_true_eq] at hsm; exact hsm.2
  have Hsz := hid (fun (e : EM) (he : e ∈ l) => (show e.v.sz ≤ 1000000 by
    simp only [Bool.and_eq_true] at hsm
    have := sm_sz (by decide) hsm.1 e he; omega))
  have HSM2 := hid (small_c (HM.out.same HO2.out) (fun k hk => Nat.lt_of_lt_of_le hk HO2.out.size) (fun e he => (Hgm.out e he).2.2.2.2.2.2.2) hlm)
  clear hsm
  go_wp2_with fail
  refine HSM2.out.mono ?_
  rintro x w2' ⟨rfl, ho2'⟩
  have HO2' := hid (HO2.out.trans ho2' (fun _ _ e => e))
  clear ho2' HSM2 HO2
  by_cases hsm : (smB m 300 && decide (m.length ≤ 40)) = true
  rotate_left
  · have hsf : (smB m 300 && decide (m.length ≤ 40)) = false := by simpa using hsm
    rw [hsf]
    clear hsm hsf
    go_wp2_with fail
    go_ret
    exact ⟨rfl, HO2'.out⟩
  rw [hsm]
  have hm40 : m.length ≤ 40 := by simp only [Bool.and_eq_true, decide_eq_true_eq] at hsm; exact hsm.2
  have Hszm := hid (fun (e : EM) (he : e ∈ m) => (show e.v.sz ≤ 1000000 by
    simp only [Bool.and_eq_true] at hsm
    have := sm_sz (by decide) hsm.1 e he; omega))
  have HNW := hid (fun W => hnew_c (w := W) (s := s5) s5_len)
  rw [s5_arr] at HNW
  clear hsm
  go_wp2_with fail
  refine (HNW.out w2').mono ?_
  rintro x w3 ⟨hb, rfl, hh, hsz3, ho3⟩
  have HH0 := hid hh
  have HO3 := hid (HO2'.out.trans ho3 (fun _ _ e => e))
  have hz2 := HO2'.out.size
  have hb3 : hb < w3.heap.size := by obtain ⟨_, _, _, _, _, H⟩ := hh; exact H.lt hb H.fb
  clear hh ho3
  go_wp2_with fail
  refine (HNW.out w3).mono ?_
  rintro x w4 ⟨kb, rfl, hk, hsz4, ho4⟩
  have HK0 := hid hk
  have HH1 := hid (HH0.out.same ho4)
  have HO4 := hid (HO3.out.trans ho4 (fun _ _ e => e))
  have hz4 := ho4.size
  have hkb4 : kb < w4.heap.size := by obtain ⟨_, _, _, _, _, H⟩ := hk; exact H.lt kb H.fb
  have HAP := hid (happend_c HH1.out (HE.out.same HO4.out) (fun k hk => ⟨by have := HO4.out.size; omega, fun e => by have e' : k = hb := e; omega⟩) Hg.out Hsz.out (by omega))
  clear hk ho4 HNW
  go_wp2_with fail
  refine HAP.out.mono ?_
  rintro x w5 (⟨hck0, adA, capA, xsA, Fh, B, rfl, hh, -, -, hFh, -, ho5⟩ | ⟨hne, rfl, ho5⟩)
  rotate_left
  · have HO5 := hid (HO4.out.trans ho5 (fun _ _ e => e))
    obtain ⟨ck, hck⟩ : ∃ x, hchk (closedL []) ([] : List EM).length (lastT 0 []) l = x := ⟨_, rfl⟩
    rw [hck] at hne ⊢
    have hnb : (ck != 0) = true := by simpa using hne
    clear hne hck ho5
    go_wp2_with fail
    go_ret
    exact ⟨rfl, HO5.out⟩
  have ho5' : Only (fun _ => False) w w5 := HO4.out.trans ho5 (fun k hk e => by have e' : k = hb := e; omega)
  have hFh' : ∀ k, Fh k → k = hb ∨ w4.heap.size ≤ k := hFh
  have HFH := hid hFh'
  obtain ⟨es, hes⟩ : ∃ es, [] ++ numb ([] : List EM).length l = es := ⟨_, rfl⟩
  have hel : es.length = l.length := by rw [← hes, List.nil_append, numb_len]
  rw [hes] at hh
  have HK1 := hid (HK0.out.only ho5 (fun k hk e => by have e1 : k = kb := hk; have e2 : k = hb := e; omega))
  have HH2 := hid hh; have HES := hid hes; have HEL := hid hel; have HO5 := hid ho5'; have HCK0 := hid hck0
  have hz5 := ho5.size
  clear hh hFh hFh' hes hel ho5 ho5' hck0 HAP
  by_cases hcut : n < 0 ∨ (l.length : Int) < n
  · have HCU := hid (hcut_no HH2.out n (by rw [HEL.out]; exact hcut))
    have hcu : (n < 0 ∨ (l.length : Int) < n) := hcut
    have HLN2 : Hid (∀ W, Only (fun _ => False) w5 W → Calls Try.prog 29 #[.pointer (some ⟨hb, 0, none⟩)] W fun x w' => x = .returned (.int .i64 l.length) ∧ w' = W) := hid fun W hW => by have := hlen_c (HH2.out.same hW); rw [HEL.out] at this; exact this
    clear hcut
    by_cases hn0 : n < 0
    · clear hcu
      go_wp2_with fail
      refine HCU.out.mono ?_
      rintro x w6 ⟨rfl, ho6⟩
      have HO6 := hid ho6
      clear ho6
      go_wp2_with fail
      refine (HLN2.out _ HO6.out).mono ?_
      rintro x w7 ⟨rfl, rfl⟩
      go_wp2_with fail
      go_ret
      exact ⟨rfl, HO5.out.trans HO6.out (fun _ _ e => e)⟩
    · have hn1 : (l.length : Int) < n := by omega
      clear hcu
      go_wp2_with fail
      refine HCU.out.mono ?_
      rintro x w6 ⟨rfl, ho6⟩
      have HO6 := hid ho6
      clear ho6
      go_wp2_with fail
      refine (HLN2.out _ HO6.out).mono ?_
      rintro x w7 ⟨rfl, rfl⟩
      go_wp2_with fail
      go_ret
      exact ⟨rfl, HO5.out.trans HO6.out (fun _ _ e => e)⟩
  · have hn0 : ¬ n < 0 := by omega
    have hn1 : ¬ (l.length : Int) < n := by omega
    obtain ⟨c, rfl⟩ : ∃ c : Nat, n = (c : Int) := ⟨n.toNat, by omega⟩
    have hcl : c ≤ l.length := by omega
    have hcc : (c : Int) ≤ cap := by omega
    have HAPk := hid (happend_c (l := l.take c) HK1.out ((HE.out.same HO5.out).take c hcl cap) (fun k hk => ⟨by have := HO5.out.size; omega, fun e => by have e' : k = kb := e; omega⟩) (fun e he => Hg.out e (List.mem_of_mem_take he)) (fun e he => Hsz.out e (List.mem_of_mem_take he)) (by rw [List.length_take]; omega))
    have hck2 : hchk (closedL []) ([] : List EM).length (lastT 0 []) (l.take c) = 0 := hchk_take l c _ _ _ HCK0.out
    have HCK2 := hid hck2
    have hltc : (l.take c).length = c := by rw [List.length_take]; omega
    have HLT := hid hltc
    have had : ad = none ∨ ∃ a, ad = some a := by cases ad with | none => exact .inl rfl | some a => exact .inr ⟨a, rfl⟩
    clear hcut hck2 hltc
    rcases had with rfl | ⟨adr, rfl⟩
    · have hl0 : l.length = 0 := HAZ.out rfl
      obtain rfl : c = 0 := by omega
      go_wp2_with fail
      refine HAPk.out.mono ?_
      rintro x w6 (⟨-, adB, capB, xsB, Fk, B2, rfl, hk, -, -, hFk, -, ho6⟩ | ⟨hne, -⟩)
      rotate_left
      · exact absurd HCK2.out hne
      have hes2 : [] ++ numb ([] : List EM).length (l.take 0) = es.take 0 := by rw [← HES.out, List.nil_append, List.nil_append]; exact numb_take _ _ _
      rw [hes2] at hk
      have HK2 := hid hk
      have hdis : ∀ k, Fh k → ¬ Fk k := fun k h1 h2 => by
        obtain ⟨_, _, _, _, _, H⟩ := HH2.out
        have h3 := H.lt k h1
        rcases hFk k h2 with e | e
        · have e' : k = kb := e
          rcases HFH.out k h1 with g | g <;> omega
        · omega
      have HDI := hid hdis
      have HH3 := hid (HH2.out.only ho6 (fun k hk e => by have e' : k = kb := e; rcases HFH.out k hk with g | g <;> omega))
      have HO6 := hid (HO5.out.trans ho6 (fun k hk e => by have e' : k = kb := e; omega))
      have HCU := hid (hcut_c HH3.out 0 (by rw [HEL.out]; exact hcl))
      have hz6 := ho6.size
      have HFK := hid hFk
      clear hk hFk ho6 hes2 hdis HAPk
      go_wp2_with fail
      refine HCU.out.mono ?_
      rintro x w7 ⟨rfl, hh7, ho7⟩
      have HH4 := hid hh7
      have HK3 := hid (HK2.out.only ho7 (fun k hk e => by have e' : k = hb := e; obtain ⟨_, _, _, _, _, H⟩ := HH3.out; exact HDI.out k (by rw [e']; exact H.fb) hk))
      have HO7 := hid (HO6.out.trans ho7 (fun k hk e => by have e' : k = hb := e; omega))
      have hz7 := ho7.size
      clear hh7 ho7 HCU
      obtain ⟨fs, hfs⟩ : ∃ fs, es.take 0 = fs := ⟨_, rfl⟩
      rw [hfs] at HH4 HK3
      have HAPh := hid (happend_c HH4.out (HM.out.same HO7.out) (fun k hk => ⟨by have := HO7.out.size; omega, fun e => by rcases HFH.out k e with g | g <;> omega⟩) Hgm.out Hszm.out (by omega))
      clear hfs
      go_wp2_with fail
      refine HAPh.out.mono ?_
      obtain ⟨ck, hck⟩ : ∃ x, hchk (closedL fs) fs.length (lastT 0 fs) m = x := ⟨_, rfl⟩
      have HCK := hid hck
      clear hck
      have hw5 : w5.heap.size ≤ w7.heap.size := by omega
      rintro x w8 hp8
      have hmain : ∃ ad8 n8 cap8 gs Fh2, x = .returned (.tuple #[.slice ad8 n8 cap8, .int .i64 ck]) ∧ HistAt w8 hb Fh2 s5 gs ∧ (∀ k, Fh2 k → Fh k ∨ w7.heap.size ≤ k) ∧ Only Fh w7 w8 ∧ ((ck = 0 ∧ gs = fs ++ numb fs.length m) ∨ (ck ≠ 0 ∧ gs = fs)) := by
        rcases hp8 with ⟨h0, ad8, cap8, xs8, F8, B8, rfl, hh, -, -, hF8, -, ho8⟩ | ⟨h0, rfl, ho8⟩
        · rw [HCK.out] at h0
          exact ⟨ad8, _, cap8, _, F8, by rw [h0], hh, hF8, ho8, .inl ⟨h0, rfl⟩⟩
        · rw [HCK.out] at h0
          exact ⟨none, 0, 0, fs, Fh, by rw [HCK.out], HH4.out.same ho8, fun k hk => .inl hk, ho8.mono (fun _ _ e => e.elim), .inr ⟨h0, rfl⟩⟩
      obtain ⟨ad8, n8, cap8, gs, Fh2, rfl, hh8, hF8, ho8, hgs⟩ := hmain
      have HH5 := hid hh8; have HGS := hid hgs
      have HK4 := hid (HK3.out.only ho8 (fun k hk e => HDI.out k e hk))
      have HO8 := hid (HO7.out.trans ho8 (fun k hk e => by rcases HFH.out k e with g | g <;> omega))
      have hz8 := ho8.size
      have HAPk2 := hid (happend_c HK4.out (HM.out.same HO8.out) (fun k hk => ⟨by have := HO8.out.size; omega, fun e => by rcases HFK.out k e with g | g <;> omega⟩) Hgm.out Hszm.out (by omega))
      have HD2 : Hid (∀ k, Fh2 k → ¬ Fk k) := hid (fun k h1 h2 => by
        rcases hF8 k h1 with g | g
        · exact HDI.out k g h2
        · obtain ⟨_, _, _, _, _, H⟩ := HK3.out
          have := H.lt k h2; omega)
      clear hp8 hh8 hF8 ho8 hgs HAPh
      go_wp2_with fail
      refine HAPk2.out.mono ?_
      rintro x w9 hp9
      have hmain : ∃ ad9 n9 cap9 Fk2, x = .returned (.tuple #[.slice ad9 n9 cap9, .int .i64 ck]) ∧ HistAt w9 kb Fk2 s5 gs ∧ Only Fk w8 w9 := by
        rcases hp9 with ⟨h0, ad8, cap8, xs8, F8, B8, rfl, hh, -, -, hF8, -, ho8⟩ | ⟨h0, rfl, ho8⟩
        · rw [HCK.out] at h0
          rcases HGS.out with ⟨g1, g2⟩ | ⟨g1, g2⟩
          · rw [← g2] at hh
            exact ⟨ad8, _, cap8, F8, by rw [h0], hh, ho8⟩
          · exact absurd h0 g1
        · rw [HCK.out] at h0
          rcases HGS.out with ⟨g1, g2⟩ | ⟨g1, g2⟩
          · exact absurd g1 h0
          · exact ⟨none, 0, 0, Fk, by rw [HCK.out], by rw [g2]; exact HK4.out.same ho8, ho8.mono (fun _ _ e => e.elim)⟩
      obtain ⟨ad9, n9, cap9, Fk2, rfl, hk9, ho9⟩ := hmain
      have HK5 := hid hk9
      have HH6 := hid (HH5.out.only ho9 HD2.out)
      have HO9 := hid (HO8.out.trans ho9 (fun k hk e => by rcases HFK.out k e with g | g <;> omega))
      have HKD : Hid (∀ e ∈ gs, e.v.rg ∧ e.v.kd) := hid (by obtain ⟨_, _, _, _, _, H⟩ := HH5.out; exact hok_kd H.ok)
      have HGN : Hid (gs.length ≤ 1000000) := hid (by obtain ⟨_, _, _, _, _, H⟩ := HH5.out; have := H.n; omega)
      have HAL := hid (hall_c HH6.out)
      clear hp9 hk9 ho9 HAPk2
      go_wp2_with fail
      refine HAL.out.mono ?_
      rintro x w10 ⟨adC, capC, xsC, rfl, houtC, ho10⟩
      have HOC := hid houtC; have HO10 := hid ho10
      have HAL2 := hid (hall_c (HK5.out.same ho10))
      clear houtC ho10 HAL
      go_wp2_with fail
      refine HAL2.out.mono ?_
      rintro x w11 ⟨adD, capD, xsD, rfl, houtD, ho11⟩
      have hsame := same_c (w := w11) (HOC.out.only ho11 (fun _ _ _ e => e)).evs houtD.evs HKD.out HKD.out HGN.out
      rw [samL_self] at hsame
      have HSA := hid hsame
      have HO11 := hid (HO10.out.trans ho11 (fun _ _ e => e))
      clear hsame houtD ho11 HAL2
      go_wp2_with fail
      refine HSA.out.mono ?_
      rintro x w12 ⟨rfl, ho12⟩
      have HO12 := hid (HO11.out.trans ho12 (fun _ _ e => e))
      have HS1 := hid (hsum2_c (HH6.out.same HO12.out))
      have HSL : Hid ((sumS s5 gs).length = 32) := hid (sumS_len s5_len gs)
      have hqs : Hid (∀ W, (binOp .eql 29 (.agg (bytesV (sumS s5 gs)).toArray) (.agg (bytesV (sumS s5 gs)).toArray)).run Try.prog W = .ok (.bool true) W) := hid (fun W => by rw [eql_sum W HSL.out HSL.out]; simp)
      obtain ⟨SL, hSL⟩ : ∃ x, bytesV (sumS s5 gs) = x := ⟨_, rfl⟩
      rw [hSL] at HS1 hqs
      have HSLe := hid hSL
      clear ho12 hSL HSA
      go_wp2_with fail
      refine HS1.out.mono ?_
      rintro x w13 ⟨rfl, ho13⟩
      have HO13 := hid (HO12.out.trans ho13 (fun _ _ e => e))
      have HS2 := hid (hsum2_c (HK5.out.same HO13.out))
      rw [HSLe.out] at HS2
      clear ho13 HS1
      go_wp2_with fail
      refine HS2.out.mono ?_
      rintro x w14 ⟨rfl, ho14⟩
      have HO14 := hid (HO13.out.trans ho14 (fun _ _ e => e))
      have HC1 := hid (hclosed_c (HH6.out.same HO14.out))
      have hqs2 := hqs.out
      obtain ⟨cb, hcb⟩ : ∃ x, closedL gs = x := ⟨_, rfl⟩
      rw [hcb] at HC1
      have HCB := hid hcb
      clear ho14 hcb HS2
      go_wp2_with fail
      refine HC1.out.mono ?_
      rintro x w15 ⟨rfl, ho15⟩
      have HO15 := hid (HO14.out.trans ho15 (fun _ _ e => e))
      have HC2 := hid (hclosed_c (HK5.out.same HO15.out))
      rw [HCB.out] at HC2
      clear ho15 HC1 hqs2
      go_wp2_with fail
      refine HC2.out.mono ?_
      rintro x w16 ⟨rfl, ho16⟩
      have HO16 := hid (HO15.out.trans ho16 (fun _ _ e => e))
      clear ho16 HC2
      go_wp2_with fail
      go_ret
      exact ⟨by simp, HO9.out.trans HO16.out (fun _ _ e => e)⟩
    · clear HAZ
      go_wp2_with fail
      refine HAPk.out.mono ?_
      rintro x w6 (⟨-, adB, capB, xsB, Fk, B2, rfl, hk, -, -, hFk, -, ho6⟩ | ⟨hne, -⟩)
      rotate_left
      · exact absurd HCK2.out hne
      have hes2 : [] ++ numb ([] : List EM).length (l.take c) = es.take c := by rw [← HES.out, List.nil_append, List.nil_append]; exact numb_take _ _ _
      rw [hes2] at hk
      have HK2 := hid hk
      have hdis : ∀ k, Fh k → ¬ Fk k := fun k h1 h2 => by
        obtain ⟨_, _, _, _, _, H⟩ := HH2.out
        have h3 := H.lt k h1
        rcases hFk k h2 with e | e
        · have e' : k = kb := e
          rcases HFH.out k h1 with g | g <;> omega
        · omega
      have HDI := hid hdis
      have HH3 := hid (HH2.out.only ho6 (fun k hk e => by have e' : k = kb := e; rcases HFH.out k hk with g | g <;> omega))
      have HO6 := hid (HO5.out.trans ho6 (fun k hk e => by have e' : k = kb := e; omega))
      have HCU := hid (hcut_c HH3.out c (by rw [HEL.out]; exact hcl))
      have hz6 := ho6.size
      have HFK := hid hFk
      clear hk hFk ho6 hes2 hdis HAPk
      go_wp2_with fail
      refine HCU.out.mono ?_
      rintro x w7 ⟨rfl, hh7, ho7⟩
      have HH4 := hid hh7
      have HK3 := hid (HK2.out.only ho7 (fun k hk e => by have e' : k = hb := e; obtain ⟨_, _, _, _, _, H⟩ := HH3.out; exact HDI.out k (by rw [e']; exact H.fb) hk))
      have HO7 := hid (HO6.out.trans ho7 (fun k hk e => by have e' : k = hb := e; omega))
      have hz7 := ho7.size
      clear hh7 ho7 HCU
      obtain ⟨fs, hfs⟩ : ∃ fs, es.take c = fs := ⟨_, rfl⟩
      rw [hfs] at HH4 HK3
      have HAPh := hid (happend_c HH4.out (HM.out.same HO7.out) (fun k hk => ⟨by have := HO7.out.size; omega, fun e => by rcases HFH.out k e with g | g <;> omega⟩) Hgm.out Hszm.out (by omega))
      clear hfs
      go_wp2_with fail
      refine HAPh.out.mono ?_
      obtain ⟨ck, hck⟩ : ∃ x, hchk (closedL fs) fs.length (lastT 0 fs) m = x := ⟨_, rfl⟩
      have HCK := hid hck
      clear hck
      have hw5 : w5.heap.size ≤ w7.heap.size := by omega
      rintro x w8 hp8
      have hmain : ∃ ad8 n8 cap8 gs Fh2, x = .returned (.tuple #[.slice ad8 n8 cap8, .int .i64 ck]) ∧ HistAt w8 hb Fh2 s5 gs ∧ (∀ k, Fh2 k → Fh k ∨ w7.heap.size ≤ k) ∧ Only Fh w7 w8 ∧ ((ck = 0 ∧ gs = fs ++ numb fs.length m) ∨ (ck ≠ 0 ∧ gs = fs)) := by
        rcases hp8 with ⟨h0, ad8, cap8, xs8, F8, B8, rfl, hh, -, -, hF8, -, ho8⟩ | ⟨h0, rfl, ho8⟩
        · rw [HCK.out] at h0
          exact ⟨ad8, _, cap8, _, F8, by rw [h0], hh, hF8, ho8, .inl ⟨h0, rfl⟩⟩
        · rw [HCK.out] at h0
          exact ⟨none, 0, 0, fs, Fh, by rw [HCK.out], HH4.out.same ho8, fun k hk => .inl hk, ho8.mono (fun _ _ e => e.elim), .inr ⟨h0, rfl⟩⟩
      obtain ⟨ad8, n8, cap8, gs, Fh2, rfl, hh8, hF8, ho8, hgs⟩ := hmain
      have HH5 := hid hh8; have HGS := hid hgs
      have HK4 := hid (HK3.out.only ho8 (fun k hk e => HDI.out k e hk))
      have HO8 := hid (HO7.out.trans ho8 (fun k hk e => by rcases HFH.out k e with g | g <;> omega))
      have hz8 := ho8.size
      have HAPk2 := hid (happend_c HK4.out (HM.out.same HO8.out) (fun k hk => ⟨by have := HO8.out.size; omega, fun e => by rcases HFK.out k e with g | g <;> omega⟩) Hgm.out Hszm.out (by omega))
      have HD2 : Hid (∀ k, Fh2 k → ¬ Fk k) := hid (fun k h1 h2 => by
        rcases hF8 k h1 with g | g
        · exact HDI.out k g h2
        · obtain ⟨_, _, _, _, _, H⟩ := HK3.out
          have := H.lt k h2; omega)
      clear hp8 hh8 hF8 ho8 hgs HAPh
      go_wp2_with fail
      refine HAPk2.out.mono ?_
      rintro x w9 hp9
      have hmain : ∃ ad9 n9 cap9 Fk2, x = .returned (.tuple #[.slice ad9 n9 cap9, .int .i64 ck]) ∧ HistAt w9 kb Fk2 s5 gs ∧ Only Fk w8 w9 := by
        rcases hp9 with ⟨h0, ad8, cap8, xs8, F8, B8, rfl, hh, -, -, hF8, -, ho8⟩ | ⟨h0, rfl, ho8⟩
        · rw [HCK.out] at h0
          rcases HGS.out with ⟨g1, g2⟩ | ⟨g1, g2⟩
          · rw [← g2] at hh
            exact ⟨ad8, _, cap8, F8, by rw [h0], hh, ho8⟩
          · exact absurd h0 g1
        · rw [HCK.out] at h0
          rcases HGS.out with ⟨g1, g2⟩ | ⟨g1, g2⟩
          · exact absurd g1 h0
          · exact ⟨none, 0, 0, Fk, by rw [HCK.out], by rw [g2]; exact HK4.out.same ho8, ho8.mono (fun _ _ e => e.elim)⟩
      obtain ⟨ad9, n9, cap9, Fk2, rfl, hk9, ho9⟩ := hmain
      have HK5 := hid hk9
      have HH6 := hid (HH5.out.only ho9 HD2.out)
      have HO9 := hid (HO8.out.trans ho9 (fun k hk e => by rcases HFK.out k e with g | g <;> omega))
      have HKD : Hid (∀ e ∈ gs, e.v.rg ∧ e.v.kd) := hid (by obtain ⟨_, _, _, _, _, H⟩ := HH5.out; exact hok_kd H.ok)
      have HGN : Hid (gs.length ≤ 1000000) := hid (by obtain ⟨_, _, _, _, _, H⟩ := HH5.out; have := H.n; omega)
      have HAL := hid (hall_c HH6.out)
      clear hp9 hk9 ho9 HAPk2
      go_wp2_with fail
      refine HAL.out.mono ?_
      rintro x w10 ⟨adC, capC, xsC, rfl, houtC, ho10⟩
      have HOC := hid houtC; have HO10 := hid ho10
      have HAL2 := hid (hall_c (HK5.out.same ho10))
      clear houtC ho10 HAL
      go_wp2_with fail
      refine HAL2.out.mono ?_
      rintro x w11 ⟨adD, capD, xsD, rfl, houtD, ho11⟩
      have hsame := same_c (w := w11) (HOC.out.only ho11 (fun _ _ _ e => e)).evs houtD.evs HKD.out HKD.out HGN.out
      rw [samL_self] at hsame
      have HSA := hid hsame
      have HO11 := hid (HO10.out.trans ho11 (fun _ _ e => e))
      clear hsame houtD ho11 HAL2
      go_wp2_with fail
      refine HSA.out.mono ?_
      rintro x w12 ⟨rfl, ho12⟩
      have HO12 := hid (HO11.out.trans ho12 (fun _ _ e => e))
      have HS1 := hid (hsum2_c (HH6.out.same HO12.out))
      have HSL : Hid ((sumS s5 gs).length = 32) := hid (sumS_len s5_len gs)
      have hqs : Hid (∀ W, (binOp .eql 29 (.agg (bytesV (sumS s5 gs)).toArray) (.agg (bytesV (sumS s5 gs)).toArray)).run Try.prog W = .ok (.bool true) W) := hid (fun W => by rw [eql_sum W HSL.out HSL.out]; simp)
      obtain ⟨SL, hSL⟩ : ∃ x, bytesV (sumS s5 gs) = x := ⟨_, rfl⟩
      rw [hSL] at HS1 hqs
      have HSLe := hid hSL
      clear ho12 hSL HSA
      go_wp2_with fail
      refine HS1.out.mono ?_
      rintro x w13 ⟨rfl, ho13⟩
      have HO13 := hid (HO12.out.trans ho13 (fun _ _ e => e))
      have HS2 := hid (hsum2_c (HK5.out.same HO13.out))
      rw [HSLe.out] at HS2
      clear ho13 HS1
      go_wp2_with fail
      refine HS2.out.mono ?_
      rintro x w14 ⟨rfl, ho14⟩
      have HO14 := hid (HO13.out.trans ho14 (fun _ _ e => e))
      have HC1 := hid (hclosed_c (HH6.out.same HO14.out))
      have hqs2 := hqs.out
      obtain ⟨cb, hcb⟩ : ∃ x, closedL gs = x := ⟨_, rfl⟩
      rw [hcb] at HC1
      have HCB := hid hcb
      clear ho14 hcb HS2
      go_wp2_with fail
      refine HC1.out.mono ?_
      rintro x w15 ⟨rfl, ho15⟩
      have HO15 := hid (HO14.out.trans ho15 (fun _ _ e => e))
      have HC2 := hid (hclosed_c (HK5.out.same HO15.out))
      rw [HCB.out] at HC2
      clear ho15 HC1 hqs2
      go_wp2_with fail
      refine HC2.out.mono ?_
      rintro x w16 ⟨rfl, ho16⟩
      have HO16 := hid (HO15.out.trans ho16 (fun _ _ e => e))
      clear ho16 HC2
      go_wp2_with fail
      go_ret
      exact ⟨by simp, HO9.out.trans HO16.out (fun _ _ e => e)⟩
end
end Go.Proofs.Ytnoopajedgllhaa
