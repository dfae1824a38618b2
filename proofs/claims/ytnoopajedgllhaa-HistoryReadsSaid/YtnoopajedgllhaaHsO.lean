/- history.Read. -/
import Derived.Test.YtnoopajedgllhaaHsN
namespace Go.Proofs.Ytnoopajedgllhaa
open Go.RowKit
mutual
theorem walk_sz : ∀ (t : VT) (d p q : Nat), t.cl = t → t.walk d p 0 = (q, 0) → p + t.sz ≤ q
  | .mk k n s l, d, p, q, hc, h => by
    obtain ⟨hp, his⟩ := walk_is h
    rw [VT.sz]
    rw [VT.cl] at hc
    simp only [VT.mk.injEq] at hc
    obtain ⟨-, -, -, hl⟩ := hc
    cases his with
    | nil _ _ _ hq => rw [if_neg (by decide)] at hl; rw [← hl, VT.szL]; omega
    | int _ _ _ hq => rw [if_neg (by decide)] at hl; rw [← hl, VT.szL]; omega
    | text _ _ _ hq => rw [if_neg (by decide)] at hl; rw [← hl, VT.szL]; omega
    | list _ _ _ _ _ hw => rw [if_pos rfl] at hl; have := walkL_sz l _ _ _ hl hw; omega
theorem walkL_sz : ∀ (l : List VT) (d p q : Nat), VT.clL l = l → VT.walkL d p 0 l = (q, 0) → p + VT.szL l ≤ q
  | [], d, p, q, _, h => by
    rw [VT.walkL] at h
    simp only [Prod.mk.injEq] at h
    rw [VT.szL]; omega
  | t :: ts, d, p, q, hc, h => by
    obtain ⟨q1, h1, h2⟩ := walkL_cons h
    rw [VT.clL] at hc
    simp only [List.cons.injEq] at hc
    have h3 := walk_sz t _ _ _ hc.1 h1
    have h4 := walkL_sz ts _ _ _ hc.2 h2
    rw [VT.szL]; omega
end
mutual
theorem walk_top' : ∀ (t : VT) (d p q : Nat), t.walk d p 0 = (q, 0) → q ≤ 256
  | .mk k n s l, d, p, q, h => by
    obtain ⟨hp, his⟩ := walk_is h
    cases his with
    | nil _ _ _ hq => omega
    | int _ _ _ hq => omega
    | text _ _ _ hq => omega
    | list _ _ _ _ _ hw => exact walkL_top l _ _ _ (by omega) hw
theorem walkL_top : ∀ (l : List VT) (d p q : Nat), p ≤ 256 → VT.walkL d p 0 l = (q, 0) → q ≤ 256
  | [], d, p, q, hp, h => by
    rw [VT.walkL] at h
    simp only [Prod.mk.injEq] at h
    omega
  | t :: ts, d, p, q, hp, h => by
    obtain ⟨q1, h1, h2⟩ := walkL_cons h
    exact walkL_top ts _ _ _ (walk_top' t _ _ _ h1) h2
end
theorem walk_top {t : VT} {d p q : Nat} (h : t.walk d p 0 = (q, 0)) : q ≤ 256 := walk_top' t d p q h
theorem ev_bad {r : RdM} (h : r.err ≠ 0) : r.ev.2 = r := by
  have hb := byte_bad h
  have hk : rdKd r = r := by unfold rdKd; rw [hb]; simp only; rw [fail_bad h, ite_self]
  have hh : (rdH r).2 = r := by unfold rdH; simp only; rw [hk, num_bad h]; simp only; rw [num_bad h]
  have hf : (rdFs (evFlds r.byte.1) (rdH r)).2 = r := by
    have h1 : rdH r = ((rdH r).1, r) := Prod.ext rfl hh
    rw [h1]; exact rdFs_bad _ _ h
  unfold RdM.ev evOver evEnd
  simp only
  rw [hf, if_neg h]
theorem ev_err {r : RdM} (h : r.ev.2.err = 0) : r.err = 0 := by
  by_cases g : r.err = 0
  · exact g
  · rw [ev_bad g] at h; exact absurd h g
/-- The events that are read; none: they are no history's. -/
def rdEs : Nat → List EM → RdM → Option (List EM) × RdM
  | 0, es, r => (some es, r)
  | n + 1, es, r => if r.ev.2.err ≠ 0 then (none, r.ev.2) else if hchk (closedL es) es.length (lastT 0 es) [r.ev.1] ≠ 0 then (none, r.ev.2.fail (hchk (closedL es) es.length (lastT 0 es) [r.ev.1])) else rdEs n (es ++ numb es.length [r.ev.1]) r.ev.2
/-- What follows the events: the last sum. -/
def rdEnd (s : List UInt8) (es : List EM) (r : RdM) : RdM := if r.sum.2.err = 0 ∧ r.sum.1 ≠ sumS s es then r.sum.2.fail 80 else r.sum.2
/-- history.Read. -/
def rdHist (r : RdM) : Option (List UInt8 × List EM) × RdM :=
  match rdEs (r.sum.2.num 4096).1 [] (r.sum.2.num 4096).2 with
  | (none, r') => (none, r')
  | (some es, r') => if (rdEnd r.sum.1 es r').err ≠ 0 then (none, rdEnd r.sum.1 es r') else (some (r.sum.1, es), rdEnd r.sum.1 es r')
/-- What Read leaves. -/
def HRead (w : World) (b g : Nat) (x : Option (List UInt8 × List EM) × RdM) (e : Ending) (w' : World) : Prop :=
  Rd w' b g x.2 ∧ Only (fun k => k = b) w w' ∧ ((x.1 = none ∧ e = .returned (.pointer none)) ∨ ∃ s es hb F, x.1 = some (s, es) ∧ e = .returned (.pointer (some ⟨hb, 0, none⟩)) ∧ HistAt w' hb F s es ∧ ∀ k, F k → w.heap.size ≤ k)
section
variable {w : World} {b g : Nat} {r : RdM}
theorem HRead.no {x : Option (List UInt8 × List EM) × RdM} {w' : World} (h1 : Rd w' b g x.2) (h2 : Only (fun k => k = b) w w') (h3 : x.1 = none) : HRead w b g x (.returned (.pointer none)) w' := ⟨h1, h2, .inl ⟨h3, rfl⟩⟩
set_option maxRecDepth 100000 in
set_option maxHeartbeats 12800000 in
theorem hread_c (h : Rd w b g r) : Calls Try.prog 40 #[.pointer (some ⟨b, 0, none⟩)] w (HRead w b g (rdHist r)) := by
  have hbl : b < w.heap.size ∧ g < w.heap.size := h.lt
  have HSU := hid (rsum_c h)
  have HHD : Hid (rdHist r = match rdEs (r.sum.2.num 4096).1 [] (r.sum.2.num 4096).2 with
    | (none, r') => (none, r')
    | (some es, r') => if (rdEnd r.sum.1 es r').err ≠ 0 then (none, rdEnd r.sum.1 es r') else (some (r.sum.1, es), rdEnd r.sum.1 es r')) := hid rfl
  obtain ⟨RH, hRH⟩ : ∃ x, rdHist r = x := ⟨_, rfl⟩
  rw [hRH] at HHD ⊢
  have hs32 := sum_len32 r
  obtain ⟨⟨s, r1⟩, hsr⟩ : ∃ x, r.sum = x := ⟨_, rfl⟩
  rw [hsr] at HSU HHD hs32
  try simp only at hs32
  have HEG : Hid (Try.prog.eqGuardType Try.prog.depth 29 = false) := hid (by kernel_rfl)
  have HNW := hid (fun W => hnew_c (w := W) hs32)
  have HS32 := hid hs32
  obtain ⟨SL, hSL⟩ : ∃ x, bytesV s = x := ⟨_, rfl⟩
  have HSL := hid hSL
  try simp only at HSU
  try simp only at HHD
  rw [hSL] at HSU HNW
  obtain ⟨⟨n, r2⟩, hnr⟩ : ∃ x, r1.num 4096 = x := ⟨_, rfl⟩
  have hn4 : n ≤ 4096 := by have := num_le (r := r1) (most := 4096); rw [hnr] at this; exact this
  rw [hnr] at HHD
  try simp only at HHD
  have HNR := hid hnr
  clear h hRH hsr hs32 hSL hnr
  go_enter Try.func40, Try.ntmps40
  go_wp2_with fail
  refine HSU.out.mono ?_
  rintro x w1 ⟨rfl, hr1, ho1⟩
  have HR1 := hid hr1; have HO1 := hid ho1
  have hz1 := ho1.size
  clear hr1 ho1 HSU
  go_wp2_with fail
  refine (HNW.out w1).mono ?_
  rintro x w2 ⟨hb, rfl, hh, hsz2, ho2⟩
  have HR2 := hid (HR1.out.same ho2)
  have HNU := hid (rnum_c HR2.out 4096 (by decide))
  rw [HNR.out] at HNU
  have HH0 := hid hh
  have HO2 := hid (HO1.out.trans ho2 (fun _ _ e => e.elim))
  have hhb : hb < w2.heap.size := by obtain ⟨_, _, _, _, _, H⟩ := hh; exact H.lt hb H.fb
  clear hh ho2 HNW
  go_wp2_with fail
  refine HNU.out.mono ?_
  rintro x w3 ⟨rfl, hr3, ho3⟩
  try simp only at hr3
  have HH1 := hid (HH0.out.only ho3 (fun k hk e => by have e1 : k = hb := hk; have e2 : k = b := e; omega))
  have HR3 := hid hr3
  have HO3 := hid (HO2.out.trans ho3 (fun _ _ e => e))
  have hz3 := ho3.size
  clear hr3 ho3 HNU
  go_wp2_with fail
  go_loopw [13] (fun i wr => ∃ (j : Nat) (es : List EM) (rj : RdM) (Fj : Nat → Prop), i = .int .u64 j ∧ j ≤ n ∧ HistAt wr hb Fj s es ∧ Rd wr b g rj ∧ rdEs n [] r2 = rdEs (n - j) es rj ∧ (∀ k, Fj k → w.heap.size ≤ k) ∧ Only (fun k => k = b) w wr) (fun i _ => n - (intOf i).toNat)
  case atStart => exact ⟨0, [], r2, (fun k => k = hb), rfl, Nat.zero_le _, HH1.out, HR3.out, rfl, fun k hk => by have e1 : k = hb := hk; omega, HO3.out⟩
  case round =>
    obtain ⟨j, es, rj, Fj, rfl, hj, hh, hrj, hse, hFj, ho⟩ := hrel
    obtain ⟨wy, hwy⟩ : ∃ x, x = wr := ⟨wr, rfl⟩
    subst hwy
    have HH := hid hh; have HRJ := hid hrj; have HSE := hid hse; have HFJ := hid hFj; have HO := hid ho
    have hzy := ho.size
    have hFlt : ∀ k, Fj k → k < wy.heap.size := by obtain ⟨_, _, _, _, _, H⟩ := hh; exact H.lt
    have HFL := hid hFlt
    have hes4 : es.length ≤ 4096 := by obtain ⟨_, _, _, _, _, H⟩ := hh; exact H.n
    clear hh hrj hse hFj ho hFlt
    by_cases hjl : j < n
    · have hji : (j : Int) < n := by omega
      have HSE2 : Hid (rdEs n [] r2 = if rj.ev.2.err ≠ 0 then (none, rj.ev.2) else if hchk (closedL es) es.length (lastT 0 es) [rj.ev.1] ≠ 0 then (none, rj.ev.2.fail (hchk (closedL es) es.length (lastT 0 es) [rj.ev.1])) else rdEs (n - (j + 1)) (es ++ numb es.length [rj.ev.1]) rj.ev.2) := hid (by rw [HSE.out, show n - j = (n - (j + 1)) + 1 from by omega, rdEs])
      have HER := hid (eread_c HRJ.out)
      have HEI : Hid (rj.ev.2.err = 0 → rj.ev.1.Good ∧ rj.ev.1.rg ∧ rj.ev.1.v.sz ≤ 1000000) := hid (fun h0 => by
        obtain ⟨e, post, h1, -, h2, h3, h4⟩ := ev_inv (ev_err h0) h0
        rw [h1]
        refine ⟨h2, h3, ?_⟩
        obtain ⟨q, hw, -⟩ := chk_walk h2.v
        have h5 := walk_sz e.v 0 0 q (congrArg EM.v h4) hw
        have h6 := walk_top hw
        show e.v.sz ≤ 1000000
        omega)
      obtain ⟨⟨e, r5⟩, hev⟩ : ∃ x, rj.ev = x := ⟨_, rfl⟩
      rw [hev] at HSE2 HER HEI
      try simp only at HSE2
      try simp only at HEI
      clear hev
      go_wp2_with fail
      refine HER.out.mono ?_
      rintro x w5 ⟨cs, rfl, hE, hr5, ho5⟩
      try simp only at hE
      try simp only at hr5
      have HE := hid hE; have HR5 := hid hr5; have HO5 := hid ho5
      obtain ⟨vk, vn, vs, va, vm, vc, rfl, hV⟩ := hE.form
      have hz5 := ho5.size
      have HER5 := hid (rerr_c (hr5.same (only_new w5 (.cells #[.int .i64 e.id, .int .i64 e.tm, .int .i64 e.k, .int .i64 e.a, .int .i64 e.b, .string (strOf e.name), .string (strOf e.text), .int .i64 vk, .int .i64 vn, .string (strOf vs), .slice va vm vc] 44))))
      have HBX := hid (blk_new w5 (.cells #[.int .i64 e.id, .int .i64 e.tm, .int .i64 e.k, .int .i64 e.a, .int .i64 e.b, .string (strOf e.name), .string (strOf e.text), .int .i64 vk, .int .i64 vn, .string (strOf vs), .slice va vm vc] 44))
      have HOX := hid (only_new w5 (.cells #[.int .i64 e.id, .int .i64 e.tm, .int .i64 e.k, .int .i64 e.a, .int .i64 e.b, .string (strOf e.name), .string (strOf e.text), .int .i64 vk, .int .i64 vn, .string (strOf vs), .slice va vm vc] 44))
      obtain ⟨er, her⟩ : ∃ x, r5.err = x := ⟨_, rfl⟩
      rw [her] at HER5
      have HERR := hid her
      clear hE hr5 ho5 hV HER her
      go_wp2_with fail
      refine HER5.out.mono ?_
      rintro x w5' ⟨rfl, rfl⟩
      by_cases he0 : er = 0
      · subst he0
        obtain ⟨hgd, hrg, hsz⟩ := HEI.out HERR.out
        have HSE3 : Hid (rdEs n [] r2 = if hchk (closedL es) es.length (lastT 0 es) [e] ≠ 0 then (none, r5.fail (hchk (closedL es) es.length (lastT 0 es) [e])) else rdEs (n - (j + 1)) (es ++ numb es.length [e]) r5) := hid (by rw [HSE2.out, if_neg (by rw [HERR.out]; simp)])
        have HAP := hid (happend_c (w := (w5.alloc (.cells #[.int .i64 e.id, .int .i64 e.tm, .int .i64 e.k, .int .i64 e.a, .int .i64 e.b, .string (strOf e.name), .string (strOf e.text), .int .i64 vk, .int .i64 vn, .string (strOf vs), .slice va vm vc] 44)).alloc (.cells #[.int .i64 e.id, .int .i64 e.tm, .int .i64 e.k, .int .i64 e.a, .int .i64 e.b, .string (strOf e.name), .string (strOf e.text), .int .i64 vk, .int .i64 vn, .string (strOf vs), .slice va vm vc] 44)) (l := [e]) ((HH.out.only HO5.out (fun k hk e => by have e1 : k = b := e; have := HFJ.out k hk; omega)).same (HOX.out.trans (only_new _ _) (fun _ _ e => e)))
          (EvsV.one (G := New wy w5) (cs := [.int .i64 e.id, .int .i64 e.tm, .int .i64 e.k, .int .i64 e.a, .int .i64 e.b, .string (strOf e.name), .string (strOf e.text), .int .i64 vk, .int .i64 vn, .string (strOf vs), .slice va vm vc]) (blk_new _ _) (HE.out.same (HOX.out.trans (only_new _ _) (fun _ _ e => e))))
          (fun k hk => by
            rcases hk with hk | hk
            · refine ⟨by rw [hk]; simp, fun h => ?_⟩
              have := HFL.out k h; rw [hk] at this; simp at this; omega
            · refine ⟨by have := hk.2; simp; omega, fun h => ?_⟩
              have := HFL.out k h; have := hk.1; omega)
          (fun x hx => by rw [List.mem_singleton.1 hx]; exact hrg) (fun x hx => by rw [List.mem_singleton.1 hx]; exact hsz) (by simp))
        rw [World.size_alloc] at HAP
        obtain ⟨ck, hck⟩ : ∃ x, hchk (closedL es) es.length (lastT 0 es) [e] = x := ⟨_, rfl⟩
        rw [hck] at HSE3
        have HCK := hid hck
        clear hgd hrg hsz hck
        go_wp2_with ((guard_target =~ wpList _ _ _ (⟨some 22, _, _, _, _, _⟩ :: _) _ _); refine wpList_load_row rfl 44 (.tmp 4) rfl w5.heap.size rfl 44 #[.int .i64 e.id, .int .i64 e.tm, .int .i64 e.k, .int .i64 e.a, .int .i64 e.b, .string (strOf e.name), .string (strOf e.text), .int .i64 vk, .int .i64 vn, .string (strOf vs), .slice va vm vc] (0, 0) _ HBX.out Try.underlying44 rfl info_ev ?_)
        refine HAP.out.mono ?_
        rintro x w6 (⟨h0, adA, capA, xsA, F', B, rfl, hh6, -, -, hF', -, ho6⟩ | ⟨hne, rfl, ho6⟩)
        · rw [HCK.out] at h0
          subst h0
          have HR6 := hid ((HR5.out.same (HOX.out.trans (only_new _ (.cells #[.int .i64 e.id, .int .i64 e.tm, .int .i64 e.k, .int .i64 e.a, .int .i64 e.b, .string (strOf e.name), .string (strOf e.text), .int .i64 vk, .int .i64 vn, .string (strOf vs), .slice va vm vc] 44)) (fun _ _ e => e))).only ho6 (fun h => by have := HFJ.out b h; omega) (fun h => by have := HFJ.out g h; omega))
          have HH6 := hid hh6; have HO6 := hid ho6; have HF6 := hid hF'
          clear hh6 ho6 hF' HAP
          go_wp2_with fail
          go_roundw
          case rel =>
            refine ⟨j + 1, es ++ numb es.length [e], r5, F', by go_num, by omega, HH6.out, HR6.out, by rw [HSE3.out, if_neg (by simp)], fun k hk => ?_, ?_⟩
            · rcases HF6.out k hk with h | h
              · exact HFJ.out k h
              · simp at h; omega
            · refine ((HO.out.trans HO5.out (fun _ _ e => e)).trans (HOX.out.trans (only_new _ (.cells #[.int .i64 e.id, .int .i64 e.tm, .int .i64 e.k, .int .i64 e.a, .int .i64 e.b, .string (strOf e.name), .string (strOf e.text), .int .i64 vk, .int .i64 vn, .string (strOf vs), .slice va vm vc] 44)) (fun _ _ e => e)) (fun _ _ e => e.elim)).trans HO6.out (fun k hk e => ?_)
              have := HFJ.out k e; omega
          case measure => simp [intOf]; omega
        · rw [HCK.out] at hne ⊢
          have hnb : (ck != 0) = true := by simpa using hne
          have HR6 := hid (HR5.out.same ((HOX.out.trans (only_new _ (.cells #[.int .i64 e.id, .int .i64 e.tm, .int .i64 e.k, .int .i64 e.a, .int .i64 e.b, .string (strOf e.name), .string (strOf e.text), .int .i64 vk, .int .i64 vn, .string (strOf vs), .slice va vm vc] 44)) (fun _ _ e => e)).trans ho6 (fun _ _ e => e)))
          have HFA := hid (rfail_c HR6.out ck)
          have HO6 := hid (((HO.out.trans HO5.out (fun _ _ e => e)).trans (HOX.out.trans (only_new _ (.cells #[.int .i64 e.id, .int .i64 e.tm, .int .i64 e.k, .int .i64 e.a, .int .i64 e.b, .string (strOf e.name), .string (strOf e.text), .int .i64 vk, .int .i64 vn, .string (strOf vs), .slice va vm vc] 44)) (fun _ _ e => e)) (fun _ _ e => e.elim)).trans ho6 (fun _ _ e => e.elim))
          have HRF : Hid (RH = (none, r5.fail ck)) := hid (by rw [HHD.out, HSE3.out, if_pos hne])
          clear hne ho6 HAP
          go_wp2_with fail
          refine HFA.out.mono ?_
          rintro x w7 ⟨rfl, hr7, ho7⟩
          have HR7 := hid hr7; have HO7 := hid ho7
          clear hr7 ho7
          go_wp2_with fail
          go_ret
          rw [HRF.out]
          exact HRead.no HR7.out (HO6.out.trans HO7.out (fun _ _ e => e)) rfl
      · have hnb : (er != 0) = true := by simpa using he0
        have HRF : Hid (RH = (none, r5)) := hid (by rw [HHD.out, HSE2.out, if_pos (by rw [HERR.out]; exact he0)])
        clear he0
        go_wp2_with fail
        go_ret
        rw [HRF.out]
        exact HRead.no (HR5.out.same HOX.out) ((HO.out.trans HO5.out (fun _ _ e => e)).trans HOX.out (fun _ _ e => e.elim)) rfl
    · obtain rfl : j = n := by omega
      have hjl2 : ¬ (j : Int) < j := by omega
      have HSE2 : Hid (rdEs j [] r2 = (some es, rj)) := hid (by rw [HSE.out, Nat.sub_self, rdEs])
      have HHD2 : Hid (RH = if (rdEnd s es rj).err ≠ 0 then (none, rdEnd s es rj) else (some (s, es), rdEnd s es rj)) := hid (by rw [HHD.out, HSE2.out])
      have HSU := hid (rsum_c HRJ.out)
      have HEN : Hid (rdEnd s es rj = if rj.sum.2.err = 0 ∧ rj.sum.1 ≠ sumS s es then rj.sum.2.fail 80 else rj.sum.2) := hid rfl
      have ht32 := sum_len32 rj
      obtain ⟨⟨t, r8⟩, htr⟩ : ∃ x, rj.sum = x := ⟨_, rfl⟩
      rw [htr] at HSU HEN ht32
      try simp only at HSU
      try simp only at HEN
      try simp only at ht32
      have HT32 := hid ht32
      obtain ⟨TL, hTL⟩ : ∃ x, bytesV t = x := ⟨_, rfl⟩
      rw [hTL] at HSU
      have HTL := hid hTL
      have HTi : Hid ((Try.prog.info? 29).map (·.size) = some TL.toArray.size) := hid (by rw [info32, ← hTL]; simp [ht32])
      have HT1 : Hid (TL.toArray.all (·.oneCell') = true) := hid (by rw [← hTL]; exact bytesV_one' _)
      have HTz : Hid (TL.toArray.size = (byA st0 0).size) := hid (by rw [← hTL]; simp [ht32]; rfl)
      clear htr hTL ht32 HSE
      go_wp2_with fail
      refine HSU.out.mono ?_
      rintro x w5 ⟨rfl, hr5, ho5⟩
      have HR5 := hid hr5; have HO5 := hid ho5
      have hz5 := ho5.size
      have HBZ := hid (blk_new w5 (.cells (byA st0 0) 29))
      clear hr5 ho5 HSU
      go_wp2_with ((guard_target =~ wpList _ _ _ (⟨none, .store 29 (.tmp 7) _, _, _, _, _⟩ :: _) _ _); refine wpList_store_all rfl 29 (.tmp 7) (.tmp 34) rfl w5.heap.size TL.toArray rfl rfl (byA st0 0) 29 HBZ.out HTz.out HTi.out HT1.out ?_; intro w6 hb6 ho6 hs6; have HB6 := hid hb6; have HO6 := hid ho6; have HS6 := hid hs6; clear hb6 ho6 hs6)
      have ho6 : Only (fun k => k = b) w w6 := ((HO.out.trans HO5.out (fun _ _ e => e)).trans (only_new w5 (.cells (byA st0 0) 29)) (fun _ _ e => e.elim)).trans HO6.out (fun k hk e => by have e1 : k = w5.heap.size := e; omega)
      have hr6 : Rd w6 b g r8 := (HR5.out.same (only_new w5 (.cells (byA st0 0) 29))).only HO6.out (fun e => by have e1 : b = w5.heap.size := e; omega) (fun e => by have e1 : g = w5.heap.size := e; omega)
      have hh6 : HistAt w6 hb Fj s es := ((HH.out.only HO5.out (fun k hk e => by have e1 : k = b := e; have := HFJ.out k hk; omega)).same (only_new w5 (.cells (byA st0 0) 29))).only HO6.out (fun k hk e => by have e1 : k = w5.heap.size := e; have := HFL.out k hk; omega)
      have HR6 := hid hr6; have HH6 := hid hh6; have HOW6 := hid ho6
      have HERc : Hid (∀ W, Only (fun _ => False) w6 W → Calls Try.prog 41 #[.pointer (some ⟨b, 0, none⟩)] W fun x w' => x = .returned (.int .i64 r8.err) ∧ Only (fun _ => False) W w') := hid fun W hW => (rerr_c (hr6.same hW)).mono fun x w' ⟨h1, h2⟩ => ⟨h1, by rw [h2]; exact Only.refl _ _⟩
      have HSUc : Hid (∀ W, Only (fun _ => False) w6 W → Calls Try.prog 19 #[.pointer (some ⟨hb, 0, none⟩)] W fun x w' => x = .returned (.agg (bytesV (sumS s es)).toArray) ∧ Only (fun _ => False) W w') := hid fun W hW => hsum2_c (hh6.same hW)
      have HQ : Hid (∀ W : World, (binOp .neq 29 (.agg TL.toArray) (.agg (bytesV (sumS s es)).toArray)).run Try.prog W = .ok (.bool (!decide (t = sumS s es))) W) := hid fun W => by rw [← HTL.out]; exact neq_sum W HT32.out (sumS_len HS32.out es)
      obtain ⟨UL, hUL⟩ : ∃ x, bytesV (sumS s es) = x := ⟨_, rfl⟩
      rw [hUL] at HSUc HQ
      obtain ⟨er, her⟩ : ∃ x, r8.err = x := ⟨_, rfl⟩
      rw [her] at HERc HEN
      have HERR := hid her
      clear ho6 hr6 hh6 hUL her
      by_cases he0 : er = 0
      · subst he0
        obtain ⟨q, hq⟩ : ∃ q, (!decide (t = sumS s es)) = q := ⟨_, rfl⟩
        rw [hq] at HQ
        have HQD := hid hq
        clear hq
        refine region_pg 9 [] (by kernel_rfl) (by kernel_rfl) (by kernel_rfl) [(35, fun _ v => v = .pointer (some ⟨b, 0, none⟩)), (36, fun _ v => v = .int .i64 0), (37, fun _ v => v = .bool true), (38, fun _ v => v = .bool true), (39, fun _ v => v = .agg TL.toArray), (40, fun _ v => v = .pointer (some ⟨hb, 0, none⟩)), (41, fun _ v => v = .agg UL.toArray), (42, fun _ v => v = .bool q), (43, fun _ v => v = .bool q)] (fun _ W => Only (fun _ => False) w6 W) (by show [35, 36, 37, 38, 39, 40, 41, 42, 43].Nodup; decide) (by show ∀ d ∈ [35, 36, 37, 38, 39, 40, 41, 42, 43], d < 50; decide) ((Only.refl _ _).drew) (.inl rfl) ?_ ?_ ?_
        · exact trivial
        · have hstab : PtStabs (Only (fun _ => False)) [(35, fun _ v => v = .pointer (some ⟨b, 0, none⟩)), (36, fun _ v => v = .int .i64 0), (37, fun _ v => v = .bool true), (38, fun _ v => v = .bool true), (39, fun _ v => v = .agg TL.toArray), (40, fun _ v => v = .pointer (some ⟨hb, 0, none⟩)), (41, fun _ v => v = .agg UL.toArray), (42, fun _ v => v = .bool q), (43, fun _ v => v = .bool q)] := ⟨fun _ _ _ _ h => h, fun _ _ _ _ h => h, fun _ _ _ _ h => h, fun _ _ _ _ h => h, fun _ _ _ _ h => h, fun _ _ _ _ h => h, fun _ _ _ _ h => h, fun _ _ _ _ h => h, fun _ _ _ _ h => h, trivial⟩
          refine PgAllS.cons rfl rfl (.inl ⟨rfl, rfl⟩) ?_ (PgAllS.cons rfl rfl (.inl ⟨rfl, rfl⟩) ?_ (PgAllS.cons rfl rfl (.inl ⟨rfl, rfl⟩) ?_ (PgAllS.cons rfl rfl (.inl ⟨rfl, rfl⟩) ?_ (PgAllS.cons rfl rfl (.inr ⟨_, _, _, _, _, rfl, rfl, rfl, rfl, by kernel_rfl⟩) ?_ (PgAllS.cons rfl rfl (.inr ⟨_, _, _, _, _, rfl, rfl, rfl, rfl, by kernel_rfl⟩) ?_ (PgAllS.cons rfl rfl (.inr ⟨_, _, _, _, _, rfl, rfl, rfl, rfl, by kernel_rfl⟩) ?_ (PgAllS.cons rfl rfl (.inr ⟨_, _, _, _, _, rfl, rfl, rfl, rfl, by kernel_rfl⟩) ?_ (PgAllS.cons rfl rfl (.inl ⟨rfl, rfl⟩) ?_ (PgAllS.nil rfl)))))))))
          · intro L a W K hI hn hd hK
            have e0 : a.eval (.tmp 0) = .pointer (some ⟨b, 0, none⟩) := hI.ev 0 (by show ¬ (0 ∈ [35, 36, 37, 38, 39, 40, 41, 42, 43]); decide) rfl
            exact pt_move _ (by first | exact .inl rfl | exact .inr rfl) _ e0 (hK _ _ hI.j PtKeep.refl rfl)
          · intro L a W K hI hn hd hK
            have e35 : a.eval (.tmp 35) = .pointer (some ⟨b, 0, none⟩) := hI.fact 0 35 _ rfl (dep_of hd 0 (by kernel_rfl))
            refine wp_callc (f := 41) (args := #[a.eval (.tmp 35)]) (by kernel_rfl) ?_
            rw [e35]
            refine (HERc.out _ hI.j).mono ?_
            rintro x W' ⟨rfl, ho⟩
            exact ⟨_, rfl, hK _ _ (hI.j.trans ho (fun _ _ e => e.elim)) (hstab.keep ho) rfl⟩
          · intro L a W K hI hn hd hK
            have e36 : a.eval (.tmp 36) = .int .i64 0 := hI.fact 1 36 _ rfl (dep_of hd 1 (by kernel_rfl))
            exact pt_val (v := .bool true) (by unfold execOp; simp only [e36]; kernel_rfl) (hK _ _ hI.j PtKeep.refl rfl)
          · intro L a W K hI hn hd hK
            have e37 : a.eval (.tmp 37) = .bool true := hI.fact 2 37 _ rfl (dep_of hd 2 (by kernel_rfl))
            exact pt_move _ (by first | exact .inl rfl | exact .inr rfl) _ e37 (hK _ _ hI.j PtKeep.refl rfl)
          · intro L a W K hI hn hd hK
            have e7 : a.eval (.tmp 7) = .pointer (some ⟨w5.heap.size, 0, none⟩) := hI.ev 7 (by show ¬ (7 ∈ [35, 36, 37, 38, 39, 40, 41, 42, 43]); decide) rfl
            exact wp_load_row _ (.tmp 7) rfl (w5.heap.size) e7 29 (TL.toArray) (0, 0) _ (blk_only HB6.out hI.j (fun e => e)) Try.underlying29 rfl (HTi.out) (hK _ _ hI.j PtKeep.refl rfl)
          · intro L a W K hI hn hd hK
            have e3 : a.eval (.tmp 3) = .pointer (some ⟨hb, 0, none⟩) := hI.ev 3 (by show ¬ (3 ∈ [35, 36, 37, 38, 39, 40, 41, 42, 43]); decide) rfl
            exact pt_move _ (by first | exact .inl rfl | exact .inr rfl) _ e3 (hK _ _ hI.j PtKeep.refl rfl)
          · intro L a W K hI hn hd hK
            have e40 : a.eval (.tmp 40) = .pointer (some ⟨hb, 0, none⟩) := hI.fact 5 40 _ rfl (dep_of hd 5 (by kernel_rfl))
            refine wp_callc (f := 19) (args := #[a.eval (.tmp 40)]) (by kernel_rfl) ?_
            rw [e40]
            refine (HSUc.out _ hI.j).mono ?_
            rintro x W' ⟨rfl, ho⟩
            exact ⟨_, rfl, hK _ _ (hI.j.trans ho (fun _ _ e => e.elim)) (hstab.keep ho) rfl⟩
          · intro L a W K hI hn hd hK
            have e39 : a.eval (.tmp 39) = .agg TL.toArray := hI.fact 4 39 _ rfl (dep_of hd 4 (by kernel_rfl))
            have e41 : a.eval (.tmp 41) = .agg UL.toArray := hI.fact 6 41 _ rfl (dep_of hd 6 (by kernel_rfl))
            exact pt_val (v := .bool q) (by unfold execOp; simp only [e39, e41, Sem.run_bind, run_eqGuard_agg _ _ _ _ _ _ _ HEG.out, HQ.out, Result.andThen_ok, Sem.run_pure]) (hK _ _ hI.j PtKeep.refl rfl)
          · intro L a W K hI hn hd hK
            have e38 : a.eval (.tmp 38) = .bool true := hI.fact 3 38 _ rfl (dep_of hd 3 (by kernel_rfl))
            have e42 : a.eval (.tmp 42) = .bool q := hI.fact 7 42 _ rfl (dep_of hd 7 (by kernel_rfl))
            exact pt_val (v := .bool q) (by unfold execOp; simp only [e38, e42]; kernel_rfl) (hK _ _ hI.j PtKeep.refl rfl)
        · intro L a W7 hal hj hfs
          dsimp only [PtAll] at hfs
          obtain ⟨f35, f36, f37, f38, f39, f40, f41, f42, f43, -⟩ := hfs
          have hA := hal.turned
          simp only [List.map_cons, List.map_nil, Act.turned, f35, f36, f37, f38, f39, f40, f41, f42, f43] at hA
          simp only [Act.put, List.setIfInBounds_toArray, List.set_cons_zero, List.set_cons_succ] at hA
          clear hal f35 f36 f37 f38 f39 f40 f41 f42 f43
          subst hA
          change wpList _ _ _ [] _ _
          have HJ := hid hj
          clear hj
          refine wpList_nil ?_
          try refine NoPanic.normal ?_
          cases q with
          | true =>
            have HEN2 : Hid (rdEnd s es rj = r8.fail 80) := hid (by rw [HEN.out, if_pos ⟨rfl, by have := HQD.out; simpa using this⟩])
            have HRF : Hid (RH = (none, r8.fail 80)) := hid (by rw [HHD2.out, HEN2.out, if_pos (fail_ne (by decide))])
            have HFA := hid (rfail_c (HR6.out.same HJ.out) 80)
            have hfe : (r8.fail 80).err = 80 := by rw [fail_err, if_pos HERR.out]
            go_wp2_with fail
            refine HFA.out.mono ?_
            rintro x w8 ⟨rfl, hr8, ho8⟩
            have HE8 := hid (rerr_c hr8)
            rw [hfe] at HE8
            have HR8 := hid hr8; have HO8 := hid ho8
            clear hr8 ho8 hfe
            go_wp2_with fail
            refine HE8.out.mono ?_
            rintro x w8' ⟨rfl, rfl⟩
            go_wp2_with fail
            go_ret
            rw [HRF.out]
            exact HRead.no HR8.out ((HOW6.out.trans HJ.out (fun _ _ e => e.elim)).trans HO8.out (fun _ _ e => e)) rfl
          | false =>
            have HEN2 : Hid (rdEnd s es rj = r8) := hid (by rw [HEN.out, if_neg (by rintro ⟨-, h⟩; have h2 := HQD.out; simp at h2; exact h h2)])
            have HRF : Hid (RH = (some (s, es), r8)) := hid (by rw [HHD2.out, HEN2.out, if_neg (by rw [HERR.out]; simp)])
            have HE8 := hid (HERc.out _ HJ.out)
            go_wp2_with fail
            refine HE8.out.mono ?_
            rintro x w8 ⟨rfl, ho8⟩
            have HO8 := hid ho8
            clear ho8
            go_wp2_with fail
            go_ret
            rw [HRF.out]
            exact ⟨(HR6.out.same HJ.out).same HO8.out, (HOW6.out.trans HJ.out (fun _ _ e => e.elim)).trans HO8.out (fun _ _ e => e.elim), .inr ⟨s, es, hb, Fj, rfl, rfl, (HH6.out.same HJ.out).same HO8.out, HFJ.out⟩⟩
      · have hnb : (er == 0) = false := by simpa using he0
        have hnb2 : (er != 0) = true := by simpa using he0
        have HEN2 : Hid (rdEnd s es rj = r8) := hid (by rw [HEN.out, if_neg (by rintro ⟨h, -⟩; exact he0 h)])
        have HRF : Hid (RH = (none, r8)) := hid (by rw [HHD2.out, HEN2.out, if_pos (by rw [HERR.out]; exact he0)])
        have HNB := hid hnb
        clear he0 hnb
        refine region_pg 9 [] (by kernel_rfl) (by kernel_rfl) (by kernel_rfl) [(35, fun _ v => v = .pointer (some ⟨b, 0, none⟩)), (36, fun _ v => v = .int .i64 er), (37, fun _ v => v = .bool false), (38, fun _ v => v = .bool false), (39, fun _ v => v = undef), (40, fun _ v => v = undef), (41, fun _ v => v = undef), (42, fun _ v => v = undef), (43, fun _ v => v = .bool false)] (fun _ W => Only (fun _ => False) w6 W) (by show [35, 36, 37, 38, 39, 40, 41, 42, 43].Nodup; decide) (by show ∀ d ∈ [35, 36, 37, 38, 39, 40, 41, 42, 43], d < 50; decide) ((Only.refl _ _).drew) (.inl rfl) ?_ ?_ ?_
        · exact trivial
        · have hstab : PtStabs (Only (fun _ => False)) [(35, fun _ v => v = .pointer (some ⟨b, 0, none⟩)), (36, fun _ v => v = .int .i64 er), (37, fun _ v => v = .bool false), (38, fun _ v => v = .bool false), (39, fun _ v => v = undef), (40, fun _ v => v = undef), (41, fun _ v => v = undef), (42, fun _ v => v = undef), (43, fun _ v => v = .bool false)] := ⟨fun _ _ _ _ h => h, fun _ _ _ _ h => h, fun _ _ _ _ h => h, fun _ _ _ _ h => h, fun _ _ _ _ h => h, fun _ _ _ _ h => h, fun _ _ _ _ h => h, fun _ _ _ _ h => h, fun _ _ _ _ h => h, trivial⟩
          refine PgAllS.cons rfl rfl (.inl ⟨rfl, rfl⟩) ?_ (PgAllS.cons rfl rfl (.inl ⟨rfl, rfl⟩) ?_ (PgAllS.cons rfl rfl (.inl ⟨rfl, rfl⟩) ?_ (PgAllS.cons rfl rfl (.inl ⟨rfl, rfl⟩) ?_ (PgAllS.skip rfl rfl (.inr ⟨_, _, _, _, _, rfl, rfl, rfl, rfl, by kernel_rfl⟩) (fun _ => rfl) (fun _ _ h => h) (PgAllS.skip rfl rfl (.inr ⟨_, _, _, _, _, rfl, rfl, rfl, rfl, by kernel_rfl⟩) (fun _ => rfl) (fun _ _ h => h) (PgAllS.skip rfl rfl (.inr ⟨_, _, _, _, _, rfl, rfl, rfl, rfl, by kernel_rfl⟩) (fun _ => rfl) (fun _ _ h => h) (PgAllS.skip rfl rfl (.inr ⟨_, _, _, _, _, rfl, rfl, rfl, rfl, by kernel_rfl⟩) (fun _ => rfl) (fun _ _ h => h) (PgAllS.cons rfl rfl (.inl ⟨rfl, rfl⟩) ?_ (PgAllS.nil rfl)))))))))
          · intro L a W K hI hn hd hK
            have e0 : a.eval (.tmp 0) = .pointer (some ⟨b, 0, none⟩) := hI.ev 0 (by show ¬ (0 ∈ [35, 36, 37, 38, 39, 40, 41, 42, 43]); decide) rfl
            exact pt_move _ (by first | exact .inl rfl | exact .inr rfl) _ e0 (hK _ _ hI.j PtKeep.refl rfl)
          · intro L a W K hI hn hd hK
            have e35 : a.eval (.tmp 35) = .pointer (some ⟨b, 0, none⟩) := hI.fact 0 35 _ rfl (dep_of hd 0 (by kernel_rfl))
            refine wp_callc (f := 41) (args := #[a.eval (.tmp 35)]) (by kernel_rfl) ?_
            rw [e35]
            refine (HERc.out _ hI.j).mono ?_
            rintro x W' ⟨rfl, ho⟩
            exact ⟨_, rfl, hK _ _ (hI.j.trans ho (fun _ _ e => e.elim)) (hstab.keep ho) rfl⟩
          · intro L a W K hI hn hd hK
            have e36 : a.eval (.tmp 36) = .int .i64 er := hI.fact 1 36 _ rfl (dep_of hd 1 (by kernel_rfl))
            exact pt_val (v := .bool false) (by have hnb := HNB.out; unfold execOp; simp only [e36]; go_simp) (hK _ _ hI.j PtKeep.refl rfl)
          · intro L a W K hI hn hd hK
            have e37 : a.eval (.tmp 37) = .bool false := hI.fact 2 37 _ rfl (dep_of hd 2 (by kernel_rfl))
            exact pt_move _ (by first | exact .inl rfl | exact .inr rfl) _ e37 (hK _ _ hI.j PtKeep.refl rfl)
          · intro L a W K hI hn hd hK
            have e38 : a.eval (.tmp 38) = .bool false := hI.fact 3 38 _ rfl (dep_of hd 3 (by kernel_rfl))
            have e42 : a.eval (.tmp 42) = undef := hI.fact 7 42 _ rfl (dep_of hd 7 (by kernel_rfl))
            exact pt_val (v := .bool false) (by unfold execOp; simp only [e38, e42]; kernel_rfl) (hK _ _ hI.j PtKeep.refl rfl)
        · intro L a W7 hal hj hfs
          dsimp only [PtAll] at hfs
          obtain ⟨f35, f36, f37, f38, f39, f40, f41, f42, f43, -⟩ := hfs
          have hA := hal.turned
          simp only [List.map_cons, List.map_nil, Act.turned, f35, f36, f37, f38, f39, f40, f41, f42, f43] at hA
          simp only [Act.put, List.setIfInBounds_toArray, List.set_cons_zero, List.set_cons_succ] at hA
          clear hal f35 f36 f37 f38 f39 f40 f41 f42 f43
          subst hA
          change wpList _ _ _ [] _ _
          have HJ := hid hj
          clear hj
          refine wpList_nil ?_
          try refine NoPanic.normal ?_
          have HE8 := hid (HERc.out _ HJ.out)
          go_wp2_with fail
          refine HE8.out.mono ?_
          rintro x w8 ⟨rfl, ho8⟩
          have HO8 := hid ho8
          clear ho8
          go_wp2_with fail
          go_ret
          rw [HRF.out]
          exact HRead.no ((HR6.out.same HJ.out).same HO8.out) ((HOW6.out.trans HJ.out (fun _ _ e => e.elim)).trans HO8.out (fun _ _ e => e.elim)) rfl
end
end Go.Proofs.Ytnoopajedgllhaa
