/- What is read as a history is what it is written in; HistoryDecodes' walk. -/
import Derived.Test.YtnoopajedgllhaaHsO
import Derived.Test.YtnoopajedgllhaaHsK
import Derived.Test.YtnoopajedgllhaaOpenV
namespace Go.Proofs.Ytnoopajedgllhaa
open Go.RowKit
theorem sum_inv {r : RdM} (h : r.sum.2.err = 0) : r.err = 0 ∧ ∃ post, r.sum = (r.sum.1, r.adv r.sum.1.length) ∧ r.rest = r.sum.1 ++ post := by
  have h2 : (r.take 32).2.err = 0 := h
  obtain ⟨h3, h4, h5⟩ := take_inv h2
  have h6 : (r.rest.take 32).length = 32 := by rw [List.length_take]; omega
  have h7 : r.sum = (r.rest.take 32, r.adv 32) := by
    unfold RdM.sum
    rw [h5]
    simp only
    rw [if_neg (by intro e; rw [e] at h6; simp at h6)]
  refine ⟨h3, r.rest.drop 32, ?_, ?_⟩
  · rw [h7]; simp only; rw [h6]
  · rw [h7]; simp
theorem sum_bad {r : RdM} (h : r.err ≠ 0) : r.sum.2 = r := by unfold RdM.sum; simp only; rw [take_bad h]
theorem nth_self {e : EM} {n : Nat} (h : e.id = ((n + 1 : Nat) : Int)) : e.nth n = e := by unfold EM.nth; rw [← h]
theorem rdEs_inv : ∀ (n : Nat) (es : List EM) (r : RdM) {es' : List EM} {r' : RdM}, r.err = 0 → rdEs n es r = (some es', r') → ∃ (l : List EM) (post : List UInt8), es' = es ++ l ∧ l.length = n ∧ r' = r.adv (l.flatMap EM.wr).length ∧ r.rest = l.flatMap EM.wr ++ post ∧ r'.err = 0
  | 0, es, r, es', r', he, h => by
    rw [rdEs] at h
    simp only [Prod.mk.injEq, Option.some.injEq] at h
    obtain ⟨rfl, rfl⟩ := h
    exact ⟨[], r.rest, by simp, rfl, by simp [adv_zero], by simp, he⟩
  | n + 1, es, r, es', r', he, h => by
    rw [rdEs] at h
    by_cases h1 : r.ev.2.err ≠ 0
    · rw [if_pos h1] at h; simp at h
    rw [if_neg h1] at h
    have h1 : r.ev.2.err = 0 := Decidable.not_not.1 h1
    by_cases h2 : hchk (closedL es) es.length (lastT 0 es) [r.ev.1] ≠ 0
    · rw [if_pos h2] at h; simp at h
    rw [if_neg h2] at h
    have h2 : hchk (closedL es) es.length (lastT 0 es) [r.ev.1] = 0 := Decidable.not_not.1 h2
    obtain ⟨e, post, e1, e2, hg, -, hc⟩ := ev_inv he h1
    rw [e1] at h h2
    simp only at h h2
    have hid : e.id = ((es.length + 1 : Nat) : Int) := by
      rw [hchk] at h2
      by_cases g1 : 4096 < es.length + 1
      · rw [if_pos g1] at h2; simp at h2
      rw [if_neg g1] at h2
      by_cases g2 : e.id ≠ 0 ∧ e.id ≠ ((es.length + 1 : Nat) : Int)
      · rw [if_pos g2] at h2; simp at h2
      have := hg.id
      by_cases g3 : e.id = ((es.length + 1 : Nat) : Int)
      · exact g3
      · exact absurd ⟨by omega, g3⟩ g2
    have hnb : numb es.length [e] = [e] := by rw [numb, numb, nth_self hid, hc]
    rw [hnb] at h
    obtain ⟨l, post', e3, e4, e5, e6, e7⟩ := rdEs_inv n (es ++ [e]) (r.adv e.wr.length) he h
    refine ⟨e :: l, post', by rw [e3, List.append_assoc]; rfl, by rw [List.length_cons, e4], ?_, ?_, e7⟩
    · rw [e5, adv_adv, List.flatMap_cons, List.length_append]
    · rw [adv_rest' e2] at e6
      rw [e2, e6, List.flatMap_cons, List.append_assoc]
theorem rdEs_no : ∀ (n : Nat) (es : List EM) (r : RdM) {r' : RdM}, rdEs n es r = (none, r') → r'.err ≠ 0
  | 0, es, r, r', h => by rw [rdEs] at h; simp at h
  | n + 1, es, r, r', h => by
    rw [rdEs] at h
    by_cases h1 : r.ev.2.err ≠ 0
    · rw [if_pos h1] at h
      simp only [Prod.mk.injEq, true_and] at h
      rw [← h]; exact h1
    rw [if_neg h1] at h
    by_cases h2 : hchk (closedL es) es.length (lastT 0 es) [r.ev.1] ≠ 0
    · rw [if_pos h2] at h
      simp only [Prod.mk.injEq, true_and] at h
      rw [← h]; exact fail_ne h2
    rw [if_neg h2] at h
    exact rdEs_no n _ _ h
theorem rdEs_err : ∀ (n : Nat) (es : List EM) (r : RdM), r.err ≠ 0 → (rdEs n es r).2 = r
  | 0, es, r, h => rfl
  | n + 1, es, r, h => by rw [rdEs, if_pos (by rw [ev_bad h]; exact h), ev_bad h]
/-- A history that is read: its bytes are those that it is written in. -/
theorem rdHist_inv {r : RdM} {s : List UInt8} {es : List EM} {r' : RdM} (h : rdHist r = (some (s, es), r')) : r'.err = 0 ∧ s.length = 32 ∧ r' = r.adv (hwr s es).length ∧ ∃ post, r.rest = hwr s es ++ post := by
  unfold rdHist at h
  obtain ⟨⟨o, r2⟩, hes⟩ : ∃ x, rdEs (r.sum.2.num 4096).1 [] (r.sum.2.num 4096).2 = x := ⟨_, rfl⟩
  rw [hes] at h
  cases o with
  | none => simp at h
  | some es2 =>
    simp only at h
    by_cases he : (rdEnd r.sum.1 es2 r2).err ≠ 0
    · rw [if_pos he] at h; simp at h
    rw [if_neg he] at h
    simp only [Prod.mk.injEq, Option.some.injEq] at h
    obtain ⟨⟨rfl, rfl⟩, rfl⟩ := h
    have he : (rdEnd r.sum.1 es2 r2).err = 0 := Decidable.not_not.1 he
    have h1 : r2.sum.2.err = 0 ∧ r2.sum.1 = sumS r.sum.1 es2 ∧ rdEnd r.sum.1 es2 r2 = r2.sum.2 := by
      unfold rdEnd at he ⊢
      by_cases g : r2.sum.2.err = 0 ∧ r2.sum.1 ≠ sumS r.sum.1 es2
      · rw [if_pos g] at he; exact absurd he (fail_ne (by decide))
      · rw [if_neg g] at he ⊢
        exact ⟨he, Decidable.not_not.1 fun g2 => g ⟨he, g2⟩, rfl⟩
    obtain ⟨h1, h2, h3⟩ := h1
    obtain ⟨h4, post4, h5, h6⟩ := sum_inv h1
    have h7 : (r.sum.2.num 4096).2.err = 0 := by
      by_cases g : (r.sum.2.num 4096).2.err = 0
      · exact g
      · have := rdEs_err (r.sum.2.num 4096).1 [] _ g
        rw [hes] at this
        simp only at this
        rw [← this] at g; exact absurd h4 g
    have h8 : r.sum.2.err = 0 := by
      by_cases g : r.sum.2.err = 0
      · exact g
      · rw [num_bad g] at h7; exact absurd h7 g
    obtain ⟨-, post1, h9, h10⟩ := sum_inv h8
    obtain ⟨n, post2, h11, h12, -, -⟩ := num_inv h8 h7
    rw [h11] at hes
    simp only at hes
    have hn0 : (r.sum.2.adv (numB n).length).err = 0 := by rw [adv_err]; exact h8
    obtain ⟨l, post3, h13, h14, h15, h16, -⟩ := rdEs_inv n [] _ hn0 hes
    rw [List.nil_append] at h13
    subst h13
    have hs2 : r.sum.2 = r.adv r.sum.1.length := congrArg Prod.snd h9
    have hlen : r2 = r.adv (r.sum.1.length + (numB n).length + (es2.flatMap EM.wr).length) := by rw [h15, hs2, adv_adv, adv_adv, Nat.add_assoc]
    refine ⟨by rw [h3]; exact h1, sum_len32 r, ?_, post4, ?_⟩
    · rw [h3, h5, h2]
      simp only
      rw [hlen, adv_adv, ← h14]
      unfold hwr
      simp only [List.length_append]
    · have e1 : post1 = numB n ++ post2 := by rw [hs2, adv_rest' h10] at h12; exact h12
      have e2 : post2 = es2.flatMap EM.wr ++ post3 := by
        have : (r.sum.2.adv (numB n).length).rest = post2 := adv_rest' h12
        rw [this] at h16; exact h16
      have e3 : post3 = r2.sum.1 ++ post4 := by
        have : r2.rest = post3 := by rw [h15]; exact adv_rest' h16
        rw [← this]; exact h6
      rw [h10, e1, e2, e3, h2, ← h14]
      unfold hwr
      simp only [List.append_assoc]
theorem rdHist_no {r : RdM} {r' : RdM} (h : rdHist r = (none, r')) : r'.err ≠ 0 := by
  unfold rdHist at h
  obtain ⟨⟨o, r2⟩, hes⟩ : ∃ x, rdEs (r.sum.2.num 4096).1 [] (r.sum.2.num 4096).2 = x := ⟨_, rfl⟩
  rw [hes] at h
  cases o with
  | none =>
    simp only [Prod.mk.injEq, true_and] at h
    rw [← h]; exact rdEs_no _ _ _ hes
  | some es2 =>
    simp only at h
    by_cases he : (rdEnd r.sum.1 es2 r2).err ≠ 0
    · rw [if_pos he] at h
      simp only [Prod.mk.injEq, true_and] at h
      rw [← h]; exact he
    · rw [if_neg he] at h; simp at h
section
open Go.ChangeShapes Go.WideShapes Go.ChangeAt
variable {H : Type} {enc : TypeId × Value → H} {W : World} {base : Nat} {spare : Nat → Bool} {held : Bool} {fuel : Nat} {x : DataW H × List MemPlace} {v : Value}
theorem bytes_cap (h : DataW.trod enc Try.prog W base spare held fuel 72 [v] = some x) : ∀ a k c, v = .slice a k c → k ≤ c := by
  intro a k c e
  rcases DataW.trod_slice Try.underlying72 h with ⟨hcs, _⟩ | ⟨ad, len, cap, elems, rest, m, hm, hcs, _, _, hlc, _⟩
  · simp at hcs; subst hcs
    simp only [Value.slice.injEq] at e; omega
  · simp at hcs; subst hcs
    simp only [Value.slice.injEq] at e; omega
end
theorem hwr_len {s : List UInt8} {es : List EM} (hs : s.length = 32) : 64 ≤ (hwr s es).length := by
  unfold hwr
  have := sumS_len hs es
  simp only [List.length_append]; omega
section
variable {w : World}
set_option maxRecDepth 100000 in
set_option maxHeartbeats 6400000 in
theorem hdecs_c {v : Value} {l : List UInt8} (hs : Src w v l) (hcap : ∀ a k c, v = .slice a k c → k ≤ c) : Calls Try.prog 9 #[v] w fun x w' => x = .returned (.bool true) ∧ Only (fun _ => False) w w' := by
  have HS := hid hs
  obtain ⟨a0, cp0, rfl⟩ := hs.len
  have hlc := hcap _ _ _ rfl
  clear hs hcap
  go_enter Try.func9, Try.ntmps9
  go_wp2_with fail
  refine keeps_c.mono ?_
  rintro x w1 ⟨rfl, ho1⟩
  have HO1 := hid ho1
  clear ho1
  by_cases h15 : 1500 < (l.length : Int)
  · go_wp2_with fail
    go_ret
    exact ⟨rfl, HO1.out⟩
  have HRD := hid (read_c (w := w1) _ l (HS.out.same HO1.out) (by omega))
  go_wp2_with fail
  refine HRD.out.mono ?_
  rintro x w2 ⟨b, g, rfl, hr, hb, hg, ho2⟩
  have HHR := hid (hread_c hr)
  have HO2 := hid (HO1.out.trans ho2 (fun _ _ e => e))
  have hbl := hr.lt
  have hz1 := HO1.out.size
  obtain ⟨⟨o, r'⟩, hrh⟩ : ∃ x, rdHist (RdM.of l) = x := ⟨_, rfl⟩
  rw [hrh] at HHR
  have HRH := hid hrh
  clear hr ho2 HRD hrh
  go_wp2_with fail
  refine HHR.out.mono ?_
  rintro x w3 ⟨hr3, ho3, hx⟩
  have HR3 := hid hr3
  have HO3 := hid (HO2.out.trans ho3 (fun k hk e => by have e1 : k = b := e; omega))
  have hz3 := ho3.size
  simp only at hr3
  rcases hx with ⟨h1, rfl⟩ | ⟨s, es, hb2, F, h1, rfl, hh, hF⟩
  · simp only at h1
    subst h1
    have hne := rdHist_no HRH.out
    have HER := hid (rerr_c hr3)
    obtain ⟨er, her⟩ : ∃ x, r'.err = x := ⟨_, rfl⟩
    rw [her] at HER hne
    have hnb : (er != 0) = true := by simpa using hne
    clear hr3 ho3 her hne
    go_wp2_with fail
    refine HER.out.mono ?_
    rintro x w4 ⟨rfl, rfl⟩
    go_wp2_with fail
    go_ret
    exact ⟨by simp, HO3.out⟩
  · simp only at h1
    subst h1
    obtain ⟨he0, hs32, hr', post, hrest⟩ := rdHist_inv HRH.out
    have hwl := hwr_len (es := es) hs32
    have hlt : l = hwr s es ++ post := by simpa [RdM.rest, RdM.of] using hrest
    have hat : r'.at' = (hwr s es).length := by rw [hr']; simp [RdM.adv, RdM.of]
    have hKl : (hwr s es).length ≤ l.length := by rw [hlt, List.length_append]; omega
    have htk : l.take (hwr s es).length = hwr s es := by conv => lhs; rw [hlt]; simp
    obtain ⟨BS, hBS⟩ : ∃ x, hwr s es = x := ⟨_, rfl⟩
    rw [hBS] at hwl hat hKl htk
    obtain ⟨aq, cq, hq1, hq2⟩ := HS.out
    simp only [Value.slice.injEq] at hq1
    obtain ⟨rfl, -, rfl⟩ := hq1
    obtain ⟨ga, oa, rfl, hca⟩ := hq2 (by intro e; rw [e] at hKl; rw [List.length_nil] at hKl; omega)
    clear hq2
    have ho4 := only_new w3 (.cells #[.slice none 0 0] 78)
    have HWR := hid (hwrite_c (hh.same ho4) (Wr.new (blk_new w3 _)) (fun k hk e => by obtain ⟨_, _, _, _, _, H⟩ := hh; have := H.lt k hk; have e1 : k = w3.heap.size := e; omega) (by simp))
    rw [List.nil_append, hBS] at HWR
    have HO4 := hid ho4
    have HAT := hid hat; have HE0 := hid he0
    have HSRC : Hid (∀ W, Only (fun _ => False) w W → Src W (.slice (some ⟨ga, oa, none⟩) BS.length cp0) BS) := hid (fun W hW => by
      refine ⟨_, cp0, rfl, fun hne => ⟨ga, oa, rfl, fun i u hu => ?_⟩⟩
      have hib : i < BS.length := by
        rcases Nat.lt_or_ge i BS.length with q | q
        · exact q
        · rw [List.getElem?_eq_none (by rw [length_bytesV]; exact q)] at hu; cases hu
      have h1 : (bytesV l)[i]? = some u := by
        rw [← htk, bytesV_get, List.getElem?_take_of_lt hib] at hu
        rw [bytesV_get]; exact hu
      have h2 := hca i u h1
      exact (World.cell?_of_block (hW.block ga (World.block_lt_of_cell? _ _ h2) (fun e => e))).trans h2)
    have hKc : (BS.length : Int) ≤ cp0 := by omega
    clear hh hF hrest hr' hlt hBS ho4 hat hr3 ho3 he0 htk hca hs32
    go_wp2_with fail
    refine HWR.out.mono ?_
    rintro x w6 ⟨rfl, Fw, hW6, ho6, hF6⟩
    have HR6 := hid ((HR3.out.same HO4.out).only ho6 (fun e => by have e1 : b = w3.heap.size := e; omega) (fun e => by have e1 : g = w3.heap.size := e; omega))
    have HO6 := hid ((HO3.out.trans HO4.out (fun _ _ e => e)).trans ho6 (fun k hk e => by have e1 : k = w3.heap.size := e; have := HO3.out.size; omega))
    have HERc : Hid (∀ W, Only (fun _ => False) w6 W → Calls Try.prog 41 #[.pointer (some ⟨b, 0, none⟩)] W fun x w' => x = .returned (.int .i64 0) ∧ Only (fun _ => False) W w') := hid fun W hW => (rerr_c (HR6.out.same hW)).mono fun x w' ⟨h1, h2⟩ => ⟨by rw [h1, HE0.out], by rw [h2]; exact Only.refl _ _⟩
    have HATc : Hid (∀ W, Only (fun _ => False) w6 W → Calls Try.prog 44 #[.pointer (some ⟨b, 0, none⟩)] W fun x w' => x = .returned (.int .i64 BS.length) ∧ Only (fun _ => False) W w') := hid fun W hW => (rat_c (HR6.out.same hW)).mono fun x w' ⟨h1, h2⟩ => ⟨by rw [h1, HAT.out], by rw [h2]; exact Only.refl _ _⟩
    have HBYc : Hid (∀ W, Only (fun _ => False) w6 W → Calls Try.prog 43 #[.pointer (some ⟨w3.heap.size, 0, none⟩)] W fun x w' => ∃ v, x = .returned v ∧ Src w' v BS ∧ Only (fun _ => False) W w') := hid fun W hW => (wbytes_c (hW6.same hW) (by omega)).mono fun x w' ⟨v, h1, ao, cap, h2, h3, h4, h5⟩ => ⟨v, h1, by rw [h2]; exact h3.src, h5⟩
    clear hW6 ho6 hF6 HWR
    have HKc := hid hKc
    go_wp2_with fail
    refine region_pg 13 [] (by kernel_rfl) (by kernel_rfl) (by kernel_rfl) [(22, fun _ v => v = .pointer (some ⟨b, 0, none⟩)), (23, fun _ v => v = .int .i64 0), (24, fun _ v => v = .bool true), (25, fun _ v => v = .bool true), (26, fun W v => ∃ u, v = u ∧ Src W u BS), (27, fun _ v => v = .string (strOf BS)), (28, fun _ v => v = .slice (some ⟨ga, oa, none⟩) l.length cp0), (29, fun _ v => v = .pointer (some ⟨b, 0, none⟩)), (30, fun _ v => v = .int .i64 BS.length), (31, fun _ v => v = .slice (some ⟨ga, oa, none⟩) BS.length cp0), (32, fun _ v => v = .string (strOf BS)), (33, fun _ v => v = .bool true), (34, fun _ v => v = .bool true)] (fun _ W => Only (fun _ => False) w6 W) (by show [22, 23, 24, 25, 26, 27, 28, 29, 30, 31, 32, 33, 34].Nodup; decide) (by show ∀ d ∈ [22, 23, 24, 25, 26, 27, 28, 29, 30, 31, 32, 33, 34], d < 35; decide) ((Only.refl _ _).drew) (.inl rfl) ?_ ?_ ?_
    · exact trivial
    · have hstab : PtStabs (Only (fun _ => False)) [(22, fun _ v => v = .pointer (some ⟨b, 0, none⟩)), (23, fun _ v => v = .int .i64 0), (24, fun _ v => v = .bool true), (25, fun _ v => v = .bool true), (26, fun W v => ∃ u, v = u ∧ Src W u BS), (27, fun _ v => v = .string (strOf BS)), (28, fun _ v => v = .slice (some ⟨ga, oa, none⟩) l.length cp0), (29, fun _ v => v = .pointer (some ⟨b, 0, none⟩)), (30, fun _ v => v = .int .i64 BS.length), (31, fun _ v => v = .slice (some ⟨ga, oa, none⟩) BS.length cp0), (32, fun _ v => v = .string (strOf BS)), (33, fun _ v => v = .bool true), (34, fun _ v => v = .bool true)] := ⟨fun _ _ _ _ h => h, fun _ _ _ _ h => h, fun _ _ _ _ h => h, fun _ _ _ _ h => h, fun W W' v hr ⟨u, h1, h2⟩ => ⟨u, h1, h2.same hr⟩, fun _ _ _ _ h => h, fun _ _ _ _ h => h, fun _ _ _ _ h => h, fun _ _ _ _ h => h, fun _ _ _ _ h => h, fun _ _ _ _ h => h, fun _ _ _ _ h => h, fun _ _ _ _ h => h, trivial⟩
      refine PgAllS.cons rfl rfl (.inl ⟨rfl, rfl⟩) ?_ (PgAllS.cons rfl rfl (.inl ⟨rfl, rfl⟩) ?_ (PgAllS.cons rfl rfl (.inl ⟨rfl, rfl⟩) ?_ (PgAllS.cons rfl rfl (.inl ⟨rfl, rfl⟩) ?_ (PgAllS.cons rfl rfl (.inr ⟨_, _, _, _, _, rfl, rfl, rfl, rfl, by kernel_rfl⟩) ?_ (PgAllS.cons rfl rfl (.inr ⟨_, _, _, _, _, rfl, rfl, rfl, rfl, by kernel_rfl⟩) ?_ (PgAllS.cons rfl rfl (.inr ⟨_, _, _, _, _, rfl, rfl, rfl, rfl, by kernel_rfl⟩) ?_ (PgAllS.cons rfl rfl (.inr ⟨_, _, _, _, _, rfl, rfl, rfl, rfl, by kernel_rfl⟩) ?_ (PgAllS.cons rfl rfl (.inr ⟨_, _, _, _, _, rfl, rfl, rfl, rfl, by kernel_rfl⟩) ?_ (PgAllS.cons rfl rfl (.inr ⟨_, _, _, _, _, rfl, rfl, rfl, rfl, by kernel_rfl⟩) ?_ (PgAllS.cons rfl rfl (.inr ⟨_, _, _, _, _, rfl, rfl, rfl, rfl, by kernel_rfl⟩) ?_ (PgAllS.cons rfl rfl (.inr ⟨_, _, _, _, _, rfl, rfl, rfl, rfl, by kernel_rfl⟩) ?_ (PgAllS.cons rfl rfl (.inl ⟨rfl, rfl⟩) ?_ (PgAllS.nil rfl)))))))))))))
      · intro L a W K hI hn hd hK
        have e3 : a.eval (.tmp 3) = .pointer (some ⟨b, 0, none⟩) := hI.ev 3 (by show ¬ (3 ∈ [22, 23, 24, 25, 26, 27, 28, 29, 30, 31, 32, 33, 34]); decide) rfl
        exact pt_move _ (by first | exact .inl rfl | exact .inr rfl) _ e3 (hK _ _ hI.j PtKeep.refl rfl)
      · intro L a W K hI hn hd hK
        have e22 : a.eval (.tmp 22) = .pointer (some ⟨b, 0, none⟩) := hI.fact 0 22 _ rfl (dep_of hd 0 (by kernel_rfl))
        refine wp_callc (f := 41) (args := #[a.eval (.tmp 22)]) (by kernel_rfl) ?_
        rw [e22]
        refine (HERc.out _ hI.j).mono ?_
        rintro x W' ⟨rfl, ho⟩
        exact ⟨_, rfl, hK _ _ (hI.j.trans ho (fun _ _ e => e.elim)) (hstab.keep ho) rfl⟩
      · intro L a W K hI hn hd hK
        have e23 : a.eval (.tmp 23) = .int .i64 0 := hI.fact 1 23 _ rfl (dep_of hd 1 (by kernel_rfl))
        exact pt_val (v := .bool true) (by unfold execOp; simp only [e23]; kernel_rfl) (hK _ _ hI.j PtKeep.refl rfl)
      · intro L a W K hI hn hd hK
        have e24 : a.eval (.tmp 24) = .bool true := hI.fact 2 24 _ rfl (dep_of hd 2 (by kernel_rfl))
        exact pt_move _ (by first | exact .inl rfl | exact .inr rfl) _ e24 (hK _ _ hI.j PtKeep.refl rfl)
      · intro L a W K hI hn hd hK
        have e5 : a.eval (.tmp 5) = .pointer (some ⟨w3.heap.size, 0, none⟩) := hI.ev 5 (by show ¬ (5 ∈ [22, 23, 24, 25, 26, 27, 28, 29, 30, 31, 32, 33, 34]); decide) rfl
        refine wp_callc (f := 43) (args := #[a.eval (.tmp 5)]) (by kernel_rfl) ?_
        rw [e5]
        refine (HBYc.out _ hI.j).mono ?_
        rintro x W' ⟨v, rfl, hv, ho⟩
        exact ⟨_, rfl, hK _ _ (hI.j.trans ho (fun _ _ e => e)) (hstab.keep ho) ⟨_, rfl, hv⟩⟩
      · intro L a W K hI hn hd hK
        have f26 := hI.fact 4 26 _ rfl (dep_of hd 4 (by kernel_rfl))
        exact pt_val (v := .string (strOf BS)) (by obtain ⟨u, g1, g2⟩ := f26; unfold execOp; simp only [g1, Sem.run_bind, conv_str g2, Result.andThen_ok, Sem.run_pure]) (hK _ _ hI.j PtKeep.refl rfl)
      · intro L a W K hI hn hd hK
        have e0 : a.eval (.tmp 0) = .slice (some ⟨ga, oa, none⟩) l.length cp0 := hI.ev 0 (by show ¬ (0 ∈ [22, 23, 24, 25, 26, 27, 28, 29, 30, 31, 32, 33, 34]); decide) rfl
        exact pt_move _ (by first | exact .inl rfl | exact .inr rfl) _ e0 (hK _ _ hI.j PtKeep.refl rfl)
      · intro L a W K hI hn hd hK
        have e3 : a.eval (.tmp 3) = .pointer (some ⟨b, 0, none⟩) := hI.ev 3 (by show ¬ (3 ∈ [22, 23, 24, 25, 26, 27, 28, 29, 30, 31, 32, 33, 34]); decide) rfl
        exact pt_move _ (by first | exact .inl rfl | exact .inr rfl) _ e3 (hK _ _ hI.j PtKeep.refl rfl)
      · intro L a W K hI hn hd hK
        have e29 : a.eval (.tmp 29) = .pointer (some ⟨b, 0, none⟩) := hI.fact 7 29 _ rfl (dep_of hd 7 (by kernel_rfl))
        refine wp_callc (f := 44) (args := #[a.eval (.tmp 29)]) (by kernel_rfl) ?_
        rw [e29]
        refine (HATc.out _ hI.j).mono ?_
        rintro x W' ⟨rfl, ho⟩
        exact ⟨_, rfl, hK _ _ (hI.j.trans ho (fun _ _ e => e.elim)) (hstab.keep ho) rfl⟩
      · intro L a W K hI hn hd hK
        have e28 : a.eval (.tmp 28) = .slice (some ⟨ga, oa, none⟩) l.length cp0 := hI.fact 6 28 _ rfl (dep_of hd 6 (by kernel_rfl))
        have e30 : a.eval (.tmp 30) = .int .i64 BS.length := hI.fact 8 30 _ rfl (dep_of hd 8 (by kernel_rfl))
        exact pt_val (v := .slice (some ⟨ga, oa, none⟩) BS.length cp0) (by have hKc := HKc.out; unfold execOp; simp only [e28, e30, Option.map_some, Option.map_none]; go_simp) (hK _ _ hI.j PtKeep.refl rfl)
      · intro L a W K hI hn hd hK
        have e31 : a.eval (.tmp 31) = .slice (some ⟨ga, oa, none⟩) BS.length cp0 := hI.fact 9 31 _ rfl (dep_of hd 9 (by kernel_rfl))
        exact pt_val (v := .string (strOf BS)) (by have hcs := conv_str (HSRC.out W (HO6.out.trans hI.j (fun _ _ e => e))); unfold execOp; simp only [e31, Sem.run_bind, hcs, Result.andThen_ok, Sem.run_pure]) (hK _ _ hI.j PtKeep.refl rfl)
      · intro L a W K hI hn hd hK
        have e27 : a.eval (.tmp 27) = .string (strOf BS) := hI.fact 5 27 _ rfl (dep_of hd 5 (by kernel_rfl))
        have e32 : a.eval (.tmp 32) = .string (strOf BS) := hI.fact 10 32 _ rfl (dep_of hd 10 (by kernel_rfl))
        exact pt_val (v := .bool true) (by unfold execOp; simp only [e27, e32]; go_simp) (hK _ _ hI.j PtKeep.refl rfl)
      · intro L a W K hI hn hd hK
        have e25 : a.eval (.tmp 25) = .bool true := hI.fact 3 25 _ rfl (dep_of hd 3 (by kernel_rfl))
        have e33 : a.eval (.tmp 33) = .bool true := hI.fact 11 33 _ rfl (dep_of hd 11 (by kernel_rfl))
        exact pt_val (v := .bool true) (by unfold execOp; simp only [e25, e33]; kernel_rfl) (hK _ _ hI.j PtKeep.refl rfl)
    · intro L a W7 hal hj hfs
      dsimp only [PtAll] at hfs
      obtain ⟨f22, f23, f24, f25, f26, f27, f28, f29, f30, f31, f32, f33, f34, -⟩ := hfs
      obtain ⟨u26, f26, -⟩ := f26
      have hA := hal.turned
      simp only [List.map_cons, List.map_nil, Act.turned, f22, f23, f24, f25, f26, f27, f28, f29, f30, f31, f32, f33, f34] at hA
      simp only [Act.put, List.setIfInBounds_toArray, List.set_cons_zero, List.set_cons_succ] at hA
      clear hal f22 f23 f24 f25 f26 f27 f28 f29 f30 f31 f32 f33 f34
      subst hA
      change wpList _ _ _ [_] _ _
      have HJ := hid hj
      clear hj
      go_wp2_with fail
      go_ret
      exact ⟨rfl, HO6.out.trans HJ.out (fun _ _ e => e)⟩
end
end Go.Proofs.Ytnoopajedgllhaa
