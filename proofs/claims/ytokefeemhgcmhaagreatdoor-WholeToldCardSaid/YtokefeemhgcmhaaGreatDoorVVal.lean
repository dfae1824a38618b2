/- value's reading of texts: the next value; value.Parse. -/
import Derived.Test.YtokefeemhgcmhaaGreatDoorVNum
import Derived.Test.YtokefeemhgcmhaaGreatDoorValH
namespace Go.Proofs.YtokefeemhgcmhaaGreatDoor
open Go.RowKit

/-- What value answers. -/
def ValA (w : World) (b : Nat) (s : List UInt8) (R : Bool × Option (VT × List UInt8)) (e : Ending) (w' : World) : Prop :=
  (match R with
    | (d, none) => ∃ k n s' a m c a', e = .returned (.tuple #[.agg #[.int .i64 k, .int .i64 n, .string (strOf s'), .slice a m c], .bool false]) ∧ TAt w' b s a' d
    | (_, some x) => ∃ cs, e = .returned (.tuple #[.agg cs.toArray, .bool true]) ∧ VAt w' (New w w') x.1 cs ∧ TAt w' b s (s.length - x.2.length) false)
  ∧ Only (fun k => k = b) w w'
def PValC (f : Nat) : Prop := ∀ (d : Nat) (w : World) (b : Nat) (s : List UInt8) (a : Nat), d + f = 8 → TAt w b s a false → Env b w → Calls Tryz.prog 17 #[.pointer (some ⟨b, 0, none⟩), .int .i64 d] w (ValA w b s (parV f (s.drop a)))
theorem parL_tt {g : List UInt8 → Bool × Option (VT × List UInt8)} (hg : ∀ l t r, g l ≠ (true, some (t, r))) : ∀ (n : Nat) (acc : List VT) (l : List UInt8) (t : VT) (r : List UInt8), parL g n acc l ≠ (true, some (t, r))
  | 0, _, _, _, _ => by rw [parL]; simp
  | n + 1, acc, l, t, r => by
    rw [parL]
    split
    · simp
    split
    · simp
    cases hgr : g (if acc ≠ [] then l.drop 1 else l) with
    | mk d o =>
      cases o with
      | none => simp
      | some x => exact parL_tt hg n _ _ t r
theorem parV_tt (f : Nat) : ∀ (l : List UInt8) (t : VT) (r : List UInt8), parV f l ≠ (true, some (t, r)) := by
  induction f with
  | zero =>
    intro l t r
    rw [parV_is]
    split
    · simp
    split
    · simp
    split
    · simp
    · simp
  | succ f ih =>
    intro l t r
    rw [parV_is]
    split
    · simp
    split
    · simp
    split
    · exact parL_tt ih _ _ _ _ _
    · simp
theorem TAt.deep {w : World} {b : Nat} {s : List UInt8} {a : Nat} {dp : Bool} (h : TAt w b s a dp) : TAt (w.setCell ⟨b, 2, none⟩ (.bool true)) b s a true := by
  refine ⟨?_, h.2⟩
  have := blk_set h.1 2 (.bool true)
  simpa using this
theorem pre_take : ∀ (p l : List UInt8), p.isPrefixOf l = decide (l.take p.length = p)
  | [], l => by simp
  | x :: p, [] => by simp
  | x :: p, y :: l => by
    have ih := pre_take p l
    simp only [List.isPrefixOf, List.length_cons, List.take_succ_cons, ih]
    by_cases h : x = y
    · subst h; simp
    · have h' : ¬ y = x := fun e => h e.symm
      simp [h, h']
section
variable {w : World}
set_option maxRecDepth 100000 in
theorem of_c (n : Int) : Calls Tryz.prog 9 #[.int .i64 n] w fun x w' => x = .returned (.agg #[.int .i64 1, .int .i64 n, .string ⟨#[]⟩, .slice none 0 0]) ∧ Only (fun _ => False) w w' := by
  go_enter Tryz.func9, Tryz.ntmps9
  go_wp2_with fail
  refine bodyPost_ret (results_cell_row rfl _ _ w.heap.size 24 #[.int .i64 1, .int .i64 n, .string ⟨#[]⟩, .slice none 0 0] (0, 0) _ rfl (by simpa using blk_new w (.cells #[.int .i64 1, .int .i64 n, .string ⟨#[]⟩, .slice none 0 0] 24)) Tryz.underlying24 rfl info_val) rfl ⟨rfl, only_new w _⟩
set_option maxRecDepth 100000 in
theorem text_c (t : List UInt8) : Calls Tryz.prog 8 #[.string (strOf t)] w fun x w' => x = .returned (.agg #[.int .i64 2, .int .i64 0, .string (strOf t), .slice none 0 0]) ∧ Only (fun _ => False) w w' := by
  go_enter Tryz.func8, Tryz.ntmps8
  go_wp2_with fail
  refine bodyPost_ret (results_cell_row rfl _ _ w.heap.size 24 #[.int .i64 2, .int .i64 0, .string (strOf t), .slice none 0 0] (0, 0) _ rfl (by simpa using blk_new w (.cells #[.int .i64 2, .int .i64 0, .string (strOf t), .slice none 0 0] 24)) Tryz.underlying24 rfl info_val) rfl ⟨rfl, only_new w _⟩
set_option maxRecDepth 100000 in
set_option maxHeartbeats 3200000 in
theorem value_step (f : Nat) (ih : ∀ g, f = g + 1 → PValC g) : PValC f := by
  intro d w b s a hd ht hE
  obtain ⟨R, hR⟩ : ∃ R, parV f (s.drop a) = R := ⟨_, rfl⟩
  rw [hR]
  rw [parV_is] at hR
  have HR := hid hR
  have HD := hid hd; have HIH := hid ih
  have hO0 := only_new w (.cells #[.int .i64 0, .int .i64 0, .string ⟨#[]⟩, .slice none 0 0] 24)
  have HE := hid (hE.same hO0)
  have HEW := hid hE
  have HT0 := hid (ht.same hO0)
  have HZ0 := hid (blk_new w (.cells #[.int .i64 0, .int .i64 0, .string ⟨#[]⟩, .slice none 0 0] 24))
  have HO0 := hid hO0
  have HBL := hid (show b < w.heap.size from ht.cells.2.2.2.2)
  have HSL := hid (show s.length ≤ 1000000000 from ht.2.2)
  have HAL := hid (show a ≤ s.length from ht.2.1)
  clear ht hE hR hd ih hO0
  go_enter Tryz.func17, Tryz.ntmps17
  go_wp2_with fail
  obtain ⟨w1, hw1⟩ : ∃ w1, w.alloc (.cells #[.int .i64 0, .int .i64 0, .string ⟨#[]⟩, .slice none 0 0] 24) = w1 := ⟨_, rfl⟩
  simp only [hw1] at HE HT0 HZ0 HO0 ⊢
  have hsz1 : w1.heap.size = w.heap.size + 1 := by rw [← hw1]; exact World.size_alloc _ _
  have HSZ1 := hid hsz1
  clear hw1 hsz1
  obtain ⟨c0, c1, c2, cz, hlb⟩ := HT0.out.cells
  have hss : (strOf s).size = s.length := rfl
  have hals : (a : Int) ≤ (strOf s).size := by have := HAL.out; omega
  have hals2 : a ≤ (strOf s).size := by omega
  have ha0 : (0 : Int) ≤ a := by omega
  have hex : (strOf s).extract a (strOf s).size = strOf (s.drop a) := by
    have := num_extract s a (s.length - a)
    rw [show a + (s.length - a) = (strOf s).size by have := HAL.out; omega, List.take_of_length_le (by simp)] at this
    exact this
  have HPF : Hid (∀ n, Calls Tryz.prog 36 #[.string ((strOf s).extract a (strOf s).size), .string ⟨#[110, 105, 108]⟩] (w1.drewN n) fun e w' => e = .returned (.bool (decide ((s.drop a).take 3 = [110, 105, 108]))) ∧ w' = w1.drewN n) := hid (fun n => by
    have h := Tryz.strings_HasPrefix ((strOf s).extract a (strOf s).size) ⟨#[110, 105, 108]⟩ (w1.drewN n)
    rw [hex, strOf_data] at h
    rw [hex]
    have e : Lib.hasPrefix (s.drop a) (⟨#[110, 105, 108]⟩ : ByteArray).data.toList = decide ((s.drop a).take 3 = [110, 105, 108]) := pre_take [110, 105, 108] (s.drop a)
    rw [e] at h
    exact h)
  clear hex hss
  go_quiet ((first | (with_reducible exact Calls.quiet_of_same (HPF.out _))))
  have HT1 := hid (HT0.out.same (only_drewN w1 nq))
  have HE1 := hid (HE.out.same (only_drewN w1 nq))
  have HZ1 := hid (blk_only HZ0.out (only_drewN w1 nq) (fun e => e))
  have HO1 := hid (HO0.out.trans (only_drewN w1 nq) (fun _ _ e => e))
  obtain ⟨w2, hw2⟩ : ∃ w2, w1.drewN nq = w2 := ⟨_, rfl⟩
  rw [hw2] at HT1 HE1 HZ1 HO1 ⊢
  clear c0 c1 c2 cz hlb hw2 hals hals2 ha0 HPF
  obtain ⟨c0, c1, c2, cz, hlb⟩ := HT1.out.cells
  have hab : (a : Int) ≤ 1000000000 := by have := HAL.out; have := HSL.out; omega
  by_cases hnil : (s.drop a).take 3 = [110, 105, 108]
  · have hdn : decide ((s.drop a).take 3 = [110, 105, 108]) = true := decide_eq_true hnil
    have HR2 : Hid (R = (false, some (.nil, (s.drop a).drop 3))) := hid (by rw [← HR.out, if_pos hnil])
    have hl3 : a + 3 ≤ s.length := by have := congrArg List.length hnil; simp at this; omega
    have HL3 := hid hl3
    have hz2 : (w2.setCell ⟨b, 1, none⟩ (.int .i64 ((a : Int) + 3))).heap[w.heap.size]? = some (.cells #[.int .i64 0, .int .i64 0, .string ⟨#[]⟩, .slice none 0 0] 24 (0, 0)) := blk_only HZ1.out (only_set b 1 (.int .i64 ((a : Int) + 3))) (by show ¬ w.heap.size = b; have := HBL.out; omega)
    have HZ2 := hid hz2
    rw [hdn]
    clear hnil hdn hl3 hz2
    go_wp2_with (refine wpList_store_all rfl 24 (.tmp 4) (.tmp 31) rfl w.heap.size #[.int .i64 0, .int .i64 0, .string ⟨#[]⟩, .slice none 0 0] rfl rfl #[.int .i64 0, .int .i64 0, .string ⟨#[]⟩, .slice none 0 0] 24 HZ2.out rfl info_val (val_one _ _ _ _ _ _) ?_; intro w9 hb9 ho9 hs9; have HB9 := hid hb9; have HO9 := hid ho9; have HS9 := hid hs9; clear hb9 ho9 hs9)
    refine bodyPost_ret (results_cell1 rfl _ _ w.heap.size 24 #[.int .i64 0, .int .i64 0, .string ⟨#[]⟩, .slice none 0 0] (0, 0) _ rfl HB9.out Tryz.underlying24 rfl info_val) rfl ?_
    unfold ValA
    rw [HR2.out]
    exact ⟨⟨_, rfl, novls _ _ 0 0 [], by
      have h := (HT1.out.set0 (a + 3) HL3.out).only HO9.out (show ¬ b = w.heap.size by have := HBL.out; omega)
      have e : s.length - ((s.drop a).drop 3).length = a + 3 := by rw [List.length_drop, List.length_drop]; have := HL3.out; omega
      rw [← e] at h; exact h⟩, ((HO1.out.mono (G := fun k => k = b) (fun _ _ e => e.elim)).trans (only_set b 1 (.int .i64 ((a : Int) + 3))) (fun _ _ e => e)).trans HO9.out (fun k hk e => by have e' : k = w.heap.size := e; omega)⟩
  have hdn : decide ((s.drop a).take 3 = [110, 105, 108]) = false := decide_eq_false hnil
  have HR2 := HR.out
  rw [if_neg hnil, get_drop, Nat.add_zero] at HR2
  have HR3 := hid HR2
  rw [hdn]
  clear HR2 HR hnil hdn
  by_cases h34 : s[a]? = some 34
  · have HEA := hid (eat_yes HT1.out 34 h34)
    have HR4 := HR3.out
    rw [if_pos h34, List.drop_drop] at HR4
    have HR5 := hid HR4
    clear HR4 HR3 h34
    go_wp2_with fail
    refine HEA.out.mono ?_
    rintro e w3 ⟨rfl, ht3, ho3⟩
    have HQ := hid (quoted_c ht3)
    have HO3 := hid ((HO1.out.mono (fun _ _ e => e.elim)).trans ho3 (fun _ _ e => e))
    have HZ3 := hid (blk_only HZ1.out ho3 (by show ¬ w.heap.size = b; have := HBL.out; omega))
    have HSZ3 := hid ho3.size
    obtain ⟨q, hq⟩ : ∃ q, unq [] (s.drop (a + 1)) = q := ⟨_, rfl⟩
    rw [hq] at HQ HR5
    clear ht3 ho3 HEA c0 c1 c2 cz hlb hq
    cases q with
    | some x =>
      obtain ⟨t, r⟩ := x
      go_wp2_with fail
      refine HQ.out.mono ?_
      rintro e w4 ⟨⟨rfl, ht4⟩, ho4⟩
      have HTX := hid (text_c (w := w4) t)
      have HT4 := hid ht4
      have HO4 := hid (HO3.out.trans ho4 (fun _ _ e => e))
      have HZ4 := hid (blk_only HZ3.out ho4 (by show ¬ w.heap.size = b; have := HBL.out; omega))
      clear ht4 ho4 HQ
      go_wp2_with fail
      refine HTX.out.mono ?_
      rintro e w5 ⟨rfl, ho5⟩
      have HT5 := hid (HT4.out.same ho5)
      have HO5 := hid (HO4.out.trans (ho5.mono (fun _ _ e => e.elim)) (fun _ _ e => e))
      have HZ5 := hid (blk_only HZ4.out ho5 (fun e => e))
      clear ho5 HTX
      go_wp2_with (refine wpList_store_all rfl 24 (.tmp 4) (.tmp 41) rfl w.heap.size #[.int .i64 2, .int .i64 0, .string (strOf t), .slice none 0 0] rfl rfl #[.int .i64 0, .int .i64 0, .string ⟨#[]⟩, .slice none 0 0] 24 HZ5.out rfl info_val (val_one _ _ _ _ _ _) ?_; intro w9 hb9 ho9 hs9; have HB9 := hid hb9; have HO9 := hid ho9; have HS9 := hid hs9; clear hb9 ho9 hs9)
      refine bodyPost_ret (results_cell1 rfl _ _ w.heap.size 24 #[.int .i64 2, .int .i64 0, .string (strOf t), .slice none 0 0] (0, 0) _ rfl HB9.out Tryz.underlying24 rfl info_val) rfl ?_
      unfold ValA
      rw [← HR5.out]
      exact ⟨⟨_, rfl, novls _ _ 2 0 t, HT5.out.only HO9.out (by show ¬ b = w.heap.size; have := HBL.out; omega)⟩, HO5.out.trans HO9.out (fun k hk e => by have e' : k = w.heap.size := e; omega)⟩
    | none =>
      go_wp2_with fail
      refine HQ.out.mono ?_
      rintro e w4 ⟨⟨a4, rfl, ht4⟩, ho4⟩
      have HTX := hid (text_c (w := w4) [])
      have HT4 := hid ht4
      have HO4 := hid (HO3.out.trans ho4 (fun _ _ e => e))
      have HZ4 := hid (blk_only HZ3.out ho4 (by show ¬ w.heap.size = b; have := HBL.out; omega))
      clear ht4 ho4 HQ
      go_wp2_with fail
      refine HTX.out.mono ?_
      rintro e w5 ⟨rfl, ho5⟩
      have HT5 := hid (HT4.out.same ho5)
      have HO5 := hid (HO4.out.trans (ho5.mono (fun _ _ e => e.elim)) (fun _ _ e => e))
      have HZ5 := hid (blk_only HZ4.out ho5 (fun e => e))
      clear ho5 HTX
      go_wp2_with (refine wpList_store_all rfl 24 (.tmp 4) (.tmp 41) rfl w.heap.size #[.int .i64 2, .int .i64 0, .string (strOf []), .slice none 0 0] rfl rfl #[.int .i64 0, .int .i64 0, .string ⟨#[]⟩, .slice none 0 0] 24 HZ5.out rfl info_val (val_one _ _ _ _ _ _) ?_; intro w9 hb9 ho9 hs9; have HB9 := hid hb9; have HO9 := hid ho9; have HS9 := hid hs9; clear hb9 ho9 hs9)
      refine bodyPost_ret (results_cell1 rfl _ _ w.heap.size 24 #[.int .i64 2, .int .i64 0, .string (strOf []), .slice none 0 0] (0, 0) _ rfl HB9.out Tryz.underlying24 rfl info_val) rfl ?_
      unfold ValA
      rw [← HR5.out]
      exact ⟨⟨_, _, _, _, _, _, _, rfl, HT5.out.only HO9.out (by show ¬ b = w.heap.size; have := HBL.out; omega)⟩, HO5.out.trans HO9.out (fun k hk e => by have e' : k = w.heap.size := e; omega)⟩
  have HEA := hid (eat_no HT1.out 34 h34)
  have HR4 := HR3.out
  rw [if_neg h34] at HR4
  have HR5 := hid HR4
  clear HR4 HR3 h34
  go_wp2_with fail
  refine HEA.out.mono ?_
  rintro e w3 ⟨rfl, ht3, ho3⟩
  have HT3 := hid ht3
  have HE3 := hid (HE1.out.same ho3)
  have HO3 := hid (HO1.out.trans ho3 (fun _ _ e => e))
  have HZ3 := hid (blk_only HZ1.out ho3 (fun e => e))
  have HSZ3 := hid ho3.size
  clear ht3 ho3 HEA c0 c1 c2 cz hlb
  by_cases h91 : s[a]? = some 91
  case neg =>
    have HEA := hid (eat_no HT3.out 91 h91)
    have HR4 := HR5.out
    rw [if_neg h91] at HR4
    have HR6 := hid HR4
    clear HR4 HR5 h91
    go_wp2_with fail
    refine HEA.out.mono ?_
    rintro e w4 ⟨rfl, ht4, ho4⟩
    have HN := hid (number_c ht4 (HE3.out.same ho4))
    have HO4 := hid (HO3.out.trans ho4 (fun _ _ e => e))
    have HZ4 := hid (blk_only HZ3.out ho4 (fun e => e))
    clear ht4 ho4 HEA
    go_wp2_with fail
    refine HN.out.mono ?_
    rintro e w5 ⟨hres, ht5, ho5⟩
    have HT5 := hid ht5
    have HO5 := hid ((HO4.out.mono (G := fun k => k = b) (fun _ _ e => e.elim)).trans ho5 (fun _ _ e => e))
    have HZ5 := hid (blk_only HZ4.out ho5 (by show ¬ w.heap.size = b; have := HBL.out; omega))
    clear ht5 ho5 HN
    rcases hres with ⟨v, hv, rfl⟩ | ⟨hv, v, rfl⟩
    · have HOF := hid (of_c (w := w5) v)
      have HR7 : Hid (R = (false, some (.mk 1 v [] [], (s.drop a).drop (numN (s.drop a))))) := hid (by rw [← HR6.out]; unfold parI; rw [hv]; rfl)
      have hnl := numN_le (s.drop a)
      rw [List.length_drop] at hnl
      have HNL := hid hnl
      clear hv hnl
      go_wp2_with fail
      refine HOF.out.mono ?_
      rintro e w6 ⟨rfl, ho6⟩
      have HT6 := hid (HT5.out.same ho6)
      have HO6 := hid (HO5.out.trans (ho6.mono (fun _ _ e => e.elim)) (fun _ _ e => e))
      have HZ6 := hid (blk_only HZ5.out ho6 (fun e => e))
      clear ho6 HOF
      go_wp2_with (refine wpList_store_all rfl 24 (.tmp 4) (.tmp 89) rfl w.heap.size #[.int .i64 1, .int .i64 v, .string ⟨#[]⟩, .slice none 0 0] rfl rfl #[.int .i64 0, .int .i64 0, .string ⟨#[]⟩, .slice none 0 0] 24 HZ6.out rfl info_val (val_one _ _ _ _ _ _) ?_; intro w9 hb9 ho9 hs9; have HB9 := hid hb9; have HO9 := hid ho9; have HS9 := hid hs9; clear hb9 ho9 hs9)
      refine bodyPost_ret (results_cell1 rfl _ _ w.heap.size 24 #[.int .i64 1, .int .i64 v, .string ⟨#[]⟩, .slice none 0 0] (0, 0) _ rfl HB9.out Tryz.underlying24 rfl info_val) rfl ?_
      unfold ValA
      rw [HR7.out]
      exact ⟨⟨_, rfl, novls _ _ 1 v [], by
        have h := HT6.out.only HO9.out (show ¬ b = w.heap.size by have := HBL.out; omega)
        have e : s.length - ((s.drop a).drop (numN (s.drop a))).length = a + numN (s.drop a) := by rw [List.length_drop, List.length_drop]; have := HNL.out; have := HAL.out; omega
        rw [← e] at h; exact h⟩, HO6.out.trans HO9.out (fun k hk e => by have e' : k = w.heap.size := e; omega)⟩
    · have HOF := hid (of_c (w := w5) v)
      have HR7 : Hid (R = (false, none)) := hid (by rw [← HR6.out]; unfold parI; rw [hv]; rfl)
      clear hv
      go_wp2_with fail
      refine HOF.out.mono ?_
      rintro e w6 ⟨rfl, ho6⟩
      have HT6 := hid (HT5.out.same ho6)
      have HO6 := hid (HO5.out.trans (ho6.mono (fun _ _ e => e.elim)) (fun _ _ e => e))
      have HZ6 := hid (blk_only HZ5.out ho6 (fun e => e))
      clear ho6 HOF
      go_wp2_with (refine wpList_store_all rfl 24 (.tmp 4) (.tmp 89) rfl w.heap.size #[.int .i64 1, .int .i64 v, .string ⟨#[]⟩, .slice none 0 0] rfl rfl #[.int .i64 0, .int .i64 0, .string ⟨#[]⟩, .slice none 0 0] 24 HZ6.out rfl info_val (val_one _ _ _ _ _ _) ?_; intro w9 hb9 ho9 hs9; have HB9 := hid hb9; have HO9 := hid ho9; have HS9 := hid hs9; clear hb9 ho9 hs9)
      refine bodyPost_ret (results_cell1 rfl _ _ w.heap.size 24 #[.int .i64 1, .int .i64 v, .string ⟨#[]⟩, .slice none 0 0] (0, 0) _ rfl HB9.out Tryz.underlying24 rfl info_val) rfl ?_
      unfold ValA
      rw [HR7.out]
      exact ⟨⟨_, _, [], _, _, _, _, rfl, HT6.out.only HO9.out (by show ¬ b = w.heap.size; have := HBL.out; omega)⟩, HO6.out.trans HO9.out (fun k hk e => by have e' : k = w.heap.size := e; omega)⟩
  have HEA := hid (eat_yes HT3.out 91 h91)
  have HR4 := HR5.out
  rw [if_pos h91, List.drop_drop] at HR4
  have HR6 := hid HR4
  clear HR4 HR5 h91
  go_wp2_with fail
  refine HEA.out.mono ?_
  rintro e w4 ⟨rfl, ht4, ho4⟩
  have HO4 := hid ((HO3.out.mono (G := fun k => k = b) (fun _ _ e => e.elim)).trans ho4 (fun _ _ e => e))
  have hz4 := blk_only HZ3.out ho4 (show ¬ w.heap.size = b by have := HBL.out; omega)
  have HE4 := hid (HE3.out.step ho4)
  have HT4 := hid ht4
  have hs4 := ho4.size
  have hbw : b < w.heap.size := HBL.out
  have hs34 : w.heap.size + 1 ≤ w4.heap.size := by have := blk_lt hz4; omega
  have hnv := only_new w4 (.cells #[.int .i64 3, .int .i64 0, .string ⟨#[]⟩, .slice none 0 0] 24)
  have HZ5 := hid (blk_alloc (o' := .cells #[.int .i64 3, .int .i64 0, .string ⟨#[]⟩, .slice none 0 0] 24) hz4)
  have HV5 := hid (blk_new w4 (.cells #[.int .i64 3, .int .i64 0, .string ⟨#[]⟩, .slice none 0 0] 24))
  have HT5 := hid (ht4.same hnv)
  have HE5 := hid (HE4.out.same hnv)
  have HO5 := hid (HO4.out.trans (hnv.mono (fun _ _ e => e.elim)) (fun _ _ e => e))
  have HS34 := hid hs34
  clear ht4 ho4 hz4 hs4 HEA hnv hs34
  cases f with
  | zero =>
    have hd8 : d = 8 := by have := HD.out; omega
    subst hd8
    obtain ⟨c0, c1, c2, cz, hlb⟩ := HT5.out.cells
    have HR7 : Hid ((true, none) = R) := hid HR6.out
    go_upto_region 11 with fail
    have htd : TAt ((w4.alloc (.cells #[.int .i64 3, .int .i64 0, .string ⟨#[]⟩, .slice none 0 0] 24)).setCell ⟨b, 2, none⟩ (.bool true)) b s (a + 1) true := HT5.out.deep
    have hod := (only_set (w := w4.alloc (.cells #[.int .i64 3, .int .i64 0, .string ⟨#[]⟩, .slice none 0 0] 24)) b 2 (.bool true))
    have HO6 := hid (HO5.out.trans hod (fun _ _ e => e))
    have HZ6 := hid (blk_only HZ5.out hod (by show ¬ w.heap.size = b; omega))
    have hv6 := blk_only HV5.out hod (by show ¬ w4.heap.size = b; have := HS34.out; omega)
    have HT6 := hid htd
    clear htd hod c0 c1 c2 cz hlb
    have v0 : ((w4.alloc (.cells #[.int .i64 3, .int .i64 0, .string ⟨#[]⟩, .slice none 0 0] 24)).setCell ⟨b, 2, none⟩ (.bool true)).cell? ⟨w4.heap.size, 0, none⟩ = some (.int .i64 3) := cell_blk hv6 0
    have v1 : ((w4.alloc (.cells #[.int .i64 3, .int .i64 0, .string ⟨#[]⟩, .slice none 0 0] 24)).setCell ⟨b, 2, none⟩ (.bool true)).cell? ⟨w4.heap.size, 1, none⟩ = some (.int .i64 0) := cell_blk hv6 1
    have v2 : ((w4.alloc (.cells #[.int .i64 3, .int .i64 0, .string ⟨#[]⟩, .slice none 0 0] 24)).setCell ⟨b, 2, none⟩ (.bool true)).cell? ⟨w4.heap.size, 2, none⟩ = some (.string ⟨#[]⟩) := cell_blk hv6 2
    have v3 : ((w4.alloc (.cells #[.int .i64 3, .int .i64 0, .string ⟨#[]⟩, .slice none 0 0] 24)).setCell ⟨b, 2, none⟩ (.bool true)).cell? ⟨w4.heap.size, 3, none⟩ = some (.slice none 0 0) := cell_blk hv6 3
    clear hv6
    go_wp2_with (refine wpList_store_all rfl 24 (.tmp 4) (.tmp 52) rfl w.heap.size #[.int .i64 3, .int .i64 0, .string ⟨#[]⟩, .slice none 0 0] rfl rfl #[.int .i64 0, .int .i64 0, .string ⟨#[]⟩, .slice none 0 0] 24 HZ6.out rfl info_val (val_one _ _ _ _ _ _) ?_; intro w9 hb9 ho9 hs9; have HB9 := hid hb9; have HO9 := hid ho9; have HS9 := hid hs9; clear hb9 ho9 hs9)
    refine bodyPost_ret (results_cell1 rfl _ _ w.heap.size 24 #[.int .i64 3, .int .i64 0, .string ⟨#[]⟩, .slice none 0 0] (0, 0) _ rfl HB9.out Tryz.underlying24 rfl info_val) rfl ?_
    unfold ValA
    rw [← HR7.out]
    exact ⟨⟨_, _, [], _, _, _, _, rfl, HT6.out.only HO9.out (by show ¬ b = w.heap.size; omega)⟩, HO6.out.trans HO9.out (fun k hk e => by have e' : k = w.heap.size := e; omega)⟩
  | succ g =>
  have hdn : ((d : Int) == 8) = false := by
    have : ¬ (d : Int) = 8 := by have := HD.out; omega
    simpa using this
  have hR : parL (parV g) ((s.drop a).length + 1) [] (s.drop (a + 1)) = R := HR6.out
  have HR7 := hid hR
  clear hR HR6
  go_wp2_with fail
  go_loopw [] (fun wr => ∃ (a' n cp : Nat) (ao : Option Addr) (xs : List Value) (acc : List VT) (fuel : Nat), wr.heap[w4.heap.size]? = some (.cells #[.int .i64 3, .int .i64 0, .string ⟨#[]⟩, .slice ao n cp] 24 (0, 0)) ∧ wr.heap[w.heap.size]? = some (.cells #[.int .i64 0, .int .i64 0, .string ⟨#[]⟩, .slice none 0 0] 24 (0, 0)) ∧ n = acc.length ∧ Gr wr 24 4 ao n cp xs ∧ (∀ q, ao = some ⟨q, 0, none⟩ → w4.heap.size < q) ∧ VXs wr (fun q => w4.heap.size < q ∧ q < wr.heap.size ∧ ao ≠ some ⟨q, 0, none⟩) acc xs ∧ TAt wr b s a' false ∧ parL (parV g) fuel acc (s.drop a') = R ∧ (s.drop a').length < fuel ∧ acc.length ≤ a' ∧ Env b wr ∧ Only (fun k => k = b) w wr) (fun wr => s.length - atOf wr b)
  case atStart => exact ⟨a + 1, 0, 0, none, [], [], _, HV5.out, HZ5.out, rfl, Gr.nil, by simp, rfl, HT5.out, HR7.out, by simp; omega, by simp, HE5.out, HO5.out⟩
  case round =>
    obtain ⟨a', n, cp, ao, xs, acc, fuel, hvb, hzb, hn, hgr, hao, hvx, ht, hpl, hfu, hal, he, ho⟩ := hrel
    have HLVB := hid (blk_lt hvb)
    have HVB := hid hvb; have HZB := hid hzb; have HN := hid hn; have HGR := hid hgr; have HAO := hid hao; have HVX := hid hvx; have HT := hid ht; have HFU := hid hfu; have HALA := hid hal; have HEV := hid he; have HO := hid ho
    have HM : Hid (atOf wr b = a') := hid ht.atOf
    have hasl := ht.2.1
    have HASL := hid hasl
    have hnb : n ≤ 1000000000 := by have := HSL.out; omega
    obtain ⟨m, rfl⟩ : ∃ m, fuel = m + 1 := ⟨fuel - 1, by omega⟩
    rw [parL, get_drop, Nat.add_zero] at hpl
    have hsw := ho.size
    have HSW := hid hsw
    clear hvb hzb hn hgr hao hvx hfu hal he ho hasl hsw
    by_cases h93 : s[a']? = some 93
    · rw [if_pos h93, List.drop_drop] at hpl
      have HRF := hid hpl
      have HEA := hid (eat_yes ht 93 h93)
      clear hpl h93 ht
      go_wp2_with fail
      refine HEA.out.mono ?_
      rintro e w6 ⟨rfl, ht6, ho6⟩
      have HT6 := hid ht6
      have hv6 := blk_only HVB.out ho6 (by show ¬ w4.heap.size = b; have := HS34.out; omega)
      have HZ6 := hid (blk_only HZB.out ho6 (by show ¬ w.heap.size = b; omega))
      have HO6 := hid (HO.out.trans ho6 (fun _ _ e => e))
      have HG6 := hid (HGR.out.only ho6 (fun q hq e => by have := HAO.out q hq; have := HS34.out; have e' : q = b := e; omega))
      have HX6 := hid (HVX.out.only ho6 (fun q hq e => by have := hq.1; have := HS34.out; have e' : q = b := e; omega))
      have HS6 := hid ho6.size
      have v0 : w6.cell? ⟨w4.heap.size, 0, none⟩ = some (.int .i64 3) := cell_blk hv6 0
      have v1 : w6.cell? ⟨w4.heap.size, 1, none⟩ = some (.int .i64 0) := cell_blk hv6 1
      have v2 : w6.cell? ⟨w4.heap.size, 2, none⟩ = some (.string ⟨#[]⟩) := cell_blk hv6 2
      have v3 : w6.cell? ⟨w4.heap.size, 3, none⟩ = some (.slice ao n cp) := cell_blk hv6 3
      clear hv6 ht6 ho6 HEA
      go_wp2_with (refine wpList_store_all rfl 24 (.tmp 4) (.tmp 82) rfl w.heap.size #[.int .i64 3, .int .i64 0, .string ⟨#[]⟩, .slice ao n cp] rfl rfl #[.int .i64 0, .int .i64 0, .string ⟨#[]⟩, .slice none 0 0] 24 HZ6.out rfl info_val (val_one _ _ _ _ _ _) ?_; intro w9 hb9 ho9 hs9; have HB9 := hid hb9; have HO9 := hid ho9; have HS9 := hid hs9; clear hb9 ho9 hs9)
      refine bodyPost_ret (results_cell1 rfl _ _ w.heap.size 24 #[.int .i64 3, .int .i64 0, .string ⟨#[]⟩, .slice ao n cp] (0, 0) _ rfl HB9.out Tryz.underlying24 rfl info_val) rfl ?_
      unfold ValA
      rw [← HRF.out]
      refine ⟨⟨_, rfl, ?_, ?_⟩, HO6.out.trans HO9.out (fun k hk e => by have e' : k = w.heap.size := e; omega)⟩
      · show VAt w9 (New w w9) (.mk 3 0 [] acc) _
        rw [VAt]
        have hs9 := HS9.out
        rcases Nat.eq_zero_or_pos acc.length with h0 | h0
        · have h0' := List.eq_nil_of_length_eq_zero h0
          exact ⟨ao, cp, 0, 0, by rw [HN.out]; rfl, fun e => absurd h0' e, by rw [h0', VLs]; trivial⟩
        · obtain ⟨q, hq, hcells⟩ := HG6.out.cells (by have := HN.out; omega)
          have hq3 := HAO.out q hq
          have hql := HG6.out.lt hq
          have hs34 := HS34.out
          have hsw := HSW.out
          have hs6 := HS6.out
          refine ⟨ao, cp, q, 0, by rw [HN.out]; rfl, fun _ => ⟨hq, by omega, by omega⟩, ?_⟩
          have hv := (HX6.out.only HO9.out (fun i hi e => by have e' : i = w.heap.size := e; have := hi.1; omega)).mono (G' := New w w9) (fun i hi => ⟨by have := hi.1; omega, by have := hi.2.1; omega⟩)
          exact hv.ls (fun i u hu => by
            rw [Nat.zero_add, ← hcells i u hu]
            exact World.cell?_of_block (HO9.out.block q hql (by show ¬ q = w.heap.size; omega)))
      · have h := HT6.out.only HO9.out (show ¬ b = w.heap.size by omega)
        have e : s.length - (s.drop (a' + 1)).length = a' + 1 := by rw [List.length_drop]; have := HT6.out.2.1; omega
        show TAt w9 b s (s.length - (s.drop (a' + 1)).length) false
        rw [e]; exact h
    rw [if_neg h93] at hpl
    have HEA := hid (eat_no ht 93 h93)
    have HPL0 := hid hpl
    clear hpl h93 ht
    by_cases hacc : acc = []
    · have hn0 : n = 0 := by have := HN.out; rw [hacc] at this; exact this
      have hnn : ¬ (0 : Int) < n := by omega
      have hnn2 : ¬ 0 < n := by omega
      clear hn0
      have HPL := HPL0.out
      rw [if_neg (by simp [hacc]), if_neg (by simp [hacc])] at HPL
      have HPL := hid HPL
      clear HPL0 hacc
      go_wp2_with fail
      refine HEA.out.mono ?_
      rintro e w6 ⟨rfl, ht6, ho6⟩
      have HT6 := hid ht6
      have HV6 := hid (blk_only HVB.out ho6 (fun e => e))
      have HZ6 := hid (blk_only HZB.out ho6 (fun e => e))
      have HX6 := hid (ho6.mono (G := fun k => k = b) (fun _ _ e => e.elim))
      have HE6 := hid (HEV.out.same ho6)
      have hv6 := HV6.out
      have v0 : w6.cell? ⟨w4.heap.size, 0, none⟩ = some (.int .i64 3) := cell_blk hv6 0
      have v1 : w6.cell? ⟨w4.heap.size, 1, none⟩ = some (.int .i64 0) := cell_blk hv6 1
      have v2 : w6.cell? ⟨w4.heap.size, 2, none⟩ = some (.string ⟨#[]⟩) := cell_blk hv6 2
      have v3 : w6.cell? ⟨w4.heap.size, 3, none⟩ = some (.slice ao n cp) := cell_blk hv6 3
      clear hv6 ht6 ho6 HEA
      have hA2 : Calls Tryz.prog 17 #[.pointer (some ⟨b, 0, none⟩), .int .i64 ((d : Int) + 1)] w6 (ValA w6 b s (parV g (s.drop a'))) := HIH.out g rfl (d + 1) w6 b s (a') (by have := HD.out; omega) HT6.out HE6.out
      have hres := fun t r => parV_rest g (s.drop (a')) false t r
      obtain ⟨pr, hpr⟩ : ∃ pr, parV g (s.drop (a')) = pr := ⟨_, rfl⟩
      rw [hpr] at hA2
      simp only [hpr] at hres
      have hpl2 := HPL.out
      rw [hpr] at hpl2
      have HC := hid hA2; have HRS := hid hres; have HDT := hid hpr
      have hdi : (d : Int) ≤ 8 := by have := HD.out; omega
      clear hA2 hres hpr
      obtain ⟨dd, o⟩ := pr
      cases o with
      | none =>
        have HRF : Hid ((dd, none) = R) := hid hpl2
        clear hpl2
        go_wp2_with fail
        refine HC.out.mono ?_
        rintro e w8 ⟨⟨kk, nn, ss, aa, mm, cc, a8, rfl, ht8⟩, ho8⟩
        have HT8 := hid (ht8.same (only_new w8 (.cells #[.int .i64 kk, .int .i64 nn, .string (strOf ss), .slice aa mm cc] 24)))
        have HO8 := hid ((HO.out.trans (HX6.out.trans ho8 (fun _ _ e => e)) (fun _ _ e => e)).trans ((only_new w8 (.cells #[.int .i64 kk, .int .i64 nn, .string (strOf ss), .slice aa mm cc] 24)).mono (fun _ _ e => e.elim)) (fun _ _ e => e))
        have HZ8 := hid (blk_alloc (o' := .cells #[.int .i64 kk, .int .i64 nn, .string (strOf ss), .slice aa mm cc] 24) (blk_only HZ6.out ho8 (by show ¬ w.heap.size = b; omega)))
        have hv8 := blk_only HV6.out ho8 (by show ¬ w4.heap.size = b; have := HS34.out; omega)
        have v0 : w8.cell? ⟨w4.heap.size, 0, none⟩ = some (.int .i64 3) := cell_blk hv8 0
        have v1 : w8.cell? ⟨w4.heap.size, 1, none⟩ = some (.int .i64 0) := cell_blk hv8 1
        have v2 : w8.cell? ⟨w4.heap.size, 2, none⟩ = some (.string ⟨#[]⟩) := cell_blk hv8 2
        have v3 : w8.cell? ⟨w4.heap.size, 3, none⟩ = some (.slice ao n cp) := cell_blk hv8 3
        have hlv8 := blk_lt hv8
        clear hv8 ht8 ho8 HC
        go_wp2_with (refine wpList_store_all rfl 24 (.tmp 4) (.tmp 75) rfl w.heap.size #[.int .i64 3, .int .i64 0, .string ⟨#[]⟩, .slice ao n cp] rfl rfl #[.int .i64 0, .int .i64 0, .string ⟨#[]⟩, .slice none 0 0] 24 HZ8.out rfl info_val (val_one _ _ _ _ _ _) ?_; intro w9 hb9 ho9 hs9; have HB9 := hid hb9; have HO9 := hid ho9; have HS9 := hid hs9; clear hb9 ho9 hs9)
        refine bodyPost_ret (results_cell1 rfl _ _ w.heap.size 24 #[.int .i64 3, .int .i64 0, .string ⟨#[]⟩, .slice ao n cp] (0, 0) _ rfl HB9.out Tryz.underlying24 rfl info_val) rfl ?_
        unfold ValA
        rw [← HRF.out]
        exact ⟨⟨_, _, [], _, _, _, _, rfl, HT8.out.only HO9.out (by show ¬ b = w.heap.size; omega)⟩, HO8.out.trans HO9.out (fun k hk e => by have e' : k = w.heap.size := e; omega)⟩
      | some x =>
        obtain ⟨t8, r8⟩ := x
        have HRF : Hid (parL (parV g) m (acc ++ [t8]) r8 = R) := hid hpl2
        clear hpl2
        have hdd : dd = false → ∃ k, 1 ≤ k ∧ k ≤ (s.drop (a')).length ∧ r8 = (s.drop (a')).drop k := fun e => HRS.out t8 r8 (by rw [e])
        have HDD := hid hdd
        clear hdd
        go_wp2_with fail
        refine HC.out.mono ?_
        rintro e w8 ⟨⟨cs8, rfl, hv8, ht8⟩, ho8⟩
        obtain ⟨kk, nn, ss, aa, mm, cc, rfl⟩ := hv8.form
        have HT8 := hid ht8
        have HO68 := hid (HX6.out.trans ho8 (fun _ _ e => e))
        have HZ8 := hid (blk_only HZ6.out ho8 (by show ¬ w.heap.size = b; omega))
        have HV8 := hid (blk_only HV6.out ho8 (by show ¬ w4.heap.size = b; have := HS34.out; omega))
        have HE8 := hid (HE6.out.step ho8)
        have HCW : Hid (wr.heap.size ≤ w6.heap.size) := hid HX6.out.size
        have HX8 := hid hv8
        have hs8 := HO68.out.size
        have hs68 := ho8.size
        have HS68 := hid hs68
        have hv8' := HV8.out
        have u0 : w8.cell? ⟨w4.heap.size, 0, none⟩ = some (.int .i64 3) := cell_blk hv8' 0
        have u1 : w8.cell? ⟨w4.heap.size, 1, none⟩ = some (.int .i64 0) := cell_blk hv8' 1
        have u2 : w8.cell? ⟨w4.heap.size, 2, none⟩ = some (.string ⟨#[]⟩) := cell_blk hv8' 2
        have u3 : w8.cell? ⟨w4.heap.size, 3, none⟩ = some (.slice ao n cp) := cell_blk hv8' 3
        have hlv8 := blk_lt hv8'
        have HLV8 := hid hlv8
        obtain ⟨k8, hk1, hk2, hk3⟩ := HDD.out (by
          cases hdb : dd with
          | false => rfl
          | true => exact absurd HDT.out (by rw [hdb]; exact parV_tt g _ t8 r8))
        rw [List.length_drop] at hk2
        rw [List.drop_drop] at hk3
        have hr8 : s.length - r8.length = a' + k8 := by rw [hk3, List.length_drop]; omega
        rw [hr8] at HT8
        rw [hk3] at HRF
        have HK1 := hid hk1; have HK2 := hid hk2
        have hbn : ((w8.alloc (.cells #[.int .i64 kk, .int .i64 nn, .string (strOf ss), .slice aa mm cc] 24)).alloc (.cells #[.int .i64 kk, .int .i64 nn, .string (strOf ss), .slice aa mm cc] 24)).heap[w8.heap.size + 1]? = some (.cells #[.int .i64 kk, .int .i64 nn, .string (strOf ss), .slice aa mm cc] 24) := by
          have := blk_new (w8.alloc (.cells #[.int .i64 kk, .int .i64 nn, .string (strOf ss), .slice aa mm cc] 24)) (.cells #[.int .i64 kk, .int .i64 nn, .string (strOf ss), .slice aa mm cc] 24)
          rw [World.size_alloc] at this
          exact this
        have HBN := hid hbn
        clear hbn
        clear hv8 hv8' ht8 ho8 HC hk3 hr8 hk1 hk2 HDD
        go_wp2_with (refine wpList_gr (o := ⟨some 80, _, _, _, _, _⟩) rfl elV (.tmp 77) (.tmp 79) rfl (HGR.out.only (HO68.out.trans (((only_new w8 _).trans (only_new _ _) (fun _ _ e => e)).mono (fun _ _ e => e.elim)) (fun _ _ e => e)) (fun q hq e => by have := HAO.out q hq; have := HS34.out; have e' : q = b := e; omega)) rfl (some ⟨w8.heap.size + 1, 0, none⟩) 1 1 rfl [.int .i64 kk, .int .i64 nn, .string (strOf ss), .slice aa mm cc] (SrcG.new HBN.out rfl HX8.out.one) (by omega) (by omega) ?_; intro ao' cp' w9 hg9 ha9 ho9; have hb9 := blk_only (blk_alloc (blk_alloc HV8.out)) ho9 (fun e => by have := HAO.out _ e; omega); have s3 : w9.cell? ⟨w4.heap.size, 3, none⟩ = some (.slice ao n cp) := cell_blk hb9 3; have z9 : ∀ i, w9.frozen? ⟨w4.heap.size, i, none⟩ = false := frozen_blk hb9; have HG9 := hid hg9; have HA9 := hid ha9; have HO9 := hid ho9; have HB9 := hid hb9; clear hg9 ha9 ho9 hb9)
        go_roundw
        case rel =>
          have hs9 := HO9.out.size
          simp only [World.size_alloc] at hs9
          have hs34 := HS34.out
          have hlv := HLV8.out
          have hal2 : Only (fun k => k = b) wr ((w8.alloc (.cells #[.int .i64 kk, .int .i64 nn, .string (strOf ss), .slice aa mm cc] 24)).alloc (.cells #[.int .i64 kk, .int .i64 nn, .string (strOf ss), .slice aa mm cc] 24)) := HO68.out.trans (((only_new w8 (.cells #[.int .i64 kk, .int .i64 nn, .string (strOf ss), .slice aa mm cc] 24)).trans (only_new _ (.cells #[.int .i64 kk, .int .i64 nn, .string (strOf ss), .slice aa mm cc] 24)) (fun _ _ e => e)).mono (fun _ _ e => e.elim)) (fun _ _ e => e)
          have ho89 : Only (fun k => k = b ∨ ao = some ⟨k, 0, none⟩ ∨ k = w4.heap.size) wr (w9.setCell ⟨w4.heap.size, 3, none⟩ (.slice ao' (n + 1) cp')) := ((hal2.mono (fun _ _ e => .inl e)).trans HO9.out (fun _ _ e => .inr (.inl e))).trans (only_set _ _ _) (fun _ _ e => .inr (.inr e))
          have ho8f : Only (fun k => ao = some ⟨k, 0, none⟩ ∨ k = w4.heap.size) w8 (w9.setCell ⟨w4.heap.size, 3, none⟩ (.slice ao' (n + 1) cp')) := ((((only_new w8 (.cells #[.int .i64 kk, .int .i64 nn, .string (strOf ss), .slice aa mm cc] 24)).trans (only_new _ (.cells #[.int .i64 kk, .int .i64 nn, .string (strOf ss), .slice aa mm cc] 24)) (fun _ _ e => e)).mono (fun _ _ e => e.elim)).trans HO9.out (fun _ _ e => .inl e)).trans (only_set _ _ _) (fun _ _ e => .inr e)
          have hsf : (w9.setCell ⟨w4.heap.size, 3, none⟩ (.slice ao' (n + 1) cp')).heap.size = w9.heap.size := by simp
          have hao' : ∀ q, ao' = some ⟨q, 0, none⟩ → (ao = some ⟨q, 0, none⟩ ∨ q = w8.heap.size + 2) := fun q hq => by
            rcases HA9.out with e | e
            · exact .inl (by rw [← e]; exact hq)
            · rw [hq] at e; simp only [Option.some.injEq, Addr.mk.injEq, and_true, World.size_alloc] at e; exact .inr (by omega)
          have hsw := HSW.out
          have hsr := HO68.out.size
          have hof : Only (fun k => k = b) w (w9.setCell ⟨w4.heap.size, 3, none⟩ (.slice ao' (n + 1) cp')) := HO.out.trans ho89 (fun k hk e => by
            rcases e with e | e | e
            · exact e
            · have := HAO.out _ e; omega
            · omega)
          refine ⟨a' + k8, (n + 1), cp', ao', _, acc ++ [t8], m, ?_, ?_, by have := HN.out; rw [List.length_append]; simp; omega, HG9.out.only (only_set _ _ _) (fun q hq e => ?_), fun q hq => ?_, ?_, ?_, HRF.out, ?_, ?_, HEW.out.step hof, hof⟩
          · have := blk_set HB9.out 3 (.slice ao' (n + 1) cp')
            simpa using this
          · exact blk_only HZB.out ho89 (fun e => by
              rcases e with e | e | e
              · omega
              · have := HAO.out _ e; omega
              · omega)
          · have e' : q = w4.heap.size := e
            rcases hao' q hq with h | h
            · have := HAO.out q h; omega
            · omega
          · rcases hao' q hq with h | h
            · exact HAO.out q h
            · omega
          · refine VXs.snoc ?_ ((HVX.out.only ho89 (fun i hi e => ?_)).mono (fun i hi => ⟨hi.1, ?_, fun e => ?_⟩))
            · refine (HX8.out.only ho8f (fun i hi e => ?_)).mono (fun i hi => ⟨?_, ?_, fun e => ?_⟩)
              · have h1 := hi.1
                have h3 := HCW.out
                have h5 := HLVB.out
                rcases e with e | e
                · have := HGR.out.lt e; omega
                · omega
              · have h1 := hi.1; have h3 := HCW.out; have h5 := HLVB.out; omega
              · have h2 := hi.2; omega
              · have h1 := hi.1
                have h2 := hi.2
                have h3 := HCW.out
                rcases hao' i e with h | h
                · have := HGR.out.lt h; omega
                · omega
            · rcases e with e | e | e
              · have := hi.1; omega
              · exact hi.2.2 e
              · have := hi.1; omega
            · have := hi.2.1; omega
            · rcases hao' i e with h | h
              · exact hi.2.2 h
              · have := hi.2.1; omega
          · exact HT8.out.only ho8f (fun e => by
              rcases e with e | e
              · have := HAO.out _ e; omega
              · omega)
          · have h1 := HFU.out
            have h2 := HK1.out
            rw [List.length_drop] at h1 ⊢
            have := HASL.out; have := HK2.out; omega
          · have := HALA.out; have := HK1.out; rw [List.length_append]; simp; omega
        case measure =>
          have hs34 := HS34.out
          have e1 := (HT8.out.only (((((only_new w8 (.cells #[.int .i64 kk, .int .i64 nn, .string (strOf ss), .slice aa mm cc] 24)).trans (only_new _ (.cells #[.int .i64 kk, .int .i64 nn, .string (strOf ss), .slice aa mm cc] 24)) (fun _ _ e => e)).mono (fun _ _ e => e.elim)).trans HO9.out (fun _ _ e => .inl e)).trans (only_set w4.heap.size 3 (.slice ao' (n + 1) cp')) (fun _ _ e => .inr e) : Only (fun k => ao = some ⟨k, 0, none⟩ ∨ k = w4.heap.size) w8 _) (fun e => by
              rcases e with e | e
              · have := HAO.out _ e; omega
              · omega)).atOf
          have e2 := HM.out
          have e3 := HK1.out
          have e4 := HK2.out
          have e5 := HASL.out
          rw [e1, e2]; omega
    · have hnp : (0 : Int) < n := by have := HN.out; have := List.length_pos_iff.2 hacc; omega
      have hnp2 : 0 < n := by omega
      by_cases h32 : s[a']? = some 32
      · have HPL := HPL0.out
        rw [if_neg (fun h => h.2 h32), if_pos hacc, List.drop_drop] at HPL
        have HPL := hid HPL
        clear HPL0 hacc
        go_wp2_with fail
        refine HEA.out.mono ?_
        rintro e w6 ⟨rfl, ht6, ho6⟩
        have HEB := hid (eat_yes ht6 32 h32)
        have HV6 := hid (blk_only HVB.out ho6 (fun e => e))
        have HZ6 := hid (blk_only HZB.out ho6 (fun e => e))
        have HX6 := hid (ho6.mono (G := fun k => k = b) (fun _ _ e => e.elim))
        have HE6 := hid (HEV.out.same ho6)
        have hv6 := HV6.out
        have v0 : w6.cell? ⟨w4.heap.size, 0, none⟩ = some (.int .i64 3) := cell_blk hv6 0
        have v1 : w6.cell? ⟨w4.heap.size, 1, none⟩ = some (.int .i64 0) := cell_blk hv6 1
        have v2 : w6.cell? ⟨w4.heap.size, 2, none⟩ = some (.string ⟨#[]⟩) := cell_blk hv6 2
        have v3 : w6.cell? ⟨w4.heap.size, 3, none⟩ = some (.slice ao n cp) := cell_blk hv6 3
        clear hv6 ht6 ho6 HEA h32
        go_wp2_with fail
        refine HEB.out.mono ?_
        rintro e w7 ⟨rfl, ht7, ho7⟩
        have HT7 := hid ht7
        have HV7 := hid (blk_only HV6.out ho7 (by show ¬ w4.heap.size = b; have := HS34.out; omega))
        have HZ7 := hid (blk_only HZ6.out ho7 (by show ¬ w.heap.size = b; omega))
        have HX7 := hid (HX6.out.trans ho7 (fun _ _ e => e))
        have HE7 := hid (HE6.out.step ho7)
        have hv7 := HV7.out
        clear v0 v1 v2 v3
        have v0 : w7.cell? ⟨w4.heap.size, 0, none⟩ = some (.int .i64 3) := cell_blk hv7 0
        have v1 : w7.cell? ⟨w4.heap.size, 1, none⟩ = some (.int .i64 0) := cell_blk hv7 1
        have v2 : w7.cell? ⟨w4.heap.size, 2, none⟩ = some (.string ⟨#[]⟩) := cell_blk hv7 2
        have v3 : w7.cell? ⟨w4.heap.size, 3, none⟩ = some (.slice ao n cp) := cell_blk hv7 3
        clear hv7 ht7 ho7 HEB
        have hA2 : Calls Tryz.prog 17 #[.pointer (some ⟨b, 0, none⟩), .int .i64 ((d : Int) + 1)] w7 (ValA w7 b s (parV g (s.drop (a' + 1)))) := HIH.out g rfl (d + 1) w7 b s ((a' + 1)) (by have := HD.out; omega) HT7.out HE7.out
        have hres := fun t r => parV_rest g (s.drop ((a' + 1))) false t r
        obtain ⟨pr, hpr⟩ : ∃ pr, parV g (s.drop ((a' + 1))) = pr := ⟨_, rfl⟩
        rw [hpr] at hA2
        simp only [hpr] at hres
        have hpl2 := HPL.out
        rw [hpr] at hpl2
        have HC := hid hA2; have HRS := hid hres; have HDT := hid hpr
        have hdi : (d : Int) ≤ 8 := by have := HD.out; omega
        clear hA2 hres hpr
        obtain ⟨dd, o⟩ := pr
        cases o with
        | none =>
          have HRF : Hid ((dd, none) = R) := hid hpl2
          clear hpl2
          go_wp2_with fail
          refine HC.out.mono ?_
          rintro e w8 ⟨⟨kk, nn, ss, aa, mm, cc, a8, rfl, ht8⟩, ho8⟩
          have HT8 := hid (ht8.same (only_new w8 (.cells #[.int .i64 kk, .int .i64 nn, .string (strOf ss), .slice aa mm cc] 24)))
          have HO8 := hid ((HO.out.trans (HX7.out.trans ho8 (fun _ _ e => e)) (fun _ _ e => e)).trans ((only_new w8 (.cells #[.int .i64 kk, .int .i64 nn, .string (strOf ss), .slice aa mm cc] 24)).mono (fun _ _ e => e.elim)) (fun _ _ e => e))
          have HZ8 := hid (blk_alloc (o' := .cells #[.int .i64 kk, .int .i64 nn, .string (strOf ss), .slice aa mm cc] 24) (blk_only HZ7.out ho8 (by show ¬ w.heap.size = b; omega)))
          have hv8 := blk_only HV7.out ho8 (by show ¬ w4.heap.size = b; have := HS34.out; omega)
          have v0 : w8.cell? ⟨w4.heap.size, 0, none⟩ = some (.int .i64 3) := cell_blk hv8 0
          have v1 : w8.cell? ⟨w4.heap.size, 1, none⟩ = some (.int .i64 0) := cell_blk hv8 1
          have v2 : w8.cell? ⟨w4.heap.size, 2, none⟩ = some (.string ⟨#[]⟩) := cell_blk hv8 2
          have v3 : w8.cell? ⟨w4.heap.size, 3, none⟩ = some (.slice ao n cp) := cell_blk hv8 3
          have hlv8 := blk_lt hv8
          clear hv8 ht8 ho8 HC
          go_wp2_with (refine wpList_store_all rfl 24 (.tmp 4) (.tmp 75) rfl w.heap.size #[.int .i64 3, .int .i64 0, .string ⟨#[]⟩, .slice ao n cp] rfl rfl #[.int .i64 0, .int .i64 0, .string ⟨#[]⟩, .slice none 0 0] 24 HZ8.out rfl info_val (val_one _ _ _ _ _ _) ?_; intro w9 hb9 ho9 hs9; have HB9 := hid hb9; have HO9 := hid ho9; have HS9 := hid hs9; clear hb9 ho9 hs9)
          refine bodyPost_ret (results_cell1 rfl _ _ w.heap.size 24 #[.int .i64 3, .int .i64 0, .string ⟨#[]⟩, .slice ao n cp] (0, 0) _ rfl HB9.out Tryz.underlying24 rfl info_val) rfl ?_
          unfold ValA
          rw [← HRF.out]
          exact ⟨⟨_, _, [], _, _, _, _, rfl, HT8.out.only HO9.out (by show ¬ b = w.heap.size; omega)⟩, HO8.out.trans HO9.out (fun k hk e => by have e' : k = w.heap.size := e; omega)⟩
        | some x =>
          obtain ⟨t8, r8⟩ := x
          have HRF : Hid (parL (parV g) m (acc ++ [t8]) r8 = R) := hid hpl2
          clear hpl2
          have hdd : dd = false → ∃ k, 1 ≤ k ∧ k ≤ (s.drop ((a' + 1))).length ∧ r8 = (s.drop ((a' + 1))).drop k := fun e => HRS.out t8 r8 (by rw [e])
          have HDD := hid hdd
          clear hdd
          go_wp2_with fail
          refine HC.out.mono ?_
          rintro e w8 ⟨⟨cs8, rfl, hv8, ht8⟩, ho8⟩
          obtain ⟨kk, nn, ss, aa, mm, cc, rfl⟩ := hv8.form
          have HT8 := hid ht8
          have HO68 := hid (HX7.out.trans ho8 (fun _ _ e => e))
          have HZ8 := hid (blk_only HZ7.out ho8 (by show ¬ w.heap.size = b; omega))
          have HV8 := hid (blk_only HV7.out ho8 (by show ¬ w4.heap.size = b; have := HS34.out; omega))
          have HE8 := hid (HE7.out.step ho8)
          have HCW : Hid (wr.heap.size ≤ w7.heap.size) := hid HX7.out.size
          have HX8 := hid hv8
          have hs8 := HO68.out.size
          have hs68 := ho8.size
          have HS68 := hid hs68
          have hv8' := HV8.out
          have u0 : w8.cell? ⟨w4.heap.size, 0, none⟩ = some (.int .i64 3) := cell_blk hv8' 0
          have u1 : w8.cell? ⟨w4.heap.size, 1, none⟩ = some (.int .i64 0) := cell_blk hv8' 1
          have u2 : w8.cell? ⟨w4.heap.size, 2, none⟩ = some (.string ⟨#[]⟩) := cell_blk hv8' 2
          have u3 : w8.cell? ⟨w4.heap.size, 3, none⟩ = some (.slice ao n cp) := cell_blk hv8' 3
          have hlv8 := blk_lt hv8'
          have HLV8 := hid hlv8
          obtain ⟨k8, hk1, hk2, hk3⟩ := HDD.out (by
            cases hdb : dd with
            | false => rfl
            | true => exact absurd HDT.out (by rw [hdb]; exact parV_tt g _ t8 r8))
          rw [List.length_drop] at hk2
          rw [List.drop_drop] at hk3
          have hr8 : s.length - r8.length = (a' + 1) + k8 := by rw [hk3, List.length_drop]; omega
          rw [hr8] at HT8
          rw [hk3] at HRF
          have HK1 := hid hk1; have HK2 := hid hk2
          have hbn : ((w8.alloc (.cells #[.int .i64 kk, .int .i64 nn, .string (strOf ss), .slice aa mm cc] 24)).alloc (.cells #[.int .i64 kk, .int .i64 nn, .string (strOf ss), .slice aa mm cc] 24)).heap[w8.heap.size + 1]? = some (.cells #[.int .i64 kk, .int .i64 nn, .string (strOf ss), .slice aa mm cc] 24) := by
            have := blk_new (w8.alloc (.cells #[.int .i64 kk, .int .i64 nn, .string (strOf ss), .slice aa mm cc] 24)) (.cells #[.int .i64 kk, .int .i64 nn, .string (strOf ss), .slice aa mm cc] 24)
            rw [World.size_alloc] at this
            exact this
          have HBN := hid hbn
          clear hbn
          clear hv8 hv8' ht8 ho8 HC hk3 hr8 hk1 hk2 HDD
          go_wp2_with (refine wpList_gr (o := ⟨some 80, _, _, _, _, _⟩) rfl elV (.tmp 77) (.tmp 79) rfl (HGR.out.only (HO68.out.trans (((only_new w8 _).trans (only_new _ _) (fun _ _ e => e)).mono (fun _ _ e => e.elim)) (fun _ _ e => e)) (fun q hq e => by have := HAO.out q hq; have := HS34.out; have e' : q = b := e; omega)) rfl (some ⟨w8.heap.size + 1, 0, none⟩) 1 1 rfl [.int .i64 kk, .int .i64 nn, .string (strOf ss), .slice aa mm cc] (SrcG.new HBN.out rfl HX8.out.one) (by omega) (by omega) ?_; intro ao' cp' w9 hg9 ha9 ho9; have hb9 := blk_only (blk_alloc (blk_alloc HV8.out)) ho9 (fun e => by have := HAO.out _ e; omega); have s3 : w9.cell? ⟨w4.heap.size, 3, none⟩ = some (.slice ao n cp) := cell_blk hb9 3; have z9 : ∀ i, w9.frozen? ⟨w4.heap.size, i, none⟩ = false := frozen_blk hb9; have HG9 := hid hg9; have HA9 := hid ha9; have HO9 := hid ho9; have HB9 := hid hb9; clear hg9 ha9 ho9 hb9)
          go_roundw
          case rel =>
            have hs9 := HO9.out.size
            simp only [World.size_alloc] at hs9
            have hs34 := HS34.out
            have hlv := HLV8.out
            have hal2 : Only (fun k => k = b) wr ((w8.alloc (.cells #[.int .i64 kk, .int .i64 nn, .string (strOf ss), .slice aa mm cc] 24)).alloc (.cells #[.int .i64 kk, .int .i64 nn, .string (strOf ss), .slice aa mm cc] 24)) := HO68.out.trans (((only_new w8 (.cells #[.int .i64 kk, .int .i64 nn, .string (strOf ss), .slice aa mm cc] 24)).trans (only_new _ (.cells #[.int .i64 kk, .int .i64 nn, .string (strOf ss), .slice aa mm cc] 24)) (fun _ _ e => e)).mono (fun _ _ e => e.elim)) (fun _ _ e => e)
            have ho89 : Only (fun k => k = b ∨ ao = some ⟨k, 0, none⟩ ∨ k = w4.heap.size) wr (w9.setCell ⟨w4.heap.size, 3, none⟩ (.slice ao' (n + 1) cp')) := ((hal2.mono (fun _ _ e => .inl e)).trans HO9.out (fun _ _ e => .inr (.inl e))).trans (only_set _ _ _) (fun _ _ e => .inr (.inr e))
            have ho8f : Only (fun k => ao = some ⟨k, 0, none⟩ ∨ k = w4.heap.size) w8 (w9.setCell ⟨w4.heap.size, 3, none⟩ (.slice ao' (n + 1) cp')) := ((((only_new w8 (.cells #[.int .i64 kk, .int .i64 nn, .string (strOf ss), .slice aa mm cc] 24)).trans (only_new _ (.cells #[.int .i64 kk, .int .i64 nn, .string (strOf ss), .slice aa mm cc] 24)) (fun _ _ e => e)).mono (fun _ _ e => e.elim)).trans HO9.out (fun _ _ e => .inl e)).trans (only_set _ _ _) (fun _ _ e => .inr e)
            have hsf : (w9.setCell ⟨w4.heap.size, 3, none⟩ (.slice ao' (n + 1) cp')).heap.size = w9.heap.size := by simp
            have hao' : ∀ q, ao' = some ⟨q, 0, none⟩ → (ao = some ⟨q, 0, none⟩ ∨ q = w8.heap.size + 2) := fun q hq => by
              rcases HA9.out with e | e
              · exact .inl (by rw [← e]; exact hq)
              · rw [hq] at e; simp only [Option.some.injEq, Addr.mk.injEq, and_true, World.size_alloc] at e; exact .inr (by omega)
            have hsw := HSW.out
            have hsr := HO68.out.size
            have hof : Only (fun k => k = b) w (w9.setCell ⟨w4.heap.size, 3, none⟩ (.slice ao' (n + 1) cp')) := HO.out.trans ho89 (fun k hk e => by
              rcases e with e | e | e
              · exact e
              · have := HAO.out _ e; omega
              · omega)
            refine ⟨(a' + 1) + k8, (n + 1), cp', ao', _, acc ++ [t8], m, ?_, ?_, by have := HN.out; rw [List.length_append]; simp; omega, HG9.out.only (only_set _ _ _) (fun q hq e => ?_), fun q hq => ?_, ?_, ?_, HRF.out, ?_, ?_, HEW.out.step hof, hof⟩
            · have := blk_set HB9.out 3 (.slice ao' (n + 1) cp')
              simpa using this
            · exact blk_only HZB.out ho89 (fun e => by
                rcases e with e | e | e
                · omega
                · have := HAO.out _ e; omega
                · omega)
            · have e' : q = w4.heap.size := e
              rcases hao' q hq with h | h
              · have := HAO.out q h; omega
              · omega
            · rcases hao' q hq with h | h
              · exact HAO.out q h
              · omega
            · refine VXs.snoc ?_ ((HVX.out.only ho89 (fun i hi e => ?_)).mono (fun i hi => ⟨hi.1, ?_, fun e => ?_⟩))
              · refine (HX8.out.only ho8f (fun i hi e => ?_)).mono (fun i hi => ⟨?_, ?_, fun e => ?_⟩)
                · have h1 := hi.1
                  have h3 := HCW.out
                  have h5 := HLVB.out
                  rcases e with e | e
                  · have := HGR.out.lt e; omega
                  · omega
                · have h1 := hi.1; have h3 := HCW.out; have h5 := HLVB.out; omega
                · have h2 := hi.2; omega
                · have h1 := hi.1
                  have h2 := hi.2
                  have h3 := HCW.out
                  rcases hao' i e with h | h
                  · have := HGR.out.lt h; omega
                  · omega
              · rcases e with e | e | e
                · have := hi.1; omega
                · exact hi.2.2 e
                · have := hi.1; omega
              · have := hi.2.1; omega
              · rcases hao' i e with h | h
                · exact hi.2.2 h
                · have := hi.2.1; omega
            · exact HT8.out.only ho8f (fun e => by
                rcases e with e | e
                · have := HAO.out _ e; omega
                · omega)
            · have h1 := HFU.out
              have h2 := HK1.out
              rw [List.length_drop] at h1 ⊢
              have := HASL.out; have := HK2.out; omega
            · have := HALA.out; have := HK1.out; rw [List.length_append]; simp; omega
          case measure =>
            have hs34 := HS34.out
            have e1 := (HT8.out.only (((((only_new w8 (.cells #[.int .i64 kk, .int .i64 nn, .string (strOf ss), .slice aa mm cc] 24)).trans (only_new _ (.cells #[.int .i64 kk, .int .i64 nn, .string (strOf ss), .slice aa mm cc] 24)) (fun _ _ e => e)).mono (fun _ _ e => e.elim)).trans HO9.out (fun _ _ e => .inl e)).trans (only_set w4.heap.size 3 (.slice ao' (n + 1) cp')) (fun _ _ e => .inr e) : Only (fun k => ao = some ⟨k, 0, none⟩ ∨ k = w4.heap.size) w8 _) (fun e => by
                rcases e with e | e
                · have := HAO.out _ e; omega
                · omega)).atOf
            have e2 := HM.out
            have e3 := HK1.out
            have e4 := HK2.out
            have e5 := HASL.out
            rw [e1, e2]; omega
      · have HPL := HPL0.out
        rw [if_pos ⟨hacc, h32⟩] at HPL
        have HRF := hid HPL
        clear HPL HPL0 hacc
        go_wp2_with fail
        refine HEA.out.mono ?_
        rintro e w6 ⟨rfl, ht6, ho6⟩
        have HEB := hid (eat_no ht6 32 h32)
        have HV6 := hid (blk_only HVB.out ho6 (fun e => e))
        have HZ6 := hid (blk_only HZB.out ho6 (fun e => e))
        have HX6 := hid (HO.out.trans (ho6.mono (G := fun k => k = b) (fun _ _ e => e.elim)) (fun _ _ e => e))
        have hv6 := HV6.out
        have v0 : w6.cell? ⟨w4.heap.size, 0, none⟩ = some (.int .i64 3) := cell_blk hv6 0
        have v1 : w6.cell? ⟨w4.heap.size, 1, none⟩ = some (.int .i64 0) := cell_blk hv6 1
        have v2 : w6.cell? ⟨w4.heap.size, 2, none⟩ = some (.string ⟨#[]⟩) := cell_blk hv6 2
        have v3 : w6.cell? ⟨w4.heap.size, 3, none⟩ = some (.slice ao n cp) := cell_blk hv6 3
        clear hv6 ht6 ho6 HEA h32
        go_wp2_with fail
        refine HEB.out.mono ?_
        rintro e w7 ⟨rfl, ht7, ho7⟩
        have HT7 := hid ht7
        have hv7 := blk_only HV6.out ho7 (fun e => e)
        have HZ7 := hid (blk_only HZ6.out ho7 (fun e => e))
        have HX7 := hid (HX6.out.trans (ho7.mono (fun _ _ e => e.elim)) (fun _ _ e => e))
        clear v0 v1 v2 v3
        have v0 : w7.cell? ⟨w4.heap.size, 0, none⟩ = some (.int .i64 3) := cell_blk hv7 0
        have v1 : w7.cell? ⟨w4.heap.size, 1, none⟩ = some (.int .i64 0) := cell_blk hv7 1
        have v2 : w7.cell? ⟨w4.heap.size, 2, none⟩ = some (.string ⟨#[]⟩) := cell_blk hv7 2
        have v3 : w7.cell? ⟨w4.heap.size, 3, none⟩ = some (.slice ao n cp) := cell_blk hv7 3
        clear hv7 ht7 ho7 HEB
        go_wp2_with (refine wpList_store_all rfl 24 (.tmp 4) (.tmp 65) rfl w.heap.size #[.int .i64 3, .int .i64 0, .string ⟨#[]⟩, .slice ao n cp] rfl rfl #[.int .i64 0, .int .i64 0, .string ⟨#[]⟩, .slice none 0 0] 24 HZ7.out rfl info_val (val_one _ _ _ _ _ _) ?_; intro w9 hb9 ho9 hs9; have HB9 := hid hb9; have HO9 := hid ho9; have HS9 := hid hs9; clear hb9 ho9 hs9)
        refine bodyPost_ret (results_cell1 rfl _ _ w.heap.size 24 #[.int .i64 3, .int .i64 0, .string ⟨#[]⟩, .slice ao n cp] (0, 0) _ rfl HB9.out Tryz.underlying24 rfl info_val) rfl ?_
        unfold ValA
        rw [← HRF.out]
        exact ⟨⟨_, _, [], _, _, _, _, rfl, HT7.out.only HO9.out (by show ¬ b = w.heap.size; omega)⟩, HX7.out.trans HO9.out (fun k hk e => by have e' : k = w.heap.size := e; omega)⟩
theorem pvalC : ∀ f, PValC f
  | 0 => value_step 0 (fun g e => by omega)
  | f + 1 => value_step (f + 1) (fun g e => by obtain rfl : f = g := by omega
                                               exact pvalC f)
end
end Go.Proofs.YtokefeemhgcmhaaGreatDoor

