/- CommandMany's walk. -/
import Derived.Test.YtihidpfkdpjdpaaDoorWants
import Derived.Laws.MakeOwn
namespace Go.Proofs.YtihidpfkdpjdpaaDoor
open Go.RowKit
/-- The commands that are written: each cancels a timer; one may be an end. -/
def cmn (i : Int) : EM := ⟨0, 0, 2, i, 0, [], [], .nil⟩
def cmx : EM := ⟨0, 0, 5, 0, 0, [120], [], .nil⟩
def cmL (n : Nat) : List EM := (List.range n).map fun i => cmn (i : Nat)
theorem cmn_good {i : Int} (h : 0 ≤ i) : (cmn i).CGood := ⟨by show (1 : Int) ≤ 2 ∧ (2 : Int) ≤ 6; decide, by show (0 : Int) ≤ 0 ∧ (0 : Int) ≤ 4611686018427387903; decide, h, Int.le_refl 0, fun x => absurd (by show (65 : UInt8) ∈ cFlds 2; decide) x, fun _ => rfl, by show 0 ≤ 64; decide, fun _ => rfl, fun _ => rfl, by show VT.nil.chk = 0; decide⟩
theorem cmx_good : cmx.CGood := ⟨by show (1 : Int) ≤ 5 ∧ (5 : Int) ≤ 6; decide, by show (0 : Int) ≤ 0 ∧ (0 : Int) ≤ 4611686018427387903; decide, Int.le_refl 0, Int.le_refl 0, fun _ => rfl, fun _ => rfl, by show 1 ≤ 64; decide, fun x => absurd (by show (78 : UInt8) ∈ cFlds 5; decide) x, fun _ => rfl, by show VT.nil.chk = 0; decide⟩
theorem cmn_ok {i : Int} (h : 0 ≤ i ∧ i ≤ 1000) : (cmn i).rg ∧ (cmn i).isC := ⟨by unfold EM.rg cmn; simp only [List.length_nil]; exact ⟨by omega, by omega, by omega, by omega, by omega, by omega, by omega, nil_vrg⟩, rfl, rfl⟩
theorem cmx_ok : cmx.rg ∧ cmx.isC := ⟨by unfold EM.rg cmx; simp only [List.length_nil, List.length_cons]; exact ⟨by omega, by omega, by omega, by omega, by omega, by omega, by omega, nil_vrg⟩, rfl, rfl⟩
theorem cAllL_skip : ∀ {A B : List EM}, (∀ e ∈ A, e.cchk = 0 ∧ cEnds e.k = false) → cAllL (A ++ B) = cAllL B
  | [], _, _ => rfl
  | e :: A, B, h => by
    obtain ⟨h1, h2⟩ := h e List.mem_cons_self
    rw [List.cons_append, cAllL, if_neg (by simp [h1]), if_neg (by simp [h2])]
    exact cAllL_skip (fun x hx => h x (List.mem_cons_of_mem _ hx))
theorem cmL_all {n : Nat} : ∀ e ∈ cmL n, e.cchk = 0 ∧ cEnds e.k = false := fun e he => by
  obtain ⟨i, -, rfl⟩ := List.mem_map.1 he
  exact ⟨cgood_chk (cmn_good (by omega)), rfl⟩
theorem cmL_len (n : Nat) : (cmL n).length = n := by simp [cmL]
theorem cmL_get {n i : Nat} {e : EM} (h : (cmL n)[i]? = some e) : i < n ∧ e = cmn (i : Nat) := by
  have hi : i < n := by
    rcases Nat.lt_or_ge i n with h' | h'
    · exact h'
    · rw [List.getElem?_eq_none (by simpa [cmL] using h')] at h; cases h
  refine ⟨hi, ?_⟩
  unfold cmL at h
  rw [List.getElem?_map, List.getElem?_range hi] at h
  exact (Option.some.inj h).symm
/-- Which error is wanted. -/
theorem many_0 {n : Nat} (h : ¬ 256 < n) : cAll (cmL n) = 0 := by
  unfold cAll
  rw [cmL_len, if_neg h]
  have := cAllL_skip (A := cmL n) (B := []) cmL_all
  rw [List.append_nil] at this
  rw [this, cAllL]
theorem many_2 {n : Nat} (h : 256 < n) : cAll (cmL n) = 2 := by unfold cAll; rw [cmL_len, if_pos h]
theorem many_x {n m : Nat} (h : ¬ 256 < n) (hm : m < n) : cAll ((cmL n).set m cmx) = if m < n - 1 then 7 else 0 := by
  unfold cAll
  rw [List.length_set, cmL_len, if_neg h, List.set_eq_take_append_cons_drop, if_pos (by rw [cmL_len]; exact hm)]
  rw [cAllL_skip (fun e he => cmL_all e (List.mem_of_mem_take he)), cAllL, if_neg (by rw [cgood_chk cmx_good]; simp)]
  have hc : cEnds cmx.k = true := rfl
  by_cases g : m < n - 1
  · have hd : (cmL n).drop (m + 1) ≠ [] := fun e => by
      have := congrArg List.length e
      rw [List.length_drop, cmL_len] at this
      simp at this; omega
    rw [if_pos ⟨hc, hd⟩, if_pos g]
  · have hd : (cmL n).drop (m + 1) = [] := List.drop_eq_nil_of_le (by rw [cmL_len]; omega)
    rw [hd, if_neg (fun h => h.2 rfl), if_neg g, cAllL]
theorem cmL_ok {n : Nat} (h : n ≤ 300) : ∀ e ∈ cmL n, e.rg ∧ e.isC := fun e he => by
  obtain ⟨i, hi, rfl⟩ := List.mem_map.1 he
  have := List.mem_range.1 hi
  exact cmn_ok (by omega)
theorem set_ok {n m : Nat} (h : n ≤ 300) : ∀ e ∈ (cmL n).set m cmx, e.rg ∧ e.isC := fun e he => by
  rcases List.mem_or_eq_of_mem_set he with h1 | h1
  · exact cmL_ok h e h1
  · rw [h1]; exact cmx_ok
theorem lay_get {α : Type} {xs ys : List α} {off k : Nat} (h : off + ys.length ≤ xs.length) : (lay xs off ys)[k]? = if k < off then xs[k]? else if k < off + ys.length then ys[k - off]? else xs[k]? := by
  unfold lay
  have hl : (xs.take off).length = off := by rw [List.length_take]; omega
  by_cases h1 : k < off
  · rw [if_pos h1, List.getElem?_append_left (by rw [hl]; exact h1), List.getElem?_take_of_lt h1]
  · rw [if_neg h1, List.getElem?_append_right (by rw [hl]; omega), hl]
    by_cases h2 : k < off + ys.length
    · rw [if_pos h2, List.getElem?_append_left (by omega)]
    · rw [if_neg h2, List.getElem?_append_right (by omega), List.getElem?_drop]; congr 1; omega
abbrev cmnC (i : Int) : List Value := [.int .i64 2, .int .i64 0, .int .i64 i, .int .i64 0, .string ⟨#[]⟩, .int .i64 0, .int .i64 0, .string ⟨#[]⟩, .slice none 0 0]
abbrev cmxC : List Value := [.int .i64 5, .int .i64 0, .int .i64 0, .int .i64 0, .string ⟨#[120]⟩, .int .i64 0, .int .i64 0, .string ⟨#[]⟩, .slice none 0 0]
/-- The first so many commands stand in block g. -/
def Mny (w : World) (g n j : Nat) : Prop := ∃ arr, w.heap[g]? = some (.cells arr 29 (0, 0)) ∧ arr.size = 9 * n ∧ ∀ i k u, i < j → (cmnC (i : Nat))[k]? = some u → arr[i * 9 + k]? = some u
section
variable {w w' : World}
theorem Mny.cms {g n : Nat} (h : Mny w g n n) : CmsV w (fun k => k = g) (.slice (some ⟨g, 0, none⟩) n n) (cmL n) := by
  obtain ⟨arr, h1, h2, h3⟩ := h
  refine ⟨some ⟨g, 0, none⟩, n, g, 0, by rw [cmL_len], fun _ => ⟨rfl, rfl⟩, fun i e hi => ?_⟩
  obtain ⟨hin, rfl⟩ := cmL_get hi
  exact ⟨cmnC (i : Nat), fun k u hk => by rw [Nat.zero_add, cell_blk h1]; exact h3 i k u hin hk, ⟨_, rfl, novlc _ _ 0 0 []⟩⟩
theorem Mny.step {g n j : Nat} (h : Mny w g n j) (hj : j < n) {arr : Array Value} (ha : w.heap[g]? = some (.cells arr 29 (0, 0))) (hb : w'.heap[g]? = some (.cells (lay arr.toList (j * 9) (cmnC (j : Nat))).toArray 29 (0, 0))) : Mny w' g n (j + 1) := by
  obtain ⟨arr2, h1, h2, h3⟩ := h
  rw [h1] at ha
  simp only [Option.some.injEq, Obj.cells.injEq, and_true] at ha
  subst ha
  have hfit : j * 9 + (cmnC (j : Nat)).length ≤ arr2.toList.length := by simp; omega
  refine ⟨_, hb, by rw [List.size_toArray, length_lay _ _ _ hfit]; simpa using h2, fun i k u hi hk => ?_⟩
  have hk9 : k < 9 := by
    rcases Nat.lt_or_ge k 9 with h | h
    · exact h
    · rw [List.getElem?_eq_none (by simpa using h)] at hk; cases hk
  rw [List.getElem?_toArray, lay_get hfit]
  by_cases hij : i < j
  · rw [if_pos (by omega), Array.getElem?_toList]; exact h3 i k u hij hk
  · obtain rfl : i = j := by omega
    rw [if_neg (by omega), if_pos (by simp; omega), Nat.add_sub_cancel_left]; exact hk
theorem Mny.setx {g n m : Nat} (h : Mny w g n n) (hm : m < n) {arr : Array Value} (ha : w.heap[g]? = some (.cells arr 29 (0, 0))) (hb : w'.heap[g]? = some (.cells (lay arr.toList (m * 9) cmxC).toArray 29 (0, 0))) : CmsV w' (fun k => k = g) (.slice (some ⟨g, 0, none⟩) n n) ((cmL n).set m cmx) := by
  obtain ⟨arr2, h1, h2, h3⟩ := h
  rw [h1] at ha
  simp only [Option.some.injEq, Obj.cells.injEq, and_true] at ha
  subst ha
  have hfit : m * 9 + cmxC.length ≤ arr2.toList.length := by simp; omega
  refine ⟨some ⟨g, 0, none⟩, n, g, 0, by rw [List.length_set, cmL_len], fun _ => ⟨rfl, rfl⟩, fun i e hi => ?_⟩
  by_cases him : i = m
  · subst him
    rw [List.getElem?_set_self (by rw [cmL_len]; exact hm)] at hi
    obtain rfl := Option.some.inj hi
    refine ⟨cmxC, fun k u hk => ?_, ⟨_, rfl, novlc _ _ 0 0 []⟩⟩
    have hk9 : k < 9 := by
      rcases Nat.lt_or_ge k 9 with h | h
      · exact h
      · rw [List.getElem?_eq_none (by simpa using h)] at hk; cases hk
    rw [Nat.zero_add, cell_blk hb, List.getElem?_toArray, lay_get hfit, if_neg (by omega), if_pos (by simp; omega), Nat.add_sub_cancel_left]; exact hk
  · rw [List.getElem?_set_ne (fun e => him e.symm)] at hi
    obtain ⟨hin, rfl⟩ := cmL_get hi
    refine ⟨cmnC (i : Nat), fun k u hk => ?_, ⟨_, rfl, novlc _ _ 0 0 []⟩⟩
    have hk9 : k < 9 := by
      rcases Nat.lt_or_ge k 9 with h | h
      · exact h
      · rw [List.getElem?_eq_none (by simpa using h)] at hk; cases hk
    rw [Nat.zero_add, cell_blk hb, List.getElem?_toArray, lay_get hfit]
    rcases Nat.lt_or_ge i m with h | h
    · rw [if_pos (by omega), Array.getElem?_toList]; exact h3 i k u hin hk
    · rw [if_neg (by omega), if_neg (by simp; omega), Array.getElem?_toList]; exact h3 i k u hin hk
set_option maxRecDepth 100000 in
set_option maxHeartbeats 3200000 in
theorem cmany_c (hT : Tab w) (n0 en : Int) (gn : -9223372036854775808 ≤ n0 ∧ n0 ≤ 9223372036854775807) (ge : -9223372036854775808 ≤ en ∧ en ≤ 9223372036854775807) : Calls Tryd.prog 5 #[.int .i64 n0, .int .i64 en] w fun x w' => x = .returned (.bool true) ∧ Only (fun _ => False) w w' := by
  have HTL := hid (wants_c hT)
  clear hT
  go_enter Tryd.func5, Tryd.ntmps5
  go_wp2_with fail
  refine HTL.out.mono ?_
  rintro x w1 ⟨rfl, ho1⟩
  have HO1 := hid ho1
  clear ho1 HTL
  by_cases hn1 : n0 < 0
  · go_wp2_with fail
    go_ret
    exact ⟨rfl, HO1.out⟩
  by_cases hn2 : 300 < n0
  · go_wp2_with fail
    go_ret
    exact ⟨rfl, HO1.out⟩
  obtain ⟨n, rfl⟩ := Int.eq_ofNat_of_zero_le (by omega : 0 ≤ n0)
  obtain ⟨i0, hi0, hi1⟩ : ∃ i, Tryd.prog.info? 29 = some i ∧ i.zero = some (.agg #[.int .i64 0, .int .i64 0, .int .i64 0, .int .i64 0, .string ⟨#[]⟩, .int .i64 0, .int .i64 0, .string ⟨#[]⟩, .slice none 0 0]) ∧ i.size = 9 ∧ i.bytes = 104 := by
    have h : (Tryd.prog.info? 29).map (fun i => (i.zero, i.size, i.bytes)) = some (some (.agg #[.int .i64 0, .int .i64 0, .int .i64 0, .int .i64 0, .string ⟨#[]⟩, .int .i64 0, .int .i64 0, .string ⟨#[]⟩, .slice none 0 0]), 9, 104) := by kernel_rfl
    obtain ⟨i, h1, h2⟩ := Option.map_eq_some_iff.1 h
    simp only [Prod.mk.injEq] at h2
    exact ⟨i, h1, h2⟩
  have hmk : ∀ W, (Instr.makeSlice 22 (.int .i64 (n : Int)) (.int .i64 (n : Int))).run Tryd.prog W = .ok (.slice (some ⟨W.heap.size, 0, none⟩) n n) (W.alloc (.cells (madeCells #[.int .i64 0, .int .i64 0, .int .i64 0, .int .i64 0, .string ⟨#[]⟩, .int .i64 0, .int .i64 0, .string ⟨#[]⟩, .slice none 0 0] (n * 9)) 29)) := fun W => by
    have h := run_make (P := Tryd.prog) W 22 29 i0 (.agg #[.int .i64 0, .int .i64 0, .int .i64 0, .int .i64 0, .string ⟨#[]⟩, .int .i64 0, .int .i64 0, .string ⟨#[]⟩, .slice none 0 0]) Tryd.underlying22 hi0 hi1.1 .i64 .i64 (n : Int) (n : Int) (by omega) (by omega) (by rw [hi1.2.2]; omega) (by omega)
    rw [hi1.2.1] at h
    exact h
  have hm0 : ∀ W : World, Mny (W.alloc (.cells (madeCells #[.int .i64 0, .int .i64 0, .int .i64 0, .int .i64 0, .string ⟨#[]⟩, .int .i64 0, .int .i64 0, .string ⟨#[]⟩, .slice none 0 0] (n * 9)) 29)) W.heap.size n 0 := fun W => ⟨_, blk_new W _, by rw [size_madeCells]; omega, fun i k u h => absurd h (by omega)⟩
  have HM0 := hid (hm0 w1)
  have HOM := hid (HO1.out.trans (only_new w1 (.cells (madeCells #[.int .i64 0, .int .i64 0, .int .i64 0, .int .i64 0, .string ⟨#[]⟩, .int .i64 0, .int .i64 0, .string ⟨#[]⟩, .slice none 0 0] (n * 9)) 29)) (fun _ _ e => e))
  clear hi0 hi1 hm0
  have hs1 := HO1.out.size
  go_wp2_with fail
  go_loopw [24] (fun i wr => ∃ j : Nat, i = .int .i64 j ∧ j ≤ n ∧ Mny wr w1.heap.size n j ∧ Only (fun _ => False) w wr) (fun i _ => n - (intOf i).toNat)
  case atStart => exact ⟨0, rfl, Nat.zero_le _, HM0.out, HOM.out⟩
  case round =>
    clear hmk
    obtain ⟨j, rfl, hj, hmy, ho⟩ := hrel
    have HMY := hid hmy; have HO := hid ho
    clear ho
    by_cases hjl : j < n
    · have hji : (j : Int) < n := by omega
      obtain ⟨arr, hb, hsz, -⟩ := hmy
      have HB := hid hb; have HSZ := hid hsz
      have hbl := blk_lt hb
      clear hb hsz
      go_wp2_with ((guard_target =~ wpList _ _ _ (⟨none, .store 29 (.tmp 31) (.tmp 30), _, _, _, _⟩ :: _) _ _); refine wpList_store_in (o := ⟨none, .store 29 (.tmp 31) (.tmp 30), _, _, _, _⟩) rfl 29 (.tmp 31) (.tmp 30) rfl w1.heap.size (j * 9) (cmnC (j : Nat)).toArray rfl rfl arr 29 HB.out (by have := HSZ.out; simp; omega) info_cmd (cmd_one _ _ _ _ _ _ _ _ _ _ _) ?_; intro w8 hb8 ho8 hs8; have HB8 := hid hb8; have HO8 := hid ho8; clear hb8 ho8 hs8)
      go_roundw
      case rel => exact ⟨j + 1, by go_num, by omega, HMY.out.step hjl HB.out HB8.out, HO.out.trans HO8.out (fun i hi e => by have e' : i = w1.heap.size := e; omega)⟩
      case measure => simp [intOf]; omega
    · obtain rfl : j = n := by omega
      have hjl2 : ¬ (j : Int) < j := by omega
      clear hmy
      go_upto_if 34 with fail
      go_cut [7] from 34 to 49 (fun v wx => ∃ L : List EM, v = .int .i64 (cAll L) ∧ CmsV wx (fun k => k = w1.heap.size) (.slice (some ⟨w1.heap.size, 0, none⟩) j j) L ∧ (∀ e ∈ L, e.rg ∧ e.isC) ∧ L.length = j ∧ w1.heap.size < wx.heap.size ∧ Only (fun _ => False) w wx)
      case first =>
        obtain ⟨arr, hb, hsz, -⟩ := HMY.out
        have hbl := blk_lt hb
        have HB := hid hb; have HSZ := hid hsz
        clear hb hsz
        by_cases h256 : 256 < (j : Int)
        · have HW := hid (many_2 (n := j) (by omega))
          go_wp2_with fail
          go_meet
          case rel => exact ⟨cmL j, by rw [HW.out], HMY.out.cms, cmL_ok (by omega), cmL_len j, hbl, HO.out⟩
        have hno := many_0 (n := j) (by omega)
        have HNO := hid hno
        clear hno
        by_cases he0 : 0 ≤ en
        case neg =>
          go_wp2_with fail
          go_meet
          case rel => exact ⟨cmL j, by rw [HNO.out], HMY.out.cms, cmL_ok (by omega), cmL_len j, hbl, HO.out⟩
        by_cases hel : en < (j : Int)
        case neg =>
          go_wp2_with fail
          go_meet
          case rel => exact ⟨cmL j, by rw [HNO.out], HMY.out.cms, cmL_ok (by omega), cmL_len j, hbl, HO.out⟩
        obtain ⟨m, rfl⟩ := Int.eq_ofNat_of_zero_le he0
        have hmx := many_x (n := j) (m := m) (by omega) (by omega)
        by_cases hlast : (m : Int) < (j : Int) - 1
        · rw [if_pos (by omega)] at hmx
          have HMX := hid hmx
          clear hmx
          go_wp2_with ((guard_target =~ wpList _ _ _ (⟨none, .store 29 (.tmp 45) (.tmp 44), _, _, _, _⟩ :: _) _ _); refine wpList_store_in (o := ⟨none, .store 29 (.tmp 45) (.tmp 44), _, _, _, _⟩) rfl 29 (.tmp 45) (.tmp 44) rfl w1.heap.size (m * 9) cmxC.toArray rfl rfl arr 29 HB.out (by have := HSZ.out; simp; omega) info_cmd (cmd_one _ _ _ _ _ _ _ _ _ _ _) ?_; intro w8 hb8 ho8 hs8; have HB8 := hid hb8; have HO8 := hid ho8; clear hb8 ho8 hs8)
          go_meet
          case rel => exact ⟨(cmL j).set m cmx, by rw [HMX.out], HMY.out.setx (by omega) HB.out HB8.out, set_ok (by omega), by rw [List.length_set, cmL_len], by have := HO8.out.size; omega, HO.out.trans HO8.out (fun i hi e => by have e' : i = w1.heap.size := e; omega)⟩
        · rw [if_neg (by omega)] at hmx
          have HMX := hid hmx
          clear hmx
          go_wp2_with ((guard_target =~ wpList _ _ _ (⟨none, .store 29 (.tmp 45) (.tmp 44), _, _, _, _⟩ :: _) _ _); refine wpList_store_in (o := ⟨none, .store 29 (.tmp 45) (.tmp 44), _, _, _, _⟩) rfl 29 (.tmp 45) (.tmp 44) rfl w1.heap.size (m * 9) cmxC.toArray rfl rfl arr 29 HB.out (by have := HSZ.out; simp; omega) info_cmd (cmd_one _ _ _ _ _ _ _ _ _ _ _) ?_; intro w8 hb8 ho8 hs8; have HB8 := hid hb8; have HO8 := hid ho8; clear hb8 ho8 hs8)
          go_meet
          case rel => exact ⟨(cmL j).set m cmx, by rw [HMX.out], HMY.out.setx (by omega) HB.out HB8.out, set_ok (by omega), by rw [List.length_set, cmL_len], by have := HO8.out.size; omega, HO.out.trans HO8.out (fun i hi e => by have e' : i = w1.heap.size := e; omega)⟩
      case rest =>
      obtain ⟨L, rfl, hcm, hlk, hll, hgl, hoL⟩ := hcut
      have HCM := hid hcm; have HLK := hid hlk; have HLL := hid hll; have HOL := hid hoL
      have HEN := hid (cencode_c hcm (fun k hk => by have e' : k = w1.heap.size := hk; omega) hlk (by rw [hll]; omega))
      have HDE := fun ha => hid (cd_enc (l := L) ha (fun e he => ⟨(hlk e he).2, (hlk e he).1⟩))
      obtain ⟨ck, hck⟩ : ∃ y, cAll L = y := ⟨_, rfl⟩
      simp only [hck] at HDE
      have HCK := hid hck
      rw [hck]
      clear hcm hlk hll hoL hck HO HMY
      go_wp2_with fail
      refine HEN.out.mono ?_
      rintro x w4 ⟨v4, rfl, hv4⟩
      rw [HCK.out] at hv4 ⊢
      obtain ⟨bl, hbl⟩ : ∃ y, (if ck = 0 then cwrL L else []) = y := ⟨_, rfl⟩
      rw [hbl] at hv4
      obtain ⟨ao, cp, rfl, hgr, -, ho4⟩ := hv4
      have HS4 := hid hgr.src
      have HO4 := hid (HOL.out.trans ho4 (fun _ _ e => e))
      have HAL := hid (call_c (HCM.out.same ho4) (fun k hk => by have e' : k = w1.heap.size := hk; have := ho4.size; omega) (fun e he => (HLK.out e he).1) (by rw [HLL.out]; omega))
      rw [HCK.out] at HAL
      have hbll : bl.length ≤ 1000000000 := by
        rw [← hbl]
        by_cases h0 : ck = 0
        · rw [if_pos h0]
          have hg := cgood_of (HCK.out.trans h0)
          have h1 := cfl_len (l := L) (fun e he => ⟨hg.2 e he, (HLK.out e he).2⟩)
          have h2 := numB_len L.length
          unfold cwrL; rw [List.length_append]; omega
        · rw [if_neg h0]; simp
      have HBL := hid hbl
      have hcc : (ck != ck) = false := by simp
      clear hgr ho4 hbl HEN
      go_wp2_with fail
      refine HAL.out.mono ?_
      rintro x w5 ⟨rfl, ho5⟩
      have HO5 := hid (HO4.out.trans ho5 (fun _ _ e => e))
      have HD := hid (cdecode_c (HS4.out.same ho5) hbll)
      clear ho5 HAL
      go_wp2_with fail
      refine HD.out.mono ?_
      rintro x w6 ⟨v6, rfl, hk6, ho6, -⟩
      obtain ⟨a6, c6, rfl⟩ := hk6.len
      have HO6 := hid (HO5.out.trans ho6 (fun _ _ e => e))
      clear hk6 ho6 HD
      by_cases h0 : ck = 0
      · subst h0
        have hde := (HDE rfl).out
        have hb1 : bl = cwrL L := by rw [← HBL.out, if_pos rfl]
        have hll := HLL.out
        rw [hb1, hde]
        simp only [List.length_map, hll]
        clear hde hb1 hll HDE
        go_wp2_with fail
        go_ret
        exact ⟨rfl, HO6.out⟩
      · have hcb : (ck != 0) = true := by simpa using h0
        have hb1 : bl = [] := by rw [← HBL.out, if_neg h0]
        subst hb1
        clear h0 HDE
        go_wp2_with fail
        go_ret
        exact ⟨rfl, HO6.out⟩
end
end Go.Proofs.YtihidpfkdpjdpaaDoor
