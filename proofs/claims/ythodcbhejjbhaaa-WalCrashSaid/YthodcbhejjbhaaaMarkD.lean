/- The last mark of two sectors is looked for. -/
import Derived.Test.YthodcbhejjbhaaaMarkC
namespace Go.Proofs.Ythodcbhejjbhaaa
open Go.RowKit

/-- Sector k's turn: the last mark so far, the greatest number. -/
def lookStep (k : Nat) (p : MarkM × Nat) (l : List UInt8) : MarkM × Nat :=
  (if (readM l).2 = true ∧ p.1.s < (readM l).1.s ∧ (readM l).1.s % 2 = k then (readM l).1 else p.1, max (max p.2 (deN (l.take 8))) (deN ((l.drop 56).take 8)))
def lookK (c : Nat → List UInt8) : Nat → MarkM × Nat
  | 0 => (MarkM.zero, 0)
  | k + 1 => lookStep k (lookK c k) (c k)

theorem slice_cap {g n c n' c' : Nat} {a : Option Addr} {o : Nat} (h : (.slice (some ⟨g, o, none⟩) n c : Value) = .slice a n' c') : c = c' := by
  simp only [Value.slice.injEq] at h; exact h.2.2

/-- What is told of a place at which no marks are. -/
def lookErr (n : Nat) (first : Int) : Int := if first < 0 ∨ (n : Int) - 1 ≤ first then 1 else 50

section
variable {w : World} {b : Nat} {D : DiskM} {F : Nat → Prop}
set_option maxRecDepth 100000 in
set_option maxHeartbeats 1600000 in
theorem look_no (h : DiskAt w b D F) (first : Int) (hf : first ≤ 9223372036854775807) (hno : first < 0 ∨ (D.n : Int) - 1 ≤ first ∨ D.down = true) :
    Calls Try.prog 50 #[.pointer (some ⟨b, 0, none⟩), .int .i64 first] w fun e w' => e = .returned (.tuple #[.agg MarkM.zero.V, .int .u64 0, .int .i64 (lookErr D.n first)]) ∧ Only (fun _ => False) w w' := by
  have hn0 := h.n0
  have HW : ∀ w1, Only (fun _ => False) w w1 → Hid (DiskAt w1 b D F) := fun w1 ho => hid (h.only ho (fun _ _ e => e))
  have HNo := hid hno
  clear h hno
  go_enter Try.func50, Try.ntmps50
  go_wp2_with fail
  go_loopw [12, 5, 6, 7, 8, 9, 10, 11] (fun i top e _ _ _ _ _ wr => i = .int .i64 0 ∧ top = .int .u64 0 ∧ e = .int .i64 0 ∧ wr.heap[w.heap.size]? = some (.cells MarkM.zero.V 85 (0, 0)) ∧ Only (fun _ => False) w wr) (fun _ _ _ _ _ _ _ _ _ => 0)
  case atStart => exact ⟨rfl, rfl, rfl, blk_new w _, (Only.refl _ _).alloc _⟩
  case round =>
    obtain ⟨rfl, rfl, rfl, hb, ho⟩ := hrel
    have Hb := hid hb; have Ho := hid ho; have HA := HW _ ho
    have HSec := hid (sectors_c HA.out)
    clear hb ho
    by_cases h1 : first < 0
    · have e1 : lookErr D.n first = 1 := if_pos (.inl h1)
      have E1 := hid e1
      clear e1
      go_wp2_with (refine wpList_store_all rfl 85 (.tmp 4) (.tmp 24) rfl w.heap.size MarkM.zero.V rfl rfl MarkM.zero.V 85 Hb.out rfl info_mark (V_one _) ?_; intro w3 hb3 ho3 hs3; have Hb3 := hid hb3; have Ho3 := hid ho3; clear hb3 ho3 hs3)
      refine bodyPost_ret (results_cell2 (q := 5) (r := 6) rfl _ _ w.heap.size 85 MarkM.zero.V _ _ rfl Hb3.out Try.underlying85 rfl info_mark) rfl ⟨by rw [E1.out]; rfl, ?_⟩
      exact Ho.out.trans Ho3.out (fun k hk e => absurd hk (by rw [e]; exact Nat.lt_irrefl _))
    · by_cases h2 : (D.n : Int) - 1 ≤ first
      · have e1 : lookErr D.n first = 1 := if_pos (.inr h2)
        have E1 := hid e1
        clear e1
        go_wp2_with (first | (go_at_call 49; refine HSec.out.mono ?_; rintro e w' ⟨rfl, rfl⟩) | (refine wpList_store_all rfl 85 (.tmp 4) (.tmp 24) rfl w.heap.size MarkM.zero.V rfl rfl MarkM.zero.V 85 Hb.out rfl info_mark (V_one _) ?_; intro w3 hb3 ho3 hs3; have Hb3 := hid hb3; have Ho3 := hid ho3; clear hb3 ho3 hs3))
        refine bodyPost_ret (results_cell2 (q := 5) (r := 6) rfl _ _ w.heap.size 85 MarkM.zero.V _ _ rfl Hb3.out Try.underlying85 rfl info_mark) rfl ⟨by rw [E1.out]; rfl, ?_⟩
        exact Ho.out.trans Ho3.out (fun k hk e => absurd hk (by rw [e]; exact Nat.lt_irrefl _))
      · have hd : D.down = true := by
          rcases HNo.out with h | h | h
          · exact absurd h h1
          · exact absurd h h2
          · exact h
        have e1 : lookErr D.n first = 50 := if_neg (by omega)
        have E1 := hid e1
        have HR := hid (read_down HA.out hd first)
        clear e1 hd
        go_wp2_with (first | (go_at_call 49; refine HSec.out.mono ?_; rintro e w' ⟨rfl, rfl⟩) | (go_at_call 51; refine HR.out.mono ?_; rintro e w' ⟨rfl, rfl⟩) | (refine wpList_store_all rfl 85 (.tmp 4) (.tmp 35) rfl w.heap.size MarkM.zero.V rfl rfl MarkM.zero.V 85 Hb.out rfl info_mark (V_one _) ?_; intro w3 hb3 ho3 hs3; have Hb3 := hid hb3; have Ho3 := hid ho3; clear hb3 ho3 hs3))
        refine bodyPost_ret (results_cell2 (q := 5) (r := 6) rfl _ _ w.heap.size 85 MarkM.zero.V _ _ rfl Hb3.out Try.underlying85 rfl info_mark) rfl ⟨by rw [E1.out]; rfl, ?_⟩
        exact Ho.out.trans Ho3.out (fun k hk e => absurd hk (by rw [e]; exact Nat.lt_irrefl _))

theorem MadeC.cap {w w' : World} {g c : Nat} {l : List UInt8} (h : MadeC w w' (secV g c) l g c) (hl : l.length = 128) : 128 ≤ c := by
  have := h.row.le; rw [length_bytesV, hl] at this; exact this

set_option maxRecDepth 100000 in
set_option maxHeartbeats 3200000 in
theorem look_ok (h : DiskAt w b D F) (hd : D.down = false) (first : Nat) (hf : first + 1 < D.n) :
    Calls Try.prog 50 #[.pointer (some ⟨b, 0, none⟩), .int .i64 first] w fun e w' => e = .returned (.tuple #[.agg (lookK (fun k => D.cur (first + k)) 2).1.V, .int .u64 (lookK (fun k => D.cur (first + k)) 2).2, .int .i64 0]) ∧ Only (fun _ => False) w w' := by
  have hn0 := h.n0
  have HW : ∀ w1, Only (fun _ => False) w w1 → Hid (DiskAt w1 b D F) := fun w1 ho => hid (h.only ho (fun _ _ e => e))
  have HLen : Hid (∀ k, k < 2 → (D.cur (first + k)).length = 128) := hid (fun k hk => h.cur_len (by omega))
  have Hd := hid hd
  clear h hd
  obtain ⟨C, hC⟩ : ∃ C : Nat → List UInt8, (fun k => D.cur (first + k)) = C := ⟨_, rfl⟩
  rw [hC]
  have HC : Hid (∀ k, D.cur (first + k) = C k) := hid (fun k => congrFun hC k)
  clear hC
  go_enter Try.func50, Try.ntmps50
  go_wp2_with fail
  go_loopw [12, 5, 6, 7, 8, 9, 10, 11] (fun i top e _ _ _ _ _ wr => ∃ k : Nat, i = .int .i64 k ∧ k ≤ 2 ∧ top = .int .u64 (lookK C k).2 ∧ e = .int .i64 0 ∧ wr.heap[w.heap.size]? = some (.cells (lookK C k).1.V 85 (0, 0)) ∧ Only (fun _ => False) w wr) (fun i _ _ _ _ _ _ _ _ => 2 - (intOf i).toNat)
  case atStart => exact ⟨0, rfl, by omega, rfl, rfl, blk_new w _, (Only.refl _ _).alloc _⟩
  case round =>
    obtain ⟨k, rfl, hk, rfl, rfl, hb, ho⟩ := hrel
    obtain ⟨w3, rfl⟩ : ∃ w3 : World, w3 = wr := ⟨_, rfl⟩
    have Hb := hid hb; have Ho := hid ho; have HA := HW _ ho
    clear hb ho
    by_cases hk2 : k < 2
    · obtain ⟨P, hP⟩ : ∃ P, lookK C k = P := ⟨_, rfl⟩
      have HP := hid hP
      rw [hP] at Hb ⊢
      clear hP
      have HSec := hid (sectors_c HA.out)
      have HR := hid (read_ok HA.out Hd.out ((first : Int) + (k : Int)) (by omega) (by omega))
      rw [show ((first : Int) + (k : Int)).toNat = first + k from by omega, HC.out k] at HR
      have HL := hid (HLen.out k hk2)
      rw [HC.out k] at HL
      go_wp2_with (first | (go_at_call 49; refine HSec.out.mono ?_; rintro e w' ⟨rfl, rfl⟩) | (go_at_call 51; refine HR.out.mono ?_; rintro e w4 ⟨g, c, rfl, hmade, ho4⟩; unfold secV; have Hmade := hid hmade; have Ho4 := hid ho4; clear hmade ho4))
      have hc128 : 128 ≤ c := Hmade.out.cap HL.out
      have hgl := Hmade.out.hi
      have HS := hid (secV_src Hmade.out.row HL.out)
      unfold secV at HS
      obtain ⟨n1, hn1⟩ : ∃ n1, deN ((C k).take 8) = n1 := ⟨_, rfl⟩
      obtain ⟨n2, hn2⟩ : ∃ n2, deN (((C k).drop 56).take 8) = n2 := ⟨_, rfl⟩
      obtain ⟨M1, hM1⟩ : ∃ M1 : Nat, max P.2 n1 = M1 := ⟨_, rfl⟩
      obtain ⟨M2, hM2⟩ : ∃ M2 : Nat, max M1 n2 = M2 := ⟨_, rfl⟩
      have hmx1 : (if P.2 < n1 then (n1 : Int) else (P.2 : Int)) = (M1 : Int) := by split <;> omega
      have hmx2 : (if M1 < n2 then (n2 : Int) else (M1 : Int)) = (M2 : Int) := by split <;> omega
      have hN1 : ∀ n, Calls Try.prog 67 #[.slice (some ⟨g, 0, none⟩) 128 c] (w4.drewN n) fun e w' => e = .returned (.int .u64 n1) ∧ w' = w4.drewN n := fun n => by
        rw [← hn1]
        exact (mnumber_c (w4.drewN n) _ (C k) (HS.out.only (only_drewN _ n) (fun _ _ _ _ _ e => e)) (by have := HL.out; omega) (by have := HL.out; omega) (fun a c' e => by have := slice_cap e; omega)).mono (fun e w' h => ⟨h.1, h.2.symm⟩)
      have hN2 : ∀ n, Calls Try.prog 67 #[.slice (some ⟨g, 56, none⟩) 72 (c - 56)] (w4.drewN n) fun e w' => e = .returned (.int .u64 n2) ∧ w' = w4.drewN n := fun n => by
        rw [← hn2]
        have hp := HS.out.piece 56 72 (c - 56) ((C k).drop 56) (by rw [List.take_of_length_le]; simp; have := HL.out; omega) (by simp; have := HL.out; omega)
        rw [Nat.zero_add] at hp
        exact (mnumber_c (w4.drewN n) _ ((C k).drop 56) (hp.only (only_drewN _ n) (fun _ _ _ _ _ e => e)) (by simp; have := HL.out; omega) (by simp; have := HL.out; omega) (fun a c' e => by have := slice_cap e; omega)).mono (fun e w' h => ⟨h.1, h.2.symm⟩)
      have HN1 := hid hN1; have HN2 := hid hN2
      have HM := hid (show max (max P.2 (deN ((C k).take 8))) (deN (((C k).drop 56).take 8)) = M2 by rw [hn1, hn2, hM1, hM2])
      clear hN1 hN2 hn1 hn2 hM1 hM2
      go_quiet ((first | (with_reducible exact Calls.quiet_of_same (HN1.out _)) | (with_reducible exact Calls.quiet_of_same (HN2.out _))))
      clear hmx1 hmx2
      obtain ⟨w5, hw5⟩ : ∃ w5, w4.drewN nq = w5 := ⟨_, rfl⟩
      have Ho35 : Hid (Only (fun _ => False) w3 (w4.drewN nq)) := hid (Ho4.out.trans (only_drewN w4 nq) (fun _ _ e => e))
      have Ho5 := hid (Ho.out.trans (Ho4.out.trans (only_drewN w4 nq) (fun _ _ e => e)) (fun _ _ e => e))
      have HRd := hid (read_ok' (w4.drewN nq) _ (C k) (HS.out.only (only_drewN _ nq) (fun _ _ _ _ _ e => e)) HL.out (fun a c' e => by have := slice_cap e; omega))
      rw [hw5] at Ho5 HRd Ho35 ⊢
      clear hw5
      obtain ⟨m, hm⟩ : ∃ m, (readM (C k)).1 = m := ⟨_, rfl⟩
      obtain ⟨ok, hok⟩ : ∃ ok, (readM (C k)).2 = ok := ⟨_, rfl⟩
      rw [hm, hok] at HRd
      have HMO := hid (And.intro hm hok)
      have Hb5 : Hid (w5.heap[w.heap.size]? = some (.cells P.1.V 85 (0, 0))) := by
        exact hid ((Ho35.out.block _ (blk_lt Hb.out) (fun e => e)).trans Hb.out)
      clear hm hok
      have hsl0 : ∃ sl : Int, (first : Int) + ((m.s % 2 : Nat) : Int) = sl := ⟨_, rfl⟩
      obtain ⟨sl, hsl⟩ := hsl0
      have HSl : ∀ w1, Hid (Calls Try.prog 69 #[.int .i64 first, .int .u64 m.s] w1 fun e w' => e = .returned (.int .i64 sl) ∧ w1 = w') := fun w1 => hid (by rw [← hsl]; exact slot_c w1 first m.s (by omega) (by omega))
      have Hsl := hid hsl
      clear hsl
      have HK : ∀ X : MarkM, (if ok = true ∧ P.1.s < m.s ∧ m.s % 2 = k then m else P.1) = X → Hid (lookK C (k + 1) = (X, M2)) := fun X hX => by
        have e : lookK C (k + 1) = lookStep k (lookK C k) (C k) := rfl
        rw [HP.out] at e
        unfold lookStep at e
        rw [HM.out, HMO.out.1, HMO.out.2, hX] at e
        exact hid e
      cases ok with
      | false =>
        have HLK := HK P.1 (if_neg (fun h => by cases h.1))
        go_wp2_with (first | (go_at_call 68; refine HRd.out.mono ?_; rintro e w6 ⟨rfl, ho6⟩; have Ho6 := hid ho6; have Hb6 := hid ((ho6.block _ (blk_lt Hb5.out) (fun e => e)).trans Hb5.out); clear ho6) | (refine wpList_store_all rfl 85 (.tmp 10) (.tmp 47) rfl w6.heap.size m.V rfl rfl MarkM.zero.V 85 (blk_new w6 _) rfl info_mark (V_one _) ?_; intro w7 hb7 ho7 hs7; have c7 : w7.cell? ⟨w6.heap.size, 0, none⟩ = some (.int .u64 m.s) := cell_blk hb7 0; have hb7' : w7.heap[w.heap.size]? = some (.cells P.1.V 85 (0, 0)) := (ho7.block _ (blk_lt (blk_alloc Hb6.out)) (by show ¬ w.heap.size = w6.heap.size; have := blk_lt Hb6.out; omega)).trans (blk_alloc Hb6.out); have c8 : w7.cell? ⟨w.heap.size, 0, none⟩ = some (.int .u64 P.1.s) := cell_blk hb7' 0; have Hb7 := hid hb7; have Hb7' := hid hb7'; have Ho7 := hid (Ho6.out.trans (((Only.refl (fun _ => False) w6).alloc _).trans ho7 (fun k hk e => by have e' : k = w6.heap.size := e; omega)) (fun _ _ e => e)); clear hb7 hb7' ho7 hs7))
        go_roundw
        case rel =>
          exact ⟨k + 1, by go_num, by omega, by rw [HLK.out], rfl, by rw [HLK.out]; exact Hb7'.out, Ho5.out.trans Ho7.out (fun _ _ e => e)⟩
        case measure => simp [intOf]; omega
      | true =>
        by_cases hlt : P.1.s < m.s
        · by_cases hp : m.s % 2 = k
          · have HLK := HK m (if_pos ⟨rfl, hlt, hp⟩)
            have hq : (sl == (first : Int) + (k : Int)) = true := by rw [beq_iff_eq, ← Hsl.out, hp]
            clear hp
            go_wp2_with (first | (go_at_call 68; refine HRd.out.mono ?_; rintro e w6 ⟨rfl, ho6⟩; have Ho6 := hid ho6; have Hb6 := hid ((ho6.block _ (blk_lt Hb5.out) (fun e => e)).trans Hb5.out); clear ho6) | (refine wpList_store_all rfl 85 (.tmp 10) (.tmp 47) rfl w6.heap.size m.V rfl rfl MarkM.zero.V 85 (blk_new w6 _) rfl info_mark (V_one _) ?_; intro w7 hb7 ho7 hs7; have c7 : w7.cell? ⟨w6.heap.size, 0, none⟩ = some (.int .u64 m.s) := cell_blk hb7 0; have hb7' : w7.heap[w.heap.size]? = some (.cells P.1.V 85 (0, 0)) := (ho7.block _ (blk_lt (blk_alloc Hb6.out)) (by show ¬ w.heap.size = w6.heap.size; have := blk_lt Hb6.out; omega)).trans (blk_alloc Hb6.out); have c8 : w7.cell? ⟨w.heap.size, 0, none⟩ = some (.int .u64 P.1.s) := cell_blk hb7' 0; have Hb7 := hid hb7; have Hb7' := hid hb7'; have Ho7 := hid (Ho6.out.trans (((Only.refl (fun _ => False) w6).alloc _).trans ho7 (fun k hk e => by have e' : k = w6.heap.size := e; omega)) (fun _ _ e => e)); clear hb7 hb7' ho7 hs7) | (go_at_call 69; refine (HSl _).out.mono ?_; rintro e w' ⟨rfl, rfl⟩) | (refine wpList_load_row rfl 85 (.tmp 10) rfl w6.heap.size rfl 85 m.V (0, 0) _ Hb7.out Try.underlying85 rfl info_mark ?_) | (refine wpList_store_all rfl 85 (.tmp 4) (.tmp 67) rfl w.heap.size m.V rfl rfl P.1.V 85 Hb7'.out rfl info_mark (V_one _) ?_; intro w8 hb8 ho8 hs8; have Hb8 := hid hb8; have Ho8 := hid ho8; clear hb8 ho8 hs8))
            go_roundw
            case rel =>
              exact ⟨k + 1, by go_num, by omega, by rw [HLK.out], rfl, by rw [HLK.out]; exact Hb8.out, (Ho5.out.trans Ho7.out (fun _ _ e => e)).trans Ho8.out (fun j hj e => by have e' : j = w.heap.size := e; omega)⟩
            case measure => simp [intOf]; omega
          · have HLK := HK P.1 (if_neg (fun h => hp h.2.2))
            have hq : (sl == (first : Int) + (k : Int)) = false := by rw [beq_eq_false_iff_ne, ← Hsl.out]; omega
            clear hp
            go_wp2_with (first | (go_at_call 68; refine HRd.out.mono ?_; rintro e w6 ⟨rfl, ho6⟩; have Ho6 := hid ho6; have Hb6 := hid ((ho6.block _ (blk_lt Hb5.out) (fun e => e)).trans Hb5.out); clear ho6) | (refine wpList_store_all rfl 85 (.tmp 10) (.tmp 47) rfl w6.heap.size m.V rfl rfl MarkM.zero.V 85 (blk_new w6 _) rfl info_mark (V_one _) ?_; intro w7 hb7 ho7 hs7; have c7 : w7.cell? ⟨w6.heap.size, 0, none⟩ = some (.int .u64 m.s) := cell_blk hb7 0; have hb7' : w7.heap[w.heap.size]? = some (.cells P.1.V 85 (0, 0)) := (ho7.block _ (blk_lt (blk_alloc Hb6.out)) (by show ¬ w.heap.size = w6.heap.size; have := blk_lt Hb6.out; omega)).trans (blk_alloc Hb6.out); have c8 : w7.cell? ⟨w.heap.size, 0, none⟩ = some (.int .u64 P.1.s) := cell_blk hb7' 0; have Hb7 := hid hb7; have Hb7' := hid hb7'; have Ho7 := hid (Ho6.out.trans (((Only.refl (fun _ => False) w6).alloc _).trans ho7 (fun k hk e => by have e' : k = w6.heap.size := e; omega)) (fun _ _ e => e)); clear hb7 hb7' ho7 hs7) | (go_at_call 69; refine (HSl _).out.mono ?_; rintro e w' ⟨rfl, rfl⟩))
            go_roundw
            case rel =>
              exact ⟨k + 1, by go_num, by omega, by rw [HLK.out], rfl, by rw [HLK.out]; exact Hb7'.out, Ho5.out.trans Ho7.out (fun _ _ e => e)⟩
            case measure => simp [intOf]; omega
        · have HLK := HK P.1 (if_neg (fun h => hlt h.2.1))
          go_wp2_with (first | (go_at_call 68; refine HRd.out.mono ?_; rintro e w6 ⟨rfl, ho6⟩; have Ho6 := hid ho6; have Hb6 := hid ((ho6.block _ (blk_lt Hb5.out) (fun e => e)).trans Hb5.out); clear ho6) | (refine wpList_store_all rfl 85 (.tmp 10) (.tmp 47) rfl w6.heap.size m.V rfl rfl MarkM.zero.V 85 (blk_new w6 _) rfl info_mark (V_one _) ?_; intro w7 hb7 ho7 hs7; have c7 : w7.cell? ⟨w6.heap.size, 0, none⟩ = some (.int .u64 m.s) := cell_blk hb7 0; have hb7' : w7.heap[w.heap.size]? = some (.cells P.1.V 85 (0, 0)) := (ho7.block _ (blk_lt (blk_alloc Hb6.out)) (by show ¬ w.heap.size = w6.heap.size; have := blk_lt Hb6.out; omega)).trans (blk_alloc Hb6.out); have c8 : w7.cell? ⟨w.heap.size, 0, none⟩ = some (.int .u64 P.1.s) := cell_blk hb7' 0; have Hb7 := hid hb7; have Hb7' := hid hb7'; have Ho7 := hid (Ho6.out.trans (((Only.refl (fun _ => False) w6).alloc _).trans ho7 (fun k hk e => by have e' : k = w6.heap.size := e; omega)) (fun _ _ e => e)); clear hb7 hb7' ho7 hs7))
          go_roundw
          case rel =>
            exact ⟨k + 1, by go_num, by omega, by rw [HLK.out], rfl, by rw [HLK.out]; exact Hb7'.out, Ho5.out.trans Ho7.out (fun _ _ e => e)⟩
          case measure => simp [intOf]; omega
    · obtain rfl : k = 2 := by omega
      go_wp2_with (first | (refine wpList_load_row rfl 85 (.tmp 4) rfl w.heap.size rfl 85 (lookK C 2).1.V (0, 0) _ Hb.out Try.underlying85 rfl info_mark ?_) | (refine wpList_store_all rfl 85 (.tmp 4) (.tmp 69) rfl w.heap.size (lookK C 2).1.V rfl rfl (lookK C 2).1.V 85 Hb.out rfl info_mark (V_one _) ?_; intro w8 hb8 ho8 hs8; have Hb8 := hid hb8; have Ho8 := hid ho8; clear hb8 ho8 hs8))
      refine bodyPost_ret (results_cell2 (q := 5) (r := 6) rfl _ _ w.heap.size 85 (lookK C 2).1.V _ _ rfl Hb8.out Try.underlying85 rfl info_mark) rfl ⟨rfl, ?_⟩
      exact Ho.out.trans Ho8.out (fun k hk e => absurd hk (by rw [e]; exact Nat.lt_irrefl _))
end
end Go.Proofs.Ythodcbhejjbhaaa
