/- history: Write, Bytes, Get, At. -/
import Derived.Test.YtnoopajedgllhaaHsF
import Derived.Test.YtnoopajedgllhaaEvW
namespace Go.Proofs.Ytnoopajedgllhaa
open Go.RowKit
theorem flat_wr_len : ∀ (l : List EM), (∀ e ∈ l, e.Good) → (l.flatMap EM.wr).length ≤ 10000 * l.length
  | [], _ => by simp
  | e :: l, h => by
    rw [List.flatMap_cons, List.length_append, List.length_cons]
    have h1 := ewr_len (h e List.mem_cons_self)
    have h2 := flat_wr_len l fun x hx => h x (List.mem_cons_of_mem _ hx)
    omega
theorem hok_good {es : List EM} (h : HOk es) : ∀ e ∈ es, e.Good := fun e he => by
  obtain ⟨i, hi, rfl⟩ := List.mem_iff_getElem.1 he
  exact (h i _ (List.getElem?_eq_getElem hi)).2.1
theorem flatw_take {es : List EM} {j : Nat} {e : EM} (h : es[j]? = some e) : (es.take (j + 1)).flatMap EM.wr = (es.take j).flatMap EM.wr ++ e.wr := by
  rw [List.take_add_one, h]; simp
section
variable {w : World} {hb b : Nat} {F Fw : Nat → Prop} {s bs : List UInt8} {es : List EM}
set_option maxRecDepth 100000 in
set_option maxHeartbeats 6400000 in
theorem hwrite_c (h : HistAt w hb F s es) (hW : Wr w b Fw bs) (hd : ∀ k, F k → ¬ Fw k) (hl : bs.length ≤ 500000000) :
    Calls Try.prog 42 #[.pointer (some ⟨b, 0, none⟩), .pointer (some ⟨hb, 0, none⟩)] w fun x w' => x = .returned (.tuple #[]) ∧ WStep w w' b Fw (bs ++ hwr s es) := by
  have HH := hid h
  obtain ⟨lo, lc, xl, so, sc, H⟩ := h
  have HD := hid hd
  have hsl := H.len
  have HN4 := H.n
  have HOKg := hid (hok_good H.ok)
  have HOK := hid H.ok
  have HS1 := hid (wsum_c hW s hsl (by omega))
  have HR := hid H.seed
  have HSl := hid hsl
  have HIL : Hid ((Try.prog.info? 29).map (·.size) = some (bytesV s).length) := hid (by rw [info32]; simp [hsl])
  have HC0 : Hid (∀ W, Only Fw w W → W.cell? ⟨hb, 0, none⟩ = some (.slice lo es.length lc)) := hid fun W ho => (H.only ho hd).c0
  have HH2 := hid H
  clear H hd hsl hW
  go_enter Try.func42, Try.ntmps42
  go_wp2_with ((guard_target =~ wpList _ _ _ (⟨some 10, _, _, _, _, _⟩ :: _) _ _); refine wpList_load_mid rfl 29 (.tmp 9) rfl hb 2 rfl (bytesV s) _ HR.out Try.underlying29 rfl HIL.out ?_)
  refine HS1.out.mono ?_
  rintro x w1 ⟨rfl, F1, hW1, ho1, hF1⟩
  have c0 := HC0.out w1 ho1
  have hbl1 : (bs ++ s).length = bs.length + 32 := by rw [List.length_append, HSl.out]
  have HNU := hid (wnum1_c hW1 es.length (by omega) (by omega) rfl)
  have HO1 := hid ho1; have HF1 := hid hF1; have HBL1 := hid hbl1
  clear hW1 ho1 hF1 hbl1 HS1
  go_wp2_with fail
  refine HNU.out.mono ?_
  rintro x w2 ⟨rfl, F2, hW2, ho2, hF2⟩
  have hO2 : Only Fw w w2 := HO1.out.trans ho2 (fun k hk e => (HF1.out k e).elim id (fun h => by omega))
  have hF2' : ∀ k, F2 k → Fw k ∨ w.heap.size ≤ k := fun k hk => (hF2 k hk).elim (HF1.out k) (fun h => .inr (Nat.le_trans HO1.out.size h))
  have HO2 := hid hO2; have HF2 := hid hF2'; have HW2 := hid hW2
  have c0 := HC0.out w2 hO2
  have hbl2 : (bs ++ s ++ numB es.length).length ≤ bs.length + 42 := by have := HBL1.out; have := numB_len es.length; rw [List.length_append]; omega
  have HBL2 := hid hbl2
  clear hW2 ho2 hF2 hO2 hF2' hbl2 HNU HR
  go_wp2_with fail
  clear c0
  go_loopw [26] (fun i wr => ∃ (j : Nat) (F3 : Nat → Prop), i = .int .i64 j ∧ j ≤ es.length ∧ Wr wr b F3 (bs ++ s ++ numB es.length ++ (es.take j).flatMap EM.wr) ∧ (∀ k, F3 k → Fw k ∨ w.heap.size ≤ k) ∧ Only Fw w wr) (fun i _ => es.length - (intOf i).toNat)
  case atStart => exact ⟨0, F2, rfl, Nat.zero_le _, by rw [List.take_zero]; simpa using HW2.out, HF2.out, HO2.out⟩
  case round =>
    obtain ⟨j, F3, rfl, hj, hW3, hF3, ho3⟩ := hrel
    obtain ⟨wy, hwy⟩ : ∃ x, x = wr := ⟨wr, rfl⟩
    subst hwy
    have HW3 := hid hW3; have HF3 := hid hF3; have HO3 := hid ho3
    have hs3 := ho3.size
    have hlt : ((es.take j).flatMap EM.wr).length ≤ 10000 * 4096 := by
      have h1 := flat_wr_len (es.take j) (fun e he => HOKg.out e (List.mem_of_mem_take he))
      have h2 : (es.take j).length ≤ 4096 := by rw [List.length_take]; omega
      omega
    have hblj : (bs ++ s ++ numB es.length ++ (es.take j).flatMap EM.wr).length ≤ 600000000 := by have := HBL2.out; rw [List.length_append]; omega
    have HBLJ := hid hblj
    clear hW3 hF3 hblj hlt
    by_cases hjl : j < es.length
    · have hji : (j : Int) < es.length := by omega
      obtain ⟨e, he⟩ : ∃ t, es[j]? = some t := ⟨_, List.getElem?_eq_getElem hjl⟩
      have hok := HOK.out j e he
      obtain ⟨g, cs, hlo, hcw, hE⟩ := (HH2.out.only ho3 HD.out).ev he
      obtain ⟨vk, vn, vs, va, vm, vc, rfl, hV⟩ := hE.form
      have e0 := hcw 0 _ rfl
      rw [Nat.add_zero] at e0
      have e1 := hcw 1 _ rfl
      have e2 := hcw 2 _ rfl
      have e3 := hcw 3 _ rfl
      have e4 := hcw 4 _ rfl
      have e5 := hcw 5 _ rfl
      have e6 := hcw 6 _ rfl
      have e7 := hcw 7 _ rfl
      have e8 := hcw 8 _ rfl
      have e9 := hcw 9 _ rfl
      have e10 := hcw 10 _ rfl
      have ho4 := only_new wy (.cells #[.int .i64 e.id, .int .i64 e.tm, .int .i64 e.k, .int .i64 e.a, .int .i64 e.b, .string (strOf e.name), .string (strOf e.text), .int .i64 vk, .int .i64 vn, .string (strOf vs), .slice va vm vc] 44)
      have HBX := hid (blk_new wy (.cells #[.int .i64 e.id, .int .i64 e.tm, .int .i64 e.k, .int .i64 e.a, .int .i64 e.b, .string (strOf e.name), .string (strOf e.text), .int .i64 vk, .int .i64 vn, .string (strOf vs), .slice va vm vc] 44))
      have HFW := hid (flatw_take he)
      have hlt3 : ∀ k, F k → k < wy.heap.size := (HH2.out.only ho3 HD.out).lt
      have HEW := hid (ewrite_c (HW3.out.same ho4) (hE.same ho4) (fun k hk hf => (HF3.out k hf).elim (HD.out k hk.1) (fun h => by have := HH2.out.lt k hk.1; omega)) (fun k hk => by have := hlt3 k hk.1; have := ho4.size; omega) hok.2.2.1 hok.2.1 (by have := HBLJ.out; omega))
      have HO4 := hid ho4
      subst hlo
      clear hok hcw hE hV he ho3 ho4 hlt3
      go_wp2_with ((guard_target =~ wpList _ _ _ (⟨some 31, _, _, _, _, _⟩ :: _) _ _); refine wpList_load_row rfl 44 (.tmp 5) rfl wy.heap.size rfl 44 #[.int .i64 e.id, .int .i64 e.tm, .int .i64 e.k, .int .i64 e.a, .int .i64 e.b, .string (strOf e.name), .string (strOf e.text), .int .i64 vk, .int .i64 vn, .string (strOf vs), .slice va vm vc] (0, 0) _ HBX.out Try.underlying44 rfl info_ev ?_)
      refine HEW.out.mono ?_
      rintro x w5 ⟨rfl, F5, hW5, ho5, hF5⟩
      have HW5 := hid hW5; have HO5 := hid ho5; have HF5 := hid hF5
      clear hW5 ho5 hF5
      go_wp2_with fail
      go_roundw
      case rel =>
        refine ⟨j + 1, F5, by go_num, by omega, by rw [HFW.out, ← List.append_assoc]; exact HW5.out, fun k hk => ?_, ?_⟩
        · rcases HF5.out k hk with h | h
          · exact HF3.out k h
          · right; have := HO4.out.size; omega
        · refine HO3.out.trans ((HO4.out.mono (G := F3) (fun _ _ e => e.elim)).trans HO5.out (fun _ _ e => e)) (fun k hk e => (HF3.out k e).elim id (fun h => by omega))
      case measure => simp [intOf]; omega
    · obtain rfl : j = es.length := by omega
      have hjl2 : ¬ (es.length : Int) < es.length := by omega
      have hW4 := HW3.out
      rw [List.take_length] at hW4
      have HW4 := hid hW4
      have HSM := hid (hsum2_c (HH.out.only ho3 HD.out))
      have hs32 : (sumS s es).length = 32 := sumS_len HSl.out es
      have HS32 := hid hs32
      clear hW4 ho3 hs32
      go_wp2_with fail
      refine HSM.out.mono ?_
      rintro x w6 ⟨rfl, ho6⟩
      have HWS := hid (wsum_c (HW4.out.same ho6) (sumS s es) HS32.out (by have := HBLJ.out; rw [List.take_length] at this; omega))
      have HO6 := hid ho6
      clear ho6
      go_wp2_with fail
      refine HWS.out.mono ?_
      rintro x w7 ⟨rfl, hst⟩
      have HST := hid hst
      clear hst
      go_wp2_with fail
      go_end0
      refine ⟨rfl, ?_⟩
      have h1 := WStep.comp (HO3.out.trans HO6.out (fun _ _ e => e.elim)) HF3.out HST.out
      unfold hwr
      simpa only [List.append_assoc] using h1
set_option maxRecDepth 100000 in
theorem hbytes_c (h : HistAt w hb F s es) :
    Calls Try.prog 46 #[.pointer (some ⟨hb, 0, none⟩)] w fun x w' => x = .returned (.int .i64 (hwr s es).length) ∧ Only (fun _ => False) w w' := by
  have ho := only_new w (.cells #[.slice none 0 0] 78)
  obtain ⟨lo, lc, xl, so, sc, H⟩ := id h
  have HW := hid (hwrite_c (h.same ho) (Wr.new (blk_new w _)) (fun k hk e => by have := H.lt k hk; omega) (by simp))
  have HO := hid ho
  rw [List.nil_append] at HW
  clear h ho H
  go_enter Try.func46, Try.ntmps46
  go_wp2_with fail
  refine HW.out.mono ?_
  rintro x w2 ⟨rfl, F2, hW2, ho2, hF2⟩
  have HL := hid (wlen_c hW2)
  have HO2 := hid ho2
  clear hW2 ho2 hF2
  go_wp2_with fail
  refine HL.out.mono ?_
  rintro x w3 ⟨rfl, rfl⟩
  go_wp2_with fail
  go_ret
  exact ⟨rfl, (HO.out.mono (G := fun k => k = w.heap.size) (fun _ _ e => e.elim)).trans HO2.out (fun _ _ e => e) |>.mono (fun k hk e => by have e' : k = w.heap.size := e; omega)⟩
end
end Go.Proofs.Ytnoopajedgllhaa
