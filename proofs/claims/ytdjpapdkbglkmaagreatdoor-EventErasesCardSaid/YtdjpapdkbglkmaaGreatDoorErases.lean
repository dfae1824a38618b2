/- EventErases's walk. -/
import Derived.Test.YtdjpapdkbglkmaaGreatDoorErase
import Derived.Test.YtdjpapdkbglkmaaGreatDoorTells
import Derived.Test.YtdjpapdkbglkmaaGreatDoorRf09C
import Derived.Test.YtdjpapdkbglkmaaGreatDoorRf09S
import Derived.Test.YtdjpapdkbglkmaaGreatDoorOpenE
namespace Go.Proofs.YtdjpapdkbglkmaaGreatDoor
open Go.RowKit

theorem chk_kd2 {t : VT} (h : t.chk = 0) : t.kd ∧ t.cl.kd := by
  have go : ∀ t : VT, t.chk = 0 → t.kd := fun t h => by
    unfold VT.chk at h
    by_cases h1 : (t.walk 0 0 0).2 = 0
    · exact walk_kd t 0 0 _ (Prod.ext rfl h1)
    · rw [if_pos h1] at h; exact absurd h h1
  exact ⟨go t h, go t.cl (by rw [cl_chk]; exact h)⟩
theorem same_cl2 (e : EM) : e.cl.same e = true := (same_iff _ _).2 (by show (⟨e.id, e.tm, e.k, e.a, e.b, e.name, e.text, e.v.cl.cl⟩ : EM) = ⟨e.id, e.tm, e.k, e.a, e.b, e.name, e.text, e.v.cl⟩; rw [cl_cl])
mutual
theorem cl_sz : ∀ t : VT, t.cl.sz ≤ t.sz
  | .mk k n s l => by
    rw [VT.cl, VT.sz, VT.sz]
    split
    · have := clL_sz l; omega
    · rw [VT.szL]; omega
theorem clL_sz : ∀ l : List VT, VT.szL (VT.clL l) ≤ VT.szL l
  | [] => by rw [VT.clL]; omega
  | t :: ts => by rw [VT.clL, VT.szL, VT.szL]; have := cl_sz t; have := clL_sz ts; omega
end
theorem ers_app : ∀ (a b : List EM) (n : Nat), ers n (a ++ b) = ers n a ++ ers (n + (ers n a).length) b
  | [], b, n => by rw [ers]; rfl
  | x :: a, b, n => by
    rw [List.cons_append, ers, ers]
    by_cases h : taskB x.k = true
    · rw [if_pos h, if_pos h, ers_app a b n]
    · rw [if_neg h, if_neg h, ers_app a b (n + 1), List.cons_append, List.length_cons]
      congr 3; omega
theorem ers_mem : ∀ (l : List EM) (n : Nat) (x : EM), x ∈ ers n l → ∃ e ∈ l, ∃ m, x = e.anew m ∧ taskB e.k = false
  | [], n, x, h => by rw [ers] at h; simp at h
  | y :: l, n, x, h => by
    rw [ers] at h
    by_cases g : taskB y.k = true
    · rw [if_pos g] at h
      obtain ⟨e, he, m, h1, h2⟩ := ers_mem l n x h
      exact ⟨e, List.mem_cons_of_mem _ he, m, h1, h2⟩
    · rw [if_neg g] at h
      rcases List.mem_cons.1 h with rfl | h
      · exact ⟨y, List.mem_cons_self, _, rfl, by simpa using g⟩
      · obtain ⟨e, he, m, h1, h2⟩ := ers_mem l (n + 1) x h
        exact ⟨e, List.mem_cons_of_mem _ he, m, h1, h2⟩
theorem ers_ers : ∀ (l : List EM) (n : Nat), ers n (ers n l) = ers n l
  | [], n => by rw [ers, ers]
  | x :: l, n => by
    rw [ers]
    by_cases h : taskB x.k = true
    · rw [if_pos h]; exact ers_ers l n
    · rw [if_neg h]
      show ers n (x.anew (n + 1) :: ers (n + 1) l) = _
      rw [ers, if_neg (by exact h), ers_ers l (n + 1)]
      congr 1
      show (⟨_, _, _, _, _, _, _, x.v.cl.cl⟩ : EM) = ⟨_, _, _, _, _, _, _, x.v.cl⟩
      rw [cl_cl]
      rfl
theorem ers_get {es : List EM} {j : Nat} {e : EM} (h : es[j]? = some e) (ht : taskB e.k = false) : (ers 0 es)[(ers 0 (es.take j)).length]? = some (e.anew ((ers 0 (es.take j)).length + 1)) := by
  have h1 : es = es.take (j + 1) ++ es.drop (j + 1) := (List.take_append_drop _ _).symm
  conv => lhs; arg 1; rw [h1]
  rw [ers_app, ers_take h, ht]
  simp
section
variable {w : World}
set_option maxRecDepth 100000 in
set_option maxHeartbeats 3200000 in
theorem erases_c (hT : Tab w) {v : Value} {es : List EM} {G : Nat → Prop} (hE : EvsV w G v es) (hG : ∀ k, G k → k < w.heap.size) (hg : ∀ e ∈ es, e.rg) (hel : es.length ≤ 9223372036854775807) :
    Calls Tryz.prog 5 #[v] w fun x w' => x = .returned (.bool true) ∧ Only (fun _ => False) w w' := by
  have HE := hid hE; have HGl := hid hG; have Hg := hid hg
  have HTL := hid (tells_c hT)
  obtain ⟨ad, cap, g, o, rfl, hne, hel3⟩ := hE
  have HNE := hid hne; have HEL := hid hel3
  clear hT hG hg hne hel3
  go_enter Tryz.func5, Tryz.ntmps5
  go_wp2_with fail
  refine HTL.out.mono ?_
  rintro x w1 ⟨rfl, ho1⟩
  have HO1 := hid ho1
  have hw1 := ho1.size
  clear ho1 HTL
  by_cases h20 : 20 < (es.length : Int)
  · go_wp2_with fail
    go_ret
    exact ⟨rfl, HO1.out⟩
  have HSM := hid (small_c (HE.out.same HO1.out) (fun k hk => by have := HGl.out k hk; omega) (fun e he => (Hg.out e he).2.2.2.2.2.2.2) hel)
  obtain ⟨sm, hsm⟩ : ∃ b, smB es 400 = b := ⟨_, rfl⟩
  rw [hsm] at HSM
  cases sm with
  | false =>
    go_wp2_with fail
    refine HSM.out.mono ?_
    rintro x w2 ⟨rfl, ho2⟩
    have HO2 := hid (HO1.out.trans ho2 (fun _ _ e => e))
    clear ho2
    go_wp2_with fail
    go_ret
    exact ⟨rfl, HO2.out⟩
  | true =>
  have HSZ := hid (smB_sz es 400 (by omega) hsm)
  clear hsm
  go_wp2_with fail
  refine HSM.out.mono ?_
  rintro x w2 ⟨rfl, ho2⟩
  have HO2 := hid (HO1.out.trans ho2 (fun _ _ e => e))
  clear ho2 HSM
  go_wp2_with fail
  go_loopw [24] (fun i wr => ∃ j : Nat, i = .int .i64 j ∧ j ≤ es.length ∧ (∀ (i : Nat) (e : EM), i < j → es[i]? = some e → e.Good) ∧ Only (fun _ => False) w wr) (fun i _ => es.length - (intOf i).toNat)
  case atStart => exact ⟨0, rfl, Nat.zero_le _, fun i e hi => absurd hi (by omega), HO2.out⟩
  case round =>
    obtain ⟨j, rfl, hj, hgd, ho⟩ := hrel
    have HOW := hid ho; have HGD := hid hgd
    have hsw := ho.size
    clear ho hgd
    by_cases hjl : j < es.length
    · have hji : (j : Int) < es.length := by omega
      obtain ⟨e, he⟩ : ∃ t, es[j]? = some t := ⟨_, List.getElem?_eq_getElem hjl⟩
      obtain ⟨rfl, hGg⟩ := HNE.out (by rintro rfl; simp at hjl)
      obtain ⟨cs, hcs, hEe⟩ := HEL.out j e he
      have heg := Hg.out e (List.mem_of_getElem? he)
      have hcw : ∀ i u, cs[i]? = some u → wr.cell? ⟨g, o + j * 11 + i, none⟩ = some u := fun i u hu =>
        (World.cell?_of_block (HOW.out.block g (World.block_lt_of_cell? _ _ (hcs i u hu)) (fun e => e))).trans (hcs i u hu)
      have hEw := hEe.same HOW.out
      obtain ⟨vk, vn, vs, va, vm, vc, rfl, -⟩ := hEw.form
      have e0 := hcw 0 _ rfl
      rw [Nat.add_zero] at e0
      have e1 := hcw 1 _ rfl
      have e2 := hcw 2 _ rfl
      have e3 := hcw 3 _ rfl
      have e4 := hcw 4 _ rfl
      have e5 := hcw 5 _ rfl
      have e6 := hcw 6 _ rfl
      have e7 := hcw 7 _ rfl
      have e8 := hcw 8 _ rfl
      have e9 := hcw 9 _ rfl
      have e10 := hcw 10 _ rfl
      have HRC := hid (r9check_c (w := wr.alloc (.cells #[.int .i64 e.id, .int .i64 e.tm, .int .i64 e.k, .int .i64 e.a, .int .i64 e.b, .string (strOf e.name), .string (strOf e.text), .int .i64 vk, .int .i64 vn, .string (strOf vs), .slice va vm vc] 26)) (hEw.same (only_new wr _)) heg)
      obtain ⟨ck, hck⟩ : ∃ y, e.chk = y := ⟨_, rfl⟩
      rw [hck] at HRC
      have HCK := hid hck; have Hhe := hid he
      clear hcs hEe hcw hEw heg hck he
      by_cases hc0 : ck = 0
      · subst hc0
        go_wp2_with fail
        refine HRC.out.mono ?_
        rintro x w5 ⟨rfl, ho5⟩
        have HO5 := hid ((HOW.out.trans (only_new wr (.cells #[.int .i64 e.id, .int .i64 e.tm, .int .i64 e.k, .int .i64 e.a, .int .i64 e.b, .string (strOf e.name), .string (strOf e.text), .int .i64 vk, .int .i64 vn, .string (strOf vs), .slice va vm vc] 26)) (fun _ _ e => e)).trans ho5 (fun _ _ e => e))
        clear ho5 HRC e0 e1 e2 e3 e4 e5 e6 e7 e8 e9 e10
        go_wp2_with fail
        go_roundw
        case rel => exact ⟨j + 1, by go_num, by omega, fun i e hi he' => by
          rcases Nat.lt_or_ge i j with h | h
          · exact HGD.out i e h he'
          · have : i = j := by omega
            subst this
            rw [Hhe.out] at he'
            cases he'; exact chk_good HCK.out, HO5.out⟩
        case measure => simp [intOf]; omega
      · have hcb : (ck != 0) = true := by simpa using hc0
        clear hc0
        go_wp2_with fail
        refine HRC.out.mono ?_
        rintro x w5 ⟨rfl, ho5⟩
        have HO5 := hid ((HOW.out.trans (only_new wr (.cells #[.int .i64 e.id, .int .i64 e.tm, .int .i64 e.k, .int .i64 e.a, .int .i64 e.b, .string (strOf e.name), .string (strOf e.text), .int .i64 vk, .int .i64 vn, .string (strOf vs), .slice va vm vc] 26)) (fun _ _ e => e)).trans ho5 (fun _ _ e => e))
        clear ho5
        go_wp2_with fail
        go_ret
        exact ⟨rfl, HO5.out⟩
    · have hje : j = es.length := by omega
      have hall : ∀ e ∈ es, e.Good := fun e he => by
        obtain ⟨i, hi⟩ := List.mem_iff_getElem?.1 he
        exact HGD.out i e (by rw [hje]; rcases Nat.lt_or_ge i es.length with h | h; exact h; rw [List.getElem?_eq_none h] at hi; cases hi) hi
      have HALL := hid hall
      have hjl2 : ¬ (j : Int) < es.length := by omega
      have HER := hid (erase_c (HE.out.same HOW.out) (fun k hk => by have := HGl.out k hk; omega) (fun e he => (Hg.out e he).2.2.2.2.2.2.2) (fun e he => by have := HSZ.out e he; omega) (by omega))
      clear hall hje HGD hsw
      go_wp2_with fail
      refine HER.out.mono ?_
      rintro x w5 ⟨v5, rfl, hev5, ho5⟩
      have HO5 := hid (HOW.out.trans ho5 (fun _ _ e => e))
      have HEV5 := hid hev5
      have hlen5 := ers_len es 0
      obtain ⟨oa, oc, og, oo, rfl, hone, hoel⟩ := hev5
      have HON := hid hone; have HOE := hid hoel
      obtain ⟨m, hm⟩ : ∃ m, (ers 0 es).length = m := ⟨_, rfl⟩
      rw [hm] at hlen5 ⊢
      have HM := hid hm
      have hs5 := HO5.out.size
      clear ho5 hone hoel HER hm hjl hjl2 hj HOW
      go_wp2_with fail
      go_loopw [36, 6] (fun i s wr => ∃ j n : Nat, i = .int .i64 j ∧ s = .int .i64 n ∧ j ≤ es.length ∧ n = (ers 0 (es.take j)).length ∧ Only (fun _ => False) w5 wr) (fun i _ _ => es.length - (intOf i).toNat)
      case atStart => exact ⟨0, 0, rfl, rfl, Nat.zero_le _, rfl, Only.refl _ _⟩
      case round =>
        obtain ⟨j, n, rfl, rfl, hj, hnn, ho⟩ := hrel
        have HOR := hid ho; have HNN := hid hnn
        have HOW := hid (HO5.out.trans ho (fun _ _ e => e))
        have hsw := ho.size
        clear ho hnn
        by_cases hjl : j < es.length
        · have hji : (j : Int) < es.length := by omega
          obtain ⟨e, he⟩ : ∃ t, es[j]? = some t := ⟨_, List.getElem?_eq_getElem hjl⟩
          obtain ⟨rfl, hGg⟩ := HNE.out (by rintro rfl; simp at hjl)
          obtain ⟨cs, hcs, hEe⟩ := HEL.out j e he
          have heg := Hg.out e (List.mem_of_getElem? he)
          have hcw : ∀ i u, cs[i]? = some u → wr.cell? ⟨g, o + j * 11 + i, none⟩ = some u := fun i u hu =>
            (World.cell?_of_block (HOW.out.block g (World.block_lt_of_cell? _ _ (hcs i u hu)) (fun e => e))).trans (hcs i u hu)
          have hEw := hEe.same HOW.out
          obtain ⟨vk, vn, vs, va, vm, vc, rfl, -⟩ := hEw.form
          have e0 := hcw 0 _ rfl
          rw [Nat.add_zero] at e0
          have e1 := hcw 1 _ rfl
          have e2 := hcw 2 _ rfl
          have e3 := hcw 3 _ rfl
          have e4 := hcw 4 _ rfl
          have e5 := hcw 5 _ rfl
          have e6 := hcw 6 _ rfl
          have e7 := hcw 7 _ rfl
          have e8 := hcw 8 _ rfl
          have e9 := hcw 9 _ rfl
          have e10 := hcw 10 _ rfl
          have hgd := HALL.out e (List.mem_of_getElem? he)
          have HTK := hid (ers_take he)
          have HGT := hid (ers_get he)
          have HEw := hid hEw; have Heg := hid heg; have HGD := hid hgd
          clear hcs hEe hcw hEw heg he hgd
          by_cases hk2 : e.k = 2
          · have b2 : (e.k == 2) = true := by simpa using hk2
            have HF : Hid (ers 0 (es.take (j + 1)) = ers 0 (es.take j)) := hid (by rw [HTK.out, if_pos (by unfold taskB; rw [b2]; simp), List.append_nil])
            clear hk2
            go_wp2_with fail
            go_roundw
            case rel => exact ⟨j + 1, n, by go_num, rfl, by omega, by rw [HF.out]; exact HNN.out, HOR.out.trans (only_new wr _) (fun _ _ e => e)⟩
            case measure => simp [intOf]; omega
          have b2 : (e.k == 2) = false := by simpa using hk2
          clear hk2
          by_cases hk3 : e.k = 3
          · have b3 : (e.k == 3) = true := by simpa using hk3
            have HF : Hid (ers 0 (es.take (j + 1)) = ers 0 (es.take j)) := hid (by rw [HTK.out, if_pos (by unfold taskB; rw [b3]; simp), List.append_nil])
            clear hk3
            go_wp2_with fail
            go_roundw
            case rel => exact ⟨j + 1, n, by go_num, rfl, by omega, by rw [HF.out]; exact HNN.out, HOR.out.trans (only_new wr _) (fun _ _ e => e)⟩
            case measure => simp [intOf]; omega
          have b3 : (e.k == 3) = false := by simpa using hk3
          clear hk3
          by_cases hk5 : e.k = 5
          · have b5 : (e.k == 5) = true := by simpa using hk5
            have HF : Hid (ers 0 (es.take (j + 1)) = ers 0 (es.take j)) := hid (by rw [HTK.out, if_pos (by unfold taskB; rw [b5]; simp), List.append_nil])
            clear hk5
            go_wp2_with fail
            go_roundw
            case rel => exact ⟨j + 1, n, by go_num, rfl, by omega, by rw [HF.out]; exact HNN.out, HOR.out.trans (only_new wr _) (fun _ _ e => e)⟩
            case measure => simp [intOf]; omega
          have b5 : (e.k == 5) = false := by simpa using hk5
          clear hk5
          by_cases hk6 : e.k = 6
          · have b6 : (e.k == 6) = true := by simpa using hk6
            have HF : Hid (ers 0 (es.take (j + 1)) = ers 0 (es.take j)) := hid (by rw [HTK.out, if_pos (by unfold taskB; rw [b6]; simp), List.append_nil])
            clear hk6
            go_wp2_with fail
            go_roundw
            case rel => exact ⟨j + 1, n, by go_num, rfl, by omega, by rw [HF.out]; exact HNN.out, HOR.out.trans (only_new wr _) (fun _ _ e => e)⟩
            case measure => simp [intOf]; omega
          have b6 : (e.k == 6) = false := by simpa using hk6
          clear hk6
          have hnt : taskB e.k = false := by unfold taskB; rw [b2, b3, b5, b6]; rfl
          have hgx := HGT.out hnt
          rw [← HNN.out] at hgx
          have hnm : n < m := by
            have := HM.out
            rcases Nat.lt_or_ge n m with h | h
            · exact h
            · rw [List.getElem?_eq_none (by omega)] at hgx; cases hgx
          have hnm1 : ¬ (m : Int) ≤ n := by omega
          have hnm2 : (n : Int) < m := by omega
          obtain ⟨rfl, hoG⟩ := HON.out (by intro h; have := HM.out; rw [h] at this; simp at this; omega)
          obtain ⟨ycs, hycs, hyE⟩ := HOE.out n _ hgx
          have hycw : ∀ i u, ycs[i]? = some u → wr.cell? ⟨og, oo + n * 11 + i, none⟩ = some u := fun i u hu =>
            (World.cell?_of_block (HOR.out.block og (World.block_lt_of_cell? _ _ (hycs i u hu)) (fun e => e))).trans (hycs i u hu)
          have hyEw := hyE.same HOR.out
          obtain ⟨yvk, yvn, yvs, yva, yvm, yvc, rfl, hyV⟩ := hyEw.form
          have HF : Hid (n + 1 = (ers 0 (es.take (j + 1))).length) := hid (by rw [HTK.out, hnt, HNN.out]; simp)
          have f0 : wr.cell? ⟨og, oo + n * 11, none⟩ = some (.int .i64 (n + 1)) := hycw 0 _ rfl
          have f1 : wr.cell? ⟨og, oo + n * 11 + 1, none⟩ = some (.int .i64 e.tm) := hycw 1 _ rfl
          have f2 : wr.cell? ⟨og, oo + n * 11 + 2, none⟩ = some (.int .i64 e.k) := hycw 2 _ rfl
          have f3 : wr.cell? ⟨og, oo + n * 11 + 3, none⟩ = some (.int .i64 e.a) := hycw 3 _ rfl
          have f4 : wr.cell? ⟨og, oo + n * 11 + 4, none⟩ = some (.int .i64 e.b) := hycw 4 _ rfl
          have f5 : wr.cell? ⟨og, oo + n * 11 + 5, none⟩ = some (.string (strOf e.name)) := hycw 5 _ rfl
          have f6 : wr.cell? ⟨og, oo + n * 11 + 6, none⟩ = some (.string (strOf e.text)) := hycw 6 _ rfl
          have f7 : wr.cell? ⟨og, oo + n * 11 + 7, none⟩ = some (.int .i64 yvk) := hycw 7 _ rfl
          have f8 : wr.cell? ⟨og, oo + n * 11 + 8, none⟩ = some (.int .i64 yvn) := hycw 8 _ rfl
          have f9 : wr.cell? ⟨og, oo + n * 11 + 9, none⟩ = some (.string (strOf yvs)) := hycw 9 _ rfl
          have f10 : wr.cell? ⟨og, oo + n * 11 + 10, none⟩ = some (.slice yva yvm yvc) := hycw 10 _ rfl
          have hogl : og < wr.heap.size := World.block_lt_of_cell? _ _ f0
          have hoW : Only (fun _ => False) wr ((wr.alloc (.cells #[.int .i64 e.id, .int .i64 e.tm, .int .i64 e.k, .int .i64 e.a, .int .i64 e.b, .string (strOf e.name), .string (strOf e.text), .int .i64 vk, .int .i64 vn, .string (strOf vs), .slice va vm vc] 26)).alloc (.cells #[.int .i64 e.id, .int .i64 e.tm, .int .i64 e.k, .int .i64 e.a, .int .i64 e.b, .string (strOf e.name), .string (strOf e.text), .int .i64 yvk, .int .i64 yvn, .string (strOf yvs), .slice yva yvm yvc] 26)) := (only_new wr (.cells #[.int .i64 e.id, .int .i64 e.tm, .int .i64 e.k, .int .i64 e.a, .int .i64 e.b, .string (strOf e.name), .string (strOf e.text), .int .i64 vk, .int .i64 vn, .string (strOf vs), .slice va vm vc] 26)).trans (only_new _ (.cells #[.int .i64 e.id, .int .i64 e.tm, .int .i64 e.k, .int .i64 e.a, .int .i64 e.b, .string (strOf e.name), .string (strOf e.text), .int .i64 yvk, .int .i64 yvn, .string (strOf yvs), .slice yva yvm yvc] 26)) (fun _ _ e => e)
          have hkd := chk_kd2 HGD.out.v
          have HSA := hid (r9same_c (e := e.cl) (f := e) (cs := [.int .i64 e.id, .int .i64 e.tm, .int .i64 e.k, .int .i64 e.a, .int .i64 e.b, .string (strOf e.name), .string (strOf e.text), .int .i64 yvk, .int .i64 yvn, .string (strOf yvs), .slice yva yvm yvc]) (w := (wr.alloc (.cells #[.int .i64 e.id, .int .i64 e.tm, .int .i64 e.k, .int .i64 e.a, .int .i64 e.b, .string (strOf e.name), .string (strOf e.text), .int .i64 vk, .int .i64 vn, .string (strOf vs), .slice va vm vc] 26)).alloc (.cells #[.int .i64 e.id, .int .i64 e.tm, .int .i64 e.k, .int .i64 e.a, .int .i64 e.b, .string (strOf e.name), .string (strOf e.text), .int .i64 yvk, .int .i64 yvn, .string (strOf yvs), .slice yva yvm yvc] 26)) ⟨[.int .i64 yvk, .int .i64 yvn, .string (strOf yvs), .slice yva yvm yvc], rfl, (show VAt wr _ e.v.cl _ from hyV).only hoW (fun _ _ e => e)⟩ (HEw.out.same hoW) (cl_rg _ Heg.out.2.2.2.2.2.2.2) Heg.out.2.2.2.2.2.2.2 hkd.2 hkd.1)
          rw [same_cl2] at HSA
          have HOX := hid hoW
          clear hgx hycs hyE hycw hyEw hyV hoW hkd
          go_wp2_with fail
          refine HSA.out.mono ?_
          rintro x w9 ⟨rfl, ho9⟩
          have HO9 := hid (HOX.out.trans ho9 (fun _ _ e => e))
          clear ho9 e0 e1 e2 e3 e4 e5 e6 e7 e8 e9 e10 f0 f1 f2 f3 f4 f5 f6 f7 f8 f9 f10
          go_wp2_with fail
          go_roundw
          case rel => exact ⟨j + 1, n + 1, by go_num, by go_num, by omega, HF.out, HOR.out.trans HO9.out (fun _ _ e => e)⟩
          case measure => simp [intOf]; omega
        · have hjl2 : ¬ (j : Int) < es.length := by omega
          have hnm : n = m := by rw [HNN.out, List.take_of_length_le (by omega)]; exact HM.out
          subst hnm
          have hev := HEV5.out.same HOR.out
          rw [HM.out] at hev
          have HER := hid (erase_c hev (fun k hk => by have h2 : k < w5.heap.size := hk.2; omega) (fun e he => by
            obtain ⟨x, hx, q, rfl, -⟩ := ers_mem es 0 e he
            exact cl_rg _ (Hg.out x hx).2.2.2.2.2.2.2) (fun e he => by
            obtain ⟨x, hx, q, rfl, -⟩ := ers_mem es 0 e he
            have h1 := cl_sz x.v
            have h2 := HSZ.out x hx
            show x.v.cl.sz ≤ _
            omega) (by rw [HM.out]; omega))
          clear hev
          go_wp2_with fail
          refine HER.out.mono ?_
          rintro x w6 ⟨v6, rfl, hev6, ho6⟩
          have HO6 := hid (HOW.out.trans ho6 (fun _ _ e => e))
          rw [ers_ers] at hev6
          obtain ⟨aa, ac, ag, aq, rfl, hane, hael⟩ := hev6
          rw [HM.out]
          have HAN := hid hane; have HAE := hid hael
          have HOS := hid (HOR.out.trans ho6 (fun _ _ e => e))
          have tt : ((n : Int) != (n : Int)) = false := by simp
          clear hane hael ho6 HER HNN hjl hjl2 hj HOW HOR
          go_wp2_with fail
          go_loopw [100] (fun i wr => ∃ j : Nat, i = .int .i64 j ∧ j ≤ n ∧ Only (fun _ => False) w6 wr) (fun i _ => n - (intOf i).toNat)
          case atStart => exact ⟨0, rfl, Nat.zero_le _, Only.refl _ _⟩
          case round =>
            obtain ⟨j, rfl, hj, ho⟩ := hrel
            have HOR := hid ho
            clear ho
            by_cases hjl : j < n
            · have hji : (j : Int) < n := by omega
              obtain ⟨e, he⟩ : ∃ t, (ers 0 es)[j]? = some t := ⟨_, List.getElem?_eq_getElem (by rw [HM.out]; exact hjl)⟩
              have hne0 : ers 0 es ≠ [] := by intro h; rw [h] at he; simp at he
              obtain ⟨rfl, -⟩ := HON.out hne0
              obtain ⟨rfl, -⟩ := HAN.out hne0
              obtain ⟨ycs, hycs, hyE⟩ := HOE.out j _ he
              obtain ⟨zcs, hzcs, hzE⟩ := HAE.out j _ he
              have hoy : Only (fun _ => False) w5 wr := HOS.out.trans HOR.out (fun _ _ e => e)
              have hycw : ∀ i u, ycs[i]? = some u → wr.cell? ⟨og, oo + j * 11 + i, none⟩ = some u := fun i u hu =>
                (World.cell?_of_block (hoy.block og (World.block_lt_of_cell? _ _ (hycs i u hu)) (fun e => e))).trans (hycs i u hu)
              have hzcw : ∀ i u, zcs[i]? = some u → wr.cell? ⟨ag, aq + j * 11 + i, none⟩ = some u := fun i u hu =>
                (World.cell?_of_block (HOR.out.block ag (World.block_lt_of_cell? _ _ (hzcs i u hu)) (fun e => e))).trans (hzcs i u hu)
              have hyEw := hyE.same hoy
              have hzEw := hzE.same HOR.out
              obtain ⟨yvk, yvn, yvs, yva, yvm, yvc, rfl, -⟩ := hyEw.form
              obtain ⟨zvk, zvn, zvs, zva, zvm, zvc, rfl, -⟩ := hzEw.form
              have f0 : wr.cell? ⟨og, oo + j * 11, none⟩ = some (.int .i64 e.id) := hycw 0 _ rfl
              have f1 : wr.cell? ⟨og, oo + j * 11 + 1, none⟩ = some (.int .i64 e.tm) := hycw 1 _ rfl
              have f2 : wr.cell? ⟨og, oo + j * 11 + 2, none⟩ = some (.int .i64 e.k) := hycw 2 _ rfl
              have f3 : wr.cell? ⟨og, oo + j * 11 + 3, none⟩ = some (.int .i64 e.a) := hycw 3 _ rfl
              have f4 : wr.cell? ⟨og, oo + j * 11 + 4, none⟩ = some (.int .i64 e.b) := hycw 4 _ rfl
              have f5 : wr.cell? ⟨og, oo + j * 11 + 5, none⟩ = some (.string (strOf e.name)) := hycw 5 _ rfl
              have f6 : wr.cell? ⟨og, oo + j * 11 + 6, none⟩ = some (.string (strOf e.text)) := hycw 6 _ rfl
              have f7 : wr.cell? ⟨og, oo + j * 11 + 7, none⟩ = some (.int .i64 yvk) := hycw 7 _ rfl
              have f8 : wr.cell? ⟨og, oo + j * 11 + 8, none⟩ = some (.int .i64 yvn) := hycw 8 _ rfl
              have f9 : wr.cell? ⟨og, oo + j * 11 + 9, none⟩ = some (.string (strOf yvs)) := hycw 9 _ rfl
              have f10 : wr.cell? ⟨og, oo + j * 11 + 10, none⟩ = some (.slice yva yvm yvc) := hycw 10 _ rfl
              have h0 : wr.cell? ⟨ag, aq + j * 11, none⟩ = some (.int .i64 e.id) := hzcw 0 _ rfl
              have h1 : wr.cell? ⟨ag, aq + j * 11 + 1, none⟩ = some (.int .i64 e.tm) := hzcw 1 _ rfl
              have h2 : wr.cell? ⟨ag, aq + j * 11 + 2, none⟩ = some (.int .i64 e.k) := hzcw 2 _ rfl
              have h3 : wr.cell? ⟨ag, aq + j * 11 + 3, none⟩ = some (.int .i64 e.a) := hzcw 3 _ rfl
              have h4 : wr.cell? ⟨ag, aq + j * 11 + 4, none⟩ = some (.int .i64 e.b) := hzcw 4 _ rfl
              have h5 : wr.cell? ⟨ag, aq + j * 11 + 5, none⟩ = some (.string (strOf e.name)) := hzcw 5 _ rfl
              have h6 : wr.cell? ⟨ag, aq + j * 11 + 6, none⟩ = some (.string (strOf e.text)) := hzcw 6 _ rfl
              have h7 : wr.cell? ⟨ag, aq + j * 11 + 7, none⟩ = some (.int .i64 zvk) := hzcw 7 _ rfl
              have h8 : wr.cell? ⟨ag, aq + j * 11 + 8, none⟩ = some (.int .i64 zvn) := hzcw 8 _ rfl
              have h9 : wr.cell? ⟨ag, aq + j * 11 + 9, none⟩ = some (.string (strOf zvs)) := hzcw 9 _ rfl
              have h10 : wr.cell? ⟨ag, aq + j * 11 + 10, none⟩ = some (.slice zva zvm zvc) := hzcw 10 _ rfl
              obtain ⟨x, hx, q, hxe, -⟩ := ers_mem es 0 e (List.mem_of_getElem? he)
              have hkd : e.v.kd := by rw [hxe]; exact (chk_kd2 (HALL.out x hx).v).2
              have hrg : e.v.rg := by rw [hxe]; exact cl_rg _ (Hg.out x hx).2.2.2.2.2.2.2
              have hdr := (Only.refl (fun _ => False) wr).drew
              have HSA := hid (r9same_c (w := wr.drew) (hyEw.same hdr) (hzEw.same hdr) hrg hrg hkd hkd)
              rw [(same_iff e e).2 rfl] at HSA
              clear hycs hyE hzcs hzE hycw hzcw hyEw hzEw he hx hxe hkd hrg hdr hoy hne0
              go_wp2_with fail
              go_region_law (first
                | (refine step_of rfl (wp_callc (o := ⟨some 111, _, _, _, _, _⟩) (f := 16) (args := #[.agg #[.int .i64 e.id, .int .i64 e.tm, .int .i64 e.k, .int .i64 e.a, .int .i64 e.b, .string (strOf e.name), .string (strOf e.text), .int .i64 yvk, .int .i64 yvn, .string (strOf yvs), .slice yva yvm yvc], .agg #[.int .i64 e.id, .int .i64 e.tm, .int .i64 e.k, .int .i64 e.a, .int .i64 e.b, .string (strOf e.name), .string (strOf e.text), .int .i64 zvk, .int .i64 zvn, .string (strOf zvs), .slice zva zvm zvc]]) (by kernel_rfl) ?_); refine HSA.out.mono ?_; rintro x w9 ⟨rfl, ho9⟩; refine ⟨_, rfl, ?_⟩; have HO9 := hid ho9; clear ho9))
              all_goals
                go_wp2_with fail
                go_roundw
                case rel => exact ⟨j + 1, by go_num, by omega, HOR.out.trans (((Only.refl (fun _ => False) wr).drew).trans HO9.out (fun _ _ e => e)) (fun _ _ e => e)⟩
                case measure => simp [intOf]; omega
            · have hjl3 : ¬ (j : Int) < n := by omega
              go_wp2_with fail
              go_ret
              exact ⟨rfl, HO6.out.trans HOR.out (fun _ _ e => e)⟩
end
end Go.Proofs.YtdjpapdkbglkmaaGreatDoor
