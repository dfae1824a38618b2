/- HistoryOwn's walk. -/
import Derived.Test.YtnoopajedgllhaaHOwnL
namespace Go.Proofs.Ytnoopajedgllhaa
open Go.RowKit
def s0 : List UInt8 := List.replicate 32 0
theorem s0_len : s0.length = 32 := rfl
theorem s0_arr : (bytesV s0).toArray = #[.int .u8 0, .int .u8 0, .int .u8 0, .int .u8 0, .int .u8 0, .int .u8 0, .int .u8 0, .int .u8 0, .int .u8 0, .int .u8 0, .int .u8 0, .int .u8 0, .int .u8 0, .int .u8 0, .int .u8 0, .int .u8 0, .int .u8 0, .int .u8 0, .int .u8 0, .int .u8 0, .int .u8 0, .int .u8 0, .int .u8 0, .int .u8 0, .int .u8 0, .int .u8 0, .int .u8 0, .int .u8 0, .int .u8 0, .int .u8 0, .int .u8 0, .int .u8 0] := by kernel_rfl
section
variable {w : World}
set_option maxRecDepth 100000 in
set_option maxHeartbeats 12800000 in
theorem hown_c {v : Value} {l : List EM} (hE : EvsV w (fun k => k < w.heap.size) v l) (hg : ∀ e ∈ l, e.rg) (hll : l.length ≤ 9223372036854775807) : Calls Try.prog 5 #[v] w fun x w' => x = .returned (.bool true) ∧ Only (fun _ => False) w w' := by
  obtain ⟨ad, cap, rfl⟩ := hE.len
  have HNW := hid (fun W => hnew_c (w := W) s0_len)
  rw [s0_arr] at HNW
  have HE := hid hE; have Hg := hid hg
  obtain ⟨ag, cg, g, o, eg, hne, hel⟩ := hE
  simp only [Value.slice.injEq] at eg
  obtain ⟨rfl, -, rfl⟩ := eg
  have HNE := hid hne; have HEL := hid hel
  clear hg hne hel
  go_enter Try.func5, Try.ntmps5
  go_wp2_with fail
  refine keeps_c.mono ?_
  rintro x w1 ⟨rfl, ho1⟩
  have HSM := hid (small_c (HE.out.same ho1) (fun k hk => Nat.lt_of_lt_of_le hk ho1.size) (fun e he => (Hg.out e he).2.2.2.2.2.2.2) hll)
  have HO1 := hid ho1
  clear ho1
  go_wp2_with fail
  refine HSM.out.mono ?_
  rintro x w2 ⟨rfl, ho2⟩
  have HO2 := hid (HO1.out.trans ho2 (fun _ _ e => e))
  have hz2 := HO2.out.size
  clear ho2 HSM HO1
  by_cases hsm : (smB l 300 && decide (l.length ≤ 40)) = true
  rotate_left
  · have hsf : (smB l 300 && decide (l.length ≤ 40)) = false := by simpa using hsm
    rw [hsf]
    clear hsm hsf
    go_wp2_with fail
    go_ret
    exact ⟨rfl, HO2.out⟩
  rw [hsm]
  have hl40 : l.length ≤ 40 := by simp only [Bool.and_eq_true, decide_eq_true_eq] at hsm; exact hsm.2
  have Hsz := hid (fun (e : EM) (he : e ∈ l) => (show e.v.sz ≤ 1000000 by
    simp only [Bool.and_eq_true] at hsm
    have := sm_sz (by decide) hsm.1 e he; omega))
  clear hsm
  go_wp2_with fail
  refine (HNW.out w2).mono ?_
  rintro x w3 ⟨hb, rfl, hh, hsz3, ho3⟩
  have HH0 := hid hh
  have HO3 := hid (HO2.out.trans ho3 (fun _ _ e => e))
  have hz3 := HO3.out.size
  have hb3 : hb < w3.heap.size := by obtain ⟨_, _, _, _, _, H⟩ := hh; exact H.lt hb H.fb
  clear hh ho3 HNW
  go_wp2_with fail
  go_loopw [24, 4] (fun i v wr => ∃ (j cp : Nat) (ao : Option Addr) (xs : List Value), i = .int .i64 j ∧ j ≤ l.length ∧ v = .slice ao j cp ∧ OutE (fun k => w3.heap.size ≤ k) wr ao j cp xs ((l.take j).map EM.cl) ∧ Only (fun _ => False) w3 wr) (fun i _ _ => l.length - (intOf i).toNat)
  case atStart => exact ⟨0, 0, none, [], rfl, Nat.zero_le _, rfl, by rw [List.take_zero]; exact OutE.nil _ w3, Only.refl _ _⟩
  case round =>
    obtain ⟨j, cp, ao, xs, rfl, hj, rfl, hout, ho⟩ := hrel
    have HOUT := hid hout; have HO := hid ho
    have hso := ho.size
    clear hout ho
    obtain ⟨wy, hwy⟩ : ∃ x, x = wr := ⟨wr, rfl⟩
    subst hwy
    by_cases hjl : j < l.length
    · have hji : (j : Int) < l.length := by omega
      have HJL := hid hjl
      obtain ⟨e, he⟩ : ∃ t, l[j]? = some t := ⟨_, List.getElem?_eq_getElem hjl⟩
      have hrg := Hg.out e (List.mem_of_getElem? he)
      have hsz := Hsz.out e (List.mem_of_getElem? he)
      obtain ⟨rfl, hGg⟩ := HNE.out (by rintro rfl; simp at hjl)
      obtain ⟨cs, hcs, hEe⟩ := HEL.out j e he
      have hcw : ∀ i u, cs[i]? = some u → wy.cell? ⟨g, o + j * 11 + i, none⟩ = some u := fun i u hu => (World.cell?_of_block ((HO3.out.trans HO.out (fun _ _ e => e)).block g (World.block_lt_of_cell? _ _ (hcs i u hu)) (fun e => e))).trans (hcs i u hu)
      have hEw := hEe.same (HO3.out.trans HO.out (fun _ _ e => e))
      obtain ⟨vk, vn, vs, va, vm, vc, rfl, hV⟩ := hEw.form
      have e0 := hcw 0 _ rfl
      rw [Nat.add_zero] at e0
      have e1 := hcw 1 _ rfl
      have e2 := hcw 2 _ rfl
      have e3 := hcw 3 _ rfl
      have e4 := hcw 4 _ rfl
      have e5 := hcw 5 _ rfl
      have e6 := hcw 6 _ rfl
      have e7 := hcw 7 _ rfl
      have e8 := hcw 8 _ rfl
      have e9 := hcw 9 _ rfl
      have e10 := hcw 10 _ rfl
      have ho1 := only_new wy (.cells #[.int .i64 e.id, .int .i64 e.tm, .int .i64 e.k, .int .i64 e.a, .int .i64 e.b, .string (strOf e.name), .string (strOf e.text), .int .i64 vk, .int .i64 vn, .string (strOf vs), .slice va vm vc] 44)
      have HBX := hid (blk_new wy (.cells #[.int .i64 e.id, .int .i64 e.tm, .int .i64 e.k, .int .i64 e.a, .int .i64 e.b, .string (strOf e.name), .string (strOf e.text), .int .i64 vk, .int .i64 vn, .string (strOf vs), .slice va vm vc] 44))
      have HTK : Hid ((l.take (j + 1)).map EM.cl = (l.take j).map EM.cl ++ [e.cl]) := hid (by rw [List.take_add_one, he]; simp)
      have HC := hid (cloneC _ e.v (Nat.le_refl _) (wy.alloc (.cells #[.int .i64 e.id, .int .i64 e.tm, .int .i64 e.k, .int .i64 e.a, .int .i64 e.b, .string (strOf e.name), .string (strOf e.text), .int .i64 vk, .int .i64 vn, .string (strOf vs), .slice va vm vc] 44)) _ _ (hV.same ho1) (fun i hi => by have := hz3; simp; omega) hrg.2.2.2.2.2.2.2 (by omega))
      have HO1 := hid ho1
      clear hrg hsz hEw hEe hcs hcw hV ho1 he hGg
      go_wp2_with fail
      refine HC.out.mono ?_
      rintro x w6 ⟨cs6, rfl, hv6, ho6, hsf6⟩
      obtain ⟨uk, un, us, ua, um, uc, rfl⟩ := hv6.form
      have c0 := cell_blk HBX.out 0
      have c1 := c0; have c2 := c0; have c3 := c0; have c4 := c0; have c5 := c0; have c6 := c0; have c7 := c0; have c8 := c0; have c9 := c0; have c10 := c0
      have hb6 := blk_only HBX.out ho6 (fun e => e)
      clear c0 c1 c2 c3 c4 c5 c6 c7 c8 c9 c10
      have c0 : w6.cell? ⟨wy.heap.size, 0, none⟩ = some (.int .i64 e.id) := cell_blk hb6 0
      have c1 : w6.cell? ⟨wy.heap.size, 1, none⟩ = some (.int .i64 e.tm) := cell_blk hb6 1
      have c2 : w6.cell? ⟨wy.heap.size, 2, none⟩ = some (.int .i64 e.k) := cell_blk hb6 2
      have c3 : w6.cell? ⟨wy.heap.size, 3, none⟩ = some (.int .i64 e.a) := cell_blk hb6 3
      have c4 : w6.cell? ⟨wy.heap.size, 4, none⟩ = some (.int .i64 e.b) := cell_blk hb6 4
      have c5 : w6.cell? ⟨wy.heap.size, 5, none⟩ = some (.string (strOf e.name)) := cell_blk hb6 5
      have c6 : w6.cell? ⟨wy.heap.size, 6, none⟩ = some (.string (strOf e.text)) := cell_blk hb6 6
      have c7 : w6.cell? ⟨wy.heap.size, 7, none⟩ = some (.int .i64 vk) := cell_blk hb6 7
      have c8 : w6.cell? ⟨wy.heap.size, 8, none⟩ = some (.int .i64 vn) := cell_blk hb6 8
      have c9 : w6.cell? ⟨wy.heap.size, 9, none⟩ = some (.string (strOf vs)) := cell_blk hb6 9
      have c10 : w6.cell? ⟨wy.heap.size, 10, none⟩ = some (.slice va vm vc) := cell_blk hb6 10
      have hlw2 : wy.heap.size < w6.heap.size := blk_lt hb6
      have z6 : ∀ i, w6.frozen? ⟨wy.heap.size, i, none⟩ = false := frozen_blk hb6
      have HB6 := hid hb6; have HV6 := hid hv6; have HO6 := hid ho6; have HSF := hid hsf6
      clear hv6 ho6 hb6 hsf6
      go_wp2_with (first
        | ((guard_target =~ wpList _ _ _ (⟨none, .store 42 _ _, _, _, _, _⟩ :: _) _ _); refine wpList_store_in rfl 42 (.tmp 31) (.tmp 30) rfl (wy.heap.size) 7 #[.int .i64 uk, .int .i64 un, .string (strOf us), .slice ua um uc] rfl rfl #[.int .i64 e.id, .int .i64 e.tm, .int .i64 e.k, .int .i64 e.a, .int .i64 e.b, .string (strOf e.name), .string (strOf e.text), .int .i64 vk, .int .i64 vn, .string (strOf vs), .slice va vm vc] 44 HB6.out (Nat.le_refl 11) info_val (val_one uk un (strOf us) ua um uc) ?_; intro w8 hb8 ho8 hs8; have hb8 : w8.heap[wy.heap.size]? = some (.cells #[.int .i64 e.id, .int .i64 e.tm, .int .i64 e.k, .int .i64 e.a, .int .i64 e.b, .string (strOf e.name), .string (strOf e.text), .int .i64 uk, .int .i64 un, .string (strOf us), .slice ua um uc] 44 (0, 0)) := hb8; clear c0 c1 c2 c3 c4 c5 c6 c7 c8 c9 c10; have c0 : w8.cell? ⟨wy.heap.size, 0, none⟩ = some (.int .i64 e.id) := cell_blk hb8 0; have c1 : w8.cell? ⟨wy.heap.size, 1, none⟩ = some (.int .i64 e.tm) := cell_blk hb8 1; have c2 : w8.cell? ⟨wy.heap.size, 2, none⟩ = some (.int .i64 e.k) := cell_blk hb8 2; have c3 : w8.cell? ⟨wy.heap.size, 3, none⟩ = some (.int .i64 e.a) := cell_blk hb8 3; have c4 : w8.cell? ⟨wy.heap.size, 4, none⟩ = some (.int .i64 e.b) := cell_blk hb8 4; have c5 : w8.cell? ⟨wy.heap.size, 5, none⟩ = some (.string (strOf e.name)) := cell_blk hb8 5; have c6 : w8.cell? ⟨wy.heap.size, 6, none⟩ = some (.string (strOf e.text)) := cell_blk hb8 6; have c7 : w8.cell? ⟨wy.heap.size, 7, none⟩ = some (.int .i64 uk) := cell_blk hb8 7; have c8 : w8.cell? ⟨wy.heap.size, 8, none⟩ = some (.int .i64 un) := cell_blk hb8 8; have c9 : w8.cell? ⟨wy.heap.size, 9, none⟩ = some (.string (strOf us)) := cell_blk hb8 9; have c10 : w8.cell? ⟨wy.heap.size, 10, none⟩ = some (.slice ua um uc) := cell_blk hb8 10; have hlx : wy.heap.size < w8.heap.size := blk_lt hb8; have HB8 := hid hb8; have HO8 := hid ho8; have HS8 := hid hs8; clear hb8 ho8 hs8)
        | ((guard_target =~ wpList _ _ _ (⟨some 35, _, _, _, _, _⟩ :: _) _ _); refine wpList_gr rfl elE (.tmp 32) (.tmp 34) rfl ((HOUT.out.only ((((HO1.out.trans HO6.out (fun _ _ e => e)).mono (G := fun q => q = wy.heap.size) (fun _ _ e => e.elim)).trans (HO8.out.trans ((only_new w8 _).mono (fun _ _ e => e.elim)) (fun _ _ e => e)) (fun _ _ e => e))) (fun k hk hk2 e => by have e' : k = wy.heap.size := e; omega)).gr) rfl (some ⟨w8.heap.size, 0, none⟩) 1 1 rfl [.int .i64 e.id, .int .i64 e.tm, .int .i64 e.k, .int .i64 e.a, .int .i64 e.b, .string (strOf e.name), .string (strOf e.text), .int .i64 uk, .int .i64 un, .string (strOf us), .slice ua um uc] (SrcG.new (blk_new w8 _) rfl (ev_ones _ _ _ _ _ _ _ _ _ _ _ _ _)) (by omega) (by omega) ?_; intro ao' cp' w9 hg9 ha9 ho9; have HG9 := hid hg9; have HA9 := hid ha9; have HO9 := hid ho9; clear hg9 ha9 ho9))
      go_roundw
      case rel =>
        have hoA : Only (fun _ => False) wy w6 := HO1.out.trans HO6.out (fun _ _ e => e)
        have hoB : Only (fun q => q = wy.heap.size) w6 (w8.alloc (.cells #[.int .i64 e.id, .int .i64 e.tm, .int .i64 e.k, .int .i64 e.a, .int .i64 e.b, .string (strOf e.name), .string (strOf e.text), .int .i64 uk, .int .i64 un, .string (strOf us), .slice ua um uc] 44)) := HO8.out.trans ((only_new w8 _).mono (fun _ _ e => e.elim)) (fun _ _ e => e)
        have hoC : Only (fun q => q = wy.heap.size) wy (w8.alloc (.cells #[.int .i64 e.id, .int .i64 e.tm, .int .i64 e.k, .int .i64 e.a, .int .i64 e.b, .string (strOf e.name), .string (strOf e.text), .int .i64 uk, .int .i64 un, .string (strOf us), .slice ua um uc] 44)) := (hoA.mono (G := fun q => q = wy.heap.size) (fun _ _ e => e.elim)).trans hoB (fun _ _ e => e)
        refine ⟨j + 1, cp', ao', xs ++ e.cells [.int .i64 uk, .int .i64 un, .string (strOf us), .slice ua um uc], by go_num, by have := HJL.out; omega, rfl, ?_, ?_⟩
        · rw [HTK.out]
          exact HOUT.out.snoc (e := e.cl) (vc := [.int .i64 uk, .int .i64 un, .string (strOf us), .slice ua um uc]) hoC (fun k _ hk e => by have e' : k = wy.heap.size := e; omega) (by simp) (fun k hk => by simp at hk; omega) HV6.out HSF.out hoB HO6.out.size (fun k hk e => by have e' : k = wy.heap.size := e; simp at hk; omega) HG9.out HA9.out HO9.out
        · refine HO.out.trans ((hoC.mono (G := fun q => q = wy.heap.size ∨ ao = some ⟨q, 0, none⟩) (fun _ _ e => .inl e)).trans HO9.out (fun _ _ e => .inr e)) (fun k hk e => ?_)
          rcases e with e | e
          · omega
          · have := HOUT.out.new k e; omega
      case measure => have := HJL.out; simp [intOf]; omega
    · have hje : j = l.length := by omega
      subst hje
      have hjl2 : ¬ (l.length : Int) < l.length := by omega
      have hml := HOUT.out
      rw [List.take_length] at hml
      have hml := hml.turn (B' := fun k => w3.heap.size ≤ k ∧ k < wy.heap.size) (fun k h1 h2 => ⟨h2, h1⟩)
      have HML := hid hml
      have hzy := HO.out.size
      have HOW := hid (HO3.out.trans HO.out (fun _ _ e => e))
      have HHY := hid (HH0.out.same HO.out)
      have hmv := hml.evs
      have HAP := hid (happend_c (l := l.map EM.cl) HHY.out hmv (fun k hk => ⟨hk.2, fun e => by have e' : k = hb := e; have := hk.1.1; omega⟩) (fun e he => by
        obtain ⟨x, hx, rfl⟩ := List.mem_map.1 he
        have h1 := Hg.out x hx
        exact ⟨h1.1, h1.2.1, h1.2.2.1, h1.2.2.2.1, h1.2.2.2.2.1, h1.2.2.2.2.2.1, h1.2.2.2.2.2.2.1, cl_rg _ h1.2.2.2.2.2.2.2⟩) (fun e he => by
        obtain ⟨x, hx, rfl⟩ := List.mem_map.1 he
        have h1 := Hsz.out x hx
        have h2 := cl_sz3 x.v
        show x.v.cl.sz ≤ 1000000
        omega) (by rw [List.length_map]; omega))
      have hlm : (l.map EM.cl).length = l.length := List.length_map _
      have HSM1 : Hid (∀ e ∈ l.map EM.cl, e.v.sz ≤ 1000000) := hid (fun e he => by
        obtain ⟨x, hx, rfl⟩ := List.mem_map.1 he
        have h1 := Hsz.out x hx
        have h2 := cl_sz3 x.v
        show x.v.cl.sz ≤ 1000000
        omega)
      obtain ⟨ml, hmle⟩ : ∃ x, l.map EM.cl = x := ⟨_, rfl⟩
      rw [hmle] at HML HAP hlm HSM1
      clear hml hmv hmle hjl
      go_wp2_with fail
      refine HAP.out.mono ?_
      rintro x w5 (⟨hck0, adA, capA, xsA, Fh, B, rfl, hh, houtA, hBF, hFh, hBn, ho5⟩ | ⟨hne, rfl, ho5⟩)
      rotate_left
      · have HO5 := hid (HOW.out.trans ho5 (fun _ _ e => e))
        obtain ⟨ck, hck⟩ : ∃ x, hchk (closedL []) ([] : List EM).length (lastT 0 []) ml = x := ⟨_, rfl⟩
        rw [hck] at hne ⊢
        have hnb : (ck != 0) = true := by simpa using hne
        clear hne hck ho5
        go_wp2_with fail
        go_ret
        exact ⟨rfl, HO5.out⟩
      rw [List.nil_append] at hh
      obtain ⟨es, hes⟩ : ∃ es, numb 0 ml = es := ⟨_, rfl⟩
      have hel : es.length = ml.length := by rw [← hes, numb_len]
      have hh : HistAt w5 hb Fh s0 es := by rw [← hes]; exact hh
      have houtA : OutE B w5 adA ml.length capA xsA es := by rw [← hes]; exact houtA
      have HH5 := hid hh
      have HSE1 : Hid (∀ e ∈ es, e.v.sz ≤ 1000000) := hid (fun e he => by obtain ⟨_, _, _, _, _, H⟩ := hh; obtain ⟨i, hi, rfl⟩ := List.mem_iff_getElem.1 he; exact (H.ok i _ (List.getElem?_eq_getElem hi)).2.2.2.2)
      have HA := hid (houtA.turn (B' := fun k => wy.heap.size ≤ k ∧ k < w5.heap.size ∧ ¬ Fh k) (fun k h1 h2 => ⟨hBn k h2, h1, hBF k h2⟩))
      have HFH : Hid (∀ k, Fh k → k = hb ∨ wy.heap.size ≤ k) := hid hFh
      have HO5 := hid (HOW.out.trans ho5 (fun k hk e => by have e' : k = hb := e; omega))
      have HM5 := hid (HML.out.only ho5 (fun k hk _ e => by have e' : k = hb := e; have := hk.1; omega))
      have hz5 := ho5.size
      have HPG := hid (hpage_c HH5.out 1 9 (by decide))
      clear hh houtA hBF hFh hBn ho5 hck0 hes HAP
      go_wp2_with fail
      refine HPG.out.mono ?_
      rintro x w7 ⟨adP, capP, xsP, rfl, houtP, ho7⟩
      have HP := hid (houtP.turn (B' := fun k => w5.heap.size ≤ k ∧ k < w7.heap.size) (fun k h1 h2 => ⟨h2, h1⟩))
      have HO7 := hid (HO5.out.trans ho7 (fun _ _ e => e))
      have HM7 := hid (HM5.out.only ho7 (fun _ _ _ e => e))
      have HA7 := hid (HA.out.only ho7 (fun _ _ _ e => e))
      have HH7 := hid (HH5.out.same ho7)
      have HFL : Hid (∀ k, Fh k → k < w5.heap.size) := hid (by obtain ⟨_, _, _, _, _, H⟩ := HH5.out; exact H.lt)
      have hz7 := ho7.size
      have HAL := hid (hall_c HH7.out)
      clear houtP ho7 HPG
      go_wp2_with fail
      refine HAL.out.mono ?_
      rintro x w8 ⟨adL, capL, xsL, rfl, houtL, ho8⟩
      have HL := hid (houtL.turn (B' := fun k => w7.heap.size ≤ k ∧ k < w8.heap.size) (fun k h1 h2 => ⟨h2, h1⟩))
      have HO8 := hid (HO7.out.trans ho8 (fun _ _ e => e))
      have HM8 := hid (HM7.out.only ho8 (fun _ _ _ e => e))
      have HA8 := hid (HA7.out.only ho8 (fun _ _ _ e => e))
      have HP8 := hid (HP.out.only ho8 (fun _ _ _ e => e))
      have HH8 := hid (HH7.out.same ho8)
      have hz8 := ho8.size
      clear houtL ho8 HAL HM5 HM7 HA HA7 HP
      go_wp2_with fail
      have HZM : Hid (∀ q, SoftB xs q → q ≥ w3.heap.size ∧ q < wy.heap.size ∧ ao ≠ some ⟨q, 0, none⟩) := hid fun q hq => by
        have h := HM8.out.softB hq
        exact ⟨h.1.1, h.1.2, h.2.2⟩
      have HZA : Hid (∀ q, SoftB xsA q → wy.heap.size ≤ q ∧ q < w5.heap.size ∧ ¬ Fh q ∧ adA ≠ some ⟨q, 0, none⟩) := hid fun q hq => by
        have h := HA8.out.softB hq
        exact ⟨h.1.1, h.1.2.1, h.1.2.2, h.2.2⟩
      have HZP : Hid (∀ q, SoftB xsP q → w5.heap.size ≤ q ∧ q < w7.heap.size ∧ adP ≠ some ⟨q, 0, none⟩) := hid fun q hq => by
        have h := HP8.out.softB hq
        exact ⟨h.1.1, h.1.2, h.2.2⟩
      have HZL : Hid (∀ q, SoftB xsL q → w7.heap.size ≤ q ∧ q < w8.heap.size ∧ adL ≠ some ⟨q, 0, none⟩) := hid fun q hq => by
        have h := HL.out.softB hq
        exact ⟨h.1.1, h.1.2, h.2.2⟩
      have HNM : Hid (∀ q, ao = some ⟨q, 0, none⟩ → ¬ (SoftB xs q ∨ SoftB xsA q ∨ SoftB xsP q ∨ SoftB xsL q)) := hid fun q hq hz => by
        have hb := HM8.out.new q hq
        rcases hz with h | h | h | h
        · exact (HZM.out q h).2.2 hq
        · have := HZA.out q h; omega
        · have := HZP.out q h; omega
        · have := HZL.out q h; omega
      have HNA : Hid (∀ q, adA = some ⟨q, 0, none⟩ → ¬ (SoftB xs q ∨ SoftB xsA q ∨ SoftB xsP q ∨ SoftB xsL q)) := hid fun q hq hz => by
        have hb := HA8.out.new q hq
        rcases hz with h | h | h | h
        · have := HZM.out q h; omega
        · exact (HZA.out q h).2.2.2 hq
        · have := HZP.out q h; omega
        · have := HZL.out q h; omega
      have HNP : Hid (∀ q, adP = some ⟨q, 0, none⟩ → ¬ (SoftB xs q ∨ SoftB xsA q ∨ SoftB xsP q ∨ SoftB xsL q)) := hid fun q hq hz => by
        have hb := HP8.out.new q hq
        rcases hz with h | h | h | h
        · have := HZM.out q h; omega
        · have := HZA.out q h; omega
        · exact (HZP.out q h).2.2 hq
        · have := HZL.out q h; omega
      have HNL : Hid (∀ q, adL = some ⟨q, 0, none⟩ → ¬ (SoftB xs q ∨ SoftB xsA q ∨ SoftB xsP q ∨ SoftB xsL q)) := hid fun q hq hz => by
        have hb := HL.out.new q hq
        rcases hz with h | h | h | h
        · have := HZM.out q h; omega
        · have := HZA.out q h; omega
        · have := HZP.out q h; omega
        · exact (HZL.out q h).2.2 hq
      have HZF : Hid (∀ q, Fh q → ¬ (SoftB xs q ∨ SoftB xsA q ∨ SoftB xsP q ∨ SoftB xsL q)) := hid fun q hq hz => by
        have hb := HFL.out q hq
        have hc := HFH.out q hq
        rcases hz with h | h | h | h
        · have := HZM.out q h; omega
        · exact (HZA.out q h).2.2.1 hq
        · have := HZP.out q h; omega
        · have := HZL.out q h; omega
      have HZW : Hid (∀ q, (SoftB xs q ∨ SoftB xsA q ∨ SoftB xsP q ∨ SoftB xsL q) → w.heap.size ≤ q) := hid fun q hz => by
        rcases hz with h | h | h | h
        · have := HZM.out q h; omega
        · have := HZA.out q h; omega
        · have := HZP.out q h; omega
        · have := HZL.out q h; omega
      have HIM : Hid (∀ q, SoftB xs q → (SoftB xs q ∨ SoftB xsA q ∨ SoftB xsP q ∨ SoftB xsL q)) := hid fun q h => .inl h
      have HIA : Hid (∀ q, SoftB xsA q → (SoftB xs q ∨ SoftB xsA q ∨ SoftB xsP q ∨ SoftB xsL q)) := hid fun q h => .inr (.inl h)
      have HIP : Hid (∀ q, SoftB xsP q → (SoftB xs q ∨ SoftB xsA q ∨ SoftB xsP q ∨ SoftB xsL q)) := hid fun q h => .inr (.inr (.inl h))
      have HIL : Hid (∀ q, SoftB xsL q → (SoftB xs q ∨ SoftB xsA q ∨ SoftB xsP q ∨ SoftB xsL q)) := hid fun q h => .inr (.inr (.inr h))
      have HPL : Hid ((pageL es 1 9).length ≤ 40) := hid (by
        unfold pageL
        split
        · simp
        · rw [List.length_take, List.length_drop]; omega)
      obtain ⟨Z, hZ⟩ : ∃ Z : Nat → Prop, (fun q => SoftB xs q ∨ SoftB xsA q ∨ SoftB xsP q ∨ SoftB xsL q) = Z := ⟨_, rfl⟩
      have HNM : Hid (∀ q, ao = some ⟨q, 0, none⟩ → ¬ Z q) := hid (by rw [← hZ]; exact HNM.out)
      have HNA : Hid (∀ q, adA = some ⟨q, 0, none⟩ → ¬ Z q) := hid (by rw [← hZ]; exact HNA.out)
      have HNP : Hid (∀ q, adP = some ⟨q, 0, none⟩ → ¬ Z q) := hid (by rw [← hZ]; exact HNP.out)
      have HNL : Hid (∀ q, adL = some ⟨q, 0, none⟩ → ¬ Z q) := hid (by rw [← hZ]; exact HNL.out)
      have HZF : Hid (∀ q, Fh q → ¬ Z q) := hid (by rw [← hZ]; exact HZF.out)
      have HZW : Hid (∀ q, Z q → w.heap.size ≤ q) := hid (by rw [← hZ]; exact HZW.out)
      have HIM : Hid (∀ q, SoftB xs q → Z q) := hid (by rw [← hZ]; exact HIM.out)
      have HIA : Hid (∀ q, SoftB xsA q → Z q) := hid (by rw [← hZ]; exact HIA.out)
      have HIP : Hid (∀ q, SoftB xsP q → Z q) := hid (by rw [← hZ]; exact HIP.out)
      have HIL : Hid (∀ q, SoftB xsL q → Z q) := hid (by rw [← hZ]; exact HIL.out)
      have HSP1 : Hid (∀ e ∈ pageL es 1 9, e.v.sz ≤ 1000000) := hid (fun e he => HSE1.out e (by
        unfold pageL at he
        split at he
        · simp at he
        · exact List.mem_of_mem_drop (List.mem_of_mem_take he)))
      obtain ⟨PL, hPL⟩ : ∃ x, pageL es 1 9 = x := ⟨_, rfl⟩
      have hpl40 := HPL.out
      rw [hPL] at HP8 hpl40 HSP1
      try rw [hPL]
      clear hZ HZM HZA HZP HZL HPL
      go_loopw [56] (fun i wr => ∃ j : Int, i = .int .i64 j ∧ 0 ≤ j ∧ j ≤ 4 ∧ Kept Z w8 wr) (fun i _ => 4 - (intOf i).toNat)
      case atStart => exact ⟨0, rfl, by omega, by omega, Kept.refl _ _⟩
      case round =>
        obtain ⟨j0, rfl, hj0, hj4, hk0⟩ := hrel
        have HK0 := hid hk0
        clear hk0
        obtain ⟨wo, hwo⟩ : ∃ x, x = wr := ⟨wr, rfl⟩
        subst hwo
        have hjc : j0 = 0 ∨ j0 = 1 ∨ j0 = 2 ∨ j0 = 3 ∨ j0 = 4 := by omega
        rcases hjc with rfl | rfl | rfl | rfl | rfl
        · go_wp2_with ((guard_target =~ wpList _ _ _ (⟨some 58, _, _, _, _, _⟩ :: _) _ _); refine wpList_plain rfl fun K hK => pt_val (v := .slice ao (l.length : Nat) cp) (by kernel_rfl) (hK _ _ ?_))
          go_loopw [61] (fun i wr => ∃ i0 : Nat, i = .int .i64 i0 ∧ i0 ≤ l.length ∧ Kept Z w8 wr) (fun i _ => l.length - (intOf i).toNat)
          case atStart => exact ⟨0, rfl, Nat.zero_le _, HK0.out⟩
          case round =>
          obtain ⟨i, rfl, hi, hki⟩ := hrel
          have HKI := hid hki
          obtain ⟨wi, hwi⟩ : ∃ x, x = wr := ⟨wr, rfl⟩
          subst hwi
          by_cases hil : i < l.length
          · have hii : (i : Int) < (l.length : Nat) := by omega
            have HIL2 := hid hil
            obtain ⟨e, he⟩ : ∃ t, ml[i]? = some t := ⟨_, List.getElem?_eq_getElem (by omega)⟩
            obtain ⟨q, va, vm, vc, hq, hql, -, hc, hvz, hsp⟩ := HM8.out.spots he
            have hez := HSM1.out e (List.mem_of_getElem? he)
            have hnz := HNM.out q hq
            subst hq
            have HSP := hid hsp; have HC10 := hid hc; have HNZ := hid hnz
            have k10 : wi.cell? ⟨q, i * 11 + 10, none⟩ = some (.slice va vm vc) := (World.cell?_of_block (hki.1.block q hql hnz)).trans hc
            have hvm : vm ≤ 1000000 := by omega
            clear hvz hez
            clear he hsp hc hki hnz
            go_wp2_with fail
            go_loopw [71] (fun i wr => ∃ k0 : Nat, i = .int .i64 k0 ∧ k0 ≤ vm ∧ Kept Z w8 wr) (fun i _ => vm - (intOf i).toNat)
            case atStart => exact ⟨0, rfl, Nat.zero_le _, HKI.out⟩
            case round =>
            obtain ⟨k, rfl, hk, hkz⟩ := hrel
            obtain ⟨wk, hwk⟩ : ∃ x, x = wr := ⟨wr, rfl⟩
            subst hwk
            have HKZ := hid hkz
            by_cases hkl : k < vm
            · have hki : (k : Int) < vm := by omega
              have HKL := hid hkl
              obtain ⟨gv, og, arr, T, rfl, hbg, hfit, -, hgl, hgq, hmem⟩ := HSP.out (by omega)
              have hZg := HIM.out gv ⟨_, _, _, hmem⟩
              obtain ⟨arr', hb', hs'⟩ := hkz.2 gv arr T hZg hbg
              have HBB := hid hb'; have HS' := hid hs'; have HZg := hid hZg; have HBG := hid hbg
              have HK10 : Hid (wk.cell? ⟨q, i * 11 + 10, none⟩ = some (.slice (some ⟨gv, og, none⟩) vm vc)) := hid ((World.cell?_of_block (hkz.1.block q hql HNZ.out)).trans HC10.out)
              have hfit2 : og + k * 4 + 4 ≤ arr'.size := by omega
              clear k10 hbg hmem hZg hb' hs'
              go_wp2_with fail
              refine region_pt 8 [] (by kernel_rfl) (by kernel_rfl) (by kernel_rfl) [(74, fun _ v => v = .slice (some ⟨q, 0, none⟩) l.length cp), (75, fun _ v => v = .int .i64 i), (76, fun _ v => v = .pointer (some ⟨q, i * 11, none⟩)), (77, fun _ v => v = .pointer (some ⟨q, i * 11 + 7, none⟩)), (78, fun _ v => v = .pointer (some ⟨q, i * 11 + 10, none⟩)), (79, fun _ v => v = .slice (some ⟨gv, og, none⟩) vm vc), (80, fun _ v => v = .int .i64 k), (81, fun _ v => v = .agg #[.int .i64 1, .int .i64 9, .string ⟨#[]⟩, .slice none 0 0])] (fun _ W => Only (fun _ => False) wk W) (by show [74, 75, 76, 77, 78, 79, 80, 81].Nodup; decide) (by show ∀ d ∈ [74, 75, 76, 77, 78, 79, 80, 81], d < 93; decide) ((Only.refl _ _).drew) (.inl rfl) ?_ ?_ ?_
              · exact trivial
              · have hstab : PtStabs (Only (fun _ => False)) [(74, fun _ v => v = .slice (some ⟨q, 0, none⟩) l.length cp), (75, fun _ v => v = .int .i64 i), (76, fun _ v => v = .pointer (some ⟨q, i * 11, none⟩)), (77, fun _ v => v = .pointer (some ⟨q, i * 11 + 7, none⟩)), (78, fun _ v => v = .pointer (some ⟨q, i * 11 + 10, none⟩)), (79, fun _ v => v = .slice (some ⟨gv, og, none⟩) vm vc), (80, fun _ v => v = .int .i64 k), (81, fun _ v => v = .agg #[.int .i64 1, .int .i64 9, .string ⟨#[]⟩, .slice none 0 0])] := ⟨fun _ _ _ _ h => h, fun _ _ _ _ h => h, fun _ _ _ _ h => h, fun _ _ _ _ h => h, fun _ _ _ _ h => h, fun _ _ _ _ h => h, fun _ _ _ _ h => h, fun _ _ _ _ h => h, trivial⟩
                refine PtAllS.cons rfl ⟨rfl, rfl⟩ ?_ (PtAllS.cons rfl ⟨rfl, rfl⟩ ?_ (PtAllS.cons rfl ⟨rfl, rfl⟩ ?_ (PtAllS.cons rfl ⟨rfl, rfl⟩ ?_ (PtAllS.cons rfl ⟨rfl, rfl⟩ ?_ (PtAllS.cons rfl ⟨rfl, rfl⟩ ?_ (PtAllS.cons rfl ⟨rfl, rfl⟩ ?_ (PtAllS.cons rfl ⟨rfl, rfl⟩ ?_ (PtAllS.nil rfl))))))))
                · intro L a W K hI hn hd hK
                  have e12 : a.eval (.tmp 12) = .slice (some ⟨q, 0, none⟩) l.length cp := hI.ev 12 (by show ¬ (12 ∈ [74, 75, 76, 77, 78, 79, 80, 81]); decide) rfl
                  exact pt_move _ (by first | exact .inl rfl | exact .inr rfl) _ e12 (hK _ _ hI.j PtKeep.refl rfl)
                · intro L a W K hI hn hd hK
                  have e13 : a.eval (.tmp 13) = .int .i64 i := hI.ev 13 (by show ¬ (13 ∈ [74, 75, 76, 77, 78, 79, 80, 81]); decide) rfl
                  exact pt_move _ (by first | exact .inl rfl | exact .inr rfl) _ e13 (hK _ _ hI.j PtKeep.refl rfl)
                · intro L a W K hI hn hd hK
                  have e74 : a.eval (.tmp 74) = .slice (some ⟨q, 0, none⟩) l.length cp := hI.fact 0 74 _ rfl (dep_of hd 0 (by kernel_rfl))
                  have e75 : a.eval (.tmp 75) = .int .i64 i := hI.fact 1 75 _ rfl (dep_of hd 1 (by kernel_rfl))
                  exact pt_val (v := .pointer (some ⟨q, i * 11, none⟩)) (by unfold execOp; simp only [e74, e75]; go_simp) (hK _ _ hI.j PtKeep.refl rfl)
                · intro L a W K hI hn hd hK
                  have e76 : a.eval (.tmp 76) = .pointer (some ⟨q, i * 11, none⟩) := hI.fact 2 76 _ rfl (dep_of hd 2 (by kernel_rfl))
                  exact pt_val (v := .pointer (some ⟨q, i * 11 + 7, none⟩)) (by unfold execOp; simp only [e76]; kernel_rfl) (hK _ _ hI.j PtKeep.refl rfl)
                · intro L a W K hI hn hd hK
                  have e77 : a.eval (.tmp 77) = .pointer (some ⟨q, i * 11 + 7, none⟩) := hI.fact 3 77 _ rfl (dep_of hd 3 (by kernel_rfl))
                  exact pt_val (v := .pointer (some ⟨q, i * 11 + 10, none⟩)) (by unfold execOp; simp only [e77]; kernel_rfl) (hK _ _ hI.j PtKeep.refl rfl)
                · intro L a W K hI hn hd hK
                  have e78 : a.eval (.tmp 78) = .pointer (some ⟨q, i * 11 + 10, none⟩) := hI.fact 4 78 _ rfl (dep_of hd 4 (by kernel_rfl))
                  exact pt_load _ (.tmp 78) rfl ⟨q, i * 11 + 10, none⟩ (.slice (some ⟨gv, og, none⟩) vm vc) _ e78 ((World.cell?_of_block (hI.j.block q (by have := hkz.1.size; omega) (fun e => e))).trans HK10.out) Try.underlying40 rfl (hK _ _ hI.j PtKeep.refl rfl)
                · intro L a W K hI hn hd hK
                  have e14 : a.eval (.tmp 14) = .int .i64 k := hI.ev 14 (by show ¬ (14 ∈ [74, 75, 76, 77, 78, 79, 80, 81]); decide) rfl
                  exact pt_move _ (by first | exact .inl rfl | exact .inr rfl) _ e14 (hK _ _ hI.j PtKeep.refl rfl)
                · intro L a W K hI hn hd hK
                  refine wp_callc (f := 23) (args := #[.int .i64 9]) (by kernel_rfl) ?_
                  refine (of_c 9).mono ?_
                  rintro x W' ⟨rfl, ho⟩
                  exact ⟨_, rfl, hK _ _ (hI.j.trans ho (fun _ _ e => e.elim)) (hstab.keep ho) rfl⟩
              · intro L a W9 hal hj hfs
                dsimp only [PtAll] at hfs
                obtain ⟨f74, f75, f76, f77, f78, f79, f80, f81, -⟩ := hfs
                have hA := hal.turned
                simp only [List.map_cons, List.map_nil, Act.turned, f74, f75, f76, f77, f78, f79, f80, f81] at hA
                simp only [Act.put, List.setIfInBounds_toArray, List.set_cons_zero, List.set_cons_succ] at hA
                clear hal f74 f75 f76 f77 f78 f79 f80 f81
                subst hA
                change wpList _ _ _ [_, _] _ _
                have HJ := hid hj
                have HBK := hid (blk_only HBB.out hj (fun e => e))
                clear hj
                go_wp2_with ((guard_target =~ wpList _ _ _ (⟨none, .store 42 (.tmp 82) _, _, _, _, _⟩ :: _) _ _); refine wpList_store_in rfl 42 (.tmp 82) (.tmp 81) rfl gv (og + k * 4) #[.int .i64 1, .int .i64 9, .string ⟨#[]⟩, .slice none 0 0] rfl rfl arr' T HBK.out (show og + k * 4 + 4 ≤ arr'.size from hfit2) info_val (val_one 1 9 ⟨#[]⟩ none 0 0) ?_; intro wn hbn hon hsn; have HBN := hid hbn; have HON := hid hon; have HSN := hid hsn; clear hbn hon hsn)
                go_roundw
                case rel =>
                  refine ⟨k + 1, by go_num, by have := HKL.out; omega, (HKZ.out.same HJ.out).step HZg.out HBK.out HBN.out HON.out (by rw [List.size_toArray, length_lay _ _ _ (by simpa using hfit2)]; simp)⟩
                case measure => have := HKL.out; simp [intOf]; omega
            · have hkl2 : ¬ (k : Int) < vm := by omega
              go_wp2_with fail
              go_roundw
              case rel => exact ⟨i + 1, by go_num, by have := HIL2.out; omega, HKZ.out⟩
              case measure => have := HIL2.out; simp [intOf]; omega
          · have hil2 : ¬ (i : Int) < (l.length : Nat) := by omega
            go_wp2_with fail
            go_roundw
            case rel => exact ⟨1, by first | rfl | go_num, by omega, by omega, HKI.out⟩
            case measure => simp [intOf]
        · go_wp2_with ((guard_target =~ wpList _ _ _ (⟨some 58, _, _, _, _, _⟩ :: _) _ _); refine wpList_plain rfl fun K hK => pt_val (v := .slice adA (l.length : Nat) capA) (by kernel_rfl) (hK _ _ ?_))
          go_loopw [61] (fun i wr => ∃ i0 : Nat, i = .int .i64 i0 ∧ i0 ≤ l.length ∧ Kept Z w8 wr) (fun i _ => l.length - (intOf i).toNat)
          case atStart => exact ⟨0, rfl, Nat.zero_le _, HK0.out⟩
          case round =>
          obtain ⟨i, rfl, hi, hki⟩ := hrel
          have HKI := hid hki
          obtain ⟨wi, hwi⟩ : ∃ x, x = wr := ⟨wr, rfl⟩
          subst hwi
          by_cases hil : i < l.length
          · have hii : (i : Int) < (l.length : Nat) := by omega
            have HIL2 := hid hil
            obtain ⟨e, he⟩ : ∃ t, es[i]? = some t := ⟨_, List.getElem?_eq_getElem (by omega)⟩
            obtain ⟨q, va, vm, vc, hq, hql, -, hc, hvz, hsp⟩ := HA8.out.spots he
            have hez := HSE1.out e (List.mem_of_getElem? he)
            have hnz := HNA.out q hq
            subst hq
            have HSP := hid hsp; have HC10 := hid hc; have HNZ := hid hnz
            have k10 : wi.cell? ⟨q, i * 11 + 10, none⟩ = some (.slice va vm vc) := (World.cell?_of_block (hki.1.block q hql hnz)).trans hc
            have hvm : vm ≤ 1000000 := by omega
            clear hvz hez
            clear he hsp hc hki hnz
            go_wp2_with fail
            go_loopw [71] (fun i wr => ∃ k0 : Nat, i = .int .i64 k0 ∧ k0 ≤ vm ∧ Kept Z w8 wr) (fun i _ => vm - (intOf i).toNat)
            case atStart => exact ⟨0, rfl, Nat.zero_le _, HKI.out⟩
            case round =>
            obtain ⟨k, rfl, hk, hkz⟩ := hrel
            obtain ⟨wk, hwk⟩ : ∃ x, x = wr := ⟨wr, rfl⟩
            subst hwk
            have HKZ := hid hkz
            by_cases hkl : k < vm
            · have hki : (k : Int) < vm := by omega
              have HKL := hid hkl
              obtain ⟨gv, og, arr, T, rfl, hbg, hfit, -, hgl, hgq, hmem⟩ := HSP.out (by omega)
              have hZg := HIA.out gv ⟨_, _, _, hmem⟩
              obtain ⟨arr', hb', hs'⟩ := hkz.2 gv arr T hZg hbg
              have HBB := hid hb'; have HS' := hid hs'; have HZg := hid hZg; have HBG := hid hbg
              have HK10 : Hid (wk.cell? ⟨q, i * 11 + 10, none⟩ = some (.slice (some ⟨gv, og, none⟩) vm vc)) := hid ((World.cell?_of_block (hkz.1.block q hql HNZ.out)).trans HC10.out)
              have hfit2 : og + k * 4 + 4 ≤ arr'.size := by omega
              clear k10 hbg hmem hZg hb' hs'
              go_wp2_with fail
              refine region_pt 8 [] (by kernel_rfl) (by kernel_rfl) (by kernel_rfl) [(74, fun _ v => v = .slice (some ⟨q, 0, none⟩) l.length capA), (75, fun _ v => v = .int .i64 i), (76, fun _ v => v = .pointer (some ⟨q, i * 11, none⟩)), (77, fun _ v => v = .pointer (some ⟨q, i * 11 + 7, none⟩)), (78, fun _ v => v = .pointer (some ⟨q, i * 11 + 10, none⟩)), (79, fun _ v => v = .slice (some ⟨gv, og, none⟩) vm vc), (80, fun _ v => v = .int .i64 k), (81, fun _ v => v = .agg #[.int .i64 1, .int .i64 9, .string ⟨#[]⟩, .slice none 0 0])] (fun _ W => Only (fun _ => False) wk W) (by show [74, 75, 76, 77, 78, 79, 80, 81].Nodup; decide) (by show ∀ d ∈ [74, 75, 76, 77, 78, 79, 80, 81], d < 93; decide) ((Only.refl _ _).drew) (.inl rfl) ?_ ?_ ?_
              · exact trivial
              · have hstab : PtStabs (Only (fun _ => False)) [(74, fun _ v => v = .slice (some ⟨q, 0, none⟩) l.length capA), (75, fun _ v => v = .int .i64 i), (76, fun _ v => v = .pointer (some ⟨q, i * 11, none⟩)), (77, fun _ v => v = .pointer (some ⟨q, i * 11 + 7, none⟩)), (78, fun _ v => v = .pointer (some ⟨q, i * 11 + 10, none⟩)), (79, fun _ v => v = .slice (some ⟨gv, og, none⟩) vm vc), (80, fun _ v => v = .int .i64 k), (81, fun _ v => v = .agg #[.int .i64 1, .int .i64 9, .string ⟨#[]⟩, .slice none 0 0])] := ⟨fun _ _ _ _ h => h, fun _ _ _ _ h => h, fun _ _ _ _ h => h, fun _ _ _ _ h => h, fun _ _ _ _ h => h, fun _ _ _ _ h => h, fun _ _ _ _ h => h, fun _ _ _ _ h => h, trivial⟩
                refine PtAllS.cons rfl ⟨rfl, rfl⟩ ?_ (PtAllS.cons rfl ⟨rfl, rfl⟩ ?_ (PtAllS.cons rfl ⟨rfl, rfl⟩ ?_ (PtAllS.cons rfl ⟨rfl, rfl⟩ ?_ (PtAllS.cons rfl ⟨rfl, rfl⟩ ?_ (PtAllS.cons rfl ⟨rfl, rfl⟩ ?_ (PtAllS.cons rfl ⟨rfl, rfl⟩ ?_ (PtAllS.cons rfl ⟨rfl, rfl⟩ ?_ (PtAllS.nil rfl))))))))
                · intro L a W K hI hn hd hK
                  have e12 : a.eval (.tmp 12) = .slice (some ⟨q, 0, none⟩) l.length capA := hI.ev 12 (by show ¬ (12 ∈ [74, 75, 76, 77, 78, 79, 80, 81]); decide) rfl
                  exact pt_move _ (by first | exact .inl rfl | exact .inr rfl) _ e12 (hK _ _ hI.j PtKeep.refl rfl)
                · intro L a W K hI hn hd hK
                  have e13 : a.eval (.tmp 13) = .int .i64 i := hI.ev 13 (by show ¬ (13 ∈ [74, 75, 76, 77, 78, 79, 80, 81]); decide) rfl
                  exact pt_move _ (by first | exact .inl rfl | exact .inr rfl) _ e13 (hK _ _ hI.j PtKeep.refl rfl)
                · intro L a W K hI hn hd hK
                  have e74 : a.eval (.tmp 74) = .slice (some ⟨q, 0, none⟩) l.length capA := hI.fact 0 74 _ rfl (dep_of hd 0 (by kernel_rfl))
                  have e75 : a.eval (.tmp 75) = .int .i64 i := hI.fact 1 75 _ rfl (dep_of hd 1 (by kernel_rfl))
                  exact pt_val (v := .pointer (some ⟨q, i * 11, none⟩)) (by unfold execOp; simp only [e74, e75]; go_simp) (hK _ _ hI.j PtKeep.refl rfl)
                · intro L a W K hI hn hd hK
                  have e76 : a.eval (.tmp 76) = .pointer (some ⟨q, i * 11, none⟩) := hI.fact 2 76 _ rfl (dep_of hd 2 (by kernel_rfl))
                  exact pt_val (v := .pointer (some ⟨q, i * 11 + 7, none⟩)) (by unfold execOp; simp only [e76]; kernel_rfl) (hK _ _ hI.j PtKeep.refl rfl)
                · intro L a W K hI hn hd hK
                  have e77 : a.eval (.tmp 77) = .pointer (some ⟨q, i * 11 + 7, none⟩) := hI.fact 3 77 _ rfl (dep_of hd 3 (by kernel_rfl))
                  exact pt_val (v := .pointer (some ⟨q, i * 11 + 10, none⟩)) (by unfold execOp; simp only [e77]; kernel_rfl) (hK _ _ hI.j PtKeep.refl rfl)
                · intro L a W K hI hn hd hK
                  have e78 : a.eval (.tmp 78) = .pointer (some ⟨q, i * 11 + 10, none⟩) := hI.fact 4 78 _ rfl (dep_of hd 4 (by kernel_rfl))
                  exact pt_load _ (.tmp 78) rfl ⟨q, i * 11 + 10, none⟩ (.slice (some ⟨gv, og, none⟩) vm vc) _ e78 ((World.cell?_of_block (hI.j.block q (by have := hkz.1.size; omega) (fun e => e))).trans HK10.out) Try.underlying40 rfl (hK _ _ hI.j PtKeep.refl rfl)
                · intro L a W K hI hn hd hK
                  have e14 : a.eval (.tmp 14) = .int .i64 k := hI.ev 14 (by show ¬ (14 ∈ [74, 75, 76, 77, 78, 79, 80, 81]); decide) rfl
                  exact pt_move _ (by first | exact .inl rfl | exact .inr rfl) _ e14 (hK _ _ hI.j PtKeep.refl rfl)
                · intro L a W K hI hn hd hK
                  refine wp_callc (f := 23) (args := #[.int .i64 9]) (by kernel_rfl) ?_
                  refine (of_c 9).mono ?_
                  rintro x W' ⟨rfl, ho⟩
                  exact ⟨_, rfl, hK _ _ (hI.j.trans ho (fun _ _ e => e.elim)) (hstab.keep ho) rfl⟩
              · intro L a W9 hal hj hfs
                dsimp only [PtAll] at hfs
                obtain ⟨f74, f75, f76, f77, f78, f79, f80, f81, -⟩ := hfs
                have hA := hal.turned
                simp only [List.map_cons, List.map_nil, Act.turned, f74, f75, f76, f77, f78, f79, f80, f81] at hA
                simp only [Act.put, List.setIfInBounds_toArray, List.set_cons_zero, List.set_cons_succ] at hA
                clear hal f74 f75 f76 f77 f78 f79 f80 f81
                subst hA
                change wpList _ _ _ [_, _] _ _
                have HJ := hid hj
                have HBK := hid (blk_only HBB.out hj (fun e => e))
                clear hj
                go_wp2_with ((guard_target =~ wpList _ _ _ (⟨none, .store 42 (.tmp 82) _, _, _, _, _⟩ :: _) _ _); refine wpList_store_in rfl 42 (.tmp 82) (.tmp 81) rfl gv (og + k * 4) #[.int .i64 1, .int .i64 9, .string ⟨#[]⟩, .slice none 0 0] rfl rfl arr' T HBK.out (show og + k * 4 + 4 ≤ arr'.size from hfit2) info_val (val_one 1 9 ⟨#[]⟩ none 0 0) ?_; intro wn hbn hon hsn; have HBN := hid hbn; have HON := hid hon; have HSN := hid hsn; clear hbn hon hsn)
                go_roundw
                case rel =>
                  refine ⟨k + 1, by go_num, by have := HKL.out; omega, (HKZ.out.same HJ.out).step HZg.out HBK.out HBN.out HON.out (by rw [List.size_toArray, length_lay _ _ _ (by simpa using hfit2)]; simp)⟩
                case measure => have := HKL.out; simp [intOf]; omega
            · have hkl2 : ¬ (k : Int) < vm := by omega
              go_wp2_with fail
              go_roundw
              case rel => exact ⟨i + 1, by go_num, by have := HIL2.out; omega, HKZ.out⟩
              case measure => have := HIL2.out; simp [intOf]; omega
          · have hil2 : ¬ (i : Int) < (l.length : Nat) := by omega
            go_wp2_with fail
            go_roundw
            case rel => exact ⟨2, by first | rfl | go_num, by omega, by omega, HKI.out⟩
            case measure => simp [intOf]
        · go_wp2_with ((guard_target =~ wpList _ _ _ (⟨some 58, _, _, _, _, _⟩ :: _) _ _); refine wpList_plain rfl fun K hK => pt_val (v := .slice adP (PL.length : Nat) capP) (by kernel_rfl) (hK _ _ ?_))
          go_loopw [61] (fun i wr => ∃ i0 : Nat, i = .int .i64 i0 ∧ i0 ≤ PL.length ∧ Kept Z w8 wr) (fun i _ => PL.length - (intOf i).toNat)
          case atStart => exact ⟨0, rfl, Nat.zero_le _, HK0.out⟩
          case round =>
          obtain ⟨i, rfl, hi, hki⟩ := hrel
          have HKI := hid hki
          obtain ⟨wi, hwi⟩ : ∃ x, x = wr := ⟨wr, rfl⟩
          subst hwi
          by_cases hil : i < PL.length
          · have hii : (i : Int) < (PL.length : Nat) := by omega
            have HIL2 := hid hil
            obtain ⟨e, he⟩ : ∃ t, PL[i]? = some t := ⟨_, List.getElem?_eq_getElem (by omega)⟩
            obtain ⟨q, va, vm, vc, hq, hql, -, hc, hvz, hsp⟩ := HP8.out.spots he
            have hez := HSP1.out e (List.mem_of_getElem? he)
            have hnz := HNP.out q hq
            subst hq
            have HSP := hid hsp; have HC10 := hid hc; have HNZ := hid hnz
            have k10 : wi.cell? ⟨q, i * 11 + 10, none⟩ = some (.slice va vm vc) := (World.cell?_of_block (hki.1.block q hql hnz)).trans hc
            have hvm : vm ≤ 1000000 := by omega
            clear hvz hez
            clear he hsp hc hki hnz
            go_wp2_with fail
            go_loopw [71] (fun i wr => ∃ k0 : Nat, i = .int .i64 k0 ∧ k0 ≤ vm ∧ Kept Z w8 wr) (fun i _ => vm - (intOf i).toNat)
            case atStart => exact ⟨0, rfl, Nat.zero_le _, HKI.out⟩
            case round =>
            obtain ⟨k, rfl, hk, hkz⟩ := hrel
            obtain ⟨wk, hwk⟩ : ∃ x, x = wr := ⟨wr, rfl⟩
            subst hwk
            have HKZ := hid hkz
            by_cases hkl : k < vm
            · have hki : (k : Int) < vm := by omega
              have HKL := hid hkl
              obtain ⟨gv, og, arr, T, rfl, hbg, hfit, -, hgl, hgq, hmem⟩ := HSP.out (by omega)
              have hZg := HIP.out gv ⟨_, _, _, hmem⟩
              obtain ⟨arr', hb', hs'⟩ := hkz.2 gv arr T hZg hbg
              have HBB := hid hb'; have HS' := hid hs'; have HZg := hid hZg; have HBG := hid hbg
              have HK10 : Hid (wk.cell? ⟨q, i * 11 + 10, none⟩ = some (.slice (some ⟨gv, og, none⟩) vm vc)) := hid ((World.cell?_of_block (hkz.1.block q hql HNZ.out)).trans HC10.out)
              have hfit2 : og + k * 4 + 4 ≤ arr'.size := by omega
              clear k10 hbg hmem hZg hb' hs'
              go_wp2_with fail
              refine region_pt 8 [] (by kernel_rfl) (by kernel_rfl) (by kernel_rfl) [(74, fun _ v => v = .slice (some ⟨q, 0, none⟩) PL.length capP), (75, fun _ v => v = .int .i64 i), (76, fun _ v => v = .pointer (some ⟨q, i * 11, none⟩)), (77, fun _ v => v = .pointer (some ⟨q, i * 11 + 7, none⟩)), (78, fun _ v => v = .pointer (some ⟨q, i * 11 + 10, none⟩)), (79, fun _ v => v = .slice (some ⟨gv, og, none⟩) vm vc), (80, fun _ v => v = .int .i64 k), (81, fun _ v => v = .agg #[.int .i64 1, .int .i64 9, .string ⟨#[]⟩, .slice none 0 0])] (fun _ W => Only (fun _ => False) wk W) (by show [74, 75, 76, 77, 78, 79, 80, 81].Nodup; decide) (by show ∀ d ∈ [74, 75, 76, 77, 78, 79, 80, 81], d < 93; decide) ((Only.refl _ _).drew) (.inl rfl) ?_ ?_ ?_
              · exact trivial
              · have hstab : PtStabs (Only (fun _ => False)) [(74, fun _ v => v = .slice (some ⟨q, 0, none⟩) PL.length capP), (75, fun _ v => v = .int .i64 i), (76, fun _ v => v = .pointer (some ⟨q, i * 11, none⟩)), (77, fun _ v => v = .pointer (some ⟨q, i * 11 + 7, none⟩)), (78, fun _ v => v = .pointer (some ⟨q, i * 11 + 10, none⟩)), (79, fun _ v => v = .slice (some ⟨gv, og, none⟩) vm vc), (80, fun _ v => v = .int .i64 k), (81, fun _ v => v = .agg #[.int .i64 1, .int .i64 9, .string ⟨#[]⟩, .slice none 0 0])] := ⟨fun _ _ _ _ h => h, fun _ _ _ _ h => h, fun _ _ _ _ h => h, fun _ _ _ _ h => h, fun _ _ _ _ h => h, fun _ _ _ _ h => h, fun _ _ _ _ h => h, fun _ _ _ _ h => h, trivial⟩
                refine PtAllS.cons rfl ⟨rfl, rfl⟩ ?_ (PtAllS.cons rfl ⟨rfl, rfl⟩ ?_ (PtAllS.cons rfl ⟨rfl, rfl⟩ ?_ (PtAllS.cons rfl ⟨rfl, rfl⟩ ?_ (PtAllS.cons rfl ⟨rfl, rfl⟩ ?_ (PtAllS.cons rfl ⟨rfl, rfl⟩ ?_ (PtAllS.cons rfl ⟨rfl, rfl⟩ ?_ (PtAllS.cons rfl ⟨rfl, rfl⟩ ?_ (PtAllS.nil rfl))))))))
                · intro L a W K hI hn hd hK
                  have e12 : a.eval (.tmp 12) = .slice (some ⟨q, 0, none⟩) PL.length capP := hI.ev 12 (by show ¬ (12 ∈ [74, 75, 76, 77, 78, 79, 80, 81]); decide) rfl
                  exact pt_move _ (by first | exact .inl rfl | exact .inr rfl) _ e12 (hK _ _ hI.j PtKeep.refl rfl)
                · intro L a W K hI hn hd hK
                  have e13 : a.eval (.tmp 13) = .int .i64 i := hI.ev 13 (by show ¬ (13 ∈ [74, 75, 76, 77, 78, 79, 80, 81]); decide) rfl
                  exact pt_move _ (by first | exact .inl rfl | exact .inr rfl) _ e13 (hK _ _ hI.j PtKeep.refl rfl)
                · intro L a W K hI hn hd hK
                  have e74 : a.eval (.tmp 74) = .slice (some ⟨q, 0, none⟩) PL.length capP := hI.fact 0 74 _ rfl (dep_of hd 0 (by kernel_rfl))
                  have e75 : a.eval (.tmp 75) = .int .i64 i := hI.fact 1 75 _ rfl (dep_of hd 1 (by kernel_rfl))
                  exact pt_val (v := .pointer (some ⟨q, i * 11, none⟩)) (by unfold execOp; simp only [e74, e75]; go_simp) (hK _ _ hI.j PtKeep.refl rfl)
                · intro L a W K hI hn hd hK
                  have e76 : a.eval (.tmp 76) = .pointer (some ⟨q, i * 11, none⟩) := hI.fact 2 76 _ rfl (dep_of hd 2 (by kernel_rfl))
                  exact pt_val (v := .pointer (some ⟨q, i * 11 + 7, none⟩)) (by unfold execOp; simp only [e76]; kernel_rfl) (hK _ _ hI.j PtKeep.refl rfl)
                · intro L a W K hI hn hd hK
                  have e77 : a.eval (.tmp 77) = .pointer (some ⟨q, i * 11 + 7, none⟩) := hI.fact 3 77 _ rfl (dep_of hd 3 (by kernel_rfl))
                  exact pt_val (v := .pointer (some ⟨q, i * 11 + 10, none⟩)) (by unfold execOp; simp only [e77]; kernel_rfl) (hK _ _ hI.j PtKeep.refl rfl)
                · intro L a W K hI hn hd hK
                  have e78 : a.eval (.tmp 78) = .pointer (some ⟨q, i * 11 + 10, none⟩) := hI.fact 4 78 _ rfl (dep_of hd 4 (by kernel_rfl))
                  exact pt_load _ (.tmp 78) rfl ⟨q, i * 11 + 10, none⟩ (.slice (some ⟨gv, og, none⟩) vm vc) _ e78 ((World.cell?_of_block (hI.j.block q (by have := hkz.1.size; omega) (fun e => e))).trans HK10.out) Try.underlying40 rfl (hK _ _ hI.j PtKeep.refl rfl)
                · intro L a W K hI hn hd hK
                  have e14 : a.eval (.tmp 14) = .int .i64 k := hI.ev 14 (by show ¬ (14 ∈ [74, 75, 76, 77, 78, 79, 80, 81]); decide) rfl
                  exact pt_move _ (by first | exact .inl rfl | exact .inr rfl) _ e14 (hK _ _ hI.j PtKeep.refl rfl)
                · intro L a W K hI hn hd hK
                  refine wp_callc (f := 23) (args := #[.int .i64 9]) (by kernel_rfl) ?_
                  refine (of_c 9).mono ?_
                  rintro x W' ⟨rfl, ho⟩
                  exact ⟨_, rfl, hK _ _ (hI.j.trans ho (fun _ _ e => e.elim)) (hstab.keep ho) rfl⟩
              · intro L a W9 hal hj hfs
                dsimp only [PtAll] at hfs
                obtain ⟨f74, f75, f76, f77, f78, f79, f80, f81, -⟩ := hfs
                have hA := hal.turned
                simp only [List.map_cons, List.map_nil, Act.turned, f74, f75, f76, f77, f78, f79, f80, f81] at hA
                simp only [Act.put, List.setIfInBounds_toArray, List.set_cons_zero, List.set_cons_succ] at hA
                clear hal f74 f75 f76 f77 f78 f79 f80 f81
                subst hA
                change wpList _ _ _ [_, _] _ _
                have HJ := hid hj
                have HBK := hid (blk_only HBB.out hj (fun e => e))
                clear hj
                go_wp2_with ((guard_target =~ wpList _ _ _ (⟨none, .store 42 (.tmp 82) _, _, _, _, _⟩ :: _) _ _); refine wpList_store_in rfl 42 (.tmp 82) (.tmp 81) rfl gv (og + k * 4) #[.int .i64 1, .int .i64 9, .string ⟨#[]⟩, .slice none 0 0] rfl rfl arr' T HBK.out (show og + k * 4 + 4 ≤ arr'.size from hfit2) info_val (val_one 1 9 ⟨#[]⟩ none 0 0) ?_; intro wn hbn hon hsn; have HBN := hid hbn; have HON := hid hon; have HSN := hid hsn; clear hbn hon hsn)
                go_roundw
                case rel =>
                  refine ⟨k + 1, by go_num, by have := HKL.out; omega, (HKZ.out.same HJ.out).step HZg.out HBK.out HBN.out HON.out (by rw [List.size_toArray, length_lay _ _ _ (by simpa using hfit2)]; simp)⟩
                case measure => have := HKL.out; simp [intOf]; omega
            · have hkl2 : ¬ (k : Int) < vm := by omega
              go_wp2_with fail
              go_roundw
              case rel => exact ⟨i + 1, by go_num, by have := HIL2.out; omega, HKZ.out⟩
              case measure => have := HIL2.out; simp [intOf]; omega
          · have hil2 : ¬ (i : Int) < (PL.length : Nat) := by omega
            go_wp2_with fail
            go_roundw
            case rel => exact ⟨3, by first | rfl | go_num, by omega, by omega, HKI.out⟩
            case measure => simp [intOf]
        · go_wp2_with ((guard_target =~ wpList _ _ _ (⟨some 58, _, _, _, _, _⟩ :: _) _ _); refine wpList_plain rfl fun K hK => pt_val (v := .slice adL (l.length : Nat) capL) (by kernel_rfl) (hK _ _ ?_))
          go_loopw [61] (fun i wr => ∃ i0 : Nat, i = .int .i64 i0 ∧ i0 ≤ l.length ∧ Kept Z w8 wr) (fun i _ => l.length - (intOf i).toNat)
          case atStart => exact ⟨0, rfl, Nat.zero_le _, HK0.out⟩
          case round =>
          obtain ⟨i, rfl, hi, hki⟩ := hrel
          have HKI := hid hki
          obtain ⟨wi, hwi⟩ : ∃ x, x = wr := ⟨wr, rfl⟩
          subst hwi
          by_cases hil : i < l.length
          · have hii : (i : Int) < (l.length : Nat) := by omega
            have HIL2 := hid hil
            obtain ⟨e, he⟩ : ∃ t, es[i]? = some t := ⟨_, List.getElem?_eq_getElem (by omega)⟩
            obtain ⟨q, va, vm, vc, hq, hql, -, hc, hvz, hsp⟩ := HL.out.spots he
            have hez := HSE1.out e (List.mem_of_getElem? he)
            have hnz := HNL.out q hq
            subst hq
            have HSP := hid hsp; have HC10 := hid hc; have HNZ := hid hnz
            have k10 : wi.cell? ⟨q, i * 11 + 10, none⟩ = some (.slice va vm vc) := (World.cell?_of_block (hki.1.block q hql hnz)).trans hc
            have hvm : vm ≤ 1000000 := by omega
            clear hvz hez
            clear he hsp hc hki hnz
            go_wp2_with fail
            go_loopw [71] (fun i wr => ∃ k0 : Nat, i = .int .i64 k0 ∧ k0 ≤ vm ∧ Kept Z w8 wr) (fun i _ => vm - (intOf i).toNat)
            case atStart => exact ⟨0, rfl, Nat.zero_le _, HKI.out⟩
            case round =>
            obtain ⟨k, rfl, hk, hkz⟩ := hrel
            obtain ⟨wk, hwk⟩ : ∃ x, x = wr := ⟨wr, rfl⟩
            subst hwk
            have HKZ := hid hkz
            by_cases hkl : k < vm
            · have hki : (k : Int) < vm := by omega
              have HKL := hid hkl
              obtain ⟨gv, og, arr, T, rfl, hbg, hfit, -, hgl, hgq, hmem⟩ := HSP.out (by omega)
              have hZg := HIL.out gv ⟨_, _, _, hmem⟩
              obtain ⟨arr', hb', hs'⟩ := hkz.2 gv arr T hZg hbg
              have HBB := hid hb'; have HS' := hid hs'; have HZg := hid hZg; have HBG := hid hbg
              have HK10 : Hid (wk.cell? ⟨q, i * 11 + 10, none⟩ = some (.slice (some ⟨gv, og, none⟩) vm vc)) := hid ((World.cell?_of_block (hkz.1.block q hql HNZ.out)).trans HC10.out)
              have hfit2 : og + k * 4 + 4 ≤ arr'.size := by omega
              clear k10 hbg hmem hZg hb' hs'
              go_wp2_with fail
              refine region_pt 8 [] (by kernel_rfl) (by kernel_rfl) (by kernel_rfl) [(74, fun _ v => v = .slice (some ⟨q, 0, none⟩) l.length capL), (75, fun _ v => v = .int .i64 i), (76, fun _ v => v = .pointer (some ⟨q, i * 11, none⟩)), (77, fun _ v => v = .pointer (some ⟨q, i * 11 + 7, none⟩)), (78, fun _ v => v = .pointer (some ⟨q, i * 11 + 10, none⟩)), (79, fun _ v => v = .slice (some ⟨gv, og, none⟩) vm vc), (80, fun _ v => v = .int .i64 k), (81, fun _ v => v = .agg #[.int .i64 1, .int .i64 9, .string ⟨#[]⟩, .slice none 0 0])] (fun _ W => Only (fun _ => False) wk W) (by show [74, 75, 76, 77, 78, 79, 80, 81].Nodup; decide) (by show ∀ d ∈ [74, 75, 76, 77, 78, 79, 80, 81], d < 93; decide) ((Only.refl _ _).drew) (.inl rfl) ?_ ?_ ?_
              · exact trivial
              · have hstab : PtStabs (Only (fun _ => False)) [(74, fun _ v => v = .slice (some ⟨q, 0, none⟩) l.length capL), (75, fun _ v => v = .int .i64 i), (76, fun _ v => v = .pointer (some ⟨q, i * 11, none⟩)), (77, fun _ v => v = .pointer (some ⟨q, i * 11 + 7, none⟩)), (78, fun _ v => v = .pointer (some ⟨q, i * 11 + 10, none⟩)), (79, fun _ v => v = .slice (some ⟨gv, og, none⟩) vm vc), (80, fun _ v => v = .int .i64 k), (81, fun _ v => v = .agg #[.int .i64 1, .int .i64 9, .string ⟨#[]⟩, .slice none 0 0])] := ⟨fun _ _ _ _ h => h, fun _ _ _ _ h => h, fun _ _ _ _ h => h, fun _ _ _ _ h => h, fun _ _ _ _ h => h, fun _ _ _ _ h => h, fun _ _ _ _ h => h, fun _ _ _ _ h => h, trivial⟩
                refine PtAllS.cons rfl ⟨rfl, rfl⟩ ?_ (PtAllS.cons rfl ⟨rfl, rfl⟩ ?_ (PtAllS.cons rfl ⟨rfl, rfl⟩ ?_ (PtAllS.cons rfl ⟨rfl, rfl⟩ ?_ (PtAllS.cons rfl ⟨rfl, rfl⟩ ?_ (PtAllS.cons rfl ⟨rfl, rfl⟩ ?_ (PtAllS.cons rfl ⟨rfl, rfl⟩ ?_ (PtAllS.cons rfl ⟨rfl, rfl⟩ ?_ (PtAllS.nil rfl))))))))
                · intro L a W K hI hn hd hK
                  have e12 : a.eval (.tmp 12) = .slice (some ⟨q, 0, none⟩) l.length capL := hI.ev 12 (by show ¬ (12 ∈ [74, 75, 76, 77, 78, 79, 80, 81]); decide) rfl
                  exact pt_move _ (by first | exact .inl rfl | exact .inr rfl) _ e12 (hK _ _ hI.j PtKeep.refl rfl)
                · intro L a W K hI hn hd hK
                  have e13 : a.eval (.tmp 13) = .int .i64 i := hI.ev 13 (by show ¬ (13 ∈ [74, 75, 76, 77, 78, 79, 80, 81]); decide) rfl
                  exact pt_move _ (by first | exact .inl rfl | exact .inr rfl) _ e13 (hK _ _ hI.j PtKeep.refl rfl)
                · intro L a W K hI hn hd hK
                  have e74 : a.eval (.tmp 74) = .slice (some ⟨q, 0, none⟩) l.length capL := hI.fact 0 74 _ rfl (dep_of hd 0 (by kernel_rfl))
                  have e75 : a.eval (.tmp 75) = .int .i64 i := hI.fact 1 75 _ rfl (dep_of hd 1 (by kernel_rfl))
                  exact pt_val (v := .pointer (some ⟨q, i * 11, none⟩)) (by unfold execOp; simp only [e74, e75]; go_simp) (hK _ _ hI.j PtKeep.refl rfl)
                · intro L a W K hI hn hd hK
                  have e76 : a.eval (.tmp 76) = .pointer (some ⟨q, i * 11, none⟩) := hI.fact 2 76 _ rfl (dep_of hd 2 (by kernel_rfl))
                  exact pt_val (v := .pointer (some ⟨q, i * 11 + 7, none⟩)) (by unfold execOp; simp only [e76]; kernel_rfl) (hK _ _ hI.j PtKeep.refl rfl)
                · intro L a W K hI hn hd hK
                  have e77 : a.eval (.tmp 77) = .pointer (some ⟨q, i * 11 + 7, none⟩) := hI.fact 3 77 _ rfl (dep_of hd 3 (by kernel_rfl))
                  exact pt_val (v := .pointer (some ⟨q, i * 11 + 10, none⟩)) (by unfold execOp; simp only [e77]; kernel_rfl) (hK _ _ hI.j PtKeep.refl rfl)
                · intro L a W K hI hn hd hK
                  have e78 : a.eval (.tmp 78) = .pointer (some ⟨q, i * 11 + 10, none⟩) := hI.fact 4 78 _ rfl (dep_of hd 4 (by kernel_rfl))
                  exact pt_load _ (.tmp 78) rfl ⟨q, i * 11 + 10, none⟩ (.slice (some ⟨gv, og, none⟩) vm vc) _ e78 ((World.cell?_of_block (hI.j.block q (by have := hkz.1.size; omega) (fun e => e))).trans HK10.out) Try.underlying40 rfl (hK _ _ hI.j PtKeep.refl rfl)
                · intro L a W K hI hn hd hK
                  have e14 : a.eval (.tmp 14) = .int .i64 k := hI.ev 14 (by show ¬ (14 ∈ [74, 75, 76, 77, 78, 79, 80, 81]); decide) rfl
                  exact pt_move _ (by first | exact .inl rfl | exact .inr rfl) _ e14 (hK _ _ hI.j PtKeep.refl rfl)
                · intro L a W K hI hn hd hK
                  refine wp_callc (f := 23) (args := #[.int .i64 9]) (by kernel_rfl) ?_
                  refine (of_c 9).mono ?_
                  rintro x W' ⟨rfl, ho⟩
                  exact ⟨_, rfl, hK _ _ (hI.j.trans ho (fun _ _ e => e.elim)) (hstab.keep ho) rfl⟩
              · intro L a W9 hal hj hfs
                dsimp only [PtAll] at hfs
                obtain ⟨f74, f75, f76, f77, f78, f79, f80, f81, -⟩ := hfs
                have hA := hal.turned
                simp only [List.map_cons, List.map_nil, Act.turned, f74, f75, f76, f77, f78, f79, f80, f81] at hA
                simp only [Act.put, List.setIfInBounds_toArray, List.set_cons_zero, List.set_cons_succ] at hA
                clear hal f74 f75 f76 f77 f78 f79 f80 f81
                subst hA
                change wpList _ _ _ [_, _] _ _
                have HJ := hid hj
                have HBK := hid (blk_only HBB.out hj (fun e => e))
                clear hj
                go_wp2_with ((guard_target =~ wpList _ _ _ (⟨none, .store 42 (.tmp 82) _, _, _, _, _⟩ :: _) _ _); refine wpList_store_in rfl 42 (.tmp 82) (.tmp 81) rfl gv (og + k * 4) #[.int .i64 1, .int .i64 9, .string ⟨#[]⟩, .slice none 0 0] rfl rfl arr' T HBK.out (show og + k * 4 + 4 ≤ arr'.size from hfit2) info_val (val_one 1 9 ⟨#[]⟩ none 0 0) ?_; intro wn hbn hon hsn; have HBN := hid hbn; have HON := hid hon; have HSN := hid hsn; clear hbn hon hsn)
                go_roundw
                case rel =>
                  refine ⟨k + 1, by go_num, by have := HKL.out; omega, (HKZ.out.same HJ.out).step HZg.out HBK.out HBN.out HON.out (by rw [List.size_toArray, length_lay _ _ _ (by simpa using hfit2)]; simp)⟩
                case measure => have := HKL.out; simp [intOf]; omega
            · have hkl2 : ¬ (k : Int) < vm := by omega
              go_wp2_with fail
              go_roundw
              case rel => exact ⟨i + 1, by go_num, by have := HIL2.out; omega, HKZ.out⟩
              case measure => have := HIL2.out; simp [intOf]; omega
          · have hil2 : ¬ (i : Int) < (l.length : Nat) := by omega
            go_wp2_with fail
            go_roundw
            case rel => exact ⟨4, by first | rfl | go_num, by omega, by omega, HKI.out⟩
            case measure => simp [intOf]
        · have HHK := hid (HH8.out.only HK0.out.1 HZF.out)
          have HSU := hid (hsum2_c HHK.out)
          have HOKE : Hid (HOk es) := hid (by obtain ⟨_, _, _, _, _, H⟩ := HHK.out; exact H.ok)
          obtain ⟨TL, hTL⟩ : ∃ x, (bytesV (sumS s0 es)).toArray = x := ⟨_, rfl⟩
          rw [hTL] at HSU
          have HTL := hid hTL
          clear hTL
          go_wp2_with fail
          refine HSU.out.mono ?_
          rintro x wp ⟨rfl, hop⟩
          have HHP := hid (HHK.out.same hop)
          have HOP := hid hop
          have HAQ := hid (hall_c HHP.out)
          clear hop HSU
          go_wp2_with fail
          refine HAQ.out.mono ?_
          rintro x wq ⟨adQ, capQ, xsQ, rfl, houtQ, hoq⟩
          have hVR := hverify_c (s := s0) (last := sumS s0 es) s0_len (sumS_len s0_len es) houtQ.evs (fun k hk => hk.2) (fun e he => by obtain ⟨i, hi, rfl⟩ := List.mem_iff_getElem.1 he; exact (HOKE.out i _ (List.getElem?_eq_getElem hi)).2.2.1) (by omega)
          rw [verR_ok HOKE.out, s0_arr, HTL.out, hel, hlm] at hVR
          have HVR := hid hVR
          have HOQ := hid hoq
          clear houtQ hoq HAQ hVR
          go_wp2_with fail
          refine HVR.out.mono ?_
          rintro x wx ⟨rfl, hox⟩
          have HOX := hid hox
          clear hox HVR
          go_wp2_with fail
          go_ret
          exact ⟨rfl, ((HO8.out.trans (HK0.out.1) (fun k hk e => by have := HZW.out k e; omega)).trans (HOP.out.trans HOQ.out (fun _ _ e => e)) (fun _ _ e => e)).trans HOX.out (fun _ _ e => e)⟩
end
end Go.Proofs.Ytnoopajedgllhaa
