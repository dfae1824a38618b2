/- foliotlaw09.tells is true. -/
import Derived.Test.YtnoopajedgllhaaGreatDoorRf09S
import Derived.Test.YtnoopajedgllhaaGreatDoorEvD
import Derived.Test.YtnoopajedgllhaaGreatDoorEvP0
namespace Go.Proofs.YtnoopajedgllhaaGreatDoor
open Go.RowKit

theorem dec_enc {e : EM} (hg : e.Good) (hr : e.rg) : decR e.wr = (e.cl, 0) := by
  have h1 := ev_rt (r := RdM.of e.wr) (post := []) hg hr rfl (by simp [RdM.of, RdM.rest])
  have h2 : ((RdM.of e.wr).adv e.wr.length).done = 0 := by simp [RdM.done, RdM.adv, RdM.of]
  unfold decR
  rw [h1]
  simp only
  rw [h2]; rfl
/-- The timer that fired. -/
def e0 : EM := ⟨3, 7, 12, 2, 0, [], [], .nil⟩
theorem e0_rg : e0.rg := by unfold EM.rg e0; simp only [List.length_nil]; exact ⟨by omega, by omega, by omega, by omega, by omega, by omega, by omega, by unfold VT.nil; rw [VT.rg, VT.rgL]; simp⟩
theorem nil_rg : VT.nil.rg := by unfold VT.nil; rw [VT.rg, VT.rgL]; simp
theorem e0_chk : e0.chk = 0 := by decide
theorem e0_good : e0.Good := chk_good e0_chk
theorem e0_wr : e0.wr = [12, 3, 7, 2] := by decide
theorem e0_cl : e0.cl = e0 := by unfold EM.cl e0 VT.nil; rw [VT.cl]; simp
theorem itoa_one {n : Nat} (h : n < 10) : Lib.itoa n = [UInt8.ofNat (48 + n)] := by unfold Lib.itoa; rw [if_neg (by omega)]; exact Lib.decDigits_one h
theorem e0_pr : e0.pr = [51, 32, 64, 55, 32, 116, 105, 109, 101, 114, 45, 102, 105, 114, 101, 100, 32, 50] := by
  have h3 : Lib.itoa 3 = [51] := itoa_one (n := 3) (by omega)
  have h7 : Lib.itoa 7 = [55] := itoa_one (n := 7) (by omega)
  have h2 : Lib.itoa 2 = [50] := itoa_one (n := 2) (by omega)
  have hf : evFlds 12 = [65] := by decide
  have hn : evName 12 = [116, 105, 109, 101, 114, 45, 102, 105, 114, 101, 100] := by decide
  show Lib.itoa 3 ++ ([32, 64] ++ (Lib.itoa 7 ++ ([32] ++ (evName 12 ++ (evFlds 12).flatMap e0.ft)))) = _
  rw [h3, h7, hf, hn]
  show _ = _
  simp only [List.flatMap_cons, List.flatMap_nil, List.append_nil]
  have hx : e0.ft 65 = 32 :: Lib.itoa 2 := rfl
  rw [hx, h2]; rfl
theorem e0_kind : kindOf [116, 105, 109, 101, 114, 45, 102, 105, 114, 101, 100] = 12 := by decide
section
variable {w : World}
theorem e0_at (G : Nat → Prop) : EAt w G e0 (List.toArray [.int .i64 3, .int .i64 7, .int .i64 12, .int .i64 2, .int .i64 0, .string ⟨#[]⟩, .string ⟨#[]⟩, .int .i64 0, .int .i64 0, .string ⟨#[]⟩, .slice none 0 0]).toList := ⟨_, rfl, novls w G 0 0 []⟩
set_option maxRecDepth 100000 in
set_option maxHeartbeats 3200000 in
theorem tells_c (hT : Tab w) : Calls Tryz.prog 4 #[] w fun x w' => x = .returned (.bool true) ∧ Only (fun _ => False) w w' := by
  have HT := hid hT
  clear hT
  have HB0 := hid (blk_new w (.cells #[.int .i64 3, .int .i64 7, .int .i64 12, .int .i64 2, .int .i64 0, .string ⟨#[]⟩, .string ⟨#[]⟩, .int .i64 0, .int .i64 0, .string ⟨#[]⟩, .slice none 0 0] 28))
  have HO0 := hid (only_new w (.cells #[.int .i64 3, .int .i64 7, .int .i64 12, .int .i64 2, .int .i64 0, .string ⟨#[]⟩, .string ⟨#[]⟩, .int .i64 0, .int .i64 0, .string ⟨#[]⟩, .slice none 0 0] 28))
  have HC := hid (encode_c (w := w.alloc (.cells #[.int .i64 3, .int .i64 7, .int .i64 12, .int .i64 2, .int .i64 0, .string ⟨#[]⟩, .string ⟨#[]⟩, .int .i64 0, .int .i64 0, .string ⟨#[]⟩, .slice none 0 0] 28)) (G := fun _ => False) (cs := [.int .i64 3, .int .i64 7, .int .i64 12, .int .i64 2, .int .i64 0, .string ⟨#[]⟩, .string ⟨#[]⟩, .int .i64 0, .int .i64 0, .string ⟨#[]⟩, .slice none 0 0]) (e0_at _) (fun k hk => hk.elim) e0_rg)
  go_enter Tryz.func4, Tryz.ntmps4
  go_wp2_with fail
  refine HC.out.mono ?_
  rintro x w2 ⟨v, rfl, hv⟩
  rw [e0_chk, if_pos rfl, e0_wr] at hv
  obtain ⟨ao, cp, rfl, hgr, hao, ho2⟩ := hv
  have HS2 := hid hgr.src
  have HO2 := hid (HO0.out.trans ho2 (fun _ _ e => e))
  have HB2 := hid (blk_only HB0.out ho2 (fun e => e))
  have HD := hid (decode_c HS2.out (by simp))
  clear hgr hao ho2 HC
  rw [e0_chk]
  go_wp2_with fail
  refine HD.out.mono ?_
  rintro x w3 ⟨cs, rfl, hev, ho3⟩
  rw [← e0_wr, dec_enc e0_good e0_rg, e0_cl] at hev
  rw [← e0_wr, dec_enc e0_good e0_rg]
  obtain ⟨vk, vn, vs, va, vm, vc, rfl, hv0⟩ := hev.form
  simp only [e0] at hv0
  simp only [e0]
  have HB3 := hid (blk_only HB2.out ho3 (fun e => e))
  have HO3 := hid (HO2.out.trans ho3 (fun _ _ e => e))
  have HS3 := hid (HS2.out.same ho3)
  have HSA := hid (esame_c (w := w3.alloc (.cells #[.int .i64 3, .int .i64 7, .int .i64 12, .int .i64 2, .int .i64 0, .string (strOf []), .string (strOf []), .int .i64 vk, .int .i64 vn, .string (strOf vs), .slice va vm vc] 28)) (e := e0) (f := e0) (G := fun _ => False) (H := New w2 w3) (cs := [.int .i64 3, .int .i64 7, .int .i64 12, .int .i64 2, .int .i64 0, .string ⟨#[]⟩, .string ⟨#[]⟩, .int .i64 0, .int .i64 0, .string ⟨#[]⟩, .slice none 0 0]) (ds := [.int .i64 3, .int .i64 7, .int .i64 12, .int .i64 2, .int .i64 0, .string (strOf []), .string (strOf []), .int .i64 vk, .int .i64 vn, .string (strOf vs), .slice va vm vc]) (e0_at _) ⟨_, rfl, (hv0.same (only_new w3 _))⟩ (by rw [show e0.v = .nil from rfl]; exact nil_rg) (by rw [show e0.v = .nil from rfl]; exact nil_rg))
  rw [(same_iff e0 e0).2 rfl] at HSA
  clear ho3 hev hv0 HD
  skip
  have c0 : w3.cell? ⟨w.heap.size, 0, none⟩ = some (.int .i64 3) := cell_blk HB3.out 0
  have c1 : w3.cell? ⟨w.heap.size, 1, none⟩ = some (.int .i64 7) := cell_blk HB3.out 1
  have c2 : w3.cell? ⟨w.heap.size, 2, none⟩ = some (.int .i64 12) := cell_blk HB3.out 2
  have c3 : w3.cell? ⟨w.heap.size, 3, none⟩ = some (.int .i64 2) := cell_blk HB3.out 3
  have c4 : w3.cell? ⟨w.heap.size, 4, none⟩ = some (.int .i64 0) := cell_blk HB3.out 4
  have c5 : w3.cell? ⟨w.heap.size, 5, none⟩ = some (.string ⟨#[]⟩) := cell_blk HB3.out 5
  have c6 : w3.cell? ⟨w.heap.size, 6, none⟩ = some (.string ⟨#[]⟩) := cell_blk HB3.out 6
  have c7 : w3.cell? ⟨w.heap.size, 7, none⟩ = some (.int .i64 0) := cell_blk HB3.out 7
  have c8 : w3.cell? ⟨w.heap.size, 8, none⟩ = some (.int .i64 0) := cell_blk HB3.out 8
  have c9 : w3.cell? ⟨w.heap.size, 9, none⟩ = some (.string ⟨#[]⟩) := cell_blk HB3.out 9
  have c10 : w3.cell? ⟨w.heap.size, 10, none⟩ = some (.slice none 0 0) := cell_blk HB3.out 10
  have hlw1 : w.heap.size < w3.heap.size := blk_lt HB3.out
  go_wp2_with fail
  refine HSA.out.mono ?_
  rintro x w4 ⟨rfl, ho4⟩
  have ho34 := (only_new w3 (.cells #[.int .i64 3, .int .i64 7, .int .i64 12, .int .i64 2, .int .i64 0, .string (strOf []), .string (strOf []), .int .i64 vk, .int .i64 vn, .string (strOf vs), .slice va vm vc] 28)).trans ho4 (fun _ _ e => e)
  have HB4 := hid (blk_only HB3.out ho34 (fun e => e))
  have HO4 := hid (HO3.out.trans ho34 (fun _ _ e => e))
  have hcv : (convert 36 9 (.slice ao 4 cp)).run Tryz.prog w4 = .ok (.string (strOf [12, 3, 7, 2])) w4 := conv_str (HS3.out.same ho34)
  have hcs : (strOf [12, 3, 7, 2]).toList = [12, 3, 7, 2] := strOf_list _
  have hcs2 : (strOf [51, 32, 64, 55, 32, 116, 105, 109, 101, 114, 45, 102, 105, 114, 101, 100, 32, 50]).toList = [51, 32, 64, 55, 32, 116, 105, 109, 101, 114, 45, 102, 105, 114, 101, 100, 32, 50] := strOf_list _
  have HP := hid (eprint0_c (w := w4) (G := fun _ => False) (cs := [.int .i64 3, .int .i64 7, .int .i64 12, .int .i64 2, .int .i64 0, .string ⟨#[]⟩, .string ⟨#[]⟩, .int .i64 0, .int .i64 0, .string ⟨#[]⟩, .slice none 0 0]) (e0_at _) (fun k hk => hk.elim) e0_rg (HT.out.only HO4.out) (by decide) (by decide) (by decide) (by decide))
  rw [e0_pr] at HP
  clear ho4 ho34 HSA
  clear c0 c1 c2 c3 c4 c5 c6 c7 c8 c9 c10
  have c0 : w4.cell? ⟨w.heap.size, 0, none⟩ = some (.int .i64 3) := cell_blk HB4.out 0
  have c1 : w4.cell? ⟨w.heap.size, 1, none⟩ = some (.int .i64 7) := cell_blk HB4.out 1
  have c2 : w4.cell? ⟨w.heap.size, 2, none⟩ = some (.int .i64 12) := cell_blk HB4.out 2
  have c3 : w4.cell? ⟨w.heap.size, 3, none⟩ = some (.int .i64 2) := cell_blk HB4.out 3
  have c4 : w4.cell? ⟨w.heap.size, 4, none⟩ = some (.int .i64 0) := cell_blk HB4.out 4
  have c5 : w4.cell? ⟨w.heap.size, 5, none⟩ = some (.string ⟨#[]⟩) := cell_blk HB4.out 5
  have c6 : w4.cell? ⟨w.heap.size, 6, none⟩ = some (.string ⟨#[]⟩) := cell_blk HB4.out 6
  have c7 : w4.cell? ⟨w.heap.size, 7, none⟩ = some (.int .i64 0) := cell_blk HB4.out 7
  have c8 : w4.cell? ⟨w.heap.size, 8, none⟩ = some (.int .i64 0) := cell_blk HB4.out 8
  have c9 : w4.cell? ⟨w.heap.size, 9, none⟩ = some (.string ⟨#[]⟩) := cell_blk HB4.out 9
  have c10 : w4.cell? ⟨w.heap.size, 10, none⟩ = some (.slice none 0 0) := cell_blk HB4.out 10
  have hlw2 : w.heap.size < w4.heap.size := blk_lt HB4.out
  go_wp2_with fail
  refine HP.out.mono ?_
  rintro x w5 ⟨rfl, ho5⟩
  have HB5 := hid (blk_only HB4.out ho5 (fun e => e))
  have HO5 := hid (HO4.out.trans ho5 (fun _ _ e => e))
  have HK := hid (kind_c (w := w5) [116, 105, 109, 101, 114, 45, 102, 105, 114, 101, 100])
  rw [e0_kind] at HK
  clear ho5 HP hcv
  clear c0 c1 c2 c3 c4 c5 c6 c7 c8 c9 c10
  have c0 : w5.cell? ⟨w.heap.size, 0, none⟩ = some (.int .i64 3) := cell_blk HB5.out 0
  have c1 : w5.cell? ⟨w.heap.size, 1, none⟩ = some (.int .i64 7) := cell_blk HB5.out 1
  have c2 : w5.cell? ⟨w.heap.size, 2, none⟩ = some (.int .i64 12) := cell_blk HB5.out 2
  have c3 : w5.cell? ⟨w.heap.size, 3, none⟩ = some (.int .i64 2) := cell_blk HB5.out 3
  have c4 : w5.cell? ⟨w.heap.size, 4, none⟩ = some (.int .i64 0) := cell_blk HB5.out 4
  have c5 : w5.cell? ⟨w.heap.size, 5, none⟩ = some (.string ⟨#[]⟩) := cell_blk HB5.out 5
  have c6 : w5.cell? ⟨w.heap.size, 6, none⟩ = some (.string ⟨#[]⟩) := cell_blk HB5.out 6
  have c7 : w5.cell? ⟨w.heap.size, 7, none⟩ = some (.int .i64 0) := cell_blk HB5.out 7
  have c8 : w5.cell? ⟨w.heap.size, 8, none⟩ = some (.int .i64 0) := cell_blk HB5.out 8
  have c9 : w5.cell? ⟨w.heap.size, 9, none⟩ = some (.string ⟨#[]⟩) := cell_blk HB5.out 9
  have c10 : w5.cell? ⟨w.heap.size, 10, none⟩ = some (.slice none 0 0) := cell_blk HB5.out 10
  have hlw3 : w.heap.size < w5.heap.size := blk_lt HB5.out
  go_wp2_with fail
  refine HK.out.mono ?_
  rintro x w6 ⟨rfl, ho6⟩
  have HB6 := hid (blk_only HB5.out ho6 (fun e => e))
  have HO6 := hid (HO5.out.trans ho6 (fun _ _ e => e))
  have HX := hid (outside_c (w := w6) (G := fun _ => False) (e := e0) (cs := [.int .i64 3, .int .i64 7, .int .i64 12, .int .i64 2, .int .i64 0, .string ⟨#[]⟩, .string ⟨#[]⟩, .int .i64 0, .int .i64 0, .string ⟨#[]⟩, .slice none 0 0]) (e0_at _))
  rw [show outsideB e0.k = true from rfl] at HX
  clear ho6 HK
  clear c0 c1 c2 c3 c4 c5 c6 c7 c8 c9 c10
  have c0 : w6.cell? ⟨w.heap.size, 0, none⟩ = some (.int .i64 3) := cell_blk HB6.out 0
  have c1 : w6.cell? ⟨w.heap.size, 1, none⟩ = some (.int .i64 7) := cell_blk HB6.out 1
  have c2 : w6.cell? ⟨w.heap.size, 2, none⟩ = some (.int .i64 12) := cell_blk HB6.out 2
  have c3 : w6.cell? ⟨w.heap.size, 3, none⟩ = some (.int .i64 2) := cell_blk HB6.out 3
  have c4 : w6.cell? ⟨w.heap.size, 4, none⟩ = some (.int .i64 0) := cell_blk HB6.out 4
  have c5 : w6.cell? ⟨w.heap.size, 5, none⟩ = some (.string ⟨#[]⟩) := cell_blk HB6.out 5
  have c6 : w6.cell? ⟨w.heap.size, 6, none⟩ = some (.string ⟨#[]⟩) := cell_blk HB6.out 6
  have c7 : w6.cell? ⟨w.heap.size, 7, none⟩ = some (.int .i64 0) := cell_blk HB6.out 7
  have c8 : w6.cell? ⟨w.heap.size, 8, none⟩ = some (.int .i64 0) := cell_blk HB6.out 8
  have c9 : w6.cell? ⟨w.heap.size, 9, none⟩ = some (.string ⟨#[]⟩) := cell_blk HB6.out 9
  have c10 : w6.cell? ⟨w.heap.size, 10, none⟩ = some (.slice none 0 0) := cell_blk HB6.out 10
  have hlw4 : w.heap.size < w6.heap.size := blk_lt HB6.out
  go_wp2_with fail
  refine HX.out.mono ?_
  rintro x w7 ⟨rfl, ho7⟩
  have HB7 := hid (blk_only HB6.out ho7 (fun e => e))
  have HO7 := hid (HO6.out.trans ho7 (fun _ _ e => e))
  have HY := hid (task_c (w := w7) (G := fun _ => False) (e := e0) (cs := [.int .i64 3, .int .i64 7, .int .i64 12, .int .i64 2, .int .i64 0, .string ⟨#[]⟩, .string ⟨#[]⟩, .int .i64 0, .int .i64 0, .string ⟨#[]⟩, .slice none 0 0]) (e0_at _))
  rw [show taskB e0.k = false from rfl] at HY
  clear ho7 HX
  clear c0 c1 c2 c3 c4 c5 c6 c7 c8 c9 c10
  have c0 : w7.cell? ⟨w.heap.size, 0, none⟩ = some (.int .i64 3) := cell_blk HB7.out 0
  have c1 : w7.cell? ⟨w.heap.size, 1, none⟩ = some (.int .i64 7) := cell_blk HB7.out 1
  have c2 : w7.cell? ⟨w.heap.size, 2, none⟩ = some (.int .i64 12) := cell_blk HB7.out 2
  have c3 : w7.cell? ⟨w.heap.size, 3, none⟩ = some (.int .i64 2) := cell_blk HB7.out 3
  have c4 : w7.cell? ⟨w.heap.size, 4, none⟩ = some (.int .i64 0) := cell_blk HB7.out 4
  have c5 : w7.cell? ⟨w.heap.size, 5, none⟩ = some (.string ⟨#[]⟩) := cell_blk HB7.out 5
  have c6 : w7.cell? ⟨w.heap.size, 6, none⟩ = some (.string ⟨#[]⟩) := cell_blk HB7.out 6
  have c7 : w7.cell? ⟨w.heap.size, 7, none⟩ = some (.int .i64 0) := cell_blk HB7.out 7
  have c8 : w7.cell? ⟨w.heap.size, 8, none⟩ = some (.int .i64 0) := cell_blk HB7.out 8
  have c9 : w7.cell? ⟨w.heap.size, 9, none⟩ = some (.string ⟨#[]⟩) := cell_blk HB7.out 9
  have c10 : w7.cell? ⟨w.heap.size, 10, none⟩ = some (.slice none 0 0) := cell_blk HB7.out 10
  have hlw5 : w.heap.size < w7.heap.size := blk_lt HB7.out
  go_wp2_with fail
  refine HY.out.mono ?_
  rintro x w8 ⟨rfl, ho8⟩
  have HB8 := hid (blk_only HB7.out ho8 (fun e => e))
  have HO8 := hid (HO7.out.trans ho8 (fun _ _ e => e))
  have HZ := hid (closes_c (w := w8) (G := fun _ => False) (e := e0) (cs := [.int .i64 3, .int .i64 7, .int .i64 12, .int .i64 2, .int .i64 0, .string ⟨#[]⟩, .string ⟨#[]⟩, .int .i64 0, .int .i64 0, .string ⟨#[]⟩, .slice none 0 0]) (e0_at _))
  rw [show closesB e0.k = false from rfl] at HZ
  clear ho8 HY
  clear c0 c1 c2 c3 c4 c5 c6 c7 c8 c9 c10
  have c0 : w8.cell? ⟨w.heap.size, 0, none⟩ = some (.int .i64 3) := cell_blk HB8.out 0
  have c1 : w8.cell? ⟨w.heap.size, 1, none⟩ = some (.int .i64 7) := cell_blk HB8.out 1
  have c2 : w8.cell? ⟨w.heap.size, 2, none⟩ = some (.int .i64 12) := cell_blk HB8.out 2
  have c3 : w8.cell? ⟨w.heap.size, 3, none⟩ = some (.int .i64 2) := cell_blk HB8.out 3
  have c4 : w8.cell? ⟨w.heap.size, 4, none⟩ = some (.int .i64 0) := cell_blk HB8.out 4
  have c5 : w8.cell? ⟨w.heap.size, 5, none⟩ = some (.string ⟨#[]⟩) := cell_blk HB8.out 5
  have c6 : w8.cell? ⟨w.heap.size, 6, none⟩ = some (.string ⟨#[]⟩) := cell_blk HB8.out 6
  have c7 : w8.cell? ⟨w.heap.size, 7, none⟩ = some (.int .i64 0) := cell_blk HB8.out 7
  have c8 : w8.cell? ⟨w.heap.size, 8, none⟩ = some (.int .i64 0) := cell_blk HB8.out 8
  have c9 : w8.cell? ⟨w.heap.size, 9, none⟩ = some (.string ⟨#[]⟩) := cell_blk HB8.out 9
  have c10 : w8.cell? ⟨w.heap.size, 10, none⟩ = some (.slice none 0 0) := cell_blk HB8.out 10
  have hlw6 : w.heap.size < w8.heap.size := blk_lt HB8.out
  go_wp2_with fail
  refine HZ.out.mono ?_
  rintro x w9 ⟨rfl, ho9⟩
  have HO9 := hid (HO8.out.trans ho9 (fun _ _ e => e))
  clear ho9 HZ
  go_wp2_with fail
  go_ret
  exact ⟨rfl, HO9.out⟩
end
end Go.Proofs.YtnoopajedgllhaaGreatDoor
