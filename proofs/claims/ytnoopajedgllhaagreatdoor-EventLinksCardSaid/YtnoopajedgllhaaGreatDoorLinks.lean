/- EventLinks' walk. -/
import Derived.Test.YtnoopajedgllhaaGreatDoorTells
import Derived.Test.YtnoopajedgllhaaGreatDoorFits
import Derived.Test.YtnoopajedgllhaaGreatDoorHsA
import Derived.Test.YtnoopajedgllhaaGreatDoorRf01E
import Derived.Test.YtnoopajedgllhaaGreatDoorRf09B
import Derived.Test.YtnoopajedgllhaaGreatDoorRf09C
import Derived.Test.YtnoopajedgllhaaGreatDoorOpenV
import Derived.Test.YtnoopajedgllhaaGreatDoorOpenS
import Derived.Test.YtnoopajedgllhaaGreatDoorSumQ
import Derived.Test.YtnoopajedgllhaaGreatDoorPt
import Derived.Test.YtnoopajedgllhaaGreatDoorRuns
import Derived.Deep.CutBlock
namespace Go.Proofs.YtnoopajedgllhaaGreatDoor
open Go.RowKit
theorem infoE : (Tryz.prog.info? 28).map (·.size) = some 11 := by kernel_rfl
section
variable {w : World}
set_option maxRecDepth 100000 in
set_option maxHeartbeats 6400000 in
theorem links_c (hT : Tab w) {s : List UInt8} (hs : s.length = 32) {e : EM} {cs : List Value} {G : Nat → Prop} (hE : EAt w G e cs) (hG : ∀ k, G k → k < w.heap.size) (hg : e.rg) : Calls Tryz.prog 3 #[.agg (bytesV s).toArray, .agg cs.toArray] w fun x w' => x = .returned (.bool true) ∧ Only (fun _ => False) w w' := by
  obtain ⟨vk, vn, vs, va, vm, vc, rfl, -⟩ := hE.form
  have ho0 := (only_new w (.cells (bytesV s).toArray 23)).trans (only_new _ (.cells #[.int .i64 e.id, .int .i64 e.tm, .int .i64 e.k, .int .i64 e.a, .int .i64 e.b, .string (strOf e.name), .string (strOf e.text), .int .i64 vk, .int .i64 vn, .string (strOf vs), .slice va vm vc] 28)) (fun _ _ e => e)
  have hbs := blk_alloc (o' := .cells #[.int .i64 e.id, .int .i64 e.tm, .int .i64 e.k, .int .i64 e.a, .int .i64 e.b, .string (strOf e.name), .string (strOf e.text), .int .i64 vk, .int .i64 vn, .string (strOf vs), .slice va vm vc] 28) (blk_new w (.cells (bytesV s).toArray 23))
  have hbe := blk_new (w.alloc (.cells (bytesV s).toArray 23)) (.cells #[.int .i64 e.id, .int .i64 e.tm, .int .i64 e.k, .int .i64 e.a, .int .i64 e.b, .string (strOf e.name), .string (strOf e.text), .int .i64 vk, .int .i64 vn, .string (strOf vs), .slice va vm vc] 28)
  rw [World.size_alloc] at hbe
  have hIS : (Tryz.prog.info? 23).map (·.size) = some (bytesV s).toArray.size := by rw [info32]; simp [hs]
  have HLK := hid (fun (W : World) (h1 : EAt W G e [.int .i64 e.id, .int .i64 e.tm, .int .i64 e.k, .int .i64 e.a, .int .i64 e.b, .string (strOf e.name), .string (strOf e.text), .int .i64 vk, .int .i64 vn, .string (strOf vs), .slice va vm vc]) (h2 : ∀ k, G k → k < W.heap.size) => elink_c (w := W) hs h1 h2 hg)
  have hlr : (linkR s e).length = 32 := by unfold linkR; by_cases h : e.chk = 0 <;> simp [h, link_len]
  have HSB : Hid (∀ i u, (bytesV s)[i]? = some u → ((bytesV s).toArray)[i]? = some u) := hid fun i u hu => by rw [List.getElem?_toArray]; exact hu
  have HIE : Hid ((Tryz.prog.info? 28).map (·.size) = some (#[.int .i64 e.id, .int .i64 e.tm, .int .i64 e.k, .int .i64 e.a, .int .i64 e.b, .string (strOf e.name), .string (strOf e.text), .int .i64 vk, .int .i64 vn, .string (strOf vs), .slice va vm vc] : Array Value).size) := hid infoE
  have HIL : Hid ((Tryz.prog.info? 28).map (·.size) = some ([.int .i64 e.id, .int .i64 e.tm, .int .i64 e.k, .int .i64 e.a, .int .i64 e.b, .string (strOf e.name), .string (strOf e.text), .int .i64 vk, .int .i64 vn, .string (strOf vs), .slice va vm vc] : List Value).length) := hid infoE
  obtain ⟨S, hS⟩ : ∃ x, (bytesV s).toArray = x := ⟨_, rfl⟩
  rw [hS] at ho0 hbs hbe hIS HSB
  simp only [hS] at HLK
  rw [hS]
  obtain ⟨w0, hw0⟩ : ∃ x, (w.alloc (.cells S 23)).alloc (.cells #[.int .i64 e.id, .int .i64 e.tm, .int .i64 e.k, .int .i64 e.a, .int .i64 e.b, .string (strOf e.name), .string (strOf e.text), .int .i64 vk, .int .i64 vn, .string (strOf vs), .slice va vm vc] 28) = x := ⟨_, rfl⟩
  rw [hw0] at ho0 hbs hbe
  have HW0 := hid hw0; have HO0 := hid ho0; have HBS := hid hbs; have HBE := hid hbe; have HIS := hid hIS; have HE := hid hE; have HG := hid hG; have Hg := hid hg; have HLR := hid hlr; have HS32 := hid hs
  have HTL := hid (tells_c (hT.only ho0))
  have hzl : w.heap.size + 1 < w0.heap.size := blk_lt hbe
  clear hS ho0 hbs hbe hIS hE hG hg hlr hs hT hw0
  go_enter Tryz.func3, Tryz.ntmps3
  go_upto_region 1 with fail
  rw [HW0.out]
  go_wp2_with fail
  refine HTL.out.mono ?_
  rintro x w1 ⟨rfl, ho1⟩
  have HB1 := hid (blk_only HBE.out ho1 (fun e => e)); have HS1 := hid (blk_only HBS.out ho1 (fun e => e))
  have HO1 := hid (HO0.out.trans ho1 (fun _ _ e => e))
  have hz1 := HO1.out.size
  have ho2 := only_new w1 (.cells #[.int .i64 e.id, .int .i64 e.tm, .int .i64 e.k, .int .i64 e.a, .int .i64 e.b, .string (strOf e.name), .string (strOf e.text), .int .i64 vk, .int .i64 vn, .string (strOf vs), .slice va vm vc] 28)
  have HSM := hid (small_c (w := w1.alloc (.cells #[.int .i64 e.id, .int .i64 e.tm, .int .i64 e.k, .int .i64 e.a, .int .i64 e.b, .string (strOf e.name), .string (strOf e.text), .int .i64 vk, .int .i64 vn, .string (strOf vs), .slice va vm vc] 28)) (EvsV.one (w := w1.alloc (.cells #[.int .i64 e.id, .int .i64 e.tm, .int .i64 e.k, .int .i64 e.a, .int .i64 e.b, .string (strOf e.name), .string (strOf e.text), .int .i64 vk, .int .i64 vn, .string (strOf vs), .slice va vm vc] 28)) (blk_new w1 _) (HE.out.same (HO1.out.trans ho2 (fun _ _ e => e)))) (fun k hk => by
    rcases hk with h | h
    · rw [h]; simp
    · have := HG.out k h; have := ho2.size; omega) (fun x hx => by rw [List.mem_singleton.1 hx]; exact Hg.out.2.2.2.2.2.2.2) (by simp))
  have HO2 := hid ho2
  clear ho1 HTL ho2
  obtain ⟨sm, hsm⟩ : ∃ b, smB [e] 400 = b := ⟨_, rfl⟩
  rw [hsm] at HSM
  clear hsm
  go_wp2_with ((guard_target =~ wpList _ _ _ (⟨some 9, _, _, _, _, _⟩ :: _) _ _); refine wpList_load_row rfl 28 (.tmp 3) rfl (w.heap.size + 1) rfl 28 #[.int .i64 e.id, .int .i64 e.tm, .int .i64 e.k, .int .i64 e.a, .int .i64 e.b, .string (strOf e.name), .string (strOf e.text), .int .i64 vk, .int .i64 vn, .string (strOf vs), .slice va vm vc] (0, 0) _ HB1.out Tryz.underlying28 rfl HIE.out ?_)
  refine HSM.out.mono ?_
  rintro x w2 ⟨rfl, ho2⟩
  have HP2 := hid (HO2.out.trans ho2 (fun _ _ e => e))
  have HO3 := hid (HO1.out.trans HP2.out (fun _ _ e => e))
  have HB2 := hid (blk_only HB1.out HP2.out (fun e => e)); have HS2 := hid (blk_only HS1.out HP2.out (fun e => e))
  have hz2 := HO3.out.size
  clear ho2
  cases sm with
  | false =>
    go_wp2_with fail
    go_ret
    exact ⟨rfl, HO3.out⟩
  | true =>
  have HLI := hid (HLK.out w2 (HE.out.same HO3.out) (fun k hk => by have := HG.out k hk; omega))
  have hlz := HLR.out
  obtain ⟨LR, hLR⟩ : ∃ x, linkR s e = x := ⟨_, rfl⟩
  rw [hLR] at HLI hlz
  have HLRe := hid hLR
  have HAI : Hid ((Tryz.prog.info? 23).map (·.size) = some (bytesV LR).toArray.size) := hid (by rw [info32]; simp [hlz])
  have HAO := hid (bytesV_one' LR)
  have HAZ : Hid ((bytesV LR).toArray.size = (byA st0 0).size) := hid (by simp [hlz, byA])
  have HLZ := hid hlz
  obtain ⟨A, hA⟩ : ∃ x, (bytesV LR).toArray = x := ⟨_, rfl⟩
  rw [hA] at HLI HAI HAO HAZ
  have HA := hid hA
  obtain ⟨ck, hck⟩ : ∃ x, e.chk = x := ⟨_, rfl⟩
  rw [hck] at HLI
  have HCK := hid hck
  have HR9 : Hid (∀ W, Only (fun _ => False) w W → Calls Tryz.prog 7 #[.agg #[.int .i64 e.id, .int .i64 e.tm, .int .i64 e.k, .int .i64 e.a, .int .i64 e.b, .string (strOf e.name), .string (strOf e.text), .int .i64 vk, .int .i64 vn, .string (strOf vs), .slice va vm vc]] W fun x w' => x = .returned (.int .i64 ck) ∧ Only (fun _ => False) W w') := hid fun W hW => by rw [← HCK.out]; exact r9check_c (HE.out.same hW) Hg.out
  clear hLR hlz hA hck HLK HLR
  go_wp2_with (first
    | ((guard_target =~ wpList _ _ _ (⟨some 14, _, _, _, _, _⟩ :: _) _ _); refine wpList_load_row rfl 23 (.tmp 2) rfl w.heap.size rfl 23 S (0, 0) _ HS2.out Tryz.underlying23 rfl HIS.out ?_)
    | ((guard_target =~ wpList _ _ _ (⟨some 15, _, _, _, _, _⟩ :: _) _ _); refine wpList_load_row rfl 28 (.tmp 3) rfl (w.heap.size + 1) rfl 28 #[.int .i64 e.id, .int .i64 e.tm, .int .i64 e.k, .int .i64 e.a, .int .i64 e.b, .string (strOf e.name), .string (strOf e.text), .int .i64 vk, .int .i64 vn, .string (strOf vs), .slice va vm vc] (0, 0) _ HB2.out Tryz.underlying28 rfl HIE.out ?_))
  refine HLI.out.mono ?_
  rintro x w3 ⟨rfl, ho3⟩
  have HO4 := hid (HO3.out.trans ho3 (fun _ _ e => e))
  have HB3 := hid (blk_only HB2.out ho3 (fun e => e)); have HS3 := hid (blk_only HS2.out ho3 (fun e => e))
  have hz3 := HO4.out.size
  clear ho3 HLI
  go_upto_region 6 with ((guard_target =~ wpList _ _ _ (⟨none, .store _ _ _, _, _, _, _⟩ :: _) _ _); refine wpList_store_all rfl 23 (.tmp 5) (.tmp 17) rfl w3.heap.size A rfl rfl (byA st0 0) 23 (blk_new w3 _) HAZ.out HAI.out HAO.out ?_; intro w4 hb4 ho4 hs4; have HA4 := hid hb4; have HS44 := hid hs4; have HO34 := hid ((only_new w3 (.cells (byA st0 0) 23)).trans ho4 (fun k hk e => by have e' : k = w3.heap.size := e; omega)); clear hb4 ho4 hs4)
  have HO5 := hid (HO4.out.trans HO34.out (fun _ _ e => e))
  have HB4 := hid (blk_only HB3.out HO34.out (fun e => e)); have HS4 := hid (blk_only HS3.out HO34.out (fun e => e))
  go_wp2_with ((guard_target =~ wpList _ _ _ (⟨some 20, _, _, _, _, _⟩ :: _) _ _); refine wpList_load_row rfl 28 (.tmp 3) rfl (w.heap.size + 1) rfl 28 #[.int .i64 e.id, .int .i64 e.tm, .int .i64 e.k, .int .i64 e.a, .int .i64 e.b, .string (strOf e.name), .string (strOf e.text), .int .i64 vk, .int .i64 vn, .string (strOf vs), .slice va vm vc] (0, 0) _ HB4.out Tryz.underlying28 rfl HIE.out ?_)
  refine (HR9.out _ HO5.out).mono ?_
  rintro x w5 ⟨rfl, ho5⟩
  have HO6 := hid (HO5.out.trans ho5 (fun _ _ e => e))
  have HA5 := hid (blk_only HA4.out ho5 (fun e => e)); have HB5 := hid (blk_only HB4.out ho5 (fun e => e)); have HS5 := hid (blk_only HS4.out ho5 (fun e => e))
  have hz5 := HO34.out.size
  clear ho5 HR9
  by_cases hc0 : ck = 0
  rotate_left
  · have hLZ0 : LR = List.replicate 32 0 := by rw [← HLRe.out, linkR, if_neg (by rw [HCK.out]; exact hc0)]
    have hnb : (ck != 0) = true := by simpa using hc0
    have hz32 : (#[.int .u8 0, .int .u8 0, .int .u8 0, .int .u8 0, .int .u8 0, .int .u8 0, .int .u8 0, .int .u8 0, .int .u8 0, .int .u8 0, .int .u8 0, .int .u8 0, .int .u8 0, .int .u8 0, .int .u8 0, .int .u8 0, .int .u8 0, .int .u8 0, .int .u8 0, .int .u8 0, .int .u8 0, .int .u8 0, .int .u8 0, .int .u8 0, .int .u8 0, .int .u8 0, .int .u8 0, .int .u8 0, .int .u8 0, .int .u8 0, .int .u8 0, .int .u8 0] : Array Value) = (bytesV (List.replicate 32 0)).toArray := by kernel_rfl
    have heq : (Op.equalIn 10000 23 (.agg A) (.agg #[.int .u8 0, .int .u8 0, .int .u8 0, .int .u8 0, .int .u8 0, .int .u8 0, .int .u8 0, .int .u8 0, .int .u8 0, .int .u8 0, .int .u8 0, .int .u8 0, .int .u8 0, .int .u8 0, .int .u8 0, .int .u8 0, .int .u8 0, .int .u8 0, .int .u8 0, .int .u8 0, .int .u8 0, .int .u8 0, .int .u8 0, .int .u8 0, .int .u8 0, .int .u8 0, .int .u8 0, .int .u8 0, .int .u8 0, .int .u8 0, .int .u8 0, .int .u8 0])).run Tryz.prog w5 = .ok true w5 := by
      rw [← HA.out, hLZ0, hz32]
      rw [eqIn_arr w5 23 Tryz.underlying23 cells_u8 (by simp) (by simp)]; simp
    have hself : ((ck : Int) == ck) = true := by simp
    have hself2 : ((ck : Int) != ck) = false := by simp
    clear hc0 hLZ0 hz32
    go_wp2_with ((guard_target =~ wpList _ _ _ (⟨some 25, _, _, _, _, _⟩ :: _) _ _); refine wpList_load_row rfl 23 (.tmp 5) rfl w3.heap.size rfl 23 A (0, 0) _ HA5.out Tryz.underlying23 rfl HAI.out ?_)
    go_ret
    exact ⟨rfl, HO6.out⟩
  · subst hc0
    have hgd := chk_good HCK.out
    have hLR1 : LR = sha (s ++ e.wr) := by rw [← HLRe.out, linkR, if_pos HCK.out]; rfl
    have hwl := ewr_len hgd
    have HBT : Hid (∀ W, Only (fun _ => False) w5 W → Calls Tryz.prog 9 #[.agg #[.int .i64 e.id, .int .i64 e.tm, .int .i64 e.k, .int .i64 e.a, .int .i64 e.b, .string (strOf e.name), .string (strOf e.text), .int .i64 vk, .int .i64 vn, .string (strOf vs), .slice va vm vc]] W fun x w' => x = .returned (.string (strOf e.wr)) ∧ Only (fun _ => False) W w') := hid fun W hW => r9bytes_c (HE.out.same (HO6.out.trans hW (fun _ _ e => e))) Hg.out hgd
    obtain ⟨bl, hbl⟩ : ∃ x, e.wr = x := ⟨_, rfl⟩
    rw [hbl] at hLR1 hwl HBT
    have hsz1 : (strOf s).size = 32 := HS32.out
    have hsz2 : (strOf bl).size = bl.length := rfl
    have hcat : strOf s ++ strOf bl = strOf (s ++ bl) := strOf_cat _ _
    have HOF : Hid (∀ W, Only (fun _ => False) w5 W → Calls Tryz.prog 8 #[.string (strOf (s ++ bl))] W fun x w' => x = .returned (.agg A) ∧ Only (fun _ => False) W w') := hid fun W _ => by
      rw [← HA.out, hLR1]
      exact rof_c (s ++ bl) (by rw [List.length_append]; have := HS32.out; omega)
    have HEQ : Hid (∀ W : World, (Op.equalIn 10000 23 (.agg A) (.agg A)).run Tryz.prog W = .ok true W) := hid fun W => by
      rw [← HA.out, eqIn_arr W 23 Tryz.underlying23 cells_u8 HLZ.out HLZ.out]; simp
    have HSRC : Hid (∀ W, Only (fun _ => False) w5 W → Src W (.slice (some ⟨w.heap.size, 0, none⟩) 32 32) s) := hid fun W hW => by
      have hb := blk_only HS5.out hW (fun e => e)
      exact ⟨_, 32, by rw [HS32.out], fun _ => ⟨w.heap.size, 0, rfl, fun i u hu => by rw [Nat.zero_add, cell_blk hb]; exact HSB.out i u hu⟩⟩
    clear hgd hLR1 hbl
    go_wp2_with fail
    refine region_pt 7 [] (by kernel_rfl) (by kernel_rfl) (by kernel_rfl) [(28, fun _ v => v = .agg A), (29, fun _ v => v = .slice (some ⟨w.heap.size, 0, none⟩) 32 32), (30, fun _ v => v = .string (strOf s)), (31, fun _ v => v = .agg #[.int .i64 e.id, .int .i64 e.tm, .int .i64 e.k, .int .i64 e.a, .int .i64 e.b, .string (strOf e.name), .string (strOf e.text), .int .i64 vk, .int .i64 vn, .string (strOf vs), .slice va vm vc]), (32, fun _ v => v = .string (strOf bl)), (33, fun _ v => v = .string (strOf (s ++ bl))), (34, fun _ v => v = .agg A)] (fun _ W => Only (fun _ => False) w5 W) (by show [28, 29, 30, 31, 32, 33, 34].Nodup; decide) (by show ∀ d ∈ [28, 29, 30, 31, 32, 33, 34], d < 36; decide) ((Only.refl _ _).drew) (.inl rfl) ?_ ?_ ?_
    · exact trivial
    · have hstab : PtStabs (Only (fun _ => False)) [(28, fun _ v => v = .agg A), (29, fun _ v => v = .slice (some ⟨w.heap.size, 0, none⟩) 32 32), (30, fun _ v => v = .string (strOf s)), (31, fun _ v => v = .agg #[.int .i64 e.id, .int .i64 e.tm, .int .i64 e.k, .int .i64 e.a, .int .i64 e.b, .string (strOf e.name), .string (strOf e.text), .int .i64 vk, .int .i64 vn, .string (strOf vs), .slice va vm vc]), (32, fun _ v => v = .string (strOf bl)), (33, fun _ v => v = .string (strOf (s ++ bl))), (34, fun _ v => v = .agg A)] := ⟨fun _ _ _ _ h => h, fun _ _ _ _ h => h, fun _ _ _ _ h => h, fun _ _ _ _ h => h, fun _ _ _ _ h => h, fun _ _ _ _ h => h, fun _ _ _ _ h => h, trivial⟩
      refine PtAllS.cons rfl ⟨rfl, rfl⟩ ?_ (PtAllS.cons rfl ⟨rfl, rfl⟩ ?_ (PtAllS.cons rfl ⟨rfl, rfl⟩ ?_ (PtAllS.cons rfl ⟨rfl, rfl⟩ ?_ (PtAllS.cons rfl ⟨rfl, rfl⟩ ?_ (PtAllS.cons rfl ⟨rfl, rfl⟩ ?_ (PtAllS.cons rfl ⟨rfl, rfl⟩ ?_ (PtAllS.nil rfl)))))))
      · intro L a W K hI hn hd hK
        have e5 : a.eval (.tmp 5) = .pointer (some ⟨w3.heap.size, 0, none⟩) := hI.ev 5 (by show ¬ (5 ∈ [28, 29, 30, 31, 32, 33, 34]); decide) rfl
        exact wp_load_row _ (.tmp 5) rfl (w3.heap.size) e5 23 (A) (0, 0) _ (blk_only HA5.out hI.j (fun e => e)) Tryz.underlying23 rfl (HAI.out) (hK _ _ hI.j PtKeep.refl rfl)
      · intro L a W K hI hn hd hK
        have e2 : a.eval (.tmp 2) = .pointer (some ⟨w.heap.size, 0, none⟩) := hI.ev 2 (by show ¬ (2 ∈ [28, 29, 30, 31, 32, 33, 34]); decide) rfl
        exact pt_val (v := .slice (some ⟨w.heap.size, 0, none⟩) 32 32) (by unfold execOp; simp only [e2]; kernel_rfl) (hK _ _ hI.j PtKeep.refl rfl)
      · intro L a W K hI hn hd hK
        have e29 : a.eval (.tmp 29) = .slice (some ⟨w.heap.size, 0, none⟩) 32 32 := hI.fact 1 29 _ rfl (dep_of hd 1 (by kernel_rfl))
        exact pt_val (v := .string (strOf s)) (ex_conv rfl e29 (HSRC.out W hI.j)) (hK _ _ hI.j PtKeep.refl rfl)
      · intro L a W K hI hn hd hK
        have e3 : a.eval (.tmp 3) = .pointer (some ⟨w.heap.size + 1, 0, none⟩) := hI.ev 3 (by show ¬ (3 ∈ [28, 29, 30, 31, 32, 33, 34]); decide) rfl
        exact wp_load_row _ (.tmp 3) rfl (w.heap.size + 1) e3 28 (#[.int .i64 e.id, .int .i64 e.tm, .int .i64 e.k, .int .i64 e.a, .int .i64 e.b, .string (strOf e.name), .string (strOf e.text), .int .i64 vk, .int .i64 vn, .string (strOf vs), .slice va vm vc]) (0, 0) _ (blk_only HB5.out hI.j (fun e => e)) Tryz.underlying28 rfl (HIE.out) (hK _ _ hI.j PtKeep.refl rfl)
      · intro L a W K hI hn hd hK
        have e31 : a.eval (.tmp 31) = .agg #[.int .i64 e.id, .int .i64 e.tm, .int .i64 e.k, .int .i64 e.a, .int .i64 e.b, .string (strOf e.name), .string (strOf e.text), .int .i64 vk, .int .i64 vn, .string (strOf vs), .slice va vm vc] := hI.fact 3 31 _ rfl (dep_of hd 3 (by kernel_rfl))
        refine wp_callc (f := 9) (args := #[a.eval (.tmp 31)]) (by kernel_rfl) ?_
        rw [e31]
        refine (HBT.out _ hI.j).mono ?_
        rintro x W' ⟨rfl, ho⟩
        exact ⟨_, rfl, hK _ _ (hI.j.trans ho (fun _ _ e => e.elim)) (hstab.keep ho) rfl⟩
      · intro L a W K hI hn hd hK
        have e30 : a.eval (.tmp 30) = .string (strOf s) := hI.fact 2 30 _ rfl (dep_of hd 2 (by kernel_rfl))
        have e32 : a.eval (.tmp 32) = .string (strOf bl) := hI.fact 4 32 _ rfl (dep_of hd 4 (by kernel_rfl))
        exact pt_val (v := .string (strOf (s ++ bl))) (ex_sadd rfl e30 e32 hcat (by rw [hsz1, hsz2]; omega)) (hK _ _ hI.j PtKeep.refl rfl)
      · intro L a W K hI hn hd hK
        have e33 : a.eval (.tmp 33) = .string (strOf (s ++ bl)) := hI.fact 5 33 _ rfl (dep_of hd 5 (by kernel_rfl))
        refine wp_callc (f := 8) (args := #[a.eval (.tmp 33)]) (by kernel_rfl) ?_
        rw [e33]
        refine (HOF.out _ hI.j).mono ?_
        rintro x W' ⟨rfl, ho⟩
        exact ⟨_, rfl, hK _ _ (hI.j.trans ho (fun _ _ e => e.elim)) (hstab.keep ho) rfl⟩
    · intro L a w6 hal hj hfs
      dsimp only [PtAll] at hfs
      obtain ⟨f28, f29, f30, f31, f32, f33, f34, -⟩ := hfs
      have hA := hal.turned
      simp only [List.map_cons, List.map_nil, Act.turned, f28, f29, f30, f31, f32, f33, f34] at hA
      simp only [Act.put, List.setIfInBounds_toArray, List.set_cons_zero, List.set_cons_succ] at hA
      clear hal f28 f29 f30 f31 f32 f33 f34
      subst hA
      change wpList _ _ _ [_, _] _ _
      have HJ := hid hj
      have heq := HEQ.out w6
      clear hj
      go_wp2_with fail
      try refine NoPanic.normal ?_
      go_wp2_with fail
      go_ret
      exact ⟨rfl, HO6.out.trans HJ.out (fun _ _ e => e)⟩
end
end Go.Proofs.YtnoopajedgllhaaGreatDoor
