/- command.Event, command.Fits. -/
import Derived.Test.YtfmdngeooelcpaaGreatCmV
import Derived.Test.YtfmdngeooelcpaaGreatValD
import Derived.StillTailTactics
import Derived.Deep.RegionHeld3
namespace Go.Proofs.YtfmdngeooelcpaaGreat
open Go.RowKit
theorem info_evc : (Tryz.prog.info? 43).map (·.size) = some 11 := by kernel_rfl
theorem evc_one (i t k a b : Int) (n x : ByteArray) (vk vn : Int) (vs : ByteArray) (va : Option Addr) (vm vc : Nat) : (#[Value.int .i64 i, .int .i64 t, .int .i64 k, .int .i64 a, .int .i64 b, .string n, .string x, .int .i64 vk, .int .i64 vn, .string vs, .slice va vm vc] : Array Value).all (·.oneCell') = true := by simp [Value.oneCell']
theorem blk_new2 (w : World) (Z E : Obj) {n : Nat} (hn : n = w.heap.size + 1) : ((w.alloc Z).alloc E).heap[n]? = some E := by subst hn; have := blk_new (w.alloc Z) E; simpa using this
/-- What command.Event leaves: an event that shares nothing, and whose list may be written. -/
def CEv (w : World) (e : EM) (x : Ending) (w' : World) : Prop := ∃ ds, x = .returned (.agg ds.toArray) ∧ EAt w' (New w w') e ds ∧ Only (fun _ => False) w w' ∧ Soft w w' ds
theorem evsoft {w w' : World} {i t k a b : Int} {n x : ByteArray} {cs : List Value} (h : Soft w w' cs) : Soft w w' ([.int .i64 i, .int .i64 t, .int .i64 k, .int .i64 a, .int .i64 b, .string n, .string x] ++ cs) := fun q o m c hm => h q o m c (by simpa using hm)
theorem cev_vrg {c : EM} (h : c.v.rg) : c.cev.v.rg := by
  have hn : VT.nil.rg := by unfold VT.nil; rw [VT.rg, VT.rgL]; simp
  unfold EM.cev
  repeat' split
  all_goals first | exact hn | exact cl_rg _ h
theorem novlc (w : World) (G : Nat → Prop) (k n : Int) (s : List UInt8) : VAt w G (.mk k n s []) [.int .i64 k, .int .i64 n, .string (strOf s), .slice none 0 0] := by
  rw [VAt]
  exact ⟨none, 0, 0, 0, rfl, by simp, trivial⟩
section
variable {w : World} {G : Nat → Prop}
set_option maxRecDepth 100000 in
set_option maxHeartbeats 3200000 in
theorem cevent_1 {tm a b : Int} {name vs : List UInt8} {vk vn : Int} {va : Option Addr} {vm vc : Nat} (gtm : -9223372036854775808 ≤ tm ∧ tm ≤ 9223372036854775807) (gb : -9223372036854775808 ≤ b ∧ b ≤ 9223372036854775807) :
    Calls Tryz.prog 8 #[.agg #[.int .i64 1, .int .i64 tm, .int .i64 a, .int .i64 b, .string (strOf name), .int .i64 vk, .int .i64 vn, .string (strOf vs), .slice va vm vc]] w (CEv w ⟨0, tm, 11, a, satu tm b, [], [], .nil⟩) := by
  have HS := fun wc => hid (satu_c (w := wc) tm b gtm gb)
  obtain ⟨sa, hsa⟩ : ∃ x, satu tm b = x := ⟨_, rfl⟩
  simp only [hsa] at HS
  have HSA := hid hsa
  clear hsa
  go_enter Tryz.func8, Tryz.ntmps8
  go_wp2_with fail
  go_region_held3 (fun W => W.cell? ⟨w.heap.size, 1, none⟩ = some (.int .i64 tm) ∧ W.cell? ⟨w.heap.size, 2, none⟩ = some (.int .i64 a) ∧ W.cell? ⟨w.heap.size, 3, none⟩ = some (.int .i64 b))
    (first | go_keep | simp)
    ((go_at_call 29; (with_reducible refine (HS _).out.mono ?_); rintro x w2 ⟨rfl, rfl⟩))
  go_wp2_with fail
  refine bodyPost_ret (results_cell_row rfl _ _ (w.heap.size + 1) 43 #[.int .i64 0, .int .i64 tm, .int .i64 11, .int .i64 a, .int .i64 sa, .string (strOf []), .string (strOf []), .int .i64 0, .int .i64 0, .string (strOf []), .slice none 0 0] (0, 0) _ rfl (blk_mid w _ _ _) Tryz.underlying43 rfl info_evc) rfl ?_
  rw [HSA.out]
  refine ⟨[.int .i64 0, .int .i64 tm, .int .i64 11, .int .i64 a, .int .i64 sa, .string (strOf []), .string (strOf []), .int .i64 0, .int .i64 0, .string (strOf []), .slice none 0 0], rfl, ⟨[.int .i64 0, .int .i64 0, .string (strOf []), .slice none 0 0], rfl, novlc _ _ 0 0 []⟩, (only3 w _ _ _).drew, evsoft (soft_none _ _ 0 0 (strOf []) 0 0)⟩
set_option maxRecDepth 100000 in
set_option maxHeartbeats 3200000 in
theorem cevent_2 {tm a b : Int} {name vs : List UInt8} {vk vn : Int} {va : Option Addr} {vm vc : Nat}  :
    Calls Tryz.prog 8 #[.agg #[.int .i64 2, .int .i64 tm, .int .i64 a, .int .i64 b, .string (strOf name), .int .i64 vk, .int .i64 vn, .string (strOf vs), .slice va vm vc]] w (CEv w ⟨0, tm, 13, a, 0, [], [], .nil⟩) := by
  go_enter Tryz.func8, Tryz.ntmps8
  go_wp2_with fail
  go_region_held3 (fun W => W.cell? ⟨w.heap.size, 2, none⟩ = some (.int .i64 a))
    (first | go_keep | simp)
    (fail)
  go_wp2_with fail
  refine bodyPost_ret (results_cell_row rfl _ _ (w.heap.size + 1) 43 #[.int .i64 0, .int .i64 tm, .int .i64 13, .int .i64 a, .int .i64 0, .string (strOf []), .string (strOf []), .int .i64 0, .int .i64 0, .string (strOf []), .slice none 0 0] (0, 0) _ rfl (blk_mid w _ _ _) Tryz.underlying43 rfl info_evc) rfl ?_
  refine ⟨[.int .i64 0, .int .i64 tm, .int .i64 13, .int .i64 a, .int .i64 0, .string (strOf []), .string (strOf []), .int .i64 0, .int .i64 0, .string (strOf []), .slice none 0 0], rfl, ⟨[.int .i64 0, .int .i64 0, .string (strOf []), .slice none 0 0], rfl, novlc _ _ 0 0 []⟩, (only3 w _ _ _).drew, evsoft (soft_none _ _ 0 0 (strOf []) 0 0)⟩
set_option maxRecDepth 100000 in
set_option maxHeartbeats 3200000 in
theorem cevent_5 {tm a b : Int} {name vs : List UInt8} {vk vn : Int} {va : Option Addr} {vm vc : Nat}  :
    Calls Tryz.prog 8 #[.agg #[.int .i64 5, .int .i64 tm, .int .i64 a, .int .i64 b, .string (strOf name), .int .i64 vk, .int .i64 vn, .string (strOf vs), .slice va vm vc]] w (CEv w ⟨0, tm, 17, 0, 0, name, [], .nil⟩) := by
  go_enter Tryz.func8, Tryz.ntmps8
  go_wp2_with fail
  go_region_held3 (fun W => W.cell? ⟨w.heap.size, 4, none⟩ = some (.string (strOf name)))
    (first | go_keep | simp)
    (fail)
  go_wp2_with fail
  refine bodyPost_ret (results_cell_row rfl _ _ (w.heap.size + 1) 43 #[.int .i64 0, .int .i64 tm, .int .i64 17, .int .i64 0, .int .i64 0, .string (strOf name), .string (strOf []), .int .i64 0, .int .i64 0, .string (strOf []), .slice none 0 0] (0, 0) _ rfl (blk_mid w _ _ _) Tryz.underlying43 rfl info_evc) rfl ?_
  refine ⟨[.int .i64 0, .int .i64 tm, .int .i64 17, .int .i64 0, .int .i64 0, .string (strOf name), .string (strOf []), .int .i64 0, .int .i64 0, .string (strOf []), .slice none 0 0], rfl, ⟨[.int .i64 0, .int .i64 0, .string (strOf []), .slice none 0 0], rfl, novlc _ _ 0 0 []⟩, (only3 w _ _ _).drew, evsoft (soft_none _ _ 0 0 (strOf []) 0 0)⟩
set_option maxRecDepth 100000 in
set_option maxHeartbeats 3200000 in
theorem cevent_0 {k tm a b : Int} {name vs : List UInt8} {vk vn : Int} {va : Option Addr} {vm vc : Nat}  (hk : ¬ (1 ≤ k ∧ k ≤ 6)) :
    Calls Tryz.prog 8 #[.agg #[.int .i64 k, .int .i64 tm, .int .i64 a, .int .i64 b, .string (strOf name), .int .i64 vk, .int .i64 vn, .string (strOf vs), .slice va vm vc]] w (CEv w ⟨0, tm, 0, 0, 0, [], [], .nil⟩) := by
  have b1 : (k == 1) = false := by simp; omega
  have b2 : (k == 2) = false := by simp; omega
  have b3 : (k == 3) = false := by simp; omega
  have b4 : (k == 4) = false := by simp; omega
  have b5 : (k == 5) = false := by simp; omega
  have b6 : (k == 6) = false := by simp; omega
  clear hk
  go_enter Tryz.func8, Tryz.ntmps8
  go_wp2_with fail
  refine bodyPost_ret (results_cell_row rfl _ _ (w.heap.size + 1) 43 #[.int .i64 0, .int .i64 tm, .int .i64 0, .int .i64 0, .int .i64 0, .string (strOf []), .string (strOf []), .int .i64 0, .int .i64 0, .string (strOf []), .slice none 0 0] (0, 0) _ rfl (blk_mid w _ _ _) Tryz.underlying43 rfl info_evc) rfl ?_
  refine ⟨[.int .i64 0, .int .i64 tm, .int .i64 0, .int .i64 0, .int .i64 0, .string (strOf []), .string (strOf []), .int .i64 0, .int .i64 0, .string (strOf []), .slice none 0 0], rfl, ⟨[.int .i64 0, .int .i64 0, .string (strOf []), .slice none 0 0], rfl, novlc _ _ 0 0 []⟩, only3 w _ _ _, evsoft (soft_none _ _ 0 0 (strOf []) 0 0)⟩
set_option maxRecDepth 100000 in
set_option maxHeartbeats 3200000 in
theorem cevent_4 {tm a b : Int} {name vs : List UInt8} {vk vn : Int} {va : Option Addr} {vm vc : Nat}  {v : VT} (hV : VAt w G v [.int .i64 vk, .int .i64 vn, .string (strOf vs), .slice va vm vc]) (hG : ∀ k, G k → k < w.heap.size) (hg : v.rg) (hsz : v.parts ≤ 1000000000) :
    Calls Tryz.prog 8 #[.agg #[.int .i64 4, .int .i64 tm, .int .i64 a, .int .i64 b, .string (strOf name), .int .i64 vk, .int .i64 vn, .string (strOf vs), .slice va vm vc]] w (CEv w ⟨0, tm, 16, 0, 0, [], [], v.cl⟩) := by
  go_enter Tryz.func8, Tryz.ntmps8
  go_upto_region 2 with fail
  have HA := hid (only3 w (.cells #[.int .i64 4, .int .i64 tm, .int .i64 a, .int .i64 b, .string (strOf name), .int .i64 vk, .int .i64 vn, .string (strOf vs), .slice va vm vc] 38) (.cells #[.int .i64 0, .int .i64 0, .int .i64 0, .int .i64 0, .int .i64 0, .string ⟨#[]⟩, .string ⟨#[]⟩, .int .i64 0, .int .i64 0, .string ⟨#[]⟩, .slice none 0 0] 43) (.cells #[.int .i64 0, .int .i64 tm, .int .i64 0, .int .i64 0, .int .i64 0, .string ⟨#[]⟩, .string ⟨#[]⟩, .int .i64 0, .int .i64 0, .string ⟨#[]⟩, .slice none 0 0] 43))
  obtain ⟨wx, hwx⟩ : ∃ x, ((w.alloc (.cells #[.int .i64 4, .int .i64 tm, .int .i64 a, .int .i64 b, .string (strOf name), .int .i64 vk, .int .i64 vn, .string (strOf vs), .slice va vm vc] 38)).alloc (.cells #[.int .i64 0, .int .i64 0, .int .i64 0, .int .i64 0, .int .i64 0, .string ⟨#[]⟩, .string ⟨#[]⟩, .int .i64 0, .int .i64 0, .string ⟨#[]⟩, .slice none 0 0] 43)).alloc (.cells #[.int .i64 0, .int .i64 tm, .int .i64 0, .int .i64 0, .int .i64 0, .string ⟨#[]⟩, .string ⟨#[]⟩, .int .i64 0, .int .i64 0, .string ⟨#[]⟩, .slice none 0 0] 43) = x := ⟨_, rfl⟩
  have hbe : wx.heap[w.heap.size + 1 + 1]? = some (.cells #[.int .i64 0, .int .i64 tm, .int .i64 0, .int .i64 0, .int .i64 0, .string (strOf []), .string (strOf []), .int .i64 0, .int .i64 0, .string (strOf []), .slice none 0 0] 43 (0, 0)) := by rw [← hwx]; exact blk_new2 (w.alloc (.cells #[.int .i64 4, .int .i64 tm, .int .i64 a, .int .i64 b, .string (strOf name), .int .i64 vk, .int .i64 vn, .string (strOf vs), .slice va vm vc] 38)) (.cells #[.int .i64 0, .int .i64 0, .int .i64 0, .int .i64 0, .int .i64 0, .string ⟨#[]⟩, .string ⟨#[]⟩, .int .i64 0, .int .i64 0, .string ⟨#[]⟩, .slice none 0 0] 43) (.cells #[.int .i64 0, .int .i64 tm, .int .i64 0, .int .i64 0, .int .i64 0, .string ⟨#[]⟩, .string ⟨#[]⟩, .int .i64 0, .int .i64 0, .string ⟨#[]⟩, .slice none 0 0] 43) (by simp)
  have hbz : wx.heap[w.heap.size + 1]? = some (.cells #[.int .i64 0, .int .i64 0, .int .i64 0, .int .i64 0, .int .i64 0, .string (strOf []), .string (strOf []), .int .i64 0, .int .i64 0, .string (strOf []), .slice none 0 0] 43 (0, 0)) := by rw [← hwx]; exact blk_mid w (.cells #[.int .i64 4, .int .i64 tm, .int .i64 a, .int .i64 b, .string (strOf name), .int .i64 vk, .int .i64 vn, .string (strOf vs), .slice va vm vc] 38) (.cells #[.int .i64 0, .int .i64 0, .int .i64 0, .int .i64 0, .int .i64 0, .string ⟨#[]⟩, .string ⟨#[]⟩, .int .i64 0, .int .i64 0, .string ⟨#[]⟩, .slice none 0 0] 43) (.cells #[.int .i64 0, .int .i64 tm, .int .i64 0, .int .i64 0, .int .i64 0, .string ⟨#[]⟩, .string ⟨#[]⟩, .int .i64 0, .int .i64 0, .string ⟨#[]⟩, .slice none 0 0] 43)
  have hba : wx.heap[w.heap.size]? = some (.cells #[.int .i64 4, .int .i64 tm, .int .i64 a, .int .i64 b, .string (strOf name), .int .i64 vk, .int .i64 vn, .string (strOf vs), .slice va vm vc] 38 (0, 0)) := by rw [← hwx]; exact blk_alloc (blk_alloc (blk_new w (.cells #[.int .i64 4, .int .i64 tm, .int .i64 a, .int .i64 b, .string (strOf name), .int .i64 vk, .int .i64 vn, .string (strOf vs), .slice va vm vc] 38)))
  have how : Only (fun _ => False) w wx := by rw [← hwx]; exact HA.out
  have hsx : w.heap.size + 3 ≤ wx.heap.size := by rw [← hwx]; simp
  have HC := hid (clonePC _ v (Nat.le_refl _) wx G _ (hV.same (how.trans (Only.refl _ _) (fun _ _ e => e))) (fun i hi => by have := hG i hi; show i < wx.heap.size; omega) hg hsz)
  have HBE := hid hbe; have HBZ := hid hbz; have HBA := hid hba; have HOW := hid how
  clear HA hV hG hg hsz hbe hbz hba how
  try rw [hwx]
  have c0 : wx.cell? ⟨w.heap.size, 0, none⟩ = some (.int .i64 4) := cell_blk HBA.out 0
  have c1 : wx.cell? ⟨w.heap.size, 1, none⟩ = some (.int .i64 tm) := cell_blk HBA.out 1
  have c2 : wx.cell? ⟨w.heap.size, 2, none⟩ = some (.int .i64 a) := cell_blk HBA.out 2
  have c3 : wx.cell? ⟨w.heap.size, 3, none⟩ = some (.int .i64 b) := cell_blk HBA.out 3
  have c4 : wx.cell? ⟨w.heap.size, 4, none⟩ = some (.string (strOf name)) := cell_blk HBA.out 4
  have c5 : wx.cell? ⟨w.heap.size, 5, none⟩ = some (.int .i64 vk) := cell_blk HBA.out 5
  have c6 : wx.cell? ⟨w.heap.size, 6, none⟩ = some (.int .i64 vn) := cell_blk HBA.out 6
  have c7 : wx.cell? ⟨w.heap.size, 7, none⟩ = some (.string (strOf vs)) := cell_blk HBA.out 7
  have c8 : wx.cell? ⟨w.heap.size, 8, none⟩ = some (.slice va vm vc) := cell_blk HBA.out 8
  have hlwx := blk_lt HBA.out
  go_wp2_with fail
  refine HC.out.mono ?_
  rintro x w6 ⟨cs6, rfl, hv6, ho6, hsf6⟩
  obtain ⟨yk, yn, ys, ya, ym, yc, rfl⟩ := hv6.form
  have hb6 := blk_only HBE.out ho6 (fun e => e)
  have hz6 := blk_only HBZ.out ho6 (fun e => e)
  have d0 : w6.cell? ⟨w.heap.size + 1 + 1, 0, none⟩ = some (.int .i64 0) := cell_blk hb6 0
  have d1 : w6.cell? ⟨w.heap.size + 1 + 1, 1, none⟩ = some (.int .i64 tm) := cell_blk hb6 1
  have d2 : w6.cell? ⟨w.heap.size + 1 + 1, 2, none⟩ = some (.int .i64 0) := cell_blk hb6 2
  have d3 : w6.cell? ⟨w.heap.size + 1 + 1, 3, none⟩ = some (.int .i64 0) := cell_blk hb6 3
  have d4 : w6.cell? ⟨w.heap.size + 1 + 1, 4, none⟩ = some (.int .i64 0) := cell_blk hb6 4
  have d5 : w6.cell? ⟨w.heap.size + 1 + 1, 5, none⟩ = some (.string (strOf [])) := cell_blk hb6 5
  have d6 : w6.cell? ⟨w.heap.size + 1 + 1, 6, none⟩ = some (.string (strOf [])) := cell_blk hb6 6
  have d7 : w6.cell? ⟨w.heap.size + 1 + 1, 7, none⟩ = some (.int .i64 0) := cell_blk hb6 7
  have d8 : w6.cell? ⟨w.heap.size + 1 + 1, 8, none⟩ = some (.int .i64 0) := cell_blk hb6 8
  have d9 : w6.cell? ⟨w.heap.size + 1 + 1, 9, none⟩ = some (.string (strOf [])) := cell_blk hb6 9
  have d10 : w6.cell? ⟨w.heap.size + 1 + 1, 10, none⟩ = some (.slice none 0 0) := cell_blk hb6 10
  have z6 : ∀ i, w6.frozen? ⟨w.heap.size + 1 + 1, i, none⟩ = false := frozen_blk hb6
  have hlb := blk_lt hb6
  have hb7 : (w6.setCell ⟨w.heap.size + 1 + 1, 2, none⟩ (.int .i64 16)).heap[w.heap.size + 1 + 1]? = some (.cells #[.int .i64 0, .int .i64 tm, .int .i64 16, .int .i64 0, .int .i64 0, .string (strOf []), .string (strOf []), .int .i64 0, .int .i64 0, .string (strOf []), .slice none 0 0] 43 (0, 0)) := by
    have := blk_set hb6 2 (.int .i64 16)
    simpa using this
  have HB7 := hid hb7; have HZ6 := hid hz6; have HV6 := hid hv6; have HO6 := hid ho6; have HSF := hid hsf6
  clear hv6 ho6 hb6 hb7 hz6 hsf6 hwx HC
  go_wp2_with (first
    | ((guard_target =~ wpList _ _ _ (⟨none, .store 36 (.tmp 49) (.tmp 47), _, _, _, _⟩ :: _) _ _); refine wpList_store_in (o := ⟨none, .store 36 (.tmp 49) (.tmp 47), _, _, _, _⟩) rfl 36 (.tmp 49) (.tmp 47) rfl (w.heap.size + 1 + 1) 7 #[.int .i64 yk, .int .i64 yn, .string (strOf ys), .slice ya ym yc] rfl rfl #[.int .i64 0, .int .i64 tm, .int .i64 16, .int .i64 0, .int .i64 0, .string (strOf []), .string (strOf []), .int .i64 0, .int .i64 0, .string (strOf []), .slice none 0 0] 43 HB7.out (Nat.le_refl 11) info_val (val_one yk yn (strOf ys) ya ym yc) ?_; intro w8 hb8 ho8 hs8; have hb8 : w8.heap[w.heap.size + 1 + 1]? = some (.cells #[.int .i64 0, .int .i64 tm, .int .i64 16, .int .i64 0, .int .i64 0, .string (strOf []), .string (strOf []), .int .i64 yk, .int .i64 yn, .string (strOf ys), .slice ya ym yc] 43 (0, 0)) := hb8; clear d0 d1 d2 d3 d4 d5 d6 d7 d8 d9 d10; have d0 : w8.cell? ⟨w.heap.size + 1 + 1, 0, none⟩ = some (.int .i64 0) := cell_blk hb8 0; have d1 : w8.cell? ⟨w.heap.size + 1 + 1, 1, none⟩ = some (.int .i64 tm) := cell_blk hb8 1; have d2 : w8.cell? ⟨w.heap.size + 1 + 1, 2, none⟩ = some (.int .i64 16) := cell_blk hb8 2; have d3 : w8.cell? ⟨w.heap.size + 1 + 1, 3, none⟩ = some (.int .i64 0) := cell_blk hb8 3; have d4 : w8.cell? ⟨w.heap.size + 1 + 1, 4, none⟩ = some (.int .i64 0) := cell_blk hb8 4; have d5 : w8.cell? ⟨w.heap.size + 1 + 1, 5, none⟩ = some (.string (strOf [])) := cell_blk hb8 5; have d6 : w8.cell? ⟨w.heap.size + 1 + 1, 6, none⟩ = some (.string (strOf [])) := cell_blk hb8 6; have d7 : w8.cell? ⟨w.heap.size + 1 + 1, 7, none⟩ = some (.int .i64 yk) := cell_blk hb8 7; have d8 : w8.cell? ⟨w.heap.size + 1 + 1, 8, none⟩ = some (.int .i64 yn) := cell_blk hb8 8; have d9 : w8.cell? ⟨w.heap.size + 1 + 1, 9, none⟩ = some (.string (strOf ys)) := cell_blk hb8 9; have d10 : w8.cell? ⟨w.heap.size + 1 + 1, 10, none⟩ = some (.slice ya ym yc) := cell_blk hb8 10; have hlx := blk_lt hb8; have HB8 := hid hb8; have HO8 := hid ho8; have HS8 := hid hs8; have HZ8 := hid (blk_only (blk_only HZ6.out (only_set (w.heap.size + 1 + 1) 2 (.int .i64 16)) (by show ¬ w.heap.size + 1 = w.heap.size + 1 + 1; omega)) ho8 (by show ¬ w.heap.size + 1 = w.heap.size + 1 + 1; omega)); clear hb8 ho8 hs8)
    | ((guard_target =~ wpList _ _ _ (⟨none, .store 43 (.tmp 2) (.tmp 63), _, _, _, _⟩ :: _) _ _); refine wpList_store_all rfl 43 (.tmp 2) (.tmp 63) rfl (w.heap.size + 1) #[.int .i64 0, .int .i64 tm, .int .i64 16, .int .i64 0, .int .i64 0, .string (strOf []), .string (strOf []), .int .i64 yk, .int .i64 yn, .string (strOf ys), .slice ya ym yc] rfl rfl #[.int .i64 0, .int .i64 0, .int .i64 0, .int .i64 0, .int .i64 0, .string (strOf []), .string (strOf []), .int .i64 0, .int .i64 0, .string (strOf []), .slice none 0 0] 43 HZ8.out rfl info_evc (evc_one _ _ _ _ _ _ _ _ _ _ _ _ _) ?_; intro w9 hb9 ho9 hs9; have HB9 := hid hb9; have HO9 := hid ho9; have HS9 := hid hs9; clear hb9 ho9 hs9))
  refine bodyPost_ret (results_cell_row rfl _ _ (w.heap.size + 1) 43 #[.int .i64 0, .int .i64 tm, .int .i64 16, .int .i64 0, .int .i64 0, .string (strOf []), .string (strOf []), .int .i64 yk, .int .i64 yn, .string (strOf ys), .slice ya ym yc] (0, 0) _ rfl HB9.out Tryz.underlying43 rfl info_evc) rfl ?_
  have hoD : Only (fun i => i = w.heap.size + 1 + 1 ∨ i = w.heap.size + 1) w6 w9 := (((only_set _ _ _).trans HO8.out (fun _ _ e => e)).mono (fun _ _ e => .inl e)).trans HO9.out (fun _ _ e => .inr e)
  have hs6 := HO6.out.size
  have hs9 : w9.heap.size = w6.heap.size := by have h1 := HS9.out; have h2 := HS8.out; rw [h1, h2]; simp
  refine ⟨[.int .i64 0, .int .i64 tm, .int .i64 16, .int .i64 0, .int .i64 0, .string (strOf []), .string (strOf []), .int .i64 yk, .int .i64 yn, .string (strOf ys), .slice ya ym yc], rfl, ⟨[.int .i64 yk, .int .i64 yn, .string (strOf ys), .slice ya ym yc], rfl, (HV6.out.only hoD (fun i hi e => by have := hi.1; omega)).mono (fun i hi => ⟨by have := hi.1; omega, by have := hi.2; omega⟩)⟩, (HOW.out.trans HO6.out (fun _ _ e => e)).trans hoD (fun i hi e => by omega), evsoft (fun q o m c hm => ?_)⟩
  obtain ⟨⟨h1, h2⟩, arr, T, h3⟩ := HSF.out q o m c hm
  exact ⟨⟨by omega, by omega⟩, arr, T, blk_only h3 hoD (fun e => by omega)⟩
set_option maxRecDepth 100000 in
set_option maxHeartbeats 3200000 in
theorem cevent_6 {tm a b : Int} {name vs : List UInt8} {vk vn : Int} {va : Option Addr} {vm vc : Nat}  {v : VT} (hV : VAt w G v [.int .i64 vk, .int .i64 vn, .string (strOf vs), .slice va vm vc]) (hG : ∀ k, G k → k < w.heap.size) (hg : v.rg) (hsz : v.parts ≤ 1000000000) :
    Calls Tryz.prog 8 #[.agg #[.int .i64 6, .int .i64 tm, .int .i64 a, .int .i64 b, .string (strOf name), .int .i64 vk, .int .i64 vn, .string (strOf vs), .slice va vm vc]] w (CEv w ⟨0, tm, 21, 0, 0, [], [], v.cl⟩) := by
  go_enter Tryz.func8, Tryz.ntmps8
  go_upto_region 2 with fail
  have HA := hid (only3 w (.cells #[.int .i64 6, .int .i64 tm, .int .i64 a, .int .i64 b, .string (strOf name), .int .i64 vk, .int .i64 vn, .string (strOf vs), .slice va vm vc] 38) (.cells #[.int .i64 0, .int .i64 0, .int .i64 0, .int .i64 0, .int .i64 0, .string ⟨#[]⟩, .string ⟨#[]⟩, .int .i64 0, .int .i64 0, .string ⟨#[]⟩, .slice none 0 0] 43) (.cells #[.int .i64 0, .int .i64 tm, .int .i64 0, .int .i64 0, .int .i64 0, .string ⟨#[]⟩, .string ⟨#[]⟩, .int .i64 0, .int .i64 0, .string ⟨#[]⟩, .slice none 0 0] 43))
  obtain ⟨wx, hwx⟩ : ∃ x, ((w.alloc (.cells #[.int .i64 6, .int .i64 tm, .int .i64 a, .int .i64 b, .string (strOf name), .int .i64 vk, .int .i64 vn, .string (strOf vs), .slice va vm vc] 38)).alloc (.cells #[.int .i64 0, .int .i64 0, .int .i64 0, .int .i64 0, .int .i64 0, .string ⟨#[]⟩, .string ⟨#[]⟩, .int .i64 0, .int .i64 0, .string ⟨#[]⟩, .slice none 0 0] 43)).alloc (.cells #[.int .i64 0, .int .i64 tm, .int .i64 0, .int .i64 0, .int .i64 0, .string ⟨#[]⟩, .string ⟨#[]⟩, .int .i64 0, .int .i64 0, .string ⟨#[]⟩, .slice none 0 0] 43) = x := ⟨_, rfl⟩
  have hbe : wx.heap[w.heap.size + 1 + 1]? = some (.cells #[.int .i64 0, .int .i64 tm, .int .i64 0, .int .i64 0, .int .i64 0, .string (strOf []), .string (strOf []), .int .i64 0, .int .i64 0, .string (strOf []), .slice none 0 0] 43 (0, 0)) := by rw [← hwx]; exact blk_new2 (w.alloc (.cells #[.int .i64 6, .int .i64 tm, .int .i64 a, .int .i64 b, .string (strOf name), .int .i64 vk, .int .i64 vn, .string (strOf vs), .slice va vm vc] 38)) (.cells #[.int .i64 0, .int .i64 0, .int .i64 0, .int .i64 0, .int .i64 0, .string ⟨#[]⟩, .string ⟨#[]⟩, .int .i64 0, .int .i64 0, .string ⟨#[]⟩, .slice none 0 0] 43) (.cells #[.int .i64 0, .int .i64 tm, .int .i64 0, .int .i64 0, .int .i64 0, .string ⟨#[]⟩, .string ⟨#[]⟩, .int .i64 0, .int .i64 0, .string ⟨#[]⟩, .slice none 0 0] 43) (by simp)
  have hbz : wx.heap[w.heap.size + 1]? = some (.cells #[.int .i64 0, .int .i64 0, .int .i64 0, .int .i64 0, .int .i64 0, .string (strOf []), .string (strOf []), .int .i64 0, .int .i64 0, .string (strOf []), .slice none 0 0] 43 (0, 0)) := by rw [← hwx]; exact blk_mid w (.cells #[.int .i64 6, .int .i64 tm, .int .i64 a, .int .i64 b, .string (strOf name), .int .i64 vk, .int .i64 vn, .string (strOf vs), .slice va vm vc] 38) (.cells #[.int .i64 0, .int .i64 0, .int .i64 0, .int .i64 0, .int .i64 0, .string ⟨#[]⟩, .string ⟨#[]⟩, .int .i64 0, .int .i64 0, .string ⟨#[]⟩, .slice none 0 0] 43) (.cells #[.int .i64 0, .int .i64 tm, .int .i64 0, .int .i64 0, .int .i64 0, .string ⟨#[]⟩, .string ⟨#[]⟩, .int .i64 0, .int .i64 0, .string ⟨#[]⟩, .slice none 0 0] 43)
  have hba : wx.heap[w.heap.size]? = some (.cells #[.int .i64 6, .int .i64 tm, .int .i64 a, .int .i64 b, .string (strOf name), .int .i64 vk, .int .i64 vn, .string (strOf vs), .slice va vm vc] 38 (0, 0)) := by rw [← hwx]; exact blk_alloc (blk_alloc (blk_new w (.cells #[.int .i64 6, .int .i64 tm, .int .i64 a, .int .i64 b, .string (strOf name), .int .i64 vk, .int .i64 vn, .string (strOf vs), .slice va vm vc] 38)))
  have how : Only (fun _ => False) w wx := by rw [← hwx]; exact HA.out
  have hsx : w.heap.size + 3 ≤ wx.heap.size := by rw [← hwx]; simp
  have HC := hid (clonePC _ v (Nat.le_refl _) wx G _ (hV.same (how.trans (Only.refl _ _) (fun _ _ e => e))) (fun i hi => by have := hG i hi; show i < wx.heap.size; omega) hg hsz)
  have HBE := hid hbe; have HBZ := hid hbz; have HBA := hid hba; have HOW := hid how
  clear HA hV hG hg hsz hbe hbz hba how
  try rw [hwx]
  have c0 : wx.cell? ⟨w.heap.size, 0, none⟩ = some (.int .i64 6) := cell_blk HBA.out 0
  have c1 : wx.cell? ⟨w.heap.size, 1, none⟩ = some (.int .i64 tm) := cell_blk HBA.out 1
  have c2 : wx.cell? ⟨w.heap.size, 2, none⟩ = some (.int .i64 a) := cell_blk HBA.out 2
  have c3 : wx.cell? ⟨w.heap.size, 3, none⟩ = some (.int .i64 b) := cell_blk HBA.out 3
  have c4 : wx.cell? ⟨w.heap.size, 4, none⟩ = some (.string (strOf name)) := cell_blk HBA.out 4
  have c5 : wx.cell? ⟨w.heap.size, 5, none⟩ = some (.int .i64 vk) := cell_blk HBA.out 5
  have c6 : wx.cell? ⟨w.heap.size, 6, none⟩ = some (.int .i64 vn) := cell_blk HBA.out 6
  have c7 : wx.cell? ⟨w.heap.size, 7, none⟩ = some (.string (strOf vs)) := cell_blk HBA.out 7
  have c8 : wx.cell? ⟨w.heap.size, 8, none⟩ = some (.slice va vm vc) := cell_blk HBA.out 8
  have hlwx := blk_lt HBA.out
  go_wp2_with fail
  refine HC.out.mono ?_
  rintro x w6 ⟨cs6, rfl, hv6, ho6, hsf6⟩
  obtain ⟨yk, yn, ys, ya, ym, yc, rfl⟩ := hv6.form
  have hb6 := blk_only HBE.out ho6 (fun e => e)
  have hz6 := blk_only HBZ.out ho6 (fun e => e)
  have d0 : w6.cell? ⟨w.heap.size + 1 + 1, 0, none⟩ = some (.int .i64 0) := cell_blk hb6 0
  have d1 : w6.cell? ⟨w.heap.size + 1 + 1, 1, none⟩ = some (.int .i64 tm) := cell_blk hb6 1
  have d2 : w6.cell? ⟨w.heap.size + 1 + 1, 2, none⟩ = some (.int .i64 0) := cell_blk hb6 2
  have d3 : w6.cell? ⟨w.heap.size + 1 + 1, 3, none⟩ = some (.int .i64 0) := cell_blk hb6 3
  have d4 : w6.cell? ⟨w.heap.size + 1 + 1, 4, none⟩ = some (.int .i64 0) := cell_blk hb6 4
  have d5 : w6.cell? ⟨w.heap.size + 1 + 1, 5, none⟩ = some (.string (strOf [])) := cell_blk hb6 5
  have d6 : w6.cell? ⟨w.heap.size + 1 + 1, 6, none⟩ = some (.string (strOf [])) := cell_blk hb6 6
  have d7 : w6.cell? ⟨w.heap.size + 1 + 1, 7, none⟩ = some (.int .i64 0) := cell_blk hb6 7
  have d8 : w6.cell? ⟨w.heap.size + 1 + 1, 8, none⟩ = some (.int .i64 0) := cell_blk hb6 8
  have d9 : w6.cell? ⟨w.heap.size + 1 + 1, 9, none⟩ = some (.string (strOf [])) := cell_blk hb6 9
  have d10 : w6.cell? ⟨w.heap.size + 1 + 1, 10, none⟩ = some (.slice none 0 0) := cell_blk hb6 10
  have z6 : ∀ i, w6.frozen? ⟨w.heap.size + 1 + 1, i, none⟩ = false := frozen_blk hb6
  have hlb := blk_lt hb6
  have hb7 : (w6.setCell ⟨w.heap.size + 1 + 1, 2, none⟩ (.int .i64 21)).heap[w.heap.size + 1 + 1]? = some (.cells #[.int .i64 0, .int .i64 tm, .int .i64 21, .int .i64 0, .int .i64 0, .string (strOf []), .string (strOf []), .int .i64 0, .int .i64 0, .string (strOf []), .slice none 0 0] 43 (0, 0)) := by
    have := blk_set hb6 2 (.int .i64 21)
    simpa using this
  have HB7 := hid hb7; have HZ6 := hid hz6; have HV6 := hid hv6; have HO6 := hid ho6; have HSF := hid hsf6
  clear hv6 ho6 hb6 hb7 hz6 hsf6 hwx HC
  go_wp2_with (first
    | ((guard_target =~ wpList _ _ _ (⟨none, .store 36 (.tmp 62) (.tmp 60), _, _, _, _⟩ :: _) _ _); refine wpList_store_in (o := ⟨none, .store 36 (.tmp 62) (.tmp 60), _, _, _, _⟩) rfl 36 (.tmp 62) (.tmp 60) rfl (w.heap.size + 1 + 1) 7 #[.int .i64 yk, .int .i64 yn, .string (strOf ys), .slice ya ym yc] rfl rfl #[.int .i64 0, .int .i64 tm, .int .i64 21, .int .i64 0, .int .i64 0, .string (strOf []), .string (strOf []), .int .i64 0, .int .i64 0, .string (strOf []), .slice none 0 0] 43 HB7.out (Nat.le_refl 11) info_val (val_one yk yn (strOf ys) ya ym yc) ?_; intro w8 hb8 ho8 hs8; have hb8 : w8.heap[w.heap.size + 1 + 1]? = some (.cells #[.int .i64 0, .int .i64 tm, .int .i64 21, .int .i64 0, .int .i64 0, .string (strOf []), .string (strOf []), .int .i64 yk, .int .i64 yn, .string (strOf ys), .slice ya ym yc] 43 (0, 0)) := hb8; clear d0 d1 d2 d3 d4 d5 d6 d7 d8 d9 d10; have d0 : w8.cell? ⟨w.heap.size + 1 + 1, 0, none⟩ = some (.int .i64 0) := cell_blk hb8 0; have d1 : w8.cell? ⟨w.heap.size + 1 + 1, 1, none⟩ = some (.int .i64 tm) := cell_blk hb8 1; have d2 : w8.cell? ⟨w.heap.size + 1 + 1, 2, none⟩ = some (.int .i64 21) := cell_blk hb8 2; have d3 : w8.cell? ⟨w.heap.size + 1 + 1, 3, none⟩ = some (.int .i64 0) := cell_blk hb8 3; have d4 : w8.cell? ⟨w.heap.size + 1 + 1, 4, none⟩ = some (.int .i64 0) := cell_blk hb8 4; have d5 : w8.cell? ⟨w.heap.size + 1 + 1, 5, none⟩ = some (.string (strOf [])) := cell_blk hb8 5; have d6 : w8.cell? ⟨w.heap.size + 1 + 1, 6, none⟩ = some (.string (strOf [])) := cell_blk hb8 6; have d7 : w8.cell? ⟨w.heap.size + 1 + 1, 7, none⟩ = some (.int .i64 yk) := cell_blk hb8 7; have d8 : w8.cell? ⟨w.heap.size + 1 + 1, 8, none⟩ = some (.int .i64 yn) := cell_blk hb8 8; have d9 : w8.cell? ⟨w.heap.size + 1 + 1, 9, none⟩ = some (.string (strOf ys)) := cell_blk hb8 9; have d10 : w8.cell? ⟨w.heap.size + 1 + 1, 10, none⟩ = some (.slice ya ym yc) := cell_blk hb8 10; have hlx := blk_lt hb8; have HB8 := hid hb8; have HO8 := hid ho8; have HS8 := hid hs8; have HZ8 := hid (blk_only (blk_only HZ6.out (only_set (w.heap.size + 1 + 1) 2 (.int .i64 21)) (by show ¬ w.heap.size + 1 = w.heap.size + 1 + 1; omega)) ho8 (by show ¬ w.heap.size + 1 = w.heap.size + 1 + 1; omega)); clear hb8 ho8 hs8)
    | ((guard_target =~ wpList _ _ _ (⟨none, .store 43 (.tmp 2) (.tmp 63), _, _, _, _⟩ :: _) _ _); refine wpList_store_all rfl 43 (.tmp 2) (.tmp 63) rfl (w.heap.size + 1) #[.int .i64 0, .int .i64 tm, .int .i64 21, .int .i64 0, .int .i64 0, .string (strOf []), .string (strOf []), .int .i64 yk, .int .i64 yn, .string (strOf ys), .slice ya ym yc] rfl rfl #[.int .i64 0, .int .i64 0, .int .i64 0, .int .i64 0, .int .i64 0, .string (strOf []), .string (strOf []), .int .i64 0, .int .i64 0, .string (strOf []), .slice none 0 0] 43 HZ8.out rfl info_evc (evc_one _ _ _ _ _ _ _ _ _ _ _ _ _) ?_; intro w9 hb9 ho9 hs9; have HB9 := hid hb9; have HO9 := hid ho9; have HS9 := hid hs9; clear hb9 ho9 hs9))
  refine bodyPost_ret (results_cell_row rfl _ _ (w.heap.size + 1) 43 #[.int .i64 0, .int .i64 tm, .int .i64 21, .int .i64 0, .int .i64 0, .string (strOf []), .string (strOf []), .int .i64 yk, .int .i64 yn, .string (strOf ys), .slice ya ym yc] (0, 0) _ rfl HB9.out Tryz.underlying43 rfl info_evc) rfl ?_
  have hoD : Only (fun i => i = w.heap.size + 1 + 1 ∨ i = w.heap.size + 1) w6 w9 := (((only_set _ _ _).trans HO8.out (fun _ _ e => e)).mono (fun _ _ e => .inl e)).trans HO9.out (fun _ _ e => .inr e)
  have hs6 := HO6.out.size
  have hs9 : w9.heap.size = w6.heap.size := by have h1 := HS9.out; have h2 := HS8.out; rw [h1, h2]; simp
  refine ⟨[.int .i64 0, .int .i64 tm, .int .i64 21, .int .i64 0, .int .i64 0, .string (strOf []), .string (strOf []), .int .i64 yk, .int .i64 yn, .string (strOf ys), .slice ya ym yc], rfl, ⟨[.int .i64 yk, .int .i64 yn, .string (strOf ys), .slice ya ym yc], rfl, (HV6.out.only hoD (fun i hi e => by have := hi.1; omega)).mono (fun i hi => ⟨by have := hi.1; omega, by have := hi.2; omega⟩)⟩, (HOW.out.trans HO6.out (fun _ _ e => e)).trans hoD (fun i hi e => by omega), evsoft (fun q o m c hm => ?_)⟩
  obtain ⟨⟨h1, h2⟩, arr, T, h3⟩ := HSF.out q o m c hm
  exact ⟨⟨by omega, by omega⟩, arr, T, blk_only h3 hoD (fun e => by omega)⟩
set_option maxRecDepth 100000 in
set_option maxHeartbeats 3200000 in
theorem cevent_3 {tm a b : Int} {name vs : List UInt8} {vk vn : Int} {va : Option Addr} {vm vc : Nat}  {v : VT} (hV : VAt w G v [.int .i64 vk, .int .i64 vn, .string (strOf vs), .slice va vm vc]) (hG : ∀ k, G k → k < w.heap.size) (hg : v.rg) (hsz : v.parts ≤ 1000000000) :
    Calls Tryz.prog 8 #[.agg #[.int .i64 3, .int .i64 tm, .int .i64 a, .int .i64 b, .string (strOf name), .int .i64 vk, .int .i64 vn, .string (strOf vs), .slice va vm vc]] w (CEv w ⟨0, tm, 7, a, b, name, [], v.cl⟩) := by
  go_enter Tryz.func8, Tryz.ntmps8
  go_upto_region 2 with fail
  have HA := hid (only3 w (.cells #[.int .i64 3, .int .i64 tm, .int .i64 a, .int .i64 b, .string (strOf name), .int .i64 vk, .int .i64 vn, .string (strOf vs), .slice va vm vc] 38) (.cells #[.int .i64 0, .int .i64 0, .int .i64 0, .int .i64 0, .int .i64 0, .string ⟨#[]⟩, .string ⟨#[]⟩, .int .i64 0, .int .i64 0, .string ⟨#[]⟩, .slice none 0 0] 43) (.cells #[.int .i64 0, .int .i64 tm, .int .i64 0, .int .i64 0, .int .i64 0, .string ⟨#[]⟩, .string ⟨#[]⟩, .int .i64 0, .int .i64 0, .string ⟨#[]⟩, .slice none 0 0] 43))
  obtain ⟨wx, hwx⟩ : ∃ x, ((w.alloc (.cells #[.int .i64 3, .int .i64 tm, .int .i64 a, .int .i64 b, .string (strOf name), .int .i64 vk, .int .i64 vn, .string (strOf vs), .slice va vm vc] 38)).alloc (.cells #[.int .i64 0, .int .i64 0, .int .i64 0, .int .i64 0, .int .i64 0, .string ⟨#[]⟩, .string ⟨#[]⟩, .int .i64 0, .int .i64 0, .string ⟨#[]⟩, .slice none 0 0] 43)).alloc (.cells #[.int .i64 0, .int .i64 tm, .int .i64 0, .int .i64 0, .int .i64 0, .string ⟨#[]⟩, .string ⟨#[]⟩, .int .i64 0, .int .i64 0, .string ⟨#[]⟩, .slice none 0 0] 43) = x := ⟨_, rfl⟩
  have hbe : wx.heap[w.heap.size + 1 + 1]? = some (.cells #[.int .i64 0, .int .i64 tm, .int .i64 0, .int .i64 0, .int .i64 0, .string (strOf []), .string (strOf []), .int .i64 0, .int .i64 0, .string (strOf []), .slice none 0 0] 43 (0, 0)) := by rw [← hwx]; exact blk_new2 (w.alloc (.cells #[.int .i64 3, .int .i64 tm, .int .i64 a, .int .i64 b, .string (strOf name), .int .i64 vk, .int .i64 vn, .string (strOf vs), .slice va vm vc] 38)) (.cells #[.int .i64 0, .int .i64 0, .int .i64 0, .int .i64 0, .int .i64 0, .string ⟨#[]⟩, .string ⟨#[]⟩, .int .i64 0, .int .i64 0, .string ⟨#[]⟩, .slice none 0 0] 43) (.cells #[.int .i64 0, .int .i64 tm, .int .i64 0, .int .i64 0, .int .i64 0, .string ⟨#[]⟩, .string ⟨#[]⟩, .int .i64 0, .int .i64 0, .string ⟨#[]⟩, .slice none 0 0] 43) (by simp)
  have hbz : wx.heap[w.heap.size + 1]? = some (.cells #[.int .i64 0, .int .i64 0, .int .i64 0, .int .i64 0, .int .i64 0, .string (strOf []), .string (strOf []), .int .i64 0, .int .i64 0, .string (strOf []), .slice none 0 0] 43 (0, 0)) := by rw [← hwx]; exact blk_mid w (.cells #[.int .i64 3, .int .i64 tm, .int .i64 a, .int .i64 b, .string (strOf name), .int .i64 vk, .int .i64 vn, .string (strOf vs), .slice va vm vc] 38) (.cells #[.int .i64 0, .int .i64 0, .int .i64 0, .int .i64 0, .int .i64 0, .string ⟨#[]⟩, .string ⟨#[]⟩, .int .i64 0, .int .i64 0, .string ⟨#[]⟩, .slice none 0 0] 43) (.cells #[.int .i64 0, .int .i64 tm, .int .i64 0, .int .i64 0, .int .i64 0, .string ⟨#[]⟩, .string ⟨#[]⟩, .int .i64 0, .int .i64 0, .string ⟨#[]⟩, .slice none 0 0] 43)
  have hba : wx.heap[w.heap.size]? = some (.cells #[.int .i64 3, .int .i64 tm, .int .i64 a, .int .i64 b, .string (strOf name), .int .i64 vk, .int .i64 vn, .string (strOf vs), .slice va vm vc] 38 (0, 0)) := by rw [← hwx]; exact blk_alloc (blk_alloc (blk_new w (.cells #[.int .i64 3, .int .i64 tm, .int .i64 a, .int .i64 b, .string (strOf name), .int .i64 vk, .int .i64 vn, .string (strOf vs), .slice va vm vc] 38)))
  have how : Only (fun _ => False) w wx := by rw [← hwx]; exact HA.out
  have hsx : w.heap.size + 3 ≤ wx.heap.size := by rw [← hwx]; simp
  have HC := hid (clonePC _ v (Nat.le_refl _) wx.drew G _ (hV.same (how.trans (Only.refl _ _).drew (fun _ _ e => e))) (fun i hi => by have := hG i hi; show i < wx.heap.size; omega) hg hsz)
  have HBE := hid hbe; have HBZ := hid hbz; have HBA := hid hba; have HOW := hid how
  clear HA hV hG hg hsz hbe hbz hba how
  try rw [hwx]
  have c0 : wx.cell? ⟨w.heap.size, 0, none⟩ = some (.int .i64 3) := cell_blk HBA.out 0
  have c1 : wx.cell? ⟨w.heap.size, 1, none⟩ = some (.int .i64 tm) := cell_blk HBA.out 1
  have c2 : wx.cell? ⟨w.heap.size, 2, none⟩ = some (.int .i64 a) := cell_blk HBA.out 2
  have c3 : wx.cell? ⟨w.heap.size, 3, none⟩ = some (.int .i64 b) := cell_blk HBA.out 3
  have c4 : wx.cell? ⟨w.heap.size, 4, none⟩ = some (.string (strOf name)) := cell_blk HBA.out 4
  have c5 : wx.cell? ⟨w.heap.size, 5, none⟩ = some (.int .i64 vk) := cell_blk HBA.out 5
  have c6 : wx.cell? ⟨w.heap.size, 6, none⟩ = some (.int .i64 vn) := cell_blk HBA.out 6
  have c7 : wx.cell? ⟨w.heap.size, 7, none⟩ = some (.string (strOf vs)) := cell_blk HBA.out 7
  have c8 : wx.cell? ⟨w.heap.size, 8, none⟩ = some (.slice va vm vc) := cell_blk HBA.out 8
  have hlwx := blk_lt HBA.out
  go_wp2_with fail
  go_region_held3 (fun W => W.cell? ⟨w.heap.size, 2, none⟩ = some (.int .i64 a) ∧ W.cell? ⟨w.heap.size, 3, none⟩ = some (.int .i64 b) ∧ W.cell? ⟨w.heap.size, 4, none⟩ = some (.string (strOf name)) ∧ W.cell? ⟨w.heap.size, 5, none⟩ = some (.int .i64 vk) ∧ W.cell? ⟨w.heap.size, 6, none⟩ = some (.int .i64 vn) ∧ W.cell? ⟨w.heap.size, 7, none⟩ = some (.string (strOf vs)) ∧ W.cell? ⟨w.heap.size, 8, none⟩ = some (.slice va vm vc))
    (first | with_reducible exact HSK.out | (with_reducible refine HSG.out _ ?_; repeat (first | with_reducible exact only_set _ _ _ | with_reducible refine Only.trans ?_ (only_set _ _ _) (fun _ _ e => e))) | go_keep | simp)
    ((go_at_call 30; (with_reducible refine HC.out.mono ?_); rintro x w6 ⟨cs6, rfl, hv6, ho6, hsf6⟩; obtain ⟨yk, yn, ys, ya, ym, yc, rfl⟩ := hv6.form; have ho6 : Only (fun _ => False) wx w6 := ((Only.refl (fun _ => False) wx).drew).trans ho6 (fun _ _ e => e); have hb6 := blk_only HBE.out ho6 (fun e => e); have hz6 := blk_only HBZ.out ho6 (fun e => e); have ha6 := blk_only HBA.out ho6 (fun e => e); have HSK : Hid (w6.cell? ⟨w.heap.size, 2, none⟩ = some (.int .i64 a) ∧ w6.cell? ⟨w.heap.size, 3, none⟩ = some (.int .i64 b) ∧ w6.cell? ⟨w.heap.size, 4, none⟩ = some (.string (strOf name)) ∧ w6.cell? ⟨w.heap.size, 5, none⟩ = some (.int .i64 vk) ∧ w6.cell? ⟨w.heap.size, 6, none⟩ = some (.int .i64 vn) ∧ w6.cell? ⟨w.heap.size, 7, none⟩ = some (.string (strOf vs)) ∧ w6.cell? ⟨w.heap.size, 8, none⟩ = some (.slice va vm vc)) := hid ⟨cell_blk ha6 2, cell_blk ha6 3, cell_blk ha6 4, cell_blk ha6 5, cell_blk ha6 6, cell_blk ha6 7, cell_blk ha6 8⟩; have HSG : Hid (∀ W, Only (fun i => i = w.heap.size + 1 + 1) w6 W → (W.cell? ⟨w.heap.size, 2, none⟩ = some (.int .i64 a) ∧ W.cell? ⟨w.heap.size, 3, none⟩ = some (.int .i64 b) ∧ W.cell? ⟨w.heap.size, 4, none⟩ = some (.string (strOf name)) ∧ W.cell? ⟨w.heap.size, 5, none⟩ = some (.int .i64 vk) ∧ W.cell? ⟨w.heap.size, 6, none⟩ = some (.int .i64 vn) ∧ W.cell? ⟨w.heap.size, 7, none⟩ = some (.string (strOf vs)) ∧ W.cell? ⟨w.heap.size, 8, none⟩ = some (.slice va vm vc))) := hid (fun W hW => by have hA := blk_only ha6 hW (by show ¬ w.heap.size = w.heap.size + 1 + 1; omega); exact ⟨cell_blk hA 2, cell_blk hA 3, cell_blk hA 4, cell_blk hA 5, cell_blk hA 6, cell_blk hA 7, cell_blk hA 8⟩); have d0 : w6.cell? ⟨w.heap.size + 1 + 1, 0, none⟩ = some (.int .i64 0) := cell_blk hb6 0; have d1 : w6.cell? ⟨w.heap.size + 1 + 1, 1, none⟩ = some (.int .i64 tm) := cell_blk hb6 1; have d2 : w6.cell? ⟨w.heap.size + 1 + 1, 2, none⟩ = some (.int .i64 0) := cell_blk hb6 2; have d3 : w6.cell? ⟨w.heap.size + 1 + 1, 3, none⟩ = some (.int .i64 0) := cell_blk hb6 3; have d4 : w6.cell? ⟨w.heap.size + 1 + 1, 4, none⟩ = some (.int .i64 0) := cell_blk hb6 4; have d5 : w6.cell? ⟨w.heap.size + 1 + 1, 5, none⟩ = some (.string (strOf [])) := cell_blk hb6 5; have d6 : w6.cell? ⟨w.heap.size + 1 + 1, 6, none⟩ = some (.string (strOf [])) := cell_blk hb6 6; have d7 : w6.cell? ⟨w.heap.size + 1 + 1, 7, none⟩ = some (.int .i64 0) := cell_blk hb6 7; have d8 : w6.cell? ⟨w.heap.size + 1 + 1, 8, none⟩ = some (.int .i64 0) := cell_blk hb6 8; have d9 : w6.cell? ⟨w.heap.size + 1 + 1, 9, none⟩ = some (.string (strOf [])) := cell_blk hb6 9; have d10 : w6.cell? ⟨w.heap.size + 1 + 1, 10, none⟩ = some (.slice none 0 0) := cell_blk hb6 10; have z6 : ∀ i, w6.frozen? ⟨w.heap.size + 1 + 1, i, none⟩ = false := frozen_blk hb6; have hlb := blk_lt hb6; have HB6 := hid hb6; have HZ6 := hid hz6; have HV6 := hid hv6; have HO6 := hid ho6; have HSF := hid hsf6; clear hv6 ho6 hb6 hz6 ha6 hsf6 hwx HC))
  have hb8 := blk_set (blk_set (blk_set (blk_set (blk_set (blk_set (blk_set (blk_set HB6.out 2 (.int .i64 7)) 3 (.int .i64 a)) 4 (.int .i64 b)) 5 (.string (strOf name))) 7 (.int .i64 yk)) 8 (.int .i64 yn)) 9 (.string (strOf ys))) 10 (.slice ya ym yc)
  have ho8 := (((((((only_set (w := w6) (w.heap.size + 1 + 1) 2 (.int .i64 7)).trans (only_set _ 3 (.int .i64 a)) (fun _ _ e => e)).trans (only_set _ 4 (.int .i64 b)) (fun _ _ e => e)).trans (only_set _ 5 (.string (strOf name))) (fun _ _ e => e)).trans (only_set _ 7 (.int .i64 yk)) (fun _ _ e => e)).trans (only_set _ 8 (.int .i64 yn)) (fun _ _ e => e)).trans (only_set _ 9 (.string (strOf ys))) (fun _ _ e => e)).trans (only_set _ 10 (.slice ya ym yc)) (fun _ _ e => e)
  have hs8 : ((((((((w6.setCell ⟨w.heap.size + 1 + 1, 2, none⟩ (.int .i64 7)).setCell ⟨w.heap.size + 1 + 1, 3, none⟩ (.int .i64 a)).setCell ⟨w.heap.size + 1 + 1, 4, none⟩ (.int .i64 b)).setCell ⟨w.heap.size + 1 + 1, 5, none⟩ (.string (strOf name))).setCell ⟨w.heap.size + 1 + 1, 7, none⟩ (.int .i64 yk)).setCell ⟨w.heap.size + 1 + 1, 8, none⟩ (.int .i64 yn)).setCell ⟨w.heap.size + 1 + 1, 9, none⟩ (.string (strOf ys))).setCell ⟨w.heap.size + 1 + 1, 10, none⟩ (.slice ya ym yc)).heap.size = w6.heap.size := by simp
  obtain ⟨w8, hw8⟩ : ∃ x, (((((((w6.setCell ⟨w.heap.size + 1 + 1, 2, none⟩ (.int .i64 7)).setCell ⟨w.heap.size + 1 + 1, 3, none⟩ (.int .i64 a)).setCell ⟨w.heap.size + 1 + 1, 4, none⟩ (.int .i64 b)).setCell ⟨w.heap.size + 1 + 1, 5, none⟩ (.string (strOf name))).setCell ⟨w.heap.size + 1 + 1, 7, none⟩ (.int .i64 yk)).setCell ⟨w.heap.size + 1 + 1, 8, none⟩ (.int .i64 yn)).setCell ⟨w.heap.size + 1 + 1, 9, none⟩ (.string (strOf ys))).setCell ⟨w.heap.size + 1 + 1, 10, none⟩ (.slice ya ym yc) = x := ⟨_, rfl⟩
  rw [hw8] at hb8 ho8 hs8
  rw [hw8]
  have hb8 : w8.heap[w.heap.size + 1 + 1]? = some (.cells #[.int .i64 0, .int .i64 tm, .int .i64 7, .int .i64 a, .int .i64 b, .string (strOf name), .string (strOf []), .int .i64 yk, .int .i64 yn, .string (strOf ys), .slice ya ym yc] 43 (0, 0)) := by simpa using hb8
  clear d0 d1 d2 d3 d4 d5 d6 d7 d8 d9 d10 hw8
  have d0 : w8.cell? ⟨w.heap.size + 1 + 1, 0, none⟩ = some (.int .i64 0) := cell_blk hb8 0
  have d1 : w8.cell? ⟨w.heap.size + 1 + 1, 1, none⟩ = some (.int .i64 tm) := cell_blk hb8 1
  have d2 : w8.cell? ⟨w.heap.size + 1 + 1, 2, none⟩ = some (.int .i64 7) := cell_blk hb8 2
  have d3 : w8.cell? ⟨w.heap.size + 1 + 1, 3, none⟩ = some (.int .i64 a) := cell_blk hb8 3
  have d4 : w8.cell? ⟨w.heap.size + 1 + 1, 4, none⟩ = some (.int .i64 b) := cell_blk hb8 4
  have d5 : w8.cell? ⟨w.heap.size + 1 + 1, 5, none⟩ = some (.string (strOf name)) := cell_blk hb8 5
  have d6 : w8.cell? ⟨w.heap.size + 1 + 1, 6, none⟩ = some (.string (strOf [])) := cell_blk hb8 6
  have d7 : w8.cell? ⟨w.heap.size + 1 + 1, 7, none⟩ = some (.int .i64 yk) := cell_blk hb8 7
  have d8 : w8.cell? ⟨w.heap.size + 1 + 1, 8, none⟩ = some (.int .i64 yn) := cell_blk hb8 8
  have d9 : w8.cell? ⟨w.heap.size + 1 + 1, 9, none⟩ = some (.string (strOf ys)) := cell_blk hb8 9
  have d10 : w8.cell? ⟨w.heap.size + 1 + 1, 10, none⟩ = some (.slice ya ym yc) := cell_blk hb8 10
  have hlx := blk_lt hb8
  have HO8 := hid ho8; have HS8 := hid hs8
  have HZ8 := hid (blk_only HZ6.out ho8 (by show ¬ w.heap.size + 1 = w.heap.size + 1 + 1; omega))
  clear hb8 ho8 hs8
  go_wp2_with ((guard_target =~ wpList _ _ _ (⟨none, .store 43 (.tmp 2) (.tmp 63), _, _, _, _⟩ :: _) _ _); refine wpList_store_all rfl 43 (.tmp 2) (.tmp 63) rfl (w.heap.size + 1) #[.int .i64 0, .int .i64 tm, .int .i64 7, .int .i64 a, .int .i64 b, .string (strOf name), .string (strOf []), .int .i64 yk, .int .i64 yn, .string (strOf ys), .slice ya ym yc] rfl rfl #[.int .i64 0, .int .i64 0, .int .i64 0, .int .i64 0, .int .i64 0, .string (strOf []), .string (strOf []), .int .i64 0, .int .i64 0, .string (strOf []), .slice none 0 0] 43 HZ8.out rfl info_evc (evc_one _ _ _ _ _ _ _ _ _ _ _ _ _) ?_; intro w9 hb9 ho9 hs9; have HB9 := hid hb9; have HO9 := hid ho9; have HS9 := hid hs9; clear hb9 ho9 hs9)
  refine bodyPost_ret (results_cell_row rfl _ _ (w.heap.size + 1) 43 #[.int .i64 0, .int .i64 tm, .int .i64 7, .int .i64 a, .int .i64 b, .string (strOf name), .string (strOf []), .int .i64 yk, .int .i64 yn, .string (strOf ys), .slice ya ym yc] (0, 0) _ rfl HB9.out Tryz.underlying43 rfl info_evc) rfl ?_
  have hoD : Only (fun i => i = w.heap.size + 1 + 1 ∨ i = w.heap.size + 1) w6 w9 := (HO8.out.mono (fun _ _ e => .inl e)).trans HO9.out (fun _ _ e => .inr e)
  have hs6 := HO6.out.size
  have hs9 : w9.heap.size = w6.heap.size := by have h1 := HS9.out; have h2 := HS8.out; rw [h1, h2]
  refine ⟨[.int .i64 0, .int .i64 tm, .int .i64 7, .int .i64 a, .int .i64 b, .string (strOf name), .string (strOf []), .int .i64 yk, .int .i64 yn, .string (strOf ys), .slice ya ym yc], rfl, ⟨[.int .i64 yk, .int .i64 yn, .string (strOf ys), .slice ya ym yc], rfl, (HV6.out.only hoD (fun i hi e => by have : wx.heap.size ≤ i := hi.1; omega)).mono (fun i hi => ⟨by have : wx.heap.size ≤ i := hi.1; omega, by have := hi.2; omega⟩)⟩, (HOW.out.trans HO6.out (fun _ _ e => e)).trans hoD (fun i hi e => by omega), evsoft (fun q o m c hm => ?_)⟩
  obtain ⟨⟨h1, h2⟩, arr, T, h3⟩ := HSF.out q o m c hm
  have h1 : wx.heap.size ≤ q := h1
  exact ⟨⟨by omega, by omega⟩, arr, T, blk_only h3 hoD (fun e => by omega)⟩
theorem cevent_c {e : EM} {cs : List Value} (hE : CAt w G e cs) (hG : ∀ k, G k → k < w.heap.size) (hg : e.rg) (hsz : e.v.parts ≤ 1000000000) : Calls Tryz.prog 8 #[.agg cs.toArray] w (CEv w e.cev) := by
  obtain ⟨vk, vn, vs, va, vm, vc, rfl, hV⟩ := hE.form
  obtain ⟨-, gtm, -, -, gb, -, -, gv⟩ := hg
  obtain ⟨id, tm, k, a, b, name, tt, v⟩ := e
  simp only at gtm gb gv hV hsz ⊢
  rcases c_k7 k with rfl | rfl | rfl | rfl | rfl | rfl | h
  · exact cevent_1 gtm gb
  · exact cevent_2
  · exact cevent_3 hV hG gv hsz
  · exact cevent_4 hV hG gv hsz
  · exact cevent_5
  · exact cevent_6 hV hG gv hsz
  · have hc : EM.cev ⟨id, tm, k, a, b, name, tt, v⟩ = ⟨0, tm, 0, 0, 0, [], [], .nil⟩ := by
      unfold EM.cev
      rw [if_neg (by show ¬ k = 1; omega), if_neg (by show ¬ k = 2; omega), if_neg (by show ¬ k = 3; omega), if_neg (by show ¬ k = 4; omega), if_neg (by show ¬ k = 5; omega), if_neg (by show ¬ k = 6; omega)]
    rw [hc]
    exact cevent_0 h
set_option maxRecDepth 100000 in
set_option maxHeartbeats 3200000 in
theorem cfits_c {c e : EM} {cs ds : List Value} {H : Nat → Prop} (hC : CAt w G c cs) (hE : EAt w H e ds) (hG : ∀ k, G k → k < w.heap.size) (hH : ∀ k, H k → k < w.heap.size) (hg : c.rg) (he : e.v.rg) (hsz : c.v.parts ≤ 1000000000) (hk6 : 1 ≤ c.k ∧ c.k ≤ 6) :
    Calls Tryz.prog 16 #[.agg cs.toArray, .agg ds.toArray] w fun x w' => x = .returned (.bool (c.fits e)) ∧ Only (fun _ => False) w w' := by
  obtain ⟨vk, vn, vs, va, vm, vc, rfl, hV⟩ := hC.form
  obtain ⟨uk, un, us, ua, um, uc, rfl, hU⟩ := hE.form
  have ho := ((only_new w (.cells #[.int .i64 c.k, .int .i64 c.tm, .int .i64 c.a, .int .i64 c.b, .string (strOf c.name), .int .i64 vk, .int .i64 vn, .string (strOf vs), .slice va vm vc] 38)).trans (only_new _ (.cells #[.int .i64 e.id, .int .i64 e.tm, .int .i64 e.k, .int .i64 e.a, .int .i64 e.b, .string (strOf e.name), .string (strOf e.text), .int .i64 uk, .int .i64 un, .string (strOf us), .slice ua um uc] 43)) (fun _ _ e => e))
  have hee : ((w.alloc (.cells #[.int .i64 c.k, .int .i64 c.tm, .int .i64 c.a, .int .i64 c.b, .string (strOf c.name), .int .i64 vk, .int .i64 vn, .string (strOf vs), .slice va vm vc] 38)).alloc (.cells #[.int .i64 e.id, .int .i64 e.tm, .int .i64 e.k, .int .i64 e.a, .int .i64 e.b, .string (strOf e.name), .string (strOf e.text), .int .i64 uk, .int .i64 un, .string (strOf us), .slice ua um uc] 43)).heap[w.heap.size + 1]? = some (.cells #[.int .i64 e.id, .int .i64 e.tm, .int .i64 e.k, .int .i64 e.a, .int .i64 e.b, .string (strOf e.name), .string (strOf e.text), .int .i64 uk, .int .i64 un, .string (strOf us), .slice ua um uc] 43 (0, 0)) := blk_new2 w _ _ rfl
  have HEV := hid (cevent_c (hC.same ho) (fun k hk => by have := hG k hk; simp; omega) hg hsz)
  have hcr : c.cev.v.rg := cev_vrg hg.2.2.2.2.2.2.2
  have hk0 := cev_k hk6
  have HF : Hid (c.fits e = (c.fitE e).same e) := hid (by unfold EM.fits; rw [show (c.cev.k != 0) = true by simp; omega]; rfl)
  have HFE : Hid (c.fitE e = { c.cev with id := e.id, b := if c.cev.k = 21 then e.b else c.cev.b }) := hid rfl
  have hbne : (c.cev.k != 0) = true := by simp; omega
  obtain ⟨x, hx⟩ : ∃ x, c.cev = x := ⟨_, rfl⟩
  rw [hx] at HEV hcr HFE hbne
  have HE := hid hE; have HO := hid ho; have HEE := hid hee; have HH := hid hH; have HCR := hid hcr; have Hhe := hid he
  clear hC hE hV hU hG hH hg he hsz hx ho hee hcr hk0 hk6
  go_enter Tryz.func16, Tryz.ntmps16
  go_wp2_with fail
  refine HEV.out.mono ?_
  rintro y w2 ⟨zs, rfl, hev, ho2, -⟩
  obtain ⟨zk, zn, zs, za, zm, zc, rfl, hZ⟩ := hev.form
  have he2 := blk_only HEE.out ho2 (fun e => e)
  have hs2 := ho2.size
  have hs2' : w.heap.size + 2 ≤ w2.heap.size := by simpa using hs2
  obtain ⟨xid, xtm, xk, xa, xb, xn, xt, xv⟩ := x
  simp only at hev hZ HFE HCR hbne ⊢
  obtain ⟨n2, hn2⟩ : ∃ n, w2.heap.size = n := ⟨_, rfl⟩
  skip
  have c0 : w2.cell? ⟨w.heap.size + 1, 0, none⟩ = some (.int .i64 e.id) := cell_blk he2 0
  have c1 : w2.cell? ⟨w.heap.size + 1, 1, none⟩ = some (.int .i64 e.tm) := cell_blk he2 1
  have c2 : w2.cell? ⟨w.heap.size + 1, 2, none⟩ = some (.int .i64 e.k) := cell_blk he2 2
  have c3 : w2.cell? ⟨w.heap.size + 1, 3, none⟩ = some (.int .i64 e.a) := cell_blk he2 3
  have c4 : w2.cell? ⟨w.heap.size + 1, 4, none⟩ = some (.int .i64 e.b) := cell_blk he2 4
  have c5 : w2.cell? ⟨w.heap.size + 1, 5, none⟩ = some (.string (strOf e.name)) := cell_blk he2 5
  have c6 : w2.cell? ⟨w.heap.size + 1, 6, none⟩ = some (.string (strOf e.text)) := cell_blk he2 6
  have c7 : w2.cell? ⟨w.heap.size + 1, 7, none⟩ = some (.int .i64 uk) := cell_blk he2 7
  have c8 : w2.cell? ⟨w.heap.size + 1, 8, none⟩ = some (.int .i64 un) := cell_blk he2 8
  have c9 : w2.cell? ⟨w.heap.size + 1, 9, none⟩ = some (.string (strOf us)) := cell_blk he2 9
  have c10 : w2.cell? ⟨w.heap.size + 1, 10, none⟩ = some (.slice ua um uc) := cell_blk he2 10
  have hlx := blk_lt he2
  have HEV2 := hid hev; have HZ := hid hZ; have HE2 := hid he2; have HO2 := hid (HO.out.trans ho2 (fun _ _ e => e))
  clear hev hZ he2 ho2 hs2 HEV
  have HXN : Hid (∀ i b, Only (fun _ => False) w (w2.alloc (.cells #[.int .i64 i, .int .i64 xtm, .int .i64 xk, .int .i64 xa, .int .i64 b, .string (strOf xn), .string (strOf xt), .int .i64 zk, .int .i64 zn, .string (strOf zs), .slice za zm zc] 43))) := hid (fun i b => HO2.out.trans (only_new _ _) (fun _ _ e => e))
  clear hn2
  by_cases h21 : xk = 21
  · subst h21
    have hF2 : (⟨xid, xtm, 21, xa, xb, xn, xt, xv⟩ : EM) = ⟨xid, xtm, 21, xa, xb, xn, xt, xv⟩ := rfl
    have HFE2 : Hid (c.fitE e = ⟨e.id, xtm, 21, xa, e.b, xn, xt, xv⟩) := hid (by rw [HFE.out]; simp)
    have HSA := hid (esame_c (w := w2.alloc (.cells #[.int .i64 e.id, .int .i64 xtm, .int .i64 21, .int .i64 xa, .int .i64 e.b, .string (strOf xn), .string (strOf xt), .int .i64 zk, .int .i64 zn, .string (strOf zs), .slice za zm zc] 43)) (e := ⟨e.id, xtm, 21, xa, e.b, xn, xt, xv⟩) (f := e) (G := New ((w.alloc (.cells #[.int .i64 c.k, .int .i64 c.tm, .int .i64 c.a, .int .i64 c.b, .string (strOf c.name), .int .i64 vk, .int .i64 vn, .string (strOf vs), .slice va vm vc] 38)).alloc (.cells #[.int .i64 e.id, .int .i64 e.tm, .int .i64 e.k, .int .i64 e.a, .int .i64 e.b, .string (strOf e.name), .string (strOf e.text), .int .i64 uk, .int .i64 un, .string (strOf us), .slice ua um uc] 43)) w2) (H := H) (cs := [.int .i64 e.id, .int .i64 xtm, .int .i64 21, .int .i64 xa, .int .i64 e.b, .string (strOf xn), .string (strOf xt), .int .i64 zk, .int .i64 zn, .string (strOf zs), .slice za zm zc]) ⟨_, rfl, HZ.out.same (only_new w2 _)⟩ (HE.out.same (HXN.out e.id e.b)) HCR.out Hhe.out)
    rw [← HFE2.out, ← HF.out] at HSA
    clear hF2
    go_wp2_with fail
    refine HSA.out.mono ?_
    rintro y w3 ⟨rfl, ho3⟩
    have HO3 := hid ((HXN.out e.id e.b).trans ho3 (fun _ _ e => e))
    clear ho3
    go_wp2_with fail
    go_ret
    exact ⟨rfl, HO3.out⟩
  · have hb21 : (xk == 21) = false := by simpa using h21
    have HFE2 : Hid (c.fitE e = ⟨e.id, xtm, xk, xa, xb, xn, xt, xv⟩) := hid (by rw [HFE.out]; simp [h21])
    have HSA := hid (esame_c (w := w2.alloc (.cells #[.int .i64 e.id, .int .i64 xtm, .int .i64 xk, .int .i64 xa, .int .i64 xb, .string (strOf xn), .string (strOf xt), .int .i64 zk, .int .i64 zn, .string (strOf zs), .slice za zm zc] 43)) (e := ⟨e.id, xtm, xk, xa, xb, xn, xt, xv⟩) (f := e) (G := New ((w.alloc (.cells #[.int .i64 c.k, .int .i64 c.tm, .int .i64 c.a, .int .i64 c.b, .string (strOf c.name), .int .i64 vk, .int .i64 vn, .string (strOf vs), .slice va vm vc] 38)).alloc (.cells #[.int .i64 e.id, .int .i64 e.tm, .int .i64 e.k, .int .i64 e.a, .int .i64 e.b, .string (strOf e.name), .string (strOf e.text), .int .i64 uk, .int .i64 un, .string (strOf us), .slice ua um uc] 43)) w2) (H := H) (cs := [.int .i64 e.id, .int .i64 xtm, .int .i64 xk, .int .i64 xa, .int .i64 xb, .string (strOf xn), .string (strOf xt), .int .i64 zk, .int .i64 zn, .string (strOf zs), .slice za zm zc]) ⟨_, rfl, HZ.out.same (only_new w2 _)⟩ (HE.out.same (HXN.out e.id xb)) HCR.out Hhe.out)
    rw [← HFE2.out, ← HF.out] at HSA
    clear h21
    go_wp2_with fail
    refine HSA.out.mono ?_
    rintro y w3 ⟨rfl, ho3⟩
    have HO3 := hid ((HXN.out e.id xb).trans ho3 (fun _ _ e => e))
    clear ho3
    go_wp2_with fail
    go_ret
    exact ⟨rfl, HO3.out⟩
end
end Go.Proofs.YtfmdngeooelcpaaGreat
