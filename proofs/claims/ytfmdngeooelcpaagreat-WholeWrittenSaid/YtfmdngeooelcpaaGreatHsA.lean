/- event.Task, Closes, Outside. A history: events in a chain, how it grows, what a change does to its sum. Plain but for the events' kinds. event.Link: the chain's sum behind an event. -/
import Derived.Test.YtfmdngeooelcpaaGreatEvA
import Derived.Test.YtfmdngeooelcpaaGreatSha
import Derived.Test.YtfmdngeooelcpaaGreatEvL
import Derived.Test.YtfmdngeooelcpaaGreatEvD
import Derived.Test.YtfmdngeooelcpaaGreatShaI
namespace Go.Proofs.YtfmdngeooelcpaaGreat
open Go.RowKit
def closesB (k : Int) : Bool := decide (16 ≤ k ∧ k ≤ 21)
def outsideB (k : Int) : Bool := k == 8 || k == 9 || k == 10 || k == 12 || k == 14 || k == 15 || k == 19 || k == 20 || k == 1
section
variable {w : World} {G : Nat → Prop} {e : EM} {cs : List Value}
set_option maxRecDepth 100000 in
theorem closes_c (hE : EAt w G e cs) : Calls Tryz.prog 18 #[.agg cs.toArray] w fun x w' => x = .returned (.bool (closesB e.k)) ∧ Only (fun _ => False) w w' := by
  obtain ⟨vk, vn, vs, va, vm, vc, rfl, -⟩ := hE.form
  obtain ⟨id, tm, k, a, b, nn, tt, v⟩ := e
  have HO := hid (only_new w (.cells #[.int .i64 id, .int .i64 tm, .int .i64 k, .int .i64 a, .int .i64 b, .string (strOf nn), .string (strOf tt), .int .i64 vk, .int .i64 vn, .string (strOf vs), .slice va vm vc] 43))
  clear hE
  simp only
  by_cases h1 : 16 ≤ k
  · by_cases h2 : k ≤ 21
    · have HF : Hid (closesB k = true) := hid (decide_eq_true ⟨h1, h2⟩)
      go_enter Tryz.func18, Tryz.ntmps18
      go_wp2_with fail
      go_ret
      rw [HF.out]; exact ⟨rfl, HO.out⟩
    · have HF : Hid (closesB k = false) := hid (decide_eq_false (fun h => h2 h.2))
      go_enter Tryz.func18, Tryz.ntmps18
      go_wp2_with fail
      go_ret
      rw [HF.out]; exact ⟨rfl, HO.out⟩
  · have HF : Hid (closesB k = false) := hid (decide_eq_false (fun h => h1 h.1))
    go_enter Tryz.func18, Tryz.ntmps18
    go_wp2_with fail
    go_ret
    rw [HF.out]; exact ⟨rfl, HO.out⟩
end
end Go.Proofs.YtfmdngeooelcpaaGreat
namespace Go.Proofs.YtfmdngeooelcpaaGreat

def link (s : List UInt8) (e : EM) : List UInt8 := sha (s ++ e.wr)
theorem link_len (s : List UInt8) (e : EM) : (link s e).length = 32 := sha_len _
/-- Events numbered on from so many. -/
def EM.nth (e : EM) (n : Nat) : EM := { e with id := (n + 1 : Nat) }
/-- May events follow? -/
def hchk (closed : Bool) (n : Nat) (last : Int) : List EM → Int
  | [] => 0
  | e :: es =>
    if 4096 < n + 1 then 3
    else if e.id ≠ 0 ∧ e.id ≠ ((n + 1 : Nat) : Int) then 180
    else if (e.nth n).chk ≠ 0 then (e.nth n).chk
    else if closed = true then 181
    else if (n = 0 ∧ e.k ≠ 1) ∨ (n ≠ 0 ∧ e.k = 1) then 7
    else if outsideB e.k = true ∧ e.tm < last then 1
    else hchk (closesB e.k) (n + 1) (if outsideB e.k = true then e.tm else last) es
end Go.Proofs.YtfmdngeooelcpaaGreat
namespace Go.Proofs.YtfmdngeooelcpaaGreat
open Go.RowKit
section
variable {w : World} {G : Nat → Prop} {e : EM} {cs : List Value}
/-- What event.Link answers. -/
def linkR (s : List UInt8) (e : EM) : List UInt8 := if e.chk = 0 then link s e else List.replicate 32 0
theorem zero_sum : (byA st0 0) = (bytesV (List.replicate 32 0)).toArray := by kernel_rfl
set_option maxRecDepth 100000 in
set_option maxHeartbeats 3200000 in
theorem elink_c {s : List UInt8} (hs : s.length = 32) (hE : EAt w G e cs) (hG : ∀ k, G k → k < w.heap.size) (hg : e.rg) :
    Calls Tryz.prog 12 #[.agg (bytesV s).toArray, .agg cs.toArray] w fun x w' => x = .returned (.tuple #[.agg (bytesV (linkR s e)).toArray, .int .i64 e.chk]) ∧ Only (fun _ => False) w w' := by
  obtain ⟨vk, vn, vs, va, vm, vc, rfl, hV⟩ := hE.form
  obtain ⟨S, hS⟩ : ∃ x, (bytesV s).toArray = x := ⟨_, rfl⟩
  have hSs : S.size = 32 := by rw [← hS]; simp [hs]
  have hSl := (rfl : (bytesV s).toArray = (bytesV s).toArray)
  conv at hSl => lhs; rw [hS]
  rw [hS]
  have HSl := hid hSl; have HSs := hid hSs
  clear hS hSl hSs hV
  have ho := (((only_new w (.cells S 40)).trans (only_new _ (.cells #[.int .i64 e.id, .int .i64 e.tm, .int .i64 e.k, .int .i64 e.a, .int .i64 e.b, .string (strOf e.name), .string (strOf e.text), .int .i64 vk, .int .i64 vn, .string (strOf vs), .slice va vm vc] 43)) (fun _ _ e => e)).trans (only_new _ (.cells (byA st0 0) 40)) (fun _ _ e => e))
  obtain ⟨wk, hwk⟩ : ∃ wk, ((w.alloc (.cells S 40)).alloc (.cells #[.int .i64 e.id, .int .i64 e.tm, .int .i64 e.k, .int .i64 e.a, .int .i64 e.b, .string (strOf e.name), .string (strOf e.text), .int .i64 vk, .int .i64 vn, .string (strOf vs), .slice va vm vc] 43)).alloc (.cells (byA st0 0) 40) = wk := ⟨_, rfl⟩
  have h0 : wk.heap[w.heap.size]? = some (.cells S 40 (0, 0)) := by rw [← hwk]; exact blk_alloc (blk_alloc (blk_new w _))
  have h1 : wk.heap[w.heap.size + 1]? = some (.cells #[.int .i64 e.id, .int .i64 e.tm, .int .i64 e.k, .int .i64 e.a, .int .i64 e.b, .string (strOf e.name), .string (strOf e.text), .int .i64 vk, .int .i64 vn, .string (strOf vs), .slice va vm vc] 43 (0, 0)) := by rw [← hwk]; exact blk_alloc (by have := blk_new (w.alloc (.cells S 40)) (.cells #[.int .i64 e.id, .int .i64 e.tm, .int .i64 e.k, .int .i64 e.a, .int .i64 e.b, .string (strOf e.name), .string (strOf e.text), .int .i64 vk, .int .i64 vn, .string (strOf vs), .slice va vm vc] 43); rw [World.size_alloc] at this; exact this)
  have h2 : wk.heap[w.heap.size + 2]? = some (.cells (byA st0 0) 40 (0, 0)) := by rw [← hwk]; have := blk_new ((w.alloc (.cells S 40)).alloc (.cells #[.int .i64 e.id, .int .i64 e.tm, .int .i64 e.k, .int .i64 e.a, .int .i64 e.b, .string (strOf e.name), .string (strOf e.text), .int .i64 vk, .int .i64 vn, .string (strOf vs), .slice va vm vc] 43)) (.cells (byA st0 0) 40); simp only [World.size_alloc] at this; exact this
  have hsw : w.heap.size + 3 = wk.heap.size := by rw [← hwk]; simp
  rw [hwk] at ho
  have HEN := hid (encode_c (hE.same ho) (fun k hk => by have := hG k hk; omega) hg)
  have H0 := hid h0; have H1 := hid h1; have H2 := hid h2; have HO := hid ho
  have HGd := hid (ewr_len (e := e))
  have HCG := hid (chk_good (e := e))
  have hlk : w.heap.size + 2 < wk.heap.size := by omega
  clear h0 h1 h2 ho hE hg hsw
  have HWK := hid hwk
  clear hwk
  go_enter Tryz.func12, Tryz.ntmps12
  go_upto_region 1 with fail
  change Code.wp _ _ _ _ (((w.alloc (.cells S 40)).alloc (.cells #[.int .i64 e.id, .int .i64 e.tm, .int .i64 e.k, .int .i64 e.a, .int .i64 e.b, .string (strOf e.name), .string (strOf e.text), .int .i64 vk, .int .i64 vn, .string (strOf vs), .slice va vm vc] 43)).alloc (.cells (byA st0 0) 40))
  rw [HWK.out]
  have c0 : wk.cell? ⟨w.heap.size + 1, 0, none⟩ = some (.int .i64 e.id) := cell_blk H1.out 0
  have c1 : wk.cell? ⟨w.heap.size + 1, 1, none⟩ = some (.int .i64 e.tm) := cell_blk H1.out 1
  have c2 : wk.cell? ⟨w.heap.size + 1, 2, none⟩ = some (.int .i64 e.k) := cell_blk H1.out 2
  have c3 : wk.cell? ⟨w.heap.size + 1, 3, none⟩ = some (.int .i64 e.a) := cell_blk H1.out 3
  have c4 : wk.cell? ⟨w.heap.size + 1, 4, none⟩ = some (.int .i64 e.b) := cell_blk H1.out 4
  have c5 : wk.cell? ⟨w.heap.size + 1, 5, none⟩ = some (.string (strOf e.name)) := cell_blk H1.out 5
  have c6 : wk.cell? ⟨w.heap.size + 1, 6, none⟩ = some (.string (strOf e.text)) := cell_blk H1.out 6
  have c7 : wk.cell? ⟨w.heap.size + 1, 7, none⟩ = some (.int .i64 vk) := cell_blk H1.out 7
  have c8 : wk.cell? ⟨w.heap.size + 1, 8, none⟩ = some (.int .i64 vn) := cell_blk H1.out 8
  have c9 : wk.cell? ⟨w.heap.size + 1, 9, none⟩ = some (.string (strOf vs)) := cell_blk H1.out 9
  have c10 : wk.cell? ⟨w.heap.size + 1, 10, none⟩ = some (.slice va vm vc) := cell_blk H1.out 10
  go_wp2_with fail
  refine HEN.out.mono ?_
  rintro x w3 ⟨bv, rfl, hnb⟩
  obtain ⟨ao, cap, rfl, hgr, -, ho3⟩ := hnb
  have B0 := hid (blk_only H0.out ho3 (fun e => e))
  have B2 := hid (blk_only H2.out ho3 (fun e => e))
  have HO3 := hid (HO.out.trans ho3 (fun _ _ e => e))
  have hsrc := hgr.src
  have hl3 := ho3.size
  clear c0 c1 c2 c3 c4 c5 c6 c7 c8 c9 c10 hgr ho3 HEN H1
  by_cases hck : e.chk = 0
  · obtain ⟨L, hL⟩ : ∃ x, (if e.chk = 0 then e.wr else []) = x := ⟨_, rfl⟩
    have hLe : e.wr = L := by rw [← hL, if_pos hck]
    rw [hL] at hsrc ⊢
    have hLl : L.length ≤ 10000 := by rw [← hLe]; exact HGd.out (HCG.out hck)
    have HK := hid (slink_c (w := w3) hs hsrc (by omega))
    have HR : Hid (linkR s e = sha (s ++ L)) := hid (by rw [linkR, if_pos hck, link, hLe])
    have hinf : (Tryz.prog.info? 40).map (·.size) = some ((bytesV (sha (s ++ L))).toArray).size := by rw [info32]; simp [sha_len]
    have hone := bytesV_one' (sha (s ++ L))
    have hsz : ((bytesV (sha (s ++ L))).toArray).size = (byA st0 0).size := by simp [sha_len, byA]
    obtain ⟨A, hA⟩ : ∃ x, (bytesV (sha (s ++ L))).toArray = x := ⟨_, rfl⟩
    rw [hA] at hinf hone hsz HK
    rw [← HSl.out] at HK
    have HA := hid hA; have HON := hid hone; have HSZ := hid hsz; have HIN := hid hinf
    have HIS : Hid ((Tryz.prog.info? 40).map (·.size) = some S.size) := hid (by rw [info32, HSs.out])
    have HCk := hid hck
    rw [hck]
    clear hck hL hLe hsrc hinf hone hsz hA
    go_upto_region 4 with fail
    go_wp2_with ((guard_target =~ wpList _ _ _ (⟨some 17, _, _, _, _, _⟩ :: _) _ _); refine wpList_load_row rfl 40 (.tmp 2) rfl w.heap.size rfl 40 S (0, 0) _ B0.out Tryz.underlying40 rfl HIS.out ?_)
    refine HK.out.mono ?_
    rintro x w4 ⟨rfl, ho4⟩
    have B4 := hid (blk_only B2.out ho4 (fun e => e))
    have HO4 := hid (HO3.out.trans ho4 (fun _ _ e => e))
    clear ho4
    go_wp2_with ((guard_target =~ wpList _ _ _ (⟨none, .store _ _ _, _, _, _, _⟩ :: _) _ _); refine wpList_store_all rfl 40 (.tmp 4) (.tmp 19) rfl (w.heap.size + 2) A rfl rfl (byA st0 0) 40 B4.out HSZ.out HIN.out HON.out ?_; intro w9 hb9 ho9 hs9; have HB9 := hid hb9; have HO9 := hid ho9; clear hb9 ho9 hs9)
    refine bodyPost_ret (results_cell1 rfl _ _ (w.heap.size + 2) 40 A (0, 0) _ rfl HB9.out Tryz.underlying40 rfl HIN.out) rfl ⟨by rw [HR.out, HA.out, HCk.out]; rfl, HO4.out.trans HO9.out (fun i hi e => by have e' : i = w.heap.size + 2 := e; omega)⟩
  · have HR : Hid (linkR s e = List.replicate 32 0) := hid (by rw [linkR, if_neg hck])
    have HZ : Hid ((byA st0 0) = (bytesV (List.replicate 32 0)).toArray) := hid zero_sum
    have hinf : (Tryz.prog.info? 40).map (·.size) = some (byA st0 0).size := by rw [info32]; rfl
    have HIN := hid hinf
    have HON : Hid ((byA st0 0).all (·.oneCell') = true) := hid (by kernel_rfl)
    have hbld : (Instr.build 40 #[]).run Tryz.prog w3 = .ok (.agg (byA st0 0)) w3 := by kernel_rfl
    clear hinf hsrc
    rw [if_neg hck]
    obtain ⟨C, hC⟩ : ∃ x, e.chk = x := ⟨_, rfl⟩
    have HC := hid hC
    rw [hC] at hck ⊢
    clear hC
    go_wp2_with ((guard_target =~ wpList _ _ _ (⟨none, .store _ _ _, _, _, _, _⟩ :: _) _ _); refine wpList_store_all rfl 40 (.tmp 4) (.tmp 15) rfl (w.heap.size + 2) (byA st0 0) rfl rfl (byA st0 0) 40 B2.out rfl HIN.out HON.out ?_; intro w9 hb9 ho9 hs9; have HB9 := hid hb9; have HO9 := hid ho9; clear hb9 ho9 hs9)
    refine bodyPost_ret (results_cell1 rfl _ _ (w.heap.size + 2) 40 (byA st0 0) (0, 0) _ rfl HB9.out Tryz.underlying40 rfl HIN.out) rfl ⟨by rw [HR.out, HZ.out, HC.out]; rfl, HO3.out.trans HO9.out (fun i hi e => by have e' : i = w.heap.size + 2 := e; omega)⟩
end
end Go.Proofs.YtfmdngeooelcpaaGreat
