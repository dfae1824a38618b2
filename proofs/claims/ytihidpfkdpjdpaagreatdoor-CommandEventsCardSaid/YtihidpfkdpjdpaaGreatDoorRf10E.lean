/- foliotref10.Event. -/
import Derived.Test.YtihidpfkdpjdpaaGreatDoorCmO
namespace Go.Proofs.YtihidpfkdpjdpaaGreatDoor
open Go.RowKit
/-- What foliotref10.Event leaves: an event whose value is the command's. -/
def REv (w : World) (G : Nat → Prop) (e : EM) (x : Ending) (w' : World) : Prop := ∃ ds, x = .returned (.agg ds.toArray) ∧ EAt w' G e ds ∧ Only (fun _ => False) w w'
section
variable {w : World} {G : Nat → Prop}
set_option maxRecDepth 100000 in
set_option maxHeartbeats 3200000 in
theorem r10event_1a {tm a b : Int} {name vs : List UInt8} {vk vn : Int} {va : Option Addr} {vm vc : Nat} {v : VT} (hV : VAt w G v [.int .i64 vk, .int .i64 vn, .string (strOf vs), .slice va vm vc]) (hb : b ≤ 4611686018427387903 - tm) (htm : 0 ≤ tm ∧ tm ≤ 4611686018427387903) (hb0 : 0 ≤ b) :
    Calls Tryz.prog 9 #[.agg #[.int .i64 1, .int .i64 tm, .int .i64 a, .int .i64 b, .string (strOf name), .int .i64 vk, .int .i64 vn, .string (strOf vs), .slice va vm vc]] w (REv w G ⟨0, tm, 11, a, tm + b, name, [], v⟩) := by
  have HV := hid hV
  clear hV
  go_enter Tryz.func9, Tryz.ntmps9
  go_wp2_with fail
  go_region_held3 (fun W => W.cell? ⟨w.heap.size, 2, none⟩ = some (.int .i64 a))
    (first | go_keep | simp)
    (fail)
  go_wp2_with fail
  refine bodyPost_ret (results_cell_row rfl _ _ (w.heap.size + 1) 31 #[.int .i64 0, .int .i64 tm, .int .i64 11, .int .i64 a, .int .i64 (tm + b), .string (strOf name), .string (strOf []), .int .i64 vk, .int .i64 vn, .string (strOf vs), .slice va vm vc] (0, 0) _ rfl (blk_mid w _ _ _) Tryz.underlying31 rfl info_evc) rfl ?_
  exact ⟨[.int .i64 0, .int .i64 tm, .int .i64 11, .int .i64 a, .int .i64 (tm + b), .string (strOf name), .string (strOf []), .int .i64 vk, .int .i64 vn, .string (strOf vs), .slice va vm vc], rfl, ⟨[.int .i64 vk, .int .i64 vn, .string (strOf vs), .slice va vm vc], rfl, HV.out.same (only3 w _ _ _).drew⟩, (only3 w _ _ _).drew⟩
set_option maxRecDepth 100000 in
set_option maxHeartbeats 3200000 in
theorem r10event_1b {tm a b : Int} {name vs : List UInt8} {vk vn : Int} {va : Option Addr} {vm vc : Nat} {v : VT} (hV : VAt w G v [.int .i64 vk, .int .i64 vn, .string (strOf vs), .slice va vm vc]) (hb : ¬ b ≤ 4611686018427387903 - tm) (htm : 0 ≤ tm ∧ tm ≤ 4611686018427387903) :
    Calls Tryz.prog 9 #[.agg #[.int .i64 1, .int .i64 tm, .int .i64 a, .int .i64 b, .string (strOf name), .int .i64 vk, .int .i64 vn, .string (strOf vs), .slice va vm vc]] w (REv w G ⟨0, tm, 11, a, 4611686018427387903, name, [], v⟩) := by
  have HV := hid hV
  clear hV
  go_enter Tryz.func9, Tryz.ntmps9
  go_wp2_with fail
  go_region_held3 (fun W => W.cell? ⟨w.heap.size, 2, none⟩ = some (.int .i64 a))
    (first | go_keep | simp)
    (fail)
  go_wp2_with fail
  refine bodyPost_ret (results_cell_row rfl _ _ (w.heap.size + 1) 31 #[.int .i64 0, .int .i64 tm, .int .i64 11, .int .i64 a, .int .i64 4611686018427387903, .string (strOf name), .string (strOf []), .int .i64 vk, .int .i64 vn, .string (strOf vs), .slice va vm vc] (0, 0) _ rfl (blk_mid w _ _ _) Tryz.underlying31 rfl info_evc) rfl ?_
  exact ⟨[.int .i64 0, .int .i64 tm, .int .i64 11, .int .i64 a, .int .i64 4611686018427387903, .string (strOf name), .string (strOf []), .int .i64 vk, .int .i64 vn, .string (strOf vs), .slice va vm vc], rfl, ⟨[.int .i64 vk, .int .i64 vn, .string (strOf vs), .slice va vm vc], rfl, HV.out.same (only3 w _ _ _).drew⟩, (only3 w _ _ _).drew⟩
set_option maxRecDepth 100000 in
set_option maxHeartbeats 3200000 in
theorem r10event_2 {tm a b : Int} {name vs : List UInt8} {vk vn : Int} {va : Option Addr} {vm vc : Nat} {v : VT} (hV : VAt w G v [.int .i64 vk, .int .i64 vn, .string (strOf vs), .slice va vm vc])  :
    Calls Tryz.prog 9 #[.agg #[.int .i64 2, .int .i64 tm, .int .i64 a, .int .i64 b, .string (strOf name), .int .i64 vk, .int .i64 vn, .string (strOf vs), .slice va vm vc]] w (REv w G ⟨0, tm, 13, a, 0, name, [], v⟩) := by
  have HV := hid hV
  clear hV
  go_enter Tryz.func9, Tryz.ntmps9
  go_wp2_with fail
  go_region_held3 (fun W => W.cell? ⟨w.heap.size, 2, none⟩ = some (.int .i64 a))
    (first | go_keep | simp)
    (fail)
  go_wp2_with fail
  refine bodyPost_ret (results_cell_row rfl _ _ (w.heap.size + 1) 31 #[.int .i64 0, .int .i64 tm, .int .i64 13, .int .i64 a, .int .i64 0, .string (strOf name), .string (strOf []), .int .i64 vk, .int .i64 vn, .string (strOf vs), .slice va vm vc] (0, 0) _ rfl (blk_mid w _ _ _) Tryz.underlying31 rfl info_evc) rfl ?_
  exact ⟨[.int .i64 0, .int .i64 tm, .int .i64 13, .int .i64 a, .int .i64 0, .string (strOf name), .string (strOf []), .int .i64 vk, .int .i64 vn, .string (strOf vs), .slice va vm vc], rfl, ⟨[.int .i64 vk, .int .i64 vn, .string (strOf vs), .slice va vm vc], rfl, HV.out.same (only3 w _ _ _).drew⟩, (only3 w _ _ _).drew⟩
set_option maxRecDepth 100000 in
set_option maxHeartbeats 3200000 in
theorem r10event_3 {tm a b : Int} {name vs : List UInt8} {vk vn : Int} {va : Option Addr} {vm vc : Nat} {v : VT} (hV : VAt w G v [.int .i64 vk, .int .i64 vn, .string (strOf vs), .slice va vm vc])  :
    Calls Tryz.prog 9 #[.agg #[.int .i64 3, .int .i64 tm, .int .i64 a, .int .i64 b, .string (strOf name), .int .i64 vk, .int .i64 vn, .string (strOf vs), .slice va vm vc]] w (REv w G ⟨0, tm, 7, a, b, name, [], v⟩) := by
  have HV := hid hV
  clear hV
  go_enter Tryz.func9, Tryz.ntmps9
  go_wp2_with fail
  go_region_held3 (fun W => W.cell? ⟨w.heap.size, 2, none⟩ = some (.int .i64 a) ∧ W.cell? ⟨w.heap.size, 3, none⟩ = some (.int .i64 b))
    (first | go_keep | simp)
    (fail)
  go_wp2_with fail
  refine bodyPost_ret (results_cell_row rfl _ _ (w.heap.size + 1) 31 #[.int .i64 0, .int .i64 tm, .int .i64 7, .int .i64 a, .int .i64 b, .string (strOf name), .string (strOf []), .int .i64 vk, .int .i64 vn, .string (strOf vs), .slice va vm vc] (0, 0) _ rfl (blk_mid w _ _ _) Tryz.underlying31 rfl info_evc) rfl ?_
  exact ⟨[.int .i64 0, .int .i64 tm, .int .i64 7, .int .i64 a, .int .i64 b, .string (strOf name), .string (strOf []), .int .i64 vk, .int .i64 vn, .string (strOf vs), .slice va vm vc], rfl, ⟨[.int .i64 vk, .int .i64 vn, .string (strOf vs), .slice va vm vc], rfl, HV.out.same (only3 w _ _ _).drew⟩, (only3 w _ _ _).drew⟩
set_option maxRecDepth 100000 in
set_option maxHeartbeats 3200000 in
theorem r10event_4 {tm a b : Int} {name vs : List UInt8} {vk vn : Int} {va : Option Addr} {vm vc : Nat} {v : VT} (hV : VAt w G v [.int .i64 vk, .int .i64 vn, .string (strOf vs), .slice va vm vc])  :
    Calls Tryz.prog 9 #[.agg #[.int .i64 4, .int .i64 tm, .int .i64 a, .int .i64 b, .string (strOf name), .int .i64 vk, .int .i64 vn, .string (strOf vs), .slice va vm vc]] w (REv w G ⟨0, tm, 16, 0, 0, name, [], v⟩) := by
  have HV := hid hV
  clear hV
  go_enter Tryz.func9, Tryz.ntmps9
  go_wp2_with fail
  refine bodyPost_ret (results_cell_row rfl _ _ (w.heap.size + 1) 31 #[.int .i64 0, .int .i64 tm, .int .i64 16, .int .i64 0, .int .i64 0, .string (strOf name), .string (strOf []), .int .i64 vk, .int .i64 vn, .string (strOf vs), .slice va vm vc] (0, 0) _ rfl (blk_mid w _ _ _) Tryz.underlying31 rfl info_evc) rfl ?_
  exact ⟨[.int .i64 0, .int .i64 tm, .int .i64 16, .int .i64 0, .int .i64 0, .string (strOf name), .string (strOf []), .int .i64 vk, .int .i64 vn, .string (strOf vs), .slice va vm vc], rfl, ⟨[.int .i64 vk, .int .i64 vn, .string (strOf vs), .slice va vm vc], rfl, HV.out.same (only3 w _ _ _)⟩, only3 w _ _ _⟩
set_option maxRecDepth 100000 in
set_option maxHeartbeats 3200000 in
theorem r10event_5 {tm a b : Int} {name vs : List UInt8} {vk vn : Int} {va : Option Addr} {vm vc : Nat} {v : VT} (hV : VAt w G v [.int .i64 vk, .int .i64 vn, .string (strOf vs), .slice va vm vc])  :
    Calls Tryz.prog 9 #[.agg #[.int .i64 5, .int .i64 tm, .int .i64 a, .int .i64 b, .string (strOf name), .int .i64 vk, .int .i64 vn, .string (strOf vs), .slice va vm vc]] w (REv w G ⟨0, tm, 17, 0, 0, name, [], v⟩) := by
  have HV := hid hV
  clear hV
  go_enter Tryz.func9, Tryz.ntmps9
  go_wp2_with fail
  refine bodyPost_ret (results_cell_row rfl _ _ (w.heap.size + 1) 31 #[.int .i64 0, .int .i64 tm, .int .i64 17, .int .i64 0, .int .i64 0, .string (strOf name), .string (strOf []), .int .i64 vk, .int .i64 vn, .string (strOf vs), .slice va vm vc] (0, 0) _ rfl (blk_mid w _ _ _) Tryz.underlying31 rfl info_evc) rfl ?_
  exact ⟨[.int .i64 0, .int .i64 tm, .int .i64 17, .int .i64 0, .int .i64 0, .string (strOf name), .string (strOf []), .int .i64 vk, .int .i64 vn, .string (strOf vs), .slice va vm vc], rfl, ⟨[.int .i64 vk, .int .i64 vn, .string (strOf vs), .slice va vm vc], rfl, HV.out.same (only3 w _ _ _)⟩, only3 w _ _ _⟩
set_option maxRecDepth 100000 in
set_option maxHeartbeats 3200000 in
theorem r10event_6 {tm a b : Int} {name vs : List UInt8} {vk vn : Int} {va : Option Addr} {vm vc : Nat} {v : VT} (hV : VAt w G v [.int .i64 vk, .int .i64 vn, .string (strOf vs), .slice va vm vc])  :
    Calls Tryz.prog 9 #[.agg #[.int .i64 6, .int .i64 tm, .int .i64 a, .int .i64 b, .string (strOf name), .int .i64 vk, .int .i64 vn, .string (strOf vs), .slice va vm vc]] w (REv w G ⟨0, tm, 21, 0, 0, name, [], v⟩) := by
  have HV := hid hV
  clear hV
  go_enter Tryz.func9, Tryz.ntmps9
  go_wp2_with fail
  refine bodyPost_ret (results_cell_row rfl _ _ (w.heap.size + 1) 31 #[.int .i64 0, .int .i64 tm, .int .i64 21, .int .i64 0, .int .i64 0, .string (strOf name), .string (strOf []), .int .i64 vk, .int .i64 vn, .string (strOf vs), .slice va vm vc] (0, 0) _ rfl (blk_mid w _ _ _) Tryz.underlying31 rfl info_evc) rfl ?_
  exact ⟨[.int .i64 0, .int .i64 tm, .int .i64 21, .int .i64 0, .int .i64 0, .string (strOf name), .string (strOf []), .int .i64 vk, .int .i64 vn, .string (strOf vs), .slice va vm vc], rfl, ⟨[.int .i64 vk, .int .i64 vn, .string (strOf vs), .slice va vm vc], rfl, HV.out.same (only3 w _ _ _)⟩, only3 w _ _ _⟩
theorem r10event_c {e : EM} {cs : List Value} (hE : CAt w G e cs) (hgd : e.CGood) : Calls Tryz.prog 9 #[.agg cs.toArray] w (REv w G e.rev) := by
  obtain ⟨vk, vn, vs, va, vm, vc, rfl, hV⟩ := hE.form
  have hk := c_k6 hgd.k; have htm := hgd.tm; have hb0 := hgd.b0
  obtain ⟨id, tm, k, a, b, name, tt, v⟩ := e
  simp only at hk htm hb0 hV ⊢
  rcases hk with rfl | rfl | rfl | rfl | rfl | rfl
  · by_cases hb : b ≤ 4611686018427387903 - tm
    · have h : EM.rev ⟨id, tm, 1, a, b, name, tt, v⟩ = ⟨0, tm, 11, a, tm + b, name, [], v⟩ := by simp [EM.rev, hb]
      rw [h]; exact r10event_1a hV hb htm hb0
    · have h : EM.rev ⟨id, tm, 1, a, b, name, tt, v⟩ = ⟨0, tm, 11, a, 4611686018427387903, name, [], v⟩ := by simp [EM.rev, hb]
      rw [h]; exact r10event_1b hV hb htm
  · exact r10event_2 hV
  · exact r10event_3 hV
  · exact r10event_4 hV
  · exact r10event_5 hV
  · exact r10event_6 hV
end
end Go.Proofs.YtihidpfkdpjdpaaGreatDoor
