/- EventDecodes's walk. -/
import Derived.Test.YtdjpapdkbglkmaaDoorTells
import Derived.Test.YtdjpapdkbglkmaaDoorRf09C
import Derived.Test.YtdjpapdkbglkmaaDoorOpenV
namespace Go.Proofs.YtdjpapdkbglkmaaDoor
open Go.RowKit

theorem dec_ok {l : List UInt8} (h : (decR l).2 = 0) : (decR l).1.Good ∧ (decR l).1.rg ∧ (decR l).1.wr = l := by
  have hd : (RdM.of l).ev.2.done = 0 := h
  have h1 : (decR l).1 = (RdM.of l).ev.1 := by unfold decR; simp only; rw [if_neg (by simpa using hd)]
  have he : (RdM.of l).ev.2.err = 0 ∧ ¬ (RdM.of l).ev.2.at' < (RdM.of l).ev.2.b.length := by
    unfold RdM.done at hd
    by_cases g : (RdM.of l).ev.2.err = 0 ∧ (RdM.of l).ev.2.at' < (RdM.of l).ev.2.b.length
    · rw [if_pos g] at hd; simp at hd
    · rw [if_neg g] at hd; exact ⟨hd, fun x => g ⟨hd, x⟩⟩
  obtain ⟨e, post, e1, e2, e3, e4, -⟩ := ev_inv (r := RdM.of l) rfl he.1
  rw [h1, e1]
  refine ⟨e3, e4, ?_⟩
  have h2 := he.2
  rw [e1] at h2
  have e2' : l = e.wr ++ post := by simpa [RdM.rest, RdM.of] using e2
  have h3 : ¬ e.wr.length < l.length := by simpa [RdM.adv, RdM.of] using h2
  have : post = [] := by
    rw [e2', List.length_append] at h3
    exact List.eq_nil_of_length_eq_zero (by omega)
  rw [e2', this, List.append_nil]
theorem dec_no {l : List UInt8} (h : (decR l).2 ≠ 0) : (decR l).1 = .zero := by
  unfold decR at h ⊢
  simp only at h ⊢
  rw [if_pos h]
section
variable {w : World}
set_option maxRecDepth 100000 in
set_option maxHeartbeats 3200000 in
theorem decodes_c (hT : Tab w) {v : Value} {l : List UInt8} (hs : Src w v l) : Calls Tryd.prog 3 #[v] w fun x w' => x = .returned (.bool true) ∧ Only (fun _ => False) w w' := by
  have HTL := hid (tells_c hT)
  have HS := hid hs
  obtain ⟨a0, cp0, rfl⟩ := hs.len
  clear hT hs
  go_enter Tryd.func3, Tryd.ntmps3
  go_wp2_with fail
  refine HTL.out.mono ?_
  rintro x w1 ⟨rfl, ho1⟩
  have HO1 := hid ho1
  have HS1 := hid (HS.out.same ho1)
  clear ho1 HTL
  by_cases h1000 : 1000 < (l.length : Int)
  · go_wp2_with fail
    go_ret
    exact ⟨rfl, HO1.out⟩
  have HD := hid (decode_c HS1.out (by omega))
  have hok := dec_ok (l := l)
  have hno := dec_no (l := l)
  go_wp2_with fail
  refine HD.out.mono ?_
  rintro x w2 ⟨cs, rfl, hev, ho2⟩
  obtain ⟨⟨e, d⟩, hde⟩ : ∃ x, decR l = x := ⟨_, rfl⟩
  rw [hde] at hok hno hev ⊢
  simp only at hok hno hev ⊢
  obtain ⟨vk, vn, vs, va, vm, vc, rfl, -⟩ := hev.form
  have HO2 := hid (HO1.out.trans ho2 (fun _ _ e => e))
  have HS2 := hid (HS1.out.same ho2)
  have HEV := hid (hev.same (only_new w2 (.cells #[.int .i64 e.id, .int .i64 e.tm, .int .i64 e.k, .int .i64 e.a, .int .i64 e.b, .string (strOf e.name), .string (strOf e.text), .int .i64 vk, .int .i64 vn, .string (strOf vs), .slice va vm vc] 28)))
  have HB := hid (blk_new w2 (.cells #[.int .i64 e.id, .int .i64 e.tm, .int .i64 e.k, .int .i64 e.a, .int .i64 e.b, .string (strOf e.name), .string (strOf e.text), .int .i64 vk, .int .i64 vn, .string (strOf vs), .slice va vm vc] 28))
  have HO3 := hid (HO2.out.trans (only_new w2 (.cells #[.int .i64 e.id, .int .i64 e.tm, .int .i64 e.k, .int .i64 e.a, .int .i64 e.b, .string (strOf e.name), .string (strOf e.text), .int .i64 vk, .int .i64 vn, .string (strOf vs), .slice va vm vc] 28)) (fun _ _ e => e))
  have HS3 := hid (HS2.out.same (only_new w2 (.cells #[.int .i64 e.id, .int .i64 e.tm, .int .i64 e.k, .int .i64 e.a, .int .i64 e.b, .string (strOf e.name), .string (strOf e.text), .int .i64 vk, .int .i64 vn, .string (strOf vs), .slice va vm vc] 28)))
  have hsz2 := HO1.out.size
  clear hev ho2 HD hde
  by_cases hd : d = 0
  · subst hd
    obtain ⟨hgd, hrg, hwr⟩ := hok rfl
    have HEN := hid (encode_c HEV.out (fun k hk => by have := hk.2; simp; omega) hrg)
    have hck := good_chk hgd
    have Hrg := hid hrg
    have HCK := hid hck; have HWR := hid hwr
    clear hok hno hgd hrg hwr hck
    go_wp2_with fail
    refine HEN.out.mono ?_
    rintro x w4 ⟨v4, rfl, hv4⟩
    rw [HCK.out, if_pos rfl, HWR.out] at hv4
    rw [HCK.out]
    obtain ⟨ao, cp, rfl, hgr, -, ho4⟩ := hv4
    have HS4 := hid hgr.src
    have HB4 := hid (blk_only HB.out ho4 (fun e => e))
    have HO4 := hid (HO3.out.trans ho4 (fun _ _ e => e))
    have HS5 := hid (HS3.out.same ho4)
    have HRC := hid (r9check_c (HEV.out.same ho4) Hrg.out)
    rw [HCK.out] at HRC
    clear hgr ho4 HEN
    skip
    have c0 : w4.cell? ⟨w2.heap.size, 0, none⟩ = some (.int .i64 e.id) := cell_blk HB4.out 0
    have c1 : w4.cell? ⟨w2.heap.size, 1, none⟩ = some (.int .i64 e.tm) := cell_blk HB4.out 1
    have c2 : w4.cell? ⟨w2.heap.size, 2, none⟩ = some (.int .i64 e.k) := cell_blk HB4.out 2
    have c3 : w4.cell? ⟨w2.heap.size, 3, none⟩ = some (.int .i64 e.a) := cell_blk HB4.out 3
    have c4 : w4.cell? ⟨w2.heap.size, 4, none⟩ = some (.int .i64 e.b) := cell_blk HB4.out 4
    have c5 : w4.cell? ⟨w2.heap.size, 5, none⟩ = some (.string (strOf e.name)) := cell_blk HB4.out 5
    have c6 : w4.cell? ⟨w2.heap.size, 6, none⟩ = some (.string (strOf e.text)) := cell_blk HB4.out 6
    have c7 : w4.cell? ⟨w2.heap.size, 7, none⟩ = some (.int .i64 vk) := cell_blk HB4.out 7
    have c8 : w4.cell? ⟨w2.heap.size, 8, none⟩ = some (.int .i64 vn) := cell_blk HB4.out 8
    have c9 : w4.cell? ⟨w2.heap.size, 9, none⟩ = some (.string (strOf vs)) := cell_blk HB4.out 9
    have c10 : w4.cell? ⟨w2.heap.size, 10, none⟩ = some (.slice va vm vc) := cell_blk HB4.out 10
    have hlw0 : w2.heap.size < w4.heap.size := blk_lt HB4.out
    go_wp2_with fail
    refine HRC.out.mono ?_
    rintro x w6 ⟨rfl, ho6⟩
    have HO6 := hid (HO4.out.trans ho6 (fun _ _ e => e))
    have hcv1 := conv_str (HS4.out.same ho6)
    have hcv2 := conv_str (HS5.out.same ho6)
    clear ho6 HRC
    go_wp2_with fail
    go_ret
    exact ⟨rfl, HO6.out⟩
  · have hdb : (d != 0) = true := by simpa using hd
    have hz := hno hd
    subst hz
    have HSA := hid (esame_c (e := .zero) (f := .zero) (G := New w1 w2) (H := fun _ => False) (ds := [.int .i64 0, .int .i64 0, .int .i64 0, .int .i64 0, .int .i64 0, .string ⟨#[]⟩, .string ⟨#[]⟩, .int .i64 0, .int .i64 0, .string ⟨#[]⟩, .slice none 0 0]) HEV.out ⟨_, rfl, novls _ _ 0 0 []⟩ nil_rg nil_rg)
    rw [(same_iff EM.zero EM.zero).2 rfl] at HSA
    clear hok hno hd
    go_wp2_with fail
    refine HSA.out.mono ?_
    rintro x w4 ⟨rfl, ho4⟩
    have HO4 := hid (HO3.out.trans ho4 (fun _ _ e => e))
    clear ho4
    go_wp2_with fail
    go_ret
    exact ⟨rfl, HO4.out⟩
end
end Go.Proofs.YtdjpapdkbglkmaaDoor
