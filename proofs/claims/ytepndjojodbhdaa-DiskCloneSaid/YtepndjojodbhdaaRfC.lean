/- The disk's reference: Flush without power; has. -/
import Derived.Test.YtepndjojodbhdaaRfF
namespace Go.Proofs.Ytepndjojodbhdaa
open Go.RowKit

section
variable {w : World} {cs : Array Value} {r : RM} {G : Nat → Prop}
set_option maxRecDepth 100000 in
set_option maxHeartbeats 3200000 in
theorem rflush_no (h : RefAt w cs r G) (hd : r.down = true) :
    Calls Try.prog 95 #[.agg cs] w fun e w' => e = .returned (.tuple #[.agg cs, .int .i64 r.flush.2]) ∧ r.flush.1 = r ∧ Only (fun _ => False) w w' := by
  obtain ⟨sa, sc, wa, wc, rfl, h1, h2, h3, h4⟩ := h.ex
  have hp : r.flush = (r, 50) := by unfold RM.flush; rw [hd]; rfl
  have Hp := hid hp
  unfold RM.cells
  clear h h1 h2 h3 h4 hp
  go_enter Try.func95, Try.ntmps95
  go_wp2_with fail
  refine bodyPost_ret (results_cell1 (q := 3) rfl _ _ (w.heap.size + 1) 113 (RM.cells r sa sc wa wc) _ _ rfl (by unfold RM.cells; rw [hd]; exact blk2 w _ _) Try.underlying113 rfl info_rdisk) rfl ?_
  rw [Hp.out]
  exact ⟨by unfold RM.cells; rw [hd]; rfl, rfl, ((Only.refl _ w).alloc _).alloc _⟩

set_option maxRecDepth 100000 in
set_option maxHeartbeats 1600000 in
theorem rhas_c (w : World) (v : Value) (l : List Int) (n : Int) (hs : SrcV w v (intsV l)) (hb : l.length ≤ 9223372036854775807) :
    Calls Try.prog 115 #[v, .int .i64 n] w fun e w' => e = .returned (.bool (decide (n ∈ l))) ∧ w = w' := by
  obtain ⟨a, c, rfl, hc⟩ := hs
  rw [length_intsV] at *
  have Hc := hid hc
  clear hc
  go_enter Try.func115, Try.ntmps115
  go_wp2_with fail
  go_loop [5] (fun i => ∃ k : Nat, i = .int .i64 k ∧ k ≤ l.length ∧ n ∉ l.take k) (fun i => l.length - (intOf i).toNat)
  case atStart => exact ⟨0, rfl, Nat.zero_le _, by simp⟩
  case round =>
    obtain ⟨k, rfl, hk, hno⟩ := hrel
    have Hno := hid hno
    clear hno
    by_cases hkl : k < l.length
    · obtain ⟨z, hz⟩ : ∃ z, l[k]? = some z := ⟨_, List.getElem?_eq_getElem hkl⟩
      obtain ⟨g, o, rfl, hcl⟩ := Hc.out (by intro e; have := congrArg List.length e; rw [length_intsV, List.length_nil] at this; omega)
      have hcell : w.cell? ⟨g, o + k, none⟩ = some (.int .i64 z) := hcl k _ (by simp [intsV, hz])
      have hki : (k : Int) < l.length := by omega
      have Hz := hid hz
      clear hz hcl
      by_cases hzn : z = n
      · have hb1 : (z == n) = true := by simp [hzn]
        have hmem : decide (n ∈ l) = true := decide_eq_true (by rw [← hzn]; exact List.mem_of_getElem? Hz.out)
        have Hmem := hid hmem
        clear hzn hmem
        go_wp2_with fail
        go_ret
        rw [Hmem.out]
        exact ⟨rfl, rfl⟩
      · have hb1 : (z == n) = false := by simp [hzn]
        have Hzn := hid hzn
        clear hzn
        go_wp2_with fail
        go_round
        case rel =>
          refine ⟨k + 1, by go_num, by omega, fun hm => ?_⟩
          rw [List.take_add_one, Hz.out] at hm
          rcases List.mem_append.1 hm with hm | hm
          · exact Hno.out hm
          · exact Hzn.out (Eq.symm (show n = z by simpa using hm))
        case measure => simp [intOf]; omega
    · obtain rfl : k = l.length := by omega
      have hmem : decide (n ∈ l) = false := decide_eq_false (by have := Hno.out; rwa [List.take_length] at this)
      have Hmem := hid hmem
      clear hmem
      go_wp2_with fail
      go_ret
      rw [Hmem.out]
      exact ⟨rfl, rfl⟩
end
section
variable {w : World} {b : Nat} {D : DiskM} {F : Nat → Prop}
set_option maxRecDepth 100000 in
set_option maxHeartbeats 1600000 in
theorem spoil_out (h : DiskAt w b D F) (n at' : Int) (x : Value) (hc : n < 0 ∨ (D.n : Int) ≤ n ∨ at' < 0 ∨ 128 ≤ at') :
    Calls Try.prog 49 #[.pointer (some ⟨b, 0, none⟩), .int .i64 n, .int .i64 at', x] w fun e w' => e = .returned (.int .i64 1) ∧ w = w' := by
  obtain ⟨gs, cap, ms, hcell, hz⟩ := h.cells
  clear h hz
  by_cases h0 : n < 0
  · clear hc
    go_enter Try.func49, Try.ntmps49
    go_wp2
    go_ret
    exact ⟨rfl, rfl⟩
  · by_cases h1 : (D.n : Int) ≤ n
    · clear hc
      go_enter Try.func49, Try.ntmps49
      go_wp2
      go_ret
      exact ⟨rfl, rfl⟩
    · by_cases h2 : at' < 0
      · clear hc
        go_enter Try.func49, Try.ntmps49
        go_wp2
        go_ret
        exact ⟨rfl, rfl⟩
      · have h3 : 128 ≤ at' := by omega
        clear hc
        go_enter Try.func49, Try.ntmps49
        go_wp2
        go_ret
        exact ⟨rfl, rfl⟩
end
end Go.Proofs.Ytepndjojodbhdaa
