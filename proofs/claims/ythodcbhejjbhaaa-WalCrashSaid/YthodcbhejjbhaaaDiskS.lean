/- slices.Contains at ints; the disk: Spoil. -/
import Derived.Test.YthodcbhejjbhaaaDiskN
namespace Go.Proofs.Ythodcbhejjbhaaa
open Go.RowKit

/-- A slice value that reads as these cells. -/
def SrcV (w : World) (v : Value) (xs : List Value) : Prop :=
  ∃ a c, v = .slice a xs.length c ∧ (xs ≠ [] → ∃ g o, a = some ⟨g, o, none⟩ ∧ ∀ i u, xs[i]? = some u → w.cell? ⟨g, o + i, none⟩ = some u)
def intsV (l : List Int) : List Value := l.map (Value.int .i64)
@[simp] theorem length_intsV (l : List Int) : (intsV l).length = l.length := by simp [intsV]
theorem intsV_get (l : List Int) (i : Nat) : (intsV l)[i]? = (l[i]?).map (Value.int .i64) := by simp [intsV]

theorem SrcV.only {w w' : World} {v : Value} {xs : List Value} {G : Nat → Prop} (h : SrcV w v xs) (ho : Only G w w') (hG : xs ≠ [] → ∀ g o c, v = .slice (some ⟨g, o, none⟩) xs.length c → g < w.heap.size → ¬ G g) : SrcV w' v xs := by
  obtain ⟨a, c, rfl, h⟩ := h
  refine ⟨a, c, rfl, fun hne => ?_⟩
  obtain ⟨g, o, rfl, hc⟩ := h hne
  refine ⟨g, o, rfl, fun i u hu => ?_⟩
  have h1 := hc i u hu
  rw [← h1]
  exact World.cell?_of_block (ho.block g (World.block_lt_of_cell? _ _ h1) (hG hne g o c rfl (World.block_lt_of_cell? _ _ h1)))

def IdxPost (n : Int) (l : List Int) (w : World) (e : Ending) (w' : World) : Prop := ∃ i : Int, e = .returned (.int .i64 i) ∧ (n ∈ l → 0 ≤ i) ∧ (n ∉ l → i = -1) ∧ w = w'

set_option maxRecDepth 100000 in
theorem index_c (w : World) (v : Value) (l : List Int) (n : Int) (hs : SrcV w v (intsV l)) (hb : l.length ≤ 9223372036854775807) :
    Calls Try.prog 64 #[v, .int .i64 n] w (IdxPost n l w) := by
  obtain ⟨a, c, rfl, h⟩ := hs
  have hlen : (intsV l).length = l.length := by simp
  rw [hlen]
  have Hlen := hid hlen
  clear hlen
  go_enter Try.func64, Try.ntmps64
  go_wp2
  try go_frame
  go_loop [8] (fun i => ∃ k : Nat, i = .int .i64 k ∧ k ≤ l.length ∧ n ∉ l.take k) (fun i => l.length - (intOf i).toNat)
  case atStart => exact ⟨0, rfl, Nat.zero_le _, by simp⟩
  case round =>
    obtain ⟨k, rfl, hk, hno⟩ := hrel
    have Hno := hid hno
    clear hno
    by_cases hkl : k < l.length
    · obtain ⟨g, o, rfl, hc⟩ := h (by intro e; have := congrArg List.length e; simp at this; simp [this] at hkl)
      have hc1 := hc k (.int .i64 l[k]) (by rw [intsV_get, List.getElem?_eq_getElem hkl]; rfl)
      have Hc := hid hc
      clear hc h
      by_cases he : n = l[k]
      · have hb : (n == l[k]) = true := by simpa using he
        have He := hid he
        clear he
        go_wp2
        go_ret
        have hmem : n ∈ l := by rw [He.out]; exact List.getElem_mem hkl
        exact ⟨k, rfl, fun _ => by omega, fun h => absurd hmem h, rfl⟩
      · have hb : (n == l[k]) = false := by simpa using he
        have He := hid he
        clear he
        go_wp2
        go_round
        case rel =>
          refine ⟨k + 1, by go_num, by omega, ?_⟩
          rw [List.take_succ_eq_append_getElem hkl]
          simp only [List.mem_append, List.mem_singleton, not_or]
          exact ⟨Hno.out, He.out⟩
        case measure => simp [intOf]; omega
    · have : k = l.length := by omega
      subst this
      clear h
      go_wp2
      go_ret
      have := Hno.out
      rw [List.take_length] at this
      exact ⟨-1, rfl, fun h => absurd h this, fun _ => rfl, rfl⟩

set_option maxRecDepth 100000 in
theorem contains_c (w : World) (v : Value) (l : List Int) (n : Int) (hs : SrcV w v (intsV l)) (hb : l.length ≤ 9223372036854775807) :
    Calls Try.prog 45 #[v, .int .i64 n] w fun e w' => e = .returned (.bool (decide (n ∈ l))) ∧ w = w' := by
  have h0 := index_c w v l n hs hb
  obtain ⟨a, c, rfl, -⟩ := hs
  rw [length_intsV] at h0 ⊢
  have hI := hid h0
  clear h0
  have Hb := hid hb
  clear hb
  by_cases hm : n ∈ l
  · have e1 : decide (n ∈ l) = true := by simp [hm]
    rw [e1]
    have Hm := hid hm
    clear hm e1
    go_enter Try.func45, Try.ntmps45
    go_wp2_with (go_at_call 64; refine hI.out.mono ?_; rintro e w' ⟨i, rfl, hi1, hi2, rfl⟩; have hi := hi1 Hm.out; clear hi1 hi2)
    go_ret
    simp
  · have e1 : decide (n ∈ l) = false := by simp [hm]
    rw [e1]
    have Hm := hid hm
    clear hm e1
    go_enter Try.func45, Try.ntmps45
    go_wp2_with (go_at_call 64; refine hI.out.mono ?_; rintro e w' ⟨i, rfl, hi1, hi2, rfl⟩; obtain rfl := hi2 Hm.out; clear hi1 hi2)
    go_ret
    simp
end Go.Proofs.Ythodcbhejjbhaaa
