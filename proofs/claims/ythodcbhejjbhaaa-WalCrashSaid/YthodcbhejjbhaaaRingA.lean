/- The ring: Append. -/
import Derived.Test.YthodcbhejjbhaaaRingO
import Derived.Test.YthodcbhejjbhaaaOpen
namespace Go.Proofs.Ythodcbhejjbhaaa
open Go.RowKit

/-- A slice of byte slices that reads as these parts; none of it lies among N. -/
def PartsAt (w : World) (v : Value) (ps : List (List UInt8)) (N : Nat → Prop) : Prop :=
  ∃ a c, v = .slice a ps.length c ∧ ps.length ≤ 9223372036854775807 ∧ ∀ i l, ps[i]? = some l → ∃ g o pa pc, a = some ⟨g, o, none⟩ ∧ ¬ N g ∧ w.cell? ⟨g, o + i, none⟩ = some (.slice pa l.length pc) ∧ Src w (.slice pa l.length pc) l ∧
    (l ≠ [] → ∀ g' o', pa = some ⟨g', o', none⟩ → ¬ N g') ∧ l.length ≤ 1000000

theorem PartsAt.only {w w' : World} {v : Value} {ps : List (List UInt8)} {N G : Nat → Prop} (h : PartsAt w v ps N) (ho : Only G w w') (hG : ∀ k, k < w.heap.size → G k → N k) : PartsAt w' v ps N := by
  obtain ⟨a, c, rfl, hl, h⟩ := h
  refine ⟨a, c, rfl, hl, fun i l hi => ?_⟩
  obtain ⟨g, o, pa, pc, rfl, hg, hc, hs, hn, hb⟩ := h i l hi
  have hglt := World.block_lt_of_cell? _ _ hc
  refine ⟨g, o, pa, pc, rfl, hg, ?_, ?_, hn, hb⟩
  · rw [← hc]; exact World.cell?_of_block (ho.block g hglt (fun e => hg (hG g hglt e)))
  · obtain ⟨a', c', e, hs⟩ := hs
    simp only [Value.slice.injEq] at e
    obtain ⟨rfl, -, rfl⟩ := e
    refine ⟨pa, pc, rfl, fun hne => ?_⟩
    obtain ⟨g', o', rfl, hc'⟩ := hs hne
    refine ⟨g', o', rfl, fun j u hj => ?_⟩
    have h1 := hc' j u hj
    rw [← h1]
    have hlt := World.block_lt_of_cell? _ _ h1
    exact World.cell?_of_block (ho.block g' hlt (fun e => hn hne g' o' rfl (hG g' hlt e)))
theorem PartsAt.mono {w : World} {v : Value} {ps : List (List UInt8)} {N N' : Nat → Prop} (h : PartsAt w v ps N) (hN : ∀ k, k < w.heap.size → N' k → N k) : PartsAt w v ps N' := by
  obtain ⟨a, c, rfl, hl, h⟩ := h
  refine ⟨a, c, rfl, hl, fun i l hi => ?_⟩
  obtain ⟨g, o, pa, pc, rfl, hg, hc, hs, hn, hb⟩ := h i l hi
  refine ⟨g, o, pa, pc, rfl, fun e => hg (hN g (World.block_lt_of_cell? _ _ hc) e), hc, hs, fun hne g' o' e hN' => ?_, hb⟩
  subst e
  exact hn hne g' o' rfl (hN g' (hs.lt rfl hne) hN')

def total (ps : List (List UInt8)) : Nat := ps.flatten.length

/-- The writes of an append, sector by sector: the disk then, and the first error. -/
def ringRun (R : RingM) : Nat → Nat → List UInt8 → DiskM → DiskM × Int
  | 0, _, _, D => (D, 0)
  | f + 1, at', all, D =>
    if all = [] then (D, 0)
    else if (D.write (R.sector at') (sectorL all)).2 ≠ 0 then D.write (R.sector at') (sectorL all)
    else if all.length < 128 then ((D.write (R.sector at') (sectorL all)).1, 0)
    else ringRun R f (at' + 128) (all.drop 128) (D.write (R.sector at') (sectorL all)).1

/-- What an append does to a disk and a ring. -/
def RingM.append (R : RingM) (head : Nat) (s : List UInt8) (D : DiskM) : RingM × DiskM × Int :=
  if R.left head < s.length then (R, D, 3)
  else if s = [] then (R, D, 0)
  else
    let all := R.rest ++ s
    let q := ringRun R all.length (R.tail - R.rest.length) all D
    if q.2 = 0 then ({ R with tail := R.tail + s.length, rest := all.drop (all.length / 128 * 128) }, q.1, 0) else (R, q.1, q.2)

theorem take_flat (ps : List (List UInt8)) (k : Nat) (h : k < ps.length) : (ps.take (k + 1)).flatten = (ps.take k).flatten ++ ps[k] := by
  rw [List.take_succ_eq_append_getElem h, List.flatten_append, List.flatten_cons, List.flatten_nil, List.append_nil]
theorem take_flat_le (ps : List (List UInt8)) (k : Nat) : (ps.take k).flatten.length ≤ ps.flatten.length := by
  conv => rhs; rw [← List.take_append_drop k ps, List.flatten_append]
  simp
theorem left_le (R : RingM) (h : Nat) : R.left h ≤ R.size := Nat.sub_le _ _

section
variable {w : World} {r b : Nat} {D : DiskM} {R : RingM} {F FD : Nat → Prop}

set_option maxRecDepth 100000 in
set_option maxHeartbeats 800000 in
theorem append_no (h : RingAt w r b R F) (v : Value) (ps : List (List UInt8)) (N : Nat → Prop) (hp : PartsAt w v ps N) (head : Nat) (hh : head ≤ 18446744073709551615) (hbad : R.left head < ps.flatten.length ∨ ps.flatten = []) :
    Calls Try.prog 59 #[.pointer (some ⟨r, 0, none⟩), .int .u64 head, v] w fun e w' => e = .returned (.int .i64 (R.append head ps.flatten D).2.2) ∧ (R.append head ps.flatten D).1 = R ∧ (R.append head ps.flatten D).2.1 = D ∧ w = w' := by
  have HS := hid (size_c h)
  have HL := hid (left_c h head hh)
  have hsz : R.size ≤ 524288 := by obtain ⟨rv, h⟩ := h; have := h.c0; unfold RingM.size; omega
  have hll := left_le R head
  have hlb : (R.left head : Int) ≤ 524288 := by omega
  have hsb : (R.size : Int) ≤ 524288 := by omega
  clear h
  have hres : ∀ c : Int, ((R.left head < ps.flatten.length → c = 3) ∧ (ps.flatten = [] → c = 0)) → Ending.returned (.int .i64 c) = .returned (.int .i64 (R.append head ps.flatten D).2.2) ∧ (R.append head ps.flatten D).1 = R ∧ (R.append head ps.flatten D).2.1 = D := by
    intro c ⟨h1, h2⟩
    by_cases hc : R.left head < ps.flatten.length
    · have : R.append head ps.flatten D = (R, D, 3) := by unfold RingM.append; rw [if_pos hc]
      rw [this, h1 hc]; exact ⟨rfl, rfl, rfl⟩
    · have he : ps.flatten = [] := by rcases hbad with h | h; exact absurd h hc; exact h
      have : R.append head ps.flatten D = (R, D, 0) := by unfold RingM.append; rw [if_neg hc, if_pos he]
      rw [this, h2 he]; exact ⟨rfl, rfl, rfl⟩
  have HRes := hid hres
  have HBad := hid hbad
  clear hres hbad
  obtain ⟨a, c, rfl, hpl, hpp⟩ := hp
  have HP := hid hpp
  clear hpp
  go_enter Try.func59, Try.ntmps59
  go_wp2_with fail
  try go_frame
  go_loop [19, 7] (fun i n => ∃ k : Nat, i = .int .i64 k ∧ k ≤ ps.length ∧ n = .int .i64 (ps.take k).flatten.length ∧ (ps.take k).flatten.length ≤ R.size) (fun i _ => ps.length - (intOf i).toNat)
  case atStart => exact ⟨0, rfl, Nat.zero_le _, by simp, by simp⟩
  case round =>
    obtain ⟨k, rfl, hk, rfl, hn⟩ := hrel
    have hni : (((ps.take k).flatten.length : Nat) : Int) ≤ 524288 := by omega
    by_cases hkl : k < ps.length
    · obtain ⟨g, o, pa, pc, rfl, -, hc, -, -, hlb2⟩ := HP.out k ps[k] (List.getElem?_eq_getElem hkl)
      have hlb3 : ((ps[k].length : Nat) : Int) ≤ 1000000 := by omega
      have hsum : (ps.take (k + 1)).flatten.length = (ps.take k).flatten.length + ps[k].length := by rw [take_flat ps k hkl, List.length_append]
      obtain ⟨L, hL⟩ : ∃ L, L = (ps.take k).flatten.length := ⟨_, rfl⟩
      obtain ⟨M, hM⟩ : ∃ M, M = ps[k].length := ⟨_, rfl⟩
      rw [← hL] at hn hni hsum ⊢
      rw [← hM] at hc hlb2 hlb3 hsum
      have HSum := hid hsum; have HLL := hid hL; have HMM := hid hM
      clear hsum hL hM
      go_wp2_with (go_at_call 57; refine HS.out.mono ?_; rintro e w' ⟨rfl, rfl⟩)
      · go_ret
        have hbig : (R.size : Int) < (L : Int) + (M : Int) := by assumption
        obtain ⟨e1, e2, e3⟩ := HRes.out 3 ⟨fun _ => rfl, fun he => by
          have h1 : (ps.take (k + 1)).flatten.length ≤ ps.flatten.length := take_flat_le ps (k + 1)
          rw [he] at h1
          have := HSum.out
          simp at h1 this
          omega⟩
        exact ⟨e1, e2, e3, rfl⟩
      · have hle : (L : Int) + (M : Int) ≤ (R.size : Int) := by assumption
        go_round
        case rel => exact ⟨k + 1, by go_num, by omega, by rw [HSum.out]; go_num, by rw [HSum.out]; omega⟩
        case measure => simp [intOf]; omega
    · have hkk : k = ps.length := by omega
      subst hkk
      rw [List.take_length] at hn hni ⊢
      by_cases hlf : R.left head < ps.flatten.length
      · have hlf' : (R.left head : Int) < (ps.flatten.length : Int) := by omega
        obtain ⟨e1, e2, e3⟩ := HRes.out 3 ⟨fun _ => rfl, fun he => by rw [he] at hlf; simp at hlf⟩
        have E1 := hid e1; have E2 := hid e2; have E3 := hid e3
        obtain ⟨L, hL⟩ : ∃ L, L = ps.flatten.length := ⟨_, rfl⟩
        rw [← hL] at hn hni hlf' ⊢
        clear hL e1 e2 e3 hlf HRes HBad HP
        go_wp2_with (go_at_call 34; refine HL.out.mono ?_; rintro e w' ⟨rfl, rfl⟩)
        go_ret
        exact ⟨E1.out, E2.out, E3.out, rfl⟩
      · have he : ps.flatten = [] := by rcases HBad.out with h | h; exact absurd h hlf; exact h
        obtain ⟨e1, e2, e3⟩ := HRes.out 0 ⟨fun h => absurd h hlf, fun _ => rfl⟩
        have E1 := hid e1; have E2 := hid e2; have E3 := hid e3
        have hlf' : ¬ (R.left head : Int) < 0 := by omega
        have hfl : ((ps.flatten.length : Nat) : Int) = 0 := by rw [he]; rfl
        rw [hfl]
        clear hfl he e1 e2 e3 hlf HRes HBad HP hn hni
        go_wp2_with (go_at_call 34; refine HL.out.mono ?_; rintro e w' ⟨rfl, rfl⟩)
        go_ret
        exact ⟨E1.out, E2.out, E3.out, rfl⟩
end
end Go.Proofs.Ythodcbhejjbhaaa
