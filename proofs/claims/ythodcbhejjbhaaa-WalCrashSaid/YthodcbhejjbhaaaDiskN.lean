/- The disk: New. -/
import Derived.Test.YthodcbhejjbhaaaDiskF
import Derived.Deep.RegionLaw
namespace Go.Proofs.Ythodcbhejjbhaaa
open Go.RowKit

def zeros (n : Nat) : List UInt8 := List.replicate n 0
@[simp] theorem length_zeros (n : Nat) : (zeros n).length = n := by simp [zeros]
def DiskM.new (n : Nat) : DiskM := { nw := 0, nf := 0, n := n, sure := fun _ => zeros 128, pend := fun _ => none, down := false, fuse := -1 }

theorem madeCells_zero (n : Nat) : madeCells #[.int .u8 0] n = (bytesV (zeros n)).toArray := by
  apply Array.ext'
  rw [toList_madeCells_one]
  simp [bytesV, zeros]

/-- make([]byte, n). -/
theorem make_bytes (w : World) (n : Nat) (hn : n ≤ 1000000) :
    (Instr.makeSlice 33 (.int .i64 n) (.int .i64 n)).run Try.prog w = .ok (.slice (some ⟨w.heap.size, 0, none⟩) n n) (w.alloc (.cells (bytesV (zeros n)).toArray 5)) := by
  obtain ⟨i0, hi, hz0, hz1, hz2⟩ := info_parts info8
  have := run_makeSlice (P := Try.prog) w 33 5 i0 (.int .u8 0) Try.underlying33 hi hz0 .i64 .i64 n n (by omega) (by omega) (by simp [hz1]; omega) (by simp [hz2]; omega) (by omega)
  rw [this]
  have e : (n : Int).toNat * i0.size = n := by simp [hz1]
  rw [e]
  show Result.ok (Value.slice _ (n : Int).toNat (n : Int).toNat) (w.alloc (.cells (madeCells #[.int .u8 0] n) _)) = _
  rw [madeCells_zero]
  simp

theorem info_row : (Try.prog.info? 33).map (fun i => (i.zero, i.size, i.bytes)) = some (some (.slice none 0 0), 1, 24) := by kernel_rfl

theorem Row.new' (w : World) (xs : List Value) (e : TypeId) (cap : Nat) (h : xs.length = cap) : Row (w.alloc (.cells xs.toArray e)) w.heap.size e cap xs := by subst h; exact Row.new w xs e

/-- The one cell of a block that was laid behind another. -/
theorem news1 (W : World) (o : Obj) (x : Value) (e : TypeId) : ∀ j u, [x][j]? = some u → ((W.alloc o).alloc (.cells #[x] e)).cell? ((⟨W.heap.size + 1, 0, none⟩ : Addr).add j) = some u := by
  intro j u hj
  have := (Row.new (W.alloc o) [x] e).news j u hj
  simpa using this

/-- In the middle of New: i sectors are there. -/
def NInv (w wr : World) (i : Nat) : Prop :=
  ∃ (sv : Value) (gs cap : Nat) (sg : Nat → Nat) (ρ : Nat → Role),
    ((i = 0 ∧ sv = .slice none 0 0) ∨ (0 < i ∧ sv = .slice (some ⟨gs, 0, none⟩) i cap ∧ Row wr gs 33 cap (secs i sg (fun _ => 128)) ∧ ρ gs = .arr)) ∧
    wr.heap[w.heap.size + 1]? = some (.cells #[.int .i64 0, .int .i64 0, sv, .map (some w.heap.size), .bool false, .int .i64 (-1)] 72 (0, 0)) ∧ IMap wr w.heap.size [] 0 ∧
    (∀ j, j < i → Row wr (sg j) 5 128 (bytesV (zeros 128)) ∧ ρ (sg j) = .sec j) ∧ ρ (w.heap.size + 1) = .str ∧ ρ w.heap.size = .map ∧ (∀ k, ρ k ≠ .non → w.heap.size ≤ k ∧ k < wr.heap.size) ∧ Only (fun _ => False) w wr

theorem secs_succ (i : Nat) (sg : Nat → Nat) (s : Nat) (sg' : Nat → Nat) (h : ∀ j, j < i → sg' j = sg j) (hs : sg' i = s) : secs (i + 1) sg' (fun _ => 128) = secs i sg (fun _ => 128) ++ [secV s 128] := by
  unfold secs
  rw [List.range_succ, List.map_append]
  congr 1
  · refine List.map_congr_left fun j hj => ?_
    rw [h j (by simpa using hj)]
  · simp [hs]

theorem NInv.next {w wr W1 w1 : World} {i : Nat} {sv : Value} {gs : Nat} {sg : Nat → Nat} {ρ : Nat → Role}
    (hblk : wr.heap[w.heap.size + 1]? = some (.cells #[.int .i64 0, .int .i64 0, sv, .map (some w.heap.size), .bool false, .int .i64 (-1)] 72 (0, 0))) (hmap : IMap wr w.heap.size [] 0)
    (hsec : ∀ j, j < i → Row wr (sg j) 5 128 (bytesV (zeros 128)) ∧ ρ (sg j) = .sec j) (hrb : ρ (w.heap.size + 1) = .str) (hrm : ρ w.heap.size = .map) (hρ : ∀ k, ρ k ≠ .non → w.heap.size ≤ k ∧ k < wr.heap.size) (ho : Only (fun _ => False) w wr)
    (hW : Only (fun _ => False) wr W1) (hs : Row W1 wr.heap.size 5 128 (bytesV (zeros 128))) (ho1 : Only (fun k => k = gs) W1 w1) (hgs : ρ gs = .arr ∨ wr.heap.size < gs) {g' cap' : Nat} (hg' : ρ g' = .arr ∨ wr.heap.size < g')
    (hrow : Row w1 g' 33 cap' (secs i sg (fun _ => 128) ++ [secV wr.heap.size 128])) : NInv w (w1.setCell ⟨w.heap.size + 1, 2, none⟩ (.slice (some ⟨g', 0, none⟩) (i + 1) cap')) (i + 1) := by
  have hn : ρ wr.heap.size = .non := by
    cases h : ρ wr.heap.size with
    | non => rfl
    | _ => have := (hρ wr.heap.size (by rw [h]; simp)).2; omega
  have hslt : wr.heap.size < W1.heap.size := hs.lt
  have ngs : ∀ k, ρ k ≠ .arr → k < wr.heap.size → ¬ k = gs := by
    intro k hk hlt e
    rcases hgs with h | h
    · exact hk (by rw [e]; exact h)
    · omega
  have ng' : ∀ k, ρ k ≠ .arr → k ≤ wr.heap.size → ¬ k = g' := by
    intro k hk hlt e
    rcases hg' with h | h
    · exact hk (by rw [e]; exact h)
    · omega
  have hb1 := blk_only (blk_only hblk hW (fun e => e)) ho1 (ngs _ (by rw [hrb]; simp) (blk_lt hblk))
  have hob : Only (fun k => k = w.heap.size + 1) w1 (w1.setCell ⟨w.heap.size + 1, 2, none⟩ (.slice (some ⟨g', 0, none⟩) (i + 1) cap')) := only_set _ _ _
  have hblt := blk_lt hblk
  refine ⟨_, g', cap', fun j => if j = i then wr.heap.size else sg j, fun k => if k = g' then .arr else if k = wr.heap.size then .sec i else ρ k, .inr ⟨by omega, rfl, ?_, by simp⟩, ?_, ?_, ?_, ?_, ?_, ?_, ?_⟩
  · rw [secs_succ i sg wr.heap.size (fun j => if j = i then wr.heap.size else sg j) (fun j hj => if_neg (by omega)) (if_pos rfl)]
    exact hrow.only hob (fun e => ng' _ (by rw [hrb]; simp) (by omega) e.symm)
  · exact blk_set hb1 2 _
  · exact ((hmap.only hW (fun e => e)).only ho1 (ngs _ (by rw [hrm]; simp) (blk_lt hmap.blk))).only hob (by omega)
  · intro j hj
    by_cases e : j = i
    · subst e
      simp only [if_true]
      refine ⟨(hs.only ho1 (fun e => ?_)).only hob (by omega), ?_⟩
      · rcases hgs with h | h
        · rw [← e, hn] at h; cases h
        · omega
      · rw [if_neg (ng' _ (by rw [hn]; simp) (Nat.le_refl _))]
    · simp only [if_neg e]
      obtain ⟨h1, h2⟩ := hsec j (by omega)
      have hlt := h1.lt
      refine ⟨((h1.only hW (fun e => e)).only ho1 (ngs _ (by rw [h2]; simp) hlt)).only hob (fun e => by rw [e, hrb] at h2; cases h2), ?_⟩
      rw [if_neg (ng' _ (by rw [h2]; simp) (by omega)), if_neg (by omega)]; exact h2
  · show (if w.heap.size + 1 = g' then _ else _) = _
    rw [if_neg (ng' _ (by rw [hrb]; simp) (by omega)), if_neg (by omega)]; exact hrb
  · show (if w.heap.size = g' then _ else _) = _
    rw [if_neg (ng' _ (by rw [hrm]; simp) (by omega)), if_neg (by omega)]; exact hrm
  · intro k hk
    have hz : w.heap.size ≤ wr.heap.size := ho.size
    have h1 := ho1.size
    have h2 := hrow.lt
    simp only [World.size_setCell]
    by_cases e1 : k = g'
    · rcases hg' with h | h
      · have := hρ k (by rw [e1, h]; simp); omega
      · omega
    · by_cases e2 : k = wr.heap.size
      · omega
      · simp only [if_neg e1, if_neg e2] at hk
        have := hρ k hk; omega
  · refine ((ho.trans hW (fun _ _ e => e)).trans ho1 (fun k hk e => ?_)).trans hob (fun k hk e => by omega)
    rcases hgs with h | h
    · have := hρ gs (by rw [h]; simp); omega
    · have := ho.size; omega

set_option maxRecDepth 100000 in
set_option maxHeartbeats 800000 in
theorem new_ok (w : World) (n : Nat) (h0 : 0 < n) (h1 : n ≤ 4096) :
    Calls Try.prog 10 #[.int .i64 n] w fun e w' => ∃ b F, e = .returned (.tuple #[.pointer (some ⟨b, 0, none⟩), .int .i64 0]) ∧ DiskAt w' b (DiskM.new n) F ∧ Only (fun _ => False) w w' ∧ ∀ k, F k → w.heap.size ≤ k := by
  have hlt : decide ((n : Int) < 1) = false := by simp; omega
  have hgt : decide ((4096 : Int) < n) = false := by simp; omega
  have hmm := @run_makeMap Try.prog
  obtain ⟨ir, hir, hrz, hr1, hr2⟩ := info_parts info_row
  go_enter Try.func10, Try.ntmps10
  go_wp2_with fail
  try go_frame
  go_loopw [15] (fun i wr => ∃ k : Nat, i = .int .i64 k ∧ k ≤ n ∧ NInv w wr k) (fun i _ => n - (intOf i).toNat)
  case atStart =>
    refine ⟨0, rfl, Nat.zero_le _, .slice none 0 0, 0, 0, fun _ => 0, fun k => if k = w.heap.size then .map else if k = w.heap.size + 1 then .str else .non, .inl ⟨rfl, rfl⟩, ?_, ?_, by simp, by simp, by simp, ?_, ?_⟩
    · have := blk_new (w.alloc (.map #[] 0)) (.cells #[.int .i64 0, .int .i64 0, .slice none 0 0, .map (some w.heap.size), .bool false, .int .i64 (-1)] 72)
      simpa using this
    · exact ⟨blk_alloc (blk_new w _), by simp, by simp, by simp⟩
    · intro k hk
      by_cases e1 : k = w.heap.size
      · simp only [World.size_alloc]; omega
      · by_cases e2 : k = w.heap.size + 1
        · simp only [World.size_alloc]; omega
        · simp [e1, e2] at hk
    · exact ((Only.refl _ _).alloc _).alloc _
  case round =>
    obtain ⟨k, rfl, hk, hinv⟩ := hrel
    have HI := hid hinv
    clear hinv
    by_cases hkn : k < n
    · obtain ⟨sv, gs, cap, sg, ρ, hsv, hblk, hmap, hsec, hrb, hrm, hρ, ho⟩ := HI.out
      have hmk : ∀ w, (Instr.makeSlice 33 (.int .i64 128) (.int .i64 128)).run Try.prog w = .ok (.slice (some ⟨w.heap.size, 0, none⟩) 128 128) (w.alloc (.cells (bytesV (zeros 128)).toArray 5)) := fun w => make_bytes w 128 (by decide)
      have hc := cell_blk hblk
      have hz := frozen_blk hblk
      have hbl := blk_lt hblk
      have hbl2 : w.heap.size < wr.heap.size := by omega
      have Hsv := hid hsv; have Hblk := hid hblk; have Hmap := hid hmap; have Hsec := hid hsec; have Hρ := hid hρ; have Ho := hid ho; have Hrb := hid hrb; have Hrm := hid hrm
      clear hsv hblk hmap hsec hρ ho hrb hrm
      go_wp2_with fail
      rcases Hsv.out with ⟨rfl, rfl⟩ | ⟨hk0, rfl, hrow, hgs⟩
      · go_region_law (refine step_of rfl (wp_app_nil (.tmp 21) (.tmp 23) 69 rfl 33 ir (.slice none 0 0) 1 24 Try.underlying69 hir hrz hr1 hr2 rfl rfl ⟨wr.heap.size + 1, 0, none⟩ 1 1 rfl [.slice (some ⟨wr.heap.size, 0, none⟩) 128 128] rfl (news1 wr _ _ _) (by decide) (by decide) (by decide) ?_); intro cap' w1 hcap' hrow1 ho1; have hb1 := (ho1.block _ (blk_lt (blk_alloc (blk_alloc Hblk.out))) (fun e => e)).trans (blk_alloc (blk_alloc Hblk.out)); have hc1 := cell_blk hb1; have hz1 := frozen_blk hb1; have Hrow1 := hid hrow1; have Ho1 := hid ho1; clear hrow1 ho1 hb1)
        all_goals
          go_wp2
          go_roundw
          case rel =>
            refine ⟨1, rfl, by omega, NInv.next (i := 0) (gs := wr.heap.size + 2) Hblk.out Hmap.out Hsec.out Hrb.out Hrm.out Hρ.out Ho.out ?_ ?_ (Ho1.out.mono (fun _ _ e => e.elim)) (.inr (by omega)) (.inr (by omega)) (by have := Hrow1.out; simpa [secs, secV] using this)⟩
            · exact (((Only.refl _ _).alloc _).alloc _).drew
            · exact (Row.new' wr _ _ 128 (by simp)).alloc _
          case measure => simp [intOf]; omega
      · have Hrow := hid hrow
        have Hgs := hid hgs
        clear hrow hgs
        go_region_law (refine step_of rfl (wp_app (.tmp 21) (.tmp 23) 69 rfl 33 ir (.slice none 0 0) 1 24 Try.underlying69 hir hrz hr1 hr2 rfl gs k cap (secs k sg (fun _ => 128)) rfl (by rw [Nat.mul_one]; exact (Hrow.out.alloc _).alloc _) (by simp) ⟨wr.heap.size + 1, 0, none⟩ 1 1 rfl [.slice (some ⟨wr.heap.size, 0, none⟩) 128 128] rfl (news1 wr _ _ _) (by simp [Value.oneCell']) (by omega) (by omega) ?_); intro g' cap' w1 hcap' hrow1 hg' ho1; have hb1 := (ho1.block _ (blk_lt (blk_alloc (blk_alloc Hblk.out))) (fun e => by have := Hgs.out; rw [← e, Hrb.out] at this; cases this)).trans (blk_alloc (blk_alloc Hblk.out)); have hc1 := cell_blk hb1; have hz1 := frozen_blk hb1; have Hrow1 := hid hrow1; have Ho1 := hid ho1; have Hg' := hid hg'; clear hrow1 ho1 hb1 hg')
        all_goals
          go_wp2
          go_roundw
          case rel =>
            refine ⟨k + 1, by go_num, by omega, NInv.next (i := k) (gs := gs) Hblk.out Hmap.out Hsec.out Hrb.out Hrm.out Hρ.out Ho.out ?_ ?_ Ho1.out (.inl Hgs.out) ?_ (by have := Hrow1.out; rw [Nat.mul_one] at this; exact this)⟩
            · exact (((Only.refl _ _).alloc _).alloc _).drew
            · exact (Row.new' wr _ _ 128 (by simp)).alloc _
            · rcases Hg'.out with e | e
              · left; rw [e]; exact Hgs.out
              · right; rw [e]; simp only [World.size_drew, World.size_alloc]; omega
          case measure => simp [intOf]; omega
    · have : k = n := by omega
      subst this
      go_wp2
      go_ret2
      obtain ⟨sv, gs, cap, sg, ρ, hsv, hblk, hmap, hsec, hrb, hrm, hρ, ho⟩ := HI.out
      rcases hsv with ⟨e, -⟩ | ⟨-, rfl, hrow, hgs⟩
      · omega
      refine ⟨w.heap.size + 1, fun j => ρ j ≠ .non, rfl, ⟨gs, cap, w.heap.size, sg, fun _ => 128, [], 0, ρ, ⟨hblk, hrow, fun i hi => ⟨(hsec i hi).1, by simp [DiskM.new]⟩, hmap, by simp, by simp [DiskM.new], ⟨h0, h1⟩, by simp [DiskM.new], hrb, hgs, hrm, fun i hi => (hsec i hi).2⟩, fun j hj => hj, fun j hj => (hρ j hj).2⟩, ho, fun j hj => (hρ j hj).1⟩

theorem new_no (w : World) (n : Int) (h : n < 1 ∨ 4096 < n) :
    Calls Try.prog 10 #[.int .i64 n] w fun e w' => e = .returned (.tuple #[.pointer none, .int .i64 1]) ∧ w = w' := by
  by_cases h1 : n < 1
  · go_enter Try.func10, Try.ntmps10
    go_wp2
    go_ret2
    exact ⟨rfl, rfl⟩
  · have h2 : 4096 < n := by omega
    clear h
    go_enter Try.func10, Try.ntmps10
    go_wp2
    go_ret2
    exact ⟨rfl, rfl⟩
end Go.Proofs.Ythodcbhejjbhaaa
