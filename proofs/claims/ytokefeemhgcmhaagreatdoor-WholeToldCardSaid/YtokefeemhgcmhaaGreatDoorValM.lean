/- wire.Reader: how it lies; its methods. How a value lies in memory; value.Write. count.walk and value.Check. Values that are made; rows of values. -/
import Derived.Test.YtokefeemhgcmhaaGreatDoorWire
import Derived.Test.YtokefeemhgcmhaaGreatDoorEvL
import Derived.Deep.QuietTactic
import Derived.BigQuiet
import Derived.Test.YtokefeemhgcmhaaGreatDoorWhole
import Derived.Deep.RegionHeld3
namespace Go.Proofs.YtokefeemhgcmhaaGreatDoor
open Go.RowKit

/-- At block b lies a reader of bytes at block g. -/
structure RdP (w : World) (b g cap : Nat) (r : RdM) : Prop where
  blk : w.heap[b]? = some (.cells #[.slice (some ⟨g, 0, none⟩) r.b.length cap, .int .i64 r.at', .int .i64 r.err] 101 (0, 0))
  row : Row w g 5 cap (bytesV r.b)
  ne : g ≠ b
  at0 : r.at' ≤ r.b.length
  len : r.b.length ≤ 1000000000
def Rd (w : World) (b g : Nat) (r : RdM) : Prop := ∃ cap, RdP w b g cap r
section
variable {w w' : World} {b g cap : Nat} {r : RdM}
theorem Rd.only {G : Nat → Prop} (h : Rd w b g r) (ho : Only G w w') (h1 : ¬ G b) (h2 : ¬ G g) : Rd w' b g r := by
  obtain ⟨cap, hp⟩ := h
  exact ⟨cap, blk_only hp.blk ho h1, hp.row.only ho h2, hp.ne, hp.at0, hp.len⟩
theorem Rd.same (h : Rd w b g r) (ho : Only (fun _ => False) w w') : Rd w' b g r := h.only ho (fun e => e) (fun e => e)
theorem Rd.at0 (h : Rd w b g r) : r.at' ≤ r.b.length := let ⟨_, hp⟩ := h; hp.at0
theorem Rd.len (h : Rd w b g r) : r.b.length ≤ 1000000000 := let ⟨_, hp⟩ := h; hp.len
theorem Rd.lt (h : Rd w b g r) : b < w.heap.size ∧ g < w.heap.size := let ⟨_, hp⟩ := h; ⟨blk_lt hp.blk, hp.row.lt⟩
/-- A cell of the reader's own is another one. -/
theorem RdP.set1 (h : RdP w b g cap r) (n : Nat) (hn : n ≤ r.b.length) : Rd (w.setCell ⟨b, 1, none⟩ (.int .i64 n)) b g { r with at' := n } := by
  refine ⟨cap, ?_, h.row.setCell_other _ _ h.ne, h.ne, hn, h.len⟩
  have := blk_set h.blk 1 (.int .i64 n)
  simpa using this
theorem RdP.set2 (h : RdP w b g cap r) (e : Int) : Rd (w.setCell ⟨b, 2, none⟩ (.int .i64 e)) b g { r with err := e } := by
  refine ⟨cap, ?_, h.row.setCell_other _ _ h.ne, h.ne, h.at0, h.len⟩
  have := blk_set h.blk 2 (.int .i64 e)
  simpa using this

set_option maxRecDepth 100000 in
theorem read_c (v : Value) (l : List UInt8) (hs : Src w v l) (hl : l.length ≤ 1000000000) :
    Calls Tryz.prog 23 #[v] w fun e w' => ∃ b g, e = .returned (.pointer (some ⟨b, 0, none⟩)) ∧ Rd w' b g (RdM.of l) ∧ w.heap.size ≤ b ∧ w.heap.size ≤ g ∧ Only (fun _ => False) w w' := by
  have hs1 : Src (w.alloc (.cells #[] 5)) v l := hs.same (only_new w _)
  obtain ⟨ax, cx, rfl, hg⟩ := hs1.g
  have HG := hid hg
  clear hs hs1 hg
  have HE : Hid (Gr (w.alloc (.cells #[] 5)) 5 1 (some ⟨w.heap.size, 0, none⟩) 0 0 []) := hid ⟨rfl, Nat.le_refl _, .inr ⟨_, rfl, [], blk_new w _, rfl⟩⟩
  go_enter Tryz.func23, Tryz.ntmps23
  go_wp2_with ((refine wpList_gr rfl el8 (.tmp 3) (.tmp 4) rfl HE.out rfl ax l.length cx rfl (bytesV l) HG.out (by omega) (by omega) ?_); intro ao' cap' w' hg' ha' ho'; have Hg := hid hg'; have Ha := hid ha'; have Ho := hid ho'; clear hg' ha' ho')
  go_ret
  have hg' := Hg.out
  rw [Nat.zero_add, List.nil_append] at hg'
  have hone : Only (fun _ => False) w w' := (only_new w (.cells #[] 5)).trans Ho.out (fun k hk e => by
    simp only [Option.some.injEq, Addr.mk.injEq, and_true] at e; omega)
  obtain ⟨g, rfl, hgl⟩ : ∃ g, ao' = some ⟨g, 0, none⟩ ∧ w.heap.size ≤ g := by
    rcases Ha.out with e | e
    · exact ⟨_, e, Nat.le_refl _⟩
    · exact ⟨_, e, by simp⟩
  obtain ⟨-, h2, h3⟩ := hg'
  rcases h3 with ⟨e, -⟩ | ⟨g', e, hr⟩
  · cases e
  simp only [Option.some.injEq, Addr.mk.injEq, and_true] at e
  subst e
  rw [Nat.mul_one] at hr
  have hs' := hone.size
  refine ⟨w'.heap.size, g, rfl, ⟨cap', ?_, hr.alloc _, by have := hr.lt; omega, Nat.zero_le _, hl⟩, by omega, hgl, hone.alloc _⟩
  rw [blk_new]; simp [RdM.of]
set_option maxRecDepth 100000 in
theorem rerr_c (h : Rd w b g r) : Calls Tryz.prog 46 #[.pointer (some ⟨b, 0, none⟩)] w fun e w' => e = .returned (.int .i64 r.err) ∧ w = w' := by
  obtain ⟨cap, hp⟩ := h
  have h2 : w.cell? ⟨b, 2, none⟩ = some (.int .i64 r.err) := cell_blk hp.blk 2
  clear hp
  go_enter Tryz.func46, Tryz.ntmps46
  go_wp2
  go_ret
  exact ⟨rfl, rfl⟩
set_option maxRecDepth 100000 in
theorem rat_c (h : Rd w b g r) : Calls Tryz.prog 44 #[.pointer (some ⟨b, 0, none⟩)] w fun e w' => e = .returned (.int .i64 r.at') ∧ w = w' := by
  obtain ⟨cap, hp⟩ := h
  have h2 : w.cell? ⟨b, 1, none⟩ = some (.int .i64 r.at') := cell_blk hp.blk 1
  clear hp
  go_enter Tryz.func44, Tryz.ntmps44
  go_wp2
  go_ret
  exact ⟨rfl, rfl⟩
set_option maxRecDepth 100000 in
theorem rfail_c (h : Rd w b g r) (c : Int) : Calls Tryz.prog 47 #[.pointer (some ⟨b, 0, none⟩), .int .i64 c] w fun e w' => e = .returned (.tuple #[]) ∧ Rd w' b g (r.fail c) ∧ Only (fun k => k = b) w w' := by
  obtain ⟨cap, hp⟩ := h
  have h2 : w.cell? ⟨b, 2, none⟩ = some (.int .i64 r.err) := cell_blk hp.blk 2
  have hz := frozen_blk hp.blk
  have HP := hid hp
  clear hp
  by_cases he : r.err = 0
  · have hb : (r.err == 0) = true := by simp [he]
    have HF : Hid (r.fail c = { r with err := c }) := hid (by unfold RdM.fail; rw [if_pos he])
    clear he
    go_enter Tryz.func47, Tryz.ntmps47
    go_wp2
    go_end0
    rw [HF.out]
    exact ⟨rfl, HP.out.set2 c, only_set _ _ _⟩
  · have hb : (r.err == 0) = false := by simp [he]
    have HF : Hid (r.fail c = r) := hid (fail_bad he)
    clear he
    go_enter Tryz.func47, Tryz.ntmps47
    go_wp2
    go_end0
    rw [HF.out]
    exact ⟨rfl, ⟨cap, HP.out⟩, Only.refl _ _⟩
theorem piece_if {g c o n : Nat} {l : List UInt8} (h : Row w g 5 c (bytesV l)) (hn : o + n ≤ l.length) (c' : Nat) : Src w (.slice (if c = o then some ⟨g, 0, none⟩ else some ⟨g, o, none⟩) n c') ((l.drop o).take n) := by
  have hlen : ((l.drop o).take n).length = n := by simp; omega
  refine ⟨_, c', by rw [hlen], fun hne => ?_⟩
  have hpos : 0 < n := by
    rcases Nat.eq_zero_or_pos n with rfl | e
    · simp at hne
    · exact e
  have hc := h.le
  rw [length_bytesV] at hc
  refine ⟨g, o, by rw [if_neg (by omega)], fun i u hu => ?_⟩
  have hu2 : (bytesV l)[o + i]? = some u := by
    rw [bytesV_get] at hu ⊢
    by_cases hi : i < n
    · rw [List.getElem?_take_of_lt hi, List.getElem?_drop] at hu; exact hu
    · rw [List.getElem?_eq_none (by omega)] at hu; cases hu
  have := h.news _ _ hu2
  rw [addr_add, Nat.zero_add] at this
  exact this
set_option maxRecDepth 100000 in
set_option maxHeartbeats 800000 in
theorem rtake_c (h : Rd w b g r) (n : Nat) (hn : n ≤ 1000000000) : Calls Tryz.prog 81 #[.pointer (some ⟨b, 0, none⟩), .int .i64 n] w fun e w' => ∃ v, e = .returned v ∧ Src w' v (r.take n).1 ∧ Rd w' b g (r.take n).2 ∧ Only (fun k => k = b) w w' := by
  obtain ⟨cap, hp⟩ := h
  have h0 : w.cell? ⟨b, 0, none⟩ = some (.slice (some ⟨g, 0, none⟩) r.b.length cap) := cell_blk hp.blk 0
  have h1 : w.cell? ⟨b, 1, none⟩ = some (.int .i64 r.at') := cell_blk hp.blk 1
  have h2 : w.cell? ⟨b, 2, none⟩ = some (.int .i64 r.err) := cell_blk hp.blk 2
  have hz := frozen_blk hp.blk
  have ha := hp.at0
  have hl := hp.len
  have hcap := hp.row.le
  rw [length_bytesV] at hcap
  have HP := hid hp
  clear hp
  by_cases he : r.err = 0
  · have hb : (r.err == 0) = true := by simp [he]
    by_cases hlt : r.b.length - r.at' < n
    · have HF := fun w1 (hr : Rd w1 b g r) => hid (rfail_c hr 6)
      have HT : Hid (r.take n = ([], r.fail 6)) := hid (by unfold RdM.take; rw [if_neg (by simp [he]), if_pos hlt])
      have hsub : IntKind.i64.wrap ((r.b.length : Int) - (r.at' : Int)) = (r.b.length : Int) - r.at' := IntWalk.i64_in _ (by omega)
      have hlt2 : (r.b.length : Int) - r.at' < n := by omega
      clear he
      go_enter Tryz.func81, Tryz.ntmps81
      go_wp2
      go_quiet (fail)
      go_wp2_with fail
      refine (HF _ (Rd.same ⟨cap, HP.out⟩ (only_drewN w _))).out.mono ?_
      rintro e w1 ⟨rfl, hr, ho⟩
      have HR := hid hr; have HO := hid ho
      clear hr ho
      go_wp2_with fail
      go_ret
      rw [HT.out]
      exact ⟨_, rfl, ⟨none, 0, rfl, by simp⟩, HR.out, ((only_drewN w _).mono (fun _ _ e => e.elim)).trans HO.out (fun _ _ e => e)⟩
    · have HT : Hid (r.take n = ((r.b.drop r.at').take n, { r with at' := r.at' + n })) := hid (by unfold RdM.take; rw [if_neg (by simp [he]), if_neg hlt])
      have hsub : IntKind.i64.wrap ((r.b.length : Int) - (r.at' : Int)) = (r.b.length : Int) - r.at' := IntWalk.i64_in _ (by omega)
      have hlt2 : ¬ (r.b.length : Int) - r.at' < n := by omega
      clear he hlt
      go_enter Tryz.func81, Tryz.ntmps81
      go_wp2
      go_quiet (fail)
      go_wp2_with fail
      have hRq : RdP (w.drewN nq) b g cap r := ⟨HP.out.blk, HP.out.row, HP.out.ne, HP.out.at0, HP.out.len⟩
      have hR2 := hRq.set1 (r.at' + n) (by omega)
      have hO2 : Only (fun k => k = b) w ((w.drewN nq).setCell ⟨b, 1, none⟩ (.int .i64 (r.at' + n : Nat))) := ((only_drewN w nq).mono (fun _ _ e => e.elim)).trans (only_set _ _ _) (fun _ _ e => e)
      have hcast : ((r.at' : Int) + (n : Int)) = ((r.at' + n : Nat) : Int) := by omega
      rw [hcast]
      obtain ⟨m, hm⟩ : ∃ m, r.at' + n = m := ⟨_, rfl⟩
      rw [hm] at hR2 hO2 ⊢
      obtain ⟨w1, hw1⟩ : ∃ w1, (w.drewN nq).setCell ⟨b, 1, none⟩ (.int .i64 (m : Nat)) = w1 := ⟨_, rfl⟩
      rw [hw1] at hR2 hO2 ⊢
      have HR2 := hid hR2; have HO2 := hid hO2
      obtain ⟨cap2, hP2⟩ := hR2
      have hcc : cap2 = cap := by
        have h1 := blk_set HP.out.blk 1 (.int .i64 (m : Nat))
        have h3 := hP2.blk
        rw [← hw1] at h3
        have h4 : (w.drewN nq).heap[b]? = w.heap[b]? := rfl
        have h5 := blk_set (w := w.drewN nq) (h4.trans HP.out.blk) 1 (.int .i64 (m : Nat))
        rw [h5] at h3
        simp at h3
        exact h3.symm
      subst hcc
      have k0 : w1.cell? ⟨b, 0, none⟩ = some (.slice (some ⟨g, 0, none⟩) r.b.length cap2) := cell_blk hP2.blk 0
      have k1 : w1.cell? ⟨b, 1, none⟩ = some (.int .i64 m) := cell_blk hP2.blk 1
      have hs1 : IntKind.i64.wrap ((m : Int) - (n : Int)) = (r.at' : Int) := by rw [← hm, IntWalk.i64_in _ (by omega)]; omega
      have hs2 : (r.at' : Int) ≤ (m : Int) := by omega
      have hs3 : (m : Int) ≤ (cap2 : Int) := by omega
      have hs4 : m - r.at' = n := by omega
      have Hm := hid hm
      have HP2 := hid hP2
      clear hw1 hO2 hP2 h0 h1 h2 hz hRq hcast hm
      go_quiet (fail)
      obtain ⟨pa, hpa⟩ : ∃ pa, (if cap2 = r.at' then some (⟨g, 0, none⟩ : Addr) else some ⟨g, r.at', none⟩) = pa := ⟨_, rfl⟩
      rw [hpa]
      have Hpa := hid hpa
      clear hpa
      go_wp2
      go_ret
      rw [HT.out]
      refine ⟨_, rfl, ?_, by rw [Hm.out]; exact HR2.out.same (only_drewN w1 nq), HO2.out.trans (only_drewN w1 nq) (fun _ _ e => e.elim)⟩
      have hrow : Row (w1.drewN nq) g 5 cap2 (bytesV r.b) := HP2.out.row
      have := piece_if (o := r.at') (n := n) hrow (by omega) (cap2 - r.at')
      rw [Hpa.out] at this
      exact this
  · have hb : (r.err == 0) = false := by simp [he]
    have HT : Hid (r.take n = ([], r)) := hid (take_bad he)
    clear he
    go_enter Tryz.func81, Tryz.ntmps81
    go_wp2
    go_ret
    rw [HT.out]
    exact ⟨_, rfl, ⟨none, 0, rfl, by simp⟩, ⟨cap, HP.out⟩, Only.refl _ _⟩

theorem take1 (r : RdM) : (r.take 1).1 = [] ∨ ∃ x, (r.take 1).1 = [x] := by
  unfold RdM.take
  split
  · exact .inl rfl
  · split
    · exact .inl rfl
    · simp only
      cases r.b.drop r.at' with
      | nil => exact .inl rfl
      | cons x xs => exact .inr ⟨x, rfl⟩
set_option maxRecDepth 100000 in
theorem rbyte_c (h : Rd w b g r) : Calls Tryz.prog 62 #[.pointer (some ⟨b, 0, none⟩)] w fun e w' => e = .returned (.int .u8 (r.byte.1 : Nat)) ∧ Rd w' b g r.byte.2 ∧ Only (fun k => k = b) w w' := by
  have HT := hid (rtake_c h 1 (by omega))
  clear h
  go_enter Tryz.func62, Tryz.ntmps62
  go_wp2_with fail
  refine HT.out.mono ?_
  rintro e w1 ⟨v, rfl, hs, hr, ho⟩
  have HR := hid hr; have HO := hid ho
  clear hr ho
  rcases take1 r with h1 | ⟨x, h1⟩
  · have HB : Hid (r.byte = (0, (r.take 1).2)) := hid (by unfold RdM.byte; rw [h1]; rfl)
    rw [h1] at hs
    obtain ⟨a, c, rfl, -⟩ := hs
    clear h1
    simp only [List.length_nil]
    go_wp2
    go_ret
    rw [HB.out]
    exact ⟨rfl, HR.out, HO.out⟩
  · have HB : Hid (r.byte = (x.toNat, (r.take 1).2)) := hid (by unfold RdM.byte; rw [h1]; rfl)
    rw [h1] at hs
    obtain ⟨a, c, rfl, hc⟩ := hs
    obtain ⟨g', o', rfl, hcell⟩ := hc (by simp)
    have hc0 : w1.cell? ⟨g', o', none⟩ = some (.int .u8 (x.toNat : Nat)) := by have := hcell 0 (.int .u8 (x.toNat : Nat)) rfl; rwa [Nat.add_zero] at this
    clear h1 hcell
    simp only [List.length_singleton]
    go_wp2
    go_ret
    rw [HB.out]
    exact ⟨rfl, HR.out, HO.out⟩

theorem byte_lt (r : RdM) : r.byte.1 < 256 := by
  unfold RdM.byte
  cases (r.take 1).1.head? with
  | none => simp
  | some x => have := x.toNat_lt; simpa using this
/-- The number that has been read is put to the next seven bits. -/
theorem or_sh (acc x sh : Nat) (ha : acc < 2 ^ sh) (hs : sh ≤ 63) (hx : x % 128 * 2 ^ sh < 18446744073709551616) : bits .or .u64 (acc : Int) (IntKind.u64.wrap (((x % 128 : Nat) : Int) * 2 ^ sh)) = ((acc + x % 128 * 2 ^ sh : Nat) : Int) := by
  have h2 : (2 : Nat) ^ sh ≤ 2 ^ 63 := Nat.pow_le_pow_right (by omega) hs
  have e1 : IntKind.u64.wrap (((x % 128 : Nat) : Int) * 2 ^ sh) = ((x % 128 * 2 ^ sh : Nat) : Int) := by
    rw [IntKind.wrap_u64, Int.natCast_mul, Int.natCast_pow]
    have : ((x % 128 * 2 ^ sh : Nat) : Int) = ((x % 128 : Nat) : Int) * ((2 : Nat) : Int) ^ sh := by rw [Int.natCast_mul, Int.natCast_pow]
    refine Int.emod_eq_of_lt ?_ ?_
    · have h0 : (0 : Int) ≤ ((x % 128 * 2 ^ sh : Nat) : Int) := Int.natCast_nonneg _
      rw [this] at h0; exact h0
    · have h0 : ((x % 128 * 2 ^ sh : Nat) : Int) < 18446744073709551616 := by omega
      rw [this] at h0; exact h0
  rw [e1, u64_or_nat _ _ (by omega) hx]
  congr 1
  rw [Nat.or_comm, ← Nat.shiftLeft_eq, ← Nat.shiftLeft_add_eq_or_of_lt ha]
  omega
theorem sh_bound {x sh : Nat} (h : sh ≤ 56) : x % 128 * 2 ^ sh < 18446744073709551616 := by
  have h1 : (2 : Nat) ^ sh ≤ 2 ^ 56 := Nat.pow_le_pow_right (by omega) h
  have h2 : x % 128 * 2 ^ sh ≤ 127 * 2 ^ 56 := Nat.mul_le_mul (by omega) h1
  omega
theorem acc_lt {acc y sh : Nat} (h : acc < 2 ^ sh) (hy : y < 128) : acc + y * 2 ^ sh < 2 ^ sh * 2 ^ 7 := by
  have h1 : y * 2 ^ sh ≤ 127 * 2 ^ sh := Nat.mul_le_mul_right _ (by omega)
  omega
set_option maxRecDepth 100000 in
set_option maxHeartbeats 3200000 in
theorem rnum_c (h : Rd w b g r) (most : Nat) (_hm : most < 18446744073709551616) : Calls Tryz.prog 65 #[.pointer (some ⟨b, 0, none⟩), .int .u64 most] w fun e w' => e = .returned (.int .u64 ((r.num most).1 : Nat)) ∧ Rd w' b g (r.num most).2 ∧ Only (fun k => k = b) w w' := by
  have HR := hid h
  clear h
  go_enter Tryz.func65, Tryz.ntmps65
  go_wp2_with fail
  go_loopw [5, 6, 7] (fun n s _ wr => ∃ (f sh acc : Nat) (r1 : RdM), n = .int .u64 acc ∧ s = .int .i64 sh ∧ sh + 7 * f = 70 ∧ 0 < f ∧ acc < 2 ^ sh ∧ RdM.numL most f sh acc r1 = r.num most ∧ Rd wr b g r1 ∧ Only (fun k => k = b) w wr) (fun _ s _ _ => 70 - (intOf s).toNat)
  case atStart => exact ⟨10, 0, 0, r, rfl, rfl, rfl, by omega, by decide, rfl, HR.out, Only.refl _ _⟩
  case round =>
    obtain ⟨f, sh, acc, r1, rfl, rfl, hf, hf0, hacc, hnum, hr1, ho1⟩ := hrel
    obtain ⟨f', rfl⟩ : ∃ f', f = f' + 1 := ⟨f - 1, by omega⟩
    have HB := hid (rbyte_c hr1)
    have HO := hid ho1; have HN := hid hnum; have HA := hid hacc
    have hx := byte_lt r1
    have HNL : Hid (RdM.numL most (f' + 1) sh acc r1 = if r1.byte.2.err ≠ 0 then (0, r1.byte.2) else if (sh = 63 ∧ 1 < r1.byte.1) ∨ (0 < sh ∧ r1.byte.1 = 0) then (0, r1.byte.2.fail 8) else
      if r1.byte.1 < 128 then (if most < acc + (r1.byte.1 % 128) * 2 ^ sh then (0, r1.byte.2.fail 2) else (acc + (r1.byte.1 % 128) * 2 ^ sh, r1.byte.2)) else RdM.numL most f' (sh + 7) (acc + (r1.byte.1 % 128) * 2 ^ sh) r1.byte.2) := hid (by rw [RdM.numL])
    obtain ⟨x, hxe⟩ : ∃ x, r1.byte.1 = x := ⟨_, rfl⟩
    obtain ⟨r2, hre⟩ : ∃ r2, r1.byte.2 = r2 := ⟨_, rfl⟩
    rw [hxe, hre] at HNL HB
    rw [hxe] at hx
    clear hxe hre hnum hr1 ho1 hacc
    have hx0 : (0 : Int) ≤ (x : Int) := by omega
    have hx1 : (x : Int) < 256 := by omega
    have hsh0 : (0 : Int) ≤ (sh : Int) := by omega
    have hsh1 : (sh : Int) ≤ 64 := by omega
    have hsh2 : (sh : Int) + 7 < 1000 := by omega
    by_cases he : r2.err = 0
    · have hb : (r2.err == 0) = true := by simp [he]
      have hb2 : (r2.err != 0) = false := by simp [he]
      go_wp2_with fail
      refine HB.out.mono ?_
      rintro e w1 ⟨rfl, hr2, ho2⟩
      have h2 : w1.cell? ⟨b, 2, none⟩ = some (.int .i64 r2.err) := let ⟨_, hp⟩ := hr2; cell_blk hp.blk 2
      have HR2 := hid hr2; have HO2 := hid ho2
      have HE := hid he
      clear hr2 ho2 he
      by_cases hbad : (sh = 63 ∧ 1 < x) ∨ (0 < sh ∧ x = 0)
      · have HF8 : Hid (RdM.numL most (f' + 1) sh acc r1 = (0, r2.fail 8)) := hid (by rw [HNL.out, if_neg (by simp [HE.out]), if_pos hbad])
        by_cases h63 : sh = 63
        · subst h63
          by_cases hx1' : 1 < (x : Int)
          · clear hbad
            go_wp2_with fail
            refine (rfail_c HR2.out 8).mono ?_
            rintro e w2 ⟨rfl, hr3, ho3⟩
            have HR3 := hid hr3; have HO3 := hid ho3
            clear hr3 ho3
            go_wp2_with fail
            go_ret
            rw [← HN.out, HF8.out]
            exact ⟨rfl, HR3.out, (HO.out.trans HO2.out (fun _ _ e => e)).trans HO3.out (fun _ _ e => e)⟩

          · obtain rfl : x = 0 := by omega
            clear hbad
            go_wp2_with fail
            refine (rfail_c HR2.out 8).mono ?_
            rintro e w2 ⟨rfl, hr3, ho3⟩
            have HR3 := hid hr3; have HO3 := hid ho3
            clear hr3 ho3
            go_wp2_with fail
            go_ret
            rw [← HN.out, HF8.out]
            exact ⟨rfl, HR3.out, (HO.out.trans HO2.out (fun _ _ e => e)).trans HO3.out (fun _ _ e => e)⟩

        · obtain rfl : x = 0 := by omega
          have t63 : ((sh : Int) == 63) = false := by simp; omega
          have tsh : 0 < (sh : Int) := by omega
          clear hbad h63
          go_wp2_with fail
          refine (rfail_c HR2.out 8).mono ?_
          rintro e w2 ⟨rfl, hr3, ho3⟩
          have HR3 := hid hr3; have HO3 := hid ho3
          clear hr3 ho3
          go_wp2_with fail
          go_ret
          rw [← HN.out, HF8.out]
          exact ⟨rfl, HR3.out, (HO.out.trans HO2.out (fun _ _ e => e)).trans HO3.out (fun _ _ e => e)⟩

      · have Hnb := hid hbad
        by_cases h63 : sh = 63
        · subst h63
          have tx1 : (x : Int) ≤ 1 := by omega
          have tx : ((x : Int) == 0) = false := by simp; omega
          have txx : x = 1 := by omega
          have Htxx := hid txx
          have hx128 : x % 128 * 2 ^ 63 < 18446744073709551616 := by rw [txx]; decide
          clear hbad txx
          obtain ⟨y, hy⟩ : ∃ y, x % 128 = y := ⟨_, rfl⟩
          have hand : bits .and .u8 (x : Int) 127 = ((y : Nat) : Int) := by
            have : bits .and .u8 (x : Int) 127 = ((x &&& 127 : Nat) : Int) := u8_and_nat x 127 (by omega) (by decide)
            rw [this, ← hy]; congr 1; exact Nat.and_two_pow_sub_one_eq_mod x 7
          have hyl : (y : Int) < 128 := by omega
          have hor := or_sh acc x 63 HA.out (by omega) (hx128)
          rw [hy] at hor HNL
          obtain ⟨acc', hacc'⟩ : ∃ acc', acc + y * 2 ^ 63 = acc' := ⟨_, rfl⟩
          rw [hacc'] at hor HNL
          have Hy := hid hy; have Hacc' := hid hacc'
          have hor' : bits .or .u64 (acc : Int) (IntKind.u64.wrap ((y : Int) * 9223372036854775808)) = (acc' : Int) := hor
          clear hy hacc' hor
          by_cases hlt : (x : Int) < 128
          · by_cases hmo : (most : Int) < (acc' : Int)
            · have HF2 : Hid (RdM.numL most (f' + 1) 63 acc r1 = (0, r2.fail 2)) := hid (by rw [HNL.out, if_neg (by simp [HE.out]), if_neg Hnb.out, if_pos (by omega), if_pos (by omega)])
              go_wp2_with fail
              refine (rfail_c HR2.out 2).mono ?_
              rintro e w2 ⟨rfl, hr3, ho3⟩
              have HR3 := hid hr3; have HO3 := hid ho3
              clear hr3 ho3
              go_wp2_with fail
              go_ret
              rw [← HN.out, HF2.out]
              exact ⟨rfl, HR3.out, (HO.out.trans HO2.out (fun _ _ e => e)).trans HO3.out (fun _ _ e => e)⟩
            · have HF2 : Hid (RdM.numL most (f' + 1) 63 acc r1 = (acc', r2)) := hid (by rw [HNL.out, if_neg (by simp [HE.out]), if_neg Hnb.out, if_pos (by omega), if_neg (by omega)])
              go_wp2_with fail
              go_ret
              rw [← HN.out, HF2.out]
              exact ⟨rfl, HR2.out, HO.out.trans HO2.out (fun _ _ e => e)⟩
          · exact absurd (by have := Htxx.out; omega : (x : Int) < 128) hlt
        · have t63 : ((sh : Int) == 63) = false := by simp; omega
          by_cases hs0 : sh = 0
          · subst hs0
            clear hbad h63
            obtain ⟨y, hy⟩ : ∃ y, x % 128 = y := ⟨_, rfl⟩
            have hand : bits .and .u8 (x : Int) 127 = ((y : Nat) : Int) := by
              have : bits .and .u8 (x : Int) 127 = ((x &&& 127 : Nat) : Int) := u8_and_nat x 127 (by omega) (by decide)
              rw [this, ← hy]; congr 1; exact Nat.and_two_pow_sub_one_eq_mod x 7
            have hyl : (y : Int) < 128 := by omega
            have hor := or_sh acc x 0 HA.out (by omega) (by omega)
            rw [hy] at hor HNL
            obtain ⟨acc', hacc'⟩ : ∃ acc', acc + y * 2 ^ 0 = acc' := ⟨_, rfl⟩
            rw [hacc'] at hor HNL
            have Hy := hid hy; have Hacc' := hid hacc'
            have hor' : bits .or .u64 (acc : Int) (y : Int) = (acc' : Int) := by
              have e : IntKind.u64.wrap ((y : Int) * 2 ^ 0) = (y : Int) := by rw [IntKind.wrap_u64]; omega
              rw [e] at hor; exact hor
            clear hy hacc' hor
            by_cases hlt : (x : Int) < 128
            · by_cases hmo : (most : Int) < (acc' : Int)
              · have HF2 : Hid (RdM.numL most (f' + 1) 0 acc r1 = (0, r2.fail 2)) := hid (by rw [HNL.out, if_neg (by simp [HE.out]), if_neg Hnb.out, if_pos (by omega), if_pos (by omega)])
                go_wp2_with fail
                refine (rfail_c HR2.out 2).mono ?_
                rintro e w2 ⟨rfl, hr3, ho3⟩
                have HR3 := hid hr3; have HO3 := hid ho3
                clear hr3 ho3
                go_wp2_with fail
                go_ret
                rw [← HN.out, HF2.out]
                exact ⟨rfl, HR3.out, (HO.out.trans HO2.out (fun _ _ e => e)).trans HO3.out (fun _ _ e => e)⟩
              · have HF2 : Hid (RdM.numL most (f' + 1) 0 acc r1 = (acc', r2)) := hid (by rw [HNL.out, if_neg (by simp [HE.out]), if_neg Hnb.out, if_pos (by omega), if_neg (by omega)])
                go_wp2_with fail
                go_ret
                rw [← HN.out, HF2.out]
                exact ⟨rfl, HR2.out, HO.out.trans HO2.out (fun _ _ e => e)⟩
            · have HF2 : Hid (RdM.numL most (f' + 1) 0 acc r1 = RdM.numL most f' (0 + 7) acc' r2) := hid (by rw [HNL.out, if_neg (by simp [HE.out]), if_neg Hnb.out, if_neg (by omega)])
              go_wp2_with fail
              go_roundw
              case rel =>
                refine ⟨f', 0 + 7, acc', r2, rfl, by go_num, by omega, by omega, ?_, by rw [← HF2.out]; exact HN.out, HR2.out, HO.out.trans HO2.out (fun _ _ e => e)⟩
                rw [← Hacc'.out, Nat.pow_add]
                exact acc_lt HA.out (by omega)
              case measure => simp [intOf]

          · have tsh : 0 < (sh : Int) := by omega
            have tx : ((x : Int) == 0) = false := by simp; omega
            have tx0 : x ≠ 0 := by omega
            have tsh2 : sh ≤ 56 := by omega
            clear hbad h63 hs0
            obtain ⟨y, hy⟩ : ∃ y, x % 128 = y := ⟨_, rfl⟩
            have hand : bits .and .u8 (x : Int) 127 = ((y : Nat) : Int) := by
              have : bits .and .u8 (x : Int) 127 = ((x &&& 127 : Nat) : Int) := u8_and_nat x 127 (by omega) (by decide)
              rw [this, ← hy]; congr 1; exact Nat.and_two_pow_sub_one_eq_mod x 7
            have hyl : (y : Int) < 128 := by omega
            have hor := or_sh acc x sh HA.out (by omega) (sh_bound tsh2)
            rw [hy] at hor HNL
            obtain ⟨acc', hacc'⟩ : ∃ acc', acc + y * 2 ^ sh = acc' := ⟨_, rfl⟩
            rw [hacc'] at hor HNL
            have Hy := hid hy; have Hacc' := hid hacc'
            clear hy hacc'
            by_cases hlt : (x : Int) < 128
            · by_cases hmo : (most : Int) < (acc' : Int)
              · have HF2 : Hid (RdM.numL most (f' + 1) sh acc r1 = (0, r2.fail 2)) := hid (by rw [HNL.out, if_neg (by simp [HE.out]), if_neg Hnb.out, if_pos (by omega), if_pos (by omega)])
                go_wp2_with fail
                refine (rfail_c HR2.out 2).mono ?_
                rintro e w2 ⟨rfl, hr3, ho3⟩
                have HR3 := hid hr3; have HO3 := hid ho3
                clear hr3 ho3
                go_wp2_with fail
                go_ret
                rw [← HN.out, HF2.out]
                exact ⟨rfl, HR3.out, (HO.out.trans HO2.out (fun _ _ e => e)).trans HO3.out (fun _ _ e => e)⟩
              · have HF2 : Hid (RdM.numL most (f' + 1) sh acc r1 = (acc', r2)) := hid (by rw [HNL.out, if_neg (by simp [HE.out]), if_neg Hnb.out, if_pos (by omega), if_neg (by omega)])
                go_wp2_with fail
                go_ret
                rw [← HN.out, HF2.out]
                exact ⟨rfl, HR2.out, HO.out.trans HO2.out (fun _ _ e => e)⟩
            · have HF2 : Hid (RdM.numL most (f' + 1) sh acc r1 = RdM.numL most f' (sh + 7) acc' r2) := hid (by rw [HNL.out, if_neg (by simp [HE.out]), if_neg Hnb.out, if_neg (by omega)])
              go_wp2_with fail
              go_roundw
              case rel =>
                refine ⟨f', sh + 7, acc', r2, rfl, by go_num, by omega, by omega, ?_, by rw [← HF2.out]; exact HN.out, HR2.out, HO.out.trans HO2.out (fun _ _ e => e)⟩
                rw [← Hacc'.out, Nat.pow_add]
                exact acc_lt HA.out (by omega)
              case measure => simp [intOf]; omega

    · have hb2 : (r2.err != 0) = true := by simp [he]
      have HF0 : Hid (RdM.numL most (f' + 1) sh acc r1 = (0, r2)) := hid (by rw [HNL.out, if_pos he])
      clear he
      go_wp2_with fail
      refine HB.out.mono ?_
      rintro e w1 ⟨rfl, hr2, ho2⟩
      have h2 : w1.cell? ⟨b, 2, none⟩ = some (.int .i64 r2.err) := let ⟨_, hp⟩ := hr2; cell_blk hp.blk 2
      have HR2 := hid hr2; have HO2 := hid ho2
      clear hr2 ho2
      go_wp2_with fail
      go_ret
      rw [← HN.out, HF0.out]
      exact ⟨rfl, HR2.out, HO.out.trans HO2.out (fun _ _ e => e)⟩

theorem num_le {r : RdM} {most : Nat} : (r.num most).1 ≤ most := by
  by_cases he : r.err = 0
  · by_cases h : (r.num most).2.err = 0
    · obtain ⟨n, post, e1, -, -, e4⟩ := num_inv he h
      rw [e1]; exact e4
    · exact numL_le most 10 0 0 r h
  · rw [num_bad he]; exact Nat.zero_le _
where
  numL_le (most : Nat) : ∀ (f sh acc : Nat) (r : RdM), (RdM.numL most f sh acc r).2.err ≠ 0 → (RdM.numL most f sh acc r).1 ≤ most
    | 0, _, _, _, _ => Nat.zero_le _
    | f + 1, sh, acc, r, h => by
      rw [RdM.numL] at h ⊢
      split at h
      · rename_i g; rw [if_pos g]; exact Nat.zero_le _
      · rename_i g
        rw [if_neg g]
        split at h
        · rename_i g2; rw [if_pos g2]; exact Nat.zero_le _
        · rename_i g2
          rw [if_neg g2]
          split at h
          · rename_i g3
            rw [if_pos g3]
            split at h
            · rename_i g4; rw [if_pos g4]; exact Nat.zero_le _
            · rename_i g4; rw [if_neg g4]; simp only; omega
          · rename_i g3
            rw [if_neg g3]
            exact numL_le most f (sh + 7) _ _ h
set_option maxRecDepth 100000 in
theorem rint_c (h : Rd w b g r) : Calls Tryz.prog 63 #[.pointer (some ⟨b, 0, none⟩)] w fun e w' => e = .returned (.int .i64 r.int.1) ∧ Rd w' b g r.int.2 ∧ Only (fun k => k = b) w w' := by
  have HN := hid (rnum_c h 18446744073709551615 (by decide))
  have hle := num_le (r := r) (most := 18446744073709551615)
  have HI : Hid (r.int = (zagN (r.num 18446744073709551615).1, (r.num 18446744073709551615).2)) := hid rfl
  obtain ⟨x, hx⟩ : ∃ x, r.num 18446744073709551615 = x := ⟨_, rfl⟩
  rw [hx] at HN HI hle
  have HZ := fun w1 => hid (zag_c (w := w1) x.1 (by omega))
  clear hx hle h
  go_enter Tryz.func63, Tryz.ntmps63
  go_wp2_with fail
  refine HN.out.mono ?_
  rintro e w1 ⟨rfl, hr, ho⟩
  have HR := hid hr; have HO := hid ho
  clear hr ho
  go_wp2_with fail
  refine (HZ _).out.mono ?_
  rintro e w2 ⟨rfl, rfl⟩
  go_wp2_with fail
  go_ret
  rw [HI.out]
  exact ⟨rfl, HR.out, HO.out⟩
set_option maxRecDepth 100000 in
theorem rtext_c (h : Rd w b g r) : Calls Tryz.prog 64 #[.pointer (some ⟨b, 0, none⟩)] w fun e w' => e = .returned (.string (strOf r.text.1)) ∧ Rd w' b g r.text.2 ∧ Only (fun k => k = b) w w' := by
  have HN := hid (rnum_c h 4096 (by decide))
  have hle := num_le (r := r) (most := 4096)
  have HI : Hid (r.text = (r.num 4096).2.take (r.num 4096).1) := hid rfl
  obtain ⟨⟨n, r1⟩, hx⟩ : ∃ x, r.num 4096 = x := ⟨_, rfl⟩
  rw [hx] at HN HI hle
  simp only at HN HI hle
  clear hx h
  have hn0 : (0 : Int) ≤ (n : Int) := by omega
  have hn1 : (n : Int) ≤ 4096 := by omega
  go_enter Tryz.func64, Tryz.ntmps64
  go_wp2_with fail
  refine HN.out.mono ?_
  rintro e w1 ⟨rfl, hr, ho⟩
  have HT := hid (rtake_c hr n (by omega))
  have HO := hid ho
  clear hr ho
  go_wp2_with fail
  refine HT.out.mono ?_
  rintro e w2 ⟨v, rfl, hs, hr2, ho2⟩
  have HR2 := hid hr2; have HO2 := hid ho2
  have hcv := conv_str hs
  obtain ⟨a, c, rfl⟩ := hs.len
  clear hr2 ho2 hs
  go_wp2_with fail
  go_ret
  rw [HI.out]
  exact ⟨rfl, HR2.out, HO.out.trans HO2.out (fun _ _ e => e)⟩
end
end Go.Proofs.YtokefeemhgcmhaaGreatDoor
namespace Go.Proofs.YtokefeemhgcmhaaGreatDoor
open Go.RowKit

mutual
/-- Four cells read as a value; the blocks that its lists lie in are of G. -/
def VAt (w : World) (G : Nat → Prop) : VT → List Value → Prop
  | .mk k n s l, cs => ∃ a cap g o, cs = [.int .i64 k, .int .i64 n, .string (strOf s), .slice a l.length cap] ∧ (l ≠ [] → a = some ⟨g, o, none⟩ ∧ G g) ∧ VLs w G l g o
def VLs (w : World) (G : Nat → Prop) : List VT → Nat → Nat → Prop
  | [], _, _ => True
  | t :: ts, g, o => (∃ cs, (∀ j u, cs[j]? = some u → w.cell? ⟨g, o + j, none⟩ = some u) ∧ VAt w G t cs) ∧ VLs w G ts g (o + 4)
end
theorem VLs.get {w : World} {G : Nat → Prop} : ∀ {l : List VT} {g o i : Nat} {t : VT}, VLs w G l g o → l[i]? = some t → ∃ cs, (∀ j u, cs[j]? = some u → w.cell? ⟨g, o + i * 4 + j, none⟩ = some u) ∧ VAt w G t cs
  | [], _, _, _, _, _, h => by simp at h
  | t' :: ts, g, o, 0, t, h, hi => by
    rw [VLs] at h
    simp only [List.getElem?_cons_zero, Option.some.injEq] at hi
    subst hi
    obtain ⟨⟨cs, h1, h2⟩, -⟩ := h
    exact ⟨cs, fun j u hj => by rw [Nat.zero_mul, Nat.add_zero]; exact h1 j u hj, h2⟩
  | t' :: ts, g, o, i + 1, t, h, hi => by
    rw [VLs] at h
    simp only [List.getElem?_cons_succ] at hi
    obtain ⟨cs, h1, h2⟩ := VLs.get h.2 hi
    exact ⟨cs, fun j u hj => by rw [show o + (i + 1) * 4 + j = o + 4 + i * 4 + j from by omega]; exact h1 j u hj, h2⟩
mutual
theorem VAt.only {w w' : World} {G F : Nat → Prop} (ho : Only F w w') (hd : ∀ k, G k → ¬ F k) : ∀ {t : VT} {cs : List Value}, VAt w G t cs → VAt w' G t cs
  | .mk k n s l, cs, h => by
    rw [VAt] at h ⊢
    obtain ⟨a, cap, g, o, h1, h2, h3⟩ := h
    refine ⟨a, cap, g, o, h1, h2, ?_⟩
    cases l with
    | nil => rw [VLs]; trivial
    | cons t ts => exact VLs.only ho hd (h2 (by simp)).2 h3
theorem VLs.only {w w' : World} {G F : Nat → Prop} (ho : Only F w w') (hd : ∀ k, G k → ¬ F k) : ∀ {l : List VT} {g o : Nat}, G g → VLs w G l g o → VLs w' G l g o
  | [], _, _, _, _ => by rw [VLs]; trivial
  | t :: ts, g, o, hg, h => by
    rw [VLs] at h ⊢
    obtain ⟨⟨cs, h1, h2⟩, h3⟩ := h
    exact ⟨⟨cs, fun j u hj => (World.cell?_of_block (ho.block g (World.block_lt_of_cell? _ _ (h1 j u hj)) (hd g hg))).trans (h1 j u hj), VAt.only ho hd h2⟩, VLs.only ho hd hg h3⟩
end
theorem VAt.same {w w' : World} {G : Nat → Prop} {t : VT} {cs : List Value} (h : VAt w G t cs) (ho : Only (fun _ => False) w w') : VAt w' G t cs := h.only ho (fun _ _ e => e)
mutual
theorem VAt.mono {w : World} {G G' : Nat → Prop} (hd : ∀ k, G k → G' k) : ∀ {t : VT} {cs : List Value}, VAt w G t cs → VAt w G' t cs
  | .mk k n s l, cs, h => by
    rw [VAt] at h ⊢
    obtain ⟨a, cap, g, o, h1, h2, h3⟩ := h
    exact ⟨a, cap, g, o, h1, fun e => ⟨(h2 e).1, hd _ (h2 e).2⟩, VLs.mono hd h3⟩
theorem VLs.mono {w : World} {G G' : Nat → Prop} (hd : ∀ k, G k → G' k) : ∀ {l : List VT} {g o : Nat}, VLs w G l g o → VLs w G' l g o
  | [], _, _, _ => by rw [VLs]; trivial
  | t :: ts, g, o, h => by
    rw [VLs] at h ⊢
    obtain ⟨⟨cs, h1, h2⟩, h3⟩ := h
    exact ⟨⟨cs, h1, VAt.mono hd h2⟩, VLs.mono hd h3⟩
end
theorem VAt.len {w : World} {G : Nat → Prop} {t : VT} {cs : List Value} (h : VAt w G t cs) : cs.length = 4 := by
  obtain ⟨k, n, s, l⟩ := t
  rw [VAt] at h
  obtain ⟨a, cap, g, o, rfl, -⟩ := h
  rfl
theorem VAt.form {w : World} {G : Nat → Prop} {t : VT} {cs : List Value} (h : VAt w G t cs) : ∃ k n s a m c, cs = [.int .i64 k, .int .i64 n, .string (strOf s), .slice a m c] := by
  obtain ⟨k, n, s, l⟩ := t
  rw [VAt] at h
  obtain ⟨a, cap, g, o, rfl, -⟩ := h
  exact ⟨_, _, _, _, _, _, rfl⟩
theorem VAt.one {w : World} {G : Nat → Prop} {t : VT} {cs : List Value} (h : VAt w G t cs) : ∀ u ∈ cs, u.oneCell' = true := by
  obtain ⟨k, n, s, l⟩ := t
  rw [VAt] at h
  obtain ⟨a, cap, g, o, rfl, -⟩ := h
  intro u hu
  simp only [List.mem_cons, List.not_mem_nil, or_false] at hu
  rcases hu with rfl | rfl | rfl | rfl <;> rfl
theorem VAt.nil (w : World) (G : Nat → Prop) : VAt w G .nil [.int .i64 0, .int .i64 0, .string (strOf []), .slice none 0 0] := by
  rw [VT.nil, VAt]; exact ⟨none, 0, 0, 0, rfl, by simp, by rw [VLs]; trivial⟩

mutual
/-- How large a value is: for proofs along its lists. -/
def VT.sz : VT → Nat
  | .mk _ _ _ l => 1 + VT.szL l
def VT.szL : List VT → Nat
  | [] => 0
  | t :: ts => t.sz + VT.szL ts
end
theorem szL_get : ∀ {l : List VT} {i : Nat} {t : VT}, l[i]? = some t → t.sz ≤ VT.szL l
  | [], _, _, h => by simp at h
  | t' :: ts, 0, t, h => by
    simp only [List.getElem?_cons_zero, Option.some.injEq] at h
    subst h; rw [VT.szL]; omega
  | t' :: ts, i + 1, t, h => by
    simp only [List.getElem?_cons_succ] at h
    have := szL_get h
    rw [VT.szL]; omega
theorem sz_pos (t : VT) : 0 < t.sz := by cases t; rw [VT.sz]; omega
theorem rgL_get : ∀ {l : List VT} {i : Nat} {t : VT}, VT.rgL l → l[i]? = some t → t.rg
  | [], _, _, _, h => by simp at h
  | t' :: ts, 0, t, hg, h => by
    simp only [List.getElem?_cons_zero, Option.some.injEq] at h
    subst h; rw [VT.rgL] at hg; exact hg.1
  | t' :: ts, i + 1, t, hg, h => by
    simp only [List.getElem?_cons_succ] at h
    rw [VT.rgL] at hg; exact rgL_get hg.2 h
theorem wrL_app : ∀ a b : List VT, VT.wrL (a ++ b) = VT.wrL a ++ VT.wrL b
  | [], b => by rw [VT.wrL]; rfl
  | t :: ts, b => by rw [List.cons_append, VT.wrL, VT.wrL, wrL_app ts b, List.append_assoc]
theorem wrL_take {l : List VT} {i : Nat} {t : VT} (h : l[i]? = some t) : VT.wrL (l.take (i + 1)) = VT.wrL (l.take i) ++ t.wr := by
  rw [List.take_add_one, h, wrL_app]
  show _ ++ VT.wrL [t] = _
  rw [VT.wrL, VT.wrL, List.append_nil]
theorem wrL_take_le : ∀ (l : List VT) (i : Nat), (VT.wrL (l.take i)).length ≤ (VT.wrL l).length
  | l, i => by
    conv => rhs; rw [← List.take_append_drop i l]
    rw [wrL_app, List.length_append]; omega

section
variable {w : World} {b : Nat} {F G : Nat → Prop} {bs : List UInt8}
/-- What Write leaves. -/
def WWrote (w : World) (b : Nat) (F : Nat → Prop) (bs : List UInt8) (e : Ending) (w' : World) : Prop := e = .returned (.tuple #[]) ∧ WStep w w' b F bs
/-- value.Write of all values so small. -/
def WriteC (n : Nat) : Prop := ∀ (t : VT), t.sz ≤ n → ∀ (w : World) (b : Nat) (F G : Nat → Prop) (bs : List UInt8) (cs : List Value), Wr w b F bs → VAt w G t cs → (∀ k, G k → ¬ F k) → (∀ k, G k → k < w.heap.size) → t.rg → bs.length + t.wr.length ≤ 990000000 →
    Calls Tryz.prog 19 #[.pointer (some ⟨b, 0, none⟩), .agg cs.toArray] w (WWrote w b F (bs ++ t.wr))
set_option maxRecDepth 100000 in
set_option maxHeartbeats 3200000 in
theorem write_step (m : Nat) (ih : WriteC m) : WriteC (m + 1) := by
  intro t hsz w b F G bs cs hW hV hd hGl hg hl
  obtain ⟨k, n, s, l⟩ := t
  rw [VAt] at hV
  obtain ⟨a, cap, g, o, rfl, ha, hLs⟩ := hV
  rw [VT.rg] at hg
  obtain ⟨hk1, hk2, hn1, hn2, hs, hll, hgl⟩ := hg
  rw [VT.wr] at hl ⊢
  rw [List.length_cons] at hl
  rw [VT.sz] at hsz
  have hFb : ¬ F w.heap.size := fun e => by have := hW.lt e; omega
  obtain ⟨y, hy⟩ : ∃ y, (k % 256).toNat = y := ⟨_, rfl⟩
  have hyk : k % 256 = (y : Int) := by omega
  have hwk : IntKind.u8.wrap k = (y : Int) := by rw [IntKind.wrap_u8]; omega
  rw [hy]
  have hyl : y < 256 := by omega
  obtain ⟨rst, hrst⟩ : ∃ x, (if k = 1 then numB (zigN n) else if k = 2 then textB s else if k = 3 then numB l.length ++ VT.wrL l else []) = x := ⟨_, rfl⟩
  rw [hrst] at hl ⊢
  have HW := hid hW; have HA := hid ha; have HL := hid hLs; have HD := hid hd; have HG := hid hgl; have HGl := hid hGl
  clear hGl
  have Hrst := hid hrst
  have hbox : (w.alloc (.cells #[.int .i64 k, .int .i64 n, .string (strOf s), .slice a l.length cap] 24)).heap[w.heap.size]? = some (.cells #[.int .i64 k, .int .i64 n, .string (strOf s), .slice a l.length cap] 24 (0, 0)) := blk_new w _
  have HB := hid hbox
  obtain ⟨q, hq⟩ : ∃ q, bs ++ [UInt8.ofNat y] = q := ⟨_, rfl⟩
  have hbl : q.length = bs.length + 1 := by rw [← hq]; simp
  have hgoal : bs ++ UInt8.ofNat y :: rst = q ++ rst := by rw [← hq]; simp
  rw [hgoal]
  have HY : Hid (Calls Tryz.prog 40 #[.pointer (some ⟨b, 0, none⟩), .slice (some ⟨w.heap.size + 1, 0, none⟩) 1 1] ((w.alloc (.cells #[.int .i64 k, .int .i64 n, .string (strOf s), .slice a l.length cap] 24)).alloc (.cells #[.int .u8 y] 5)) fun e w' => e = .returned (.tuple #[]) ∧ ∃ F1, Wr w' b F1 q ∧ Only F w w' ∧ (∀ j, F1 j → F j ∨ w.heap.size + 1 ≤ j) ∧ w'.heap[w.heap.size]? = some (.cells #[.int .i64 k, .int .i64 n, .string (strOf s), .slice a l.length cap] 24 (0, 0))) := hid (by
    have hoo : Only (fun _ => False) w ((w.alloc (.cells #[.int .i64 k, .int .i64 n, .string (strOf s), .slice a l.length cap] 24)).alloc (.cells #[.int .u8 y] 5)) := (only_new w _).trans (only_new _ _) (fun _ _ e => e)
    have hs1 : Src ((w.alloc (.cells #[.int .i64 k, .int .i64 n, .string (strOf s), .slice a l.length cap] 24)).alloc (.cells #[.int .u8 y] 5)) (.slice (some ⟨w.heap.size + 1, 0, none⟩) 1 1) [UInt8.ofNat y] := by
      have hn := blk_new (w.alloc (.cells #[.int .i64 k, .int .i64 n, .string (strOf s), .slice a l.length cap] 24)) (.cells #[.int .u8 y] 5)
      rw [World.size_alloc] at hn
      refine ⟨_, 1, rfl, fun _ => ⟨_, 0, rfl, fun i u hu => ?_⟩⟩
      rw [Nat.zero_add, cell_blk hn]
      have e : (UInt8.ofNat y).toNat = y := by simp; omega
      simpa [bytesV, e] using hu
    refine (wbyte_c (HW.out.same hoo) _ _ hs1 (by simp; omega)).mono fun e w' hh => ⟨hh.1, ?_⟩
    obtain ⟨F', h1, h2, h3⟩ := hh.2
    rw [hq] at h1
    refine ⟨F', h1, (hoo.mono (G := F) (fun _ _ e => e.elim)).trans h2 (fun _ _ e => e), fun j hj => (h3 j hj).imp id (fun e => by simp at e; omega), blk_only (blk_alloc HB.out) h2 hFb⟩)
  clear hW ha hLs hd hgl hrst hbox hy hyk hq hgoal
  go_enter Tryz.func19, Tryz.ntmps19
  go_wp2_with fail
  refine HY.out.mono ?_
  rintro e w1 ⟨rfl, F1, hW1, ho1, hF1, hb1⟩
  have c0 : w1.cell? ⟨w.heap.size, 0, none⟩ = some (.int .i64 k) := cell_blk hb1 0
  have c1 : w1.cell? ⟨w.heap.size, 1, none⟩ = some (.int .i64 n) := cell_blk hb1 1
  have c2 : w1.cell? ⟨w.heap.size, 2, none⟩ = some (.string (strOf s)) := cell_blk hb1 2
  have c3 : w1.cell? ⟨w.heap.size, 3, none⟩ = some (.slice a l.length cap) := cell_blk hb1 3
  have hF1b : ¬ F1 w.heap.size := fun e => by
    rcases hF1 _ e with e | e
    · exact hFb e
    · omega
  have HS1 := hid ho1; have HF1 : Hid (∀ j, F1 j → F j ∨ w.heap.size ≤ j) := hid (fun j hj => (hF1 j hj).imp id (by omega)); have HB1 := hid hb1; have HW1 := hid hW1
  clear hb1 ho1 hF1 hW1
  by_cases hk1' : k = 1
  · subst hk1'
    have e : numB (zigN n) = rst := by have := Hrst.out; rw [if_pos rfl] at this; exact this
    have E := hid e
    clear e
    have HI := hid (wint_c (w := w1.alloc (.cells #[.int .i64 n] 2)) (HW1.out.same (only_new w1 _)) w1.heap.size n (cell_blk (blk_new w1 _) 0) (fun e => by have := HW1.out.lt e; omega) hn1 hn2 (by omega))
    go_wp2_with fail
    refine HI.out.mono ?_
    rintro e w2 ⟨rfl, hst2⟩
    have HST2 := hid hst2
    clear hst2
    go_wp2_with fail
    go_end0
    refine ⟨rfl, ?_⟩
    have := (HST2.out.pre (only_new w1 _) (fun k hk => HW1.out.lt hk)).comp HS1.out HF1.out
    rw [E.out] at this; exact this
  have b1 : (k == 1) = false := by simpa using hk1'
  by_cases hk2' : k = 2
  · subst hk2'
    have e : textB s = rst := by have := Hrst.out; rw [if_neg (by decide), if_pos rfl] at this; exact this
    have hsl : s.length ≤ rst.length := by rw [← e]; unfold textB; rw [List.length_append]; omega
    have E := hid e
    clear e
    have HT := hid (wtext_c HW1.out s (by omega))
    go_wp2_with fail
    refine HT.out.mono ?_
    rintro e w2 ⟨rfl, hst2⟩
    have HST2 := hid hst2
    clear hst2
    go_wp2_with fail
    go_end0
    refine ⟨rfl, ?_⟩
    have := HST2.out.comp HS1.out HF1.out
    rw [E.out] at this; exact this
  have b2 : (k == 2) = false := by simpa using hk2'
  by_cases hk3' : k = 3
  · subst hk3'
    have e : numB l.length ++ VT.wrL l = rst := by have := Hrst.out; rw [if_neg (by decide), if_neg (by decide), if_pos rfl] at this; exact this
    have hwl : (VT.wrL l).length + (numB l.length).length = rst.length := by rw [← e, List.length_append]; omega
    have E := hid e
    clear e
    have HN := hid (wnum1_c (w := w1.alloc (.cells #[.int .u64 l.length] 70)) HW1.out l.length (by omega) (by omega) rfl)
    go_wp2_with fail
    refine HN.out.mono ?_
    rintro e w2 ⟨rfl, hst2⟩
    obtain ⟨F2, hW2, ho2, hF2⟩ := hst2
    have hb2 := blk_only HB1.out ho2 hF1b
    have d3 : w2.cell? ⟨w.heap.size, 3, none⟩ = some (.slice a l.length cap) := cell_blk hb2 3
    have HST2 : Hid (WStep w w2 b F (q ++ numB l.length)) := hid (WStep.comp HS1.out HF1.out ⟨F2, hW2, ho2, hF2⟩)
    have HB2 := hid hb2
    clear hW2 ho2 hF2 hb2
    obtain ⟨q2, hq2⟩ : ∃ q2, q ++ numB l.length = q2 := ⟨_, rfl⟩
    have hq2l : q2.length = q.length + (numB l.length).length := by rw [← hq2, List.length_append]
    rw [hq2] at HST2
    have Hq2 := hid hq2
    clear hq2
    go_wp2_with fail
    go_loopw [39] (fun i wr => ∃ j : Nat, i = .int .i64 j ∧ j ≤ l.length ∧ WStep w wr b F (q2 ++ VT.wrL (l.take j))) (fun i _ => l.length - (intOf i).toNat)
    case atStart => exact ⟨0, rfl, Nat.zero_le _, by simpa [VT.wrL] using HST2.out⟩
    case round =>
      obtain ⟨j, rfl, hj, hst⟩ := hrel
      have HS := hid hst
      clear hst d3
      by_cases hjl : j < l.length
      · have hji : (j : Int) < l.length := by omega
        obtain ⟨t, ht⟩ : ∃ t, l[j]? = some t := ⟨_, List.getElem?_eq_getElem hjl⟩
        obtain ⟨rfl, hGg⟩ := HA.out (by rintro rfl; simp at hjl)
        obtain ⟨cs, hcs, hVt⟩ := HL.out.get ht
        have htg := rgL_get HG.out ht
        have htz := szL_get ht
        have hwt := wrL_take ht
        have htl := wrL_take_le l (j + 1)
        rw [hwt, List.length_append] at htl
        obtain ⟨F3, hW3, ho3, hF3⟩ := HS.out
        have hcw : ∀ i u, cs[i]? = some u → wr.cell? ⟨g, o + j * 4 + i, none⟩ = some u := fun i u hu =>
          (World.cell?_of_block (ho3.block g (World.block_lt_of_cell? _ _ (hcs i u hu)) (HD.out g hGg))).trans (hcs i u hu)
        have hVw := hVt.only ho3 HD.out
        obtain ⟨kx, nx, sx, ax, mx, cx, rfl⟩ := hVt.form
        have e0 := hcw 0 _ rfl
        rw [Nat.add_zero] at e0
        have e1 := hcw 1 _ rfl
        have e2 := hcw 2 _ rfl
        have e3 := hcw 3 _ rfl
        have HC := hid (ih t (by omega) (wr.alloc (.cells #[.int .i64 kx, .int .i64 nx, .string (strOf sx), .slice ax mx cx] 24)) b F3 G _ [.int .i64 kx, .int .i64 nx, .string (strOf sx), .slice ax mx cx] (hW3.same (only_new wr _)) (hVw.same (only_new wr _)) (fun i hi hf => by
          rcases hF3 i hf with e | e
          · exact HD.out i hi e
          · have := HGl.out i hi; omega) (fun i hi => by have := HGl.out i hi; have := ho3.size; simp; omega) htg (by rw [List.length_append]; omega))
        have HO3 := hid ho3; have HF3 := hid hF3; have HW3 := hid hW3
        have Hwt := hid hwt
        clear hcs hVt htg hwt ho3 hF3 hcw hVw ht hW3
        go_wp2_with (go_at_call 19; refine HC.out.mono ?_; rintro e w4 ⟨rfl, hst4⟩; have HST4 := hid hst4; clear hst4)
        go_roundw
        case rel =>
          refine ⟨j + 1, by go_num, by omega, ?_⟩
          rw [Hwt.out, ← List.append_assoc]
          exact (HST4.out.pre (only_new wr _) (fun i hi => HW3.out.lt hi)).comp HO3.out HF3.out
        case measure => simp [intOf]; omega
      · obtain rfl : j = l.length := by omega
        go_wp2_with fail
        go_end0
        have := HS.out
        rw [List.take_length, ← Hq2.out, List.append_assoc, E.out] at this
        exact ⟨rfl, this⟩
  · have b3 : (k == 3) = false := by simpa using hk3'
    have e : rst = [] := by have := Hrst.out; rw [if_neg hk1', if_neg hk2', if_neg hk3'] at this; exact this.symm
    subst e
    clear hk1' hk2' hk3'
    go_wp2_with fail
    go_end0
    exact ⟨rfl, by rw [List.append_nil]; exact ⟨F1, HW1.out, HS1.out, HF1.out⟩⟩
theorem writeC : ∀ m, WriteC m
  | 0 => fun t h => by have := sz_pos t; omega
  | m + 1 => write_step m (writeC m)
theorem vwrite_c {t : VT} {cs : List Value} (hW : Wr w b F bs) (hV : VAt w G t cs) (hd : ∀ k, G k → ¬ F k) (hG : ∀ k, G k → k < w.heap.size) (hg : t.rg) (hl : bs.length + t.wr.length ≤ 990000000) :
    Calls Tryz.prog 19 #[.pointer (some ⟨b, 0, none⟩), .agg cs.toArray] w fun e w' => e = .returned (.tuple #[]) ∧ WStep w w' b F (bs ++ t.wr) :=
  writeC t.sz t (Nat.le_refl _) w b F G bs cs hW hV hd hG hg hl
end
end Go.Proofs.YtokefeemhgcmhaaGreatDoor
namespace Go.Proofs.YtokefeemhgcmhaaGreatDoor
open Go.RowKit

mutual
theorem walk_le : ∀ (t : VT) (d p : Nat) (e : Int), (e = 0 → p ≤ 256) → (t.walk d p e).2 = 0 → (t.walk d p e).1 ≤ 256
  | .mk k n s l, d, p, e, hi, h => by
    rw [VT.walk] at h ⊢
    by_cases he : e ≠ 0
    · rw [if_pos he] at h ⊢; exact absurd h he
    rw [if_neg he] at h ⊢
    by_cases hp : 256 < p + 1
    · rw [if_pos hp] at h; simp at h
    rw [if_neg hp] at h ⊢
    by_cases h01 : k = 0 ∨ k = 1
    · rw [if_pos h01]; simp only; omega
    rw [if_neg h01] at h ⊢
    by_cases h2 : k = 2
    · rw [if_pos h2]; simp only; omega
    rw [if_neg h2] at h ⊢
    by_cases h3 : k = 3
    · rw [if_pos h3] at h ⊢; exact walkL_le l _ _ _ (fun _ => by omega) h
    rw [if_neg h3]; simp only; omega
theorem walkL_le : ∀ (l : List VT) (d p : Nat) (e : Int), (e = 0 → p ≤ 256) → (VT.walkL d p e l).2 = 0 → (VT.walkL d p e l).1 ≤ 256
  | [], d, p, e, hi, h => by rw [VT.walkL] at h ⊢; exact hi h
  | t :: ts, d, p, e, hi, h => by
    rw [VT.walkL] at h ⊢
    by_cases he : e ≠ 0
    · rw [if_pos he] at h; exact absurd h he
    rw [if_neg he] at h ⊢
    exact walkL_le ts _ _ _ (walk_le t d p e hi) h
end
def Cnt (w : World) (c : Nat) (p : Nat) (e : Int) : Prop := w.heap[c]? = some (.cells #[.int .i64 p, .int .i64 e] 51 (0, 0))
theorem Cnt.set0 {w : World} {c p : Nat} {e : Int} (h : Cnt w c p e) (q : Nat) : Cnt (w.setCell ⟨c, 0, none⟩ (.int .i64 q)) c q e := by
  have := blk_set h 0 (.int .i64 q)
  unfold Cnt
  simpa using this
theorem Cnt.set1 {w : World} {c p : Nat} {e : Int} (h : Cnt w c p e) (q : Int) : Cnt (w.setCell ⟨c, 1, none⟩ (.int .i64 q)) c p q := by
  have := blk_set h 1 (.int .i64 q)
  unfold Cnt
  simpa using this
/-- What walk leaves. -/
def Walked (w : World) (c : Nat) (x : Nat × Int) (e : Ending) (w' : World) : Prop := e = .returned (.tuple #[]) ∧ Cnt w' c x.1 x.2 ∧ Only (fun k => k = c) w w'
def WalkC (n : Nat) : Prop := ∀ (t : VT), t.sz ≤ n → ∀ (w : World) (c : Nat) (G : Nat → Prop) (cs : List Value) (d p : Nat) (e : Int), Cnt w c p e → VAt w G t cs → ¬ G c → (∀ k, G k → k < w.heap.size) → d ≤ 8 → (e = 0 → p ≤ 256) →
    Calls Tryz.prog 18 #[.pointer (some ⟨c, 0, none⟩), .agg cs.toArray, .int .i64 d] w (Walked w c (t.walk d p e))
section
variable {w : World}
theorem cnt1 {c p : Nat} {e : Int} (h : Cnt w c p e) (v : Int) (q : Nat) (hv : v = q) (o : Obj) : Cnt ((w.setCell ⟨c, 0, none⟩ (.int .i64 v)).alloc o) c q e ∧ Only (fun k => k = c) w ((w.setCell ⟨c, 0, none⟩ (.int .i64 v)).alloc o) := by
  subst hv
  exact ⟨blk_alloc (h.set0 q), (only_set _ _ _).trans (only_new _ _) (fun _ _ e => e.elim)⟩
theorem cnt2 {c p : Nat} {e : Int} (h : Cnt w c p e) (v : Int) (q : Nat) (hv : v = q) (e' : Int) (o : Obj) : Cnt (((w.setCell ⟨c, 0, none⟩ (.int .i64 v)).setCell ⟨c, 1, none⟩ (.int .i64 e')).alloc o) c q e' ∧ Only (fun k => k = c) w (((w.setCell ⟨c, 0, none⟩ (.int .i64 v)).setCell ⟨c, 1, none⟩ (.int .i64 e')).alloc o) := by
  subst hv
  exact ⟨blk_alloc ((h.set0 q).set1 e'), ((only_set _ _ _).trans (only_set _ _ _) (fun _ _ e => e)).trans (only_new _ _) (fun _ _ e => e.elim)⟩
set_option maxRecDepth 100000 in
set_option maxHeartbeats 3200000 in
theorem walk_step (m : Nat) (ih : WalkC m) : WalkC (m + 1) := by
  intro t hsz w c G cs d p e hC hV hGc hGl hd hi
  obtain ⟨k, n, s, l⟩ := t
  rw [VAt] at hV
  obtain ⟨a, cap, g, o, rfl, ha, hLs⟩ := hV
  rw [VT.sz] at hsz
  have hcw := blk_lt hC
  have HC := hid hC; have HA := hid ha; have HL := hid hLs; have HGc := hid hGc; have HGl := hid hGl
  have HWK : Hid (VT.walk d p e (.mk k n s l) = if e ≠ 0 then (p, e) else if 256 < p + 1 then (p + 1, 2) else if k = 0 ∨ k = 1 then (p + 1, 0) else if k = 2 then (p + 1, if 256 < s.length then 2 else 0) else if k = 3 then VT.walkL (d + 1) (p + 1) (if 8 ≤ d then 30 else if 64 < l.length then 2 else 0) l else (p + 1, 9)) := hid (by rw [VT.walk])
  have hsl : (strOf s).size = s.length := rfl
  -- the world with the value boxed
  have Hb0 : Hid (Cnt (w.alloc (.cells #[.int .i64 k, .int .i64 n, .string (strOf s), .slice a l.length cap] 24)) c p e) := hid (blk_alloc hC)
  have q0 : w.cell? ⟨c, 0, none⟩ = some (.int .i64 p) := cell_blk hC 0
  have q1 : w.cell? ⟨c, 1, none⟩ = some (.int .i64 e) := cell_blk hC 1
  have qz := frozen_blk hC
  have hne : ¬ w.heap.size = c := by omega
  have hne2 : ¬ c = w.heap.size := by omega
  clear hC ha hLs hGc hGl
  by_cases he : e = 0
  · subst he
    have hp : p ≤ 256 := hi rfl
    clear hi
    have hpi : (p : Int) ≤ 256 := by omega
    by_cases h256 : 256 < p + 1
    · obtain rfl : p = 256 := by omega
      have HF : Hid (VT.walk d 256 0 (.mk k n s l) = (257, 2)) := hid (by rw [HWK.out, if_neg (by simp), if_pos (by decide)])
      clear h256
      go_enter Tryz.func18, Tryz.ntmps18
      go_wp2_with fail
      go_end0
      rw [HF.out]
      exact ⟨rfl, cnt2 HC.out _ 257 rfl 2 _⟩
    have hp1 : (p : Int) + 1 ≤ 256 := by omega
    by_cases h01 : k = 0 ∨ k = 1
    · have HF : Hid (VT.walk d p 0 (.mk k n s l) = (p + 1, 0)) := hid (by rw [HWK.out, if_neg (by simp), if_neg h256, if_pos h01])
      clear h256
      rcases h01 with rfl | rfl
      all_goals
        go_enter Tryz.func18, Tryz.ntmps18
        go_wp2_with fail
        go_end0
        rw [HF.out]
        exact ⟨rfl, cnt1 HC.out _ (p + 1) (by omega) _⟩
    have k0 : k ≠ 0 := fun e => h01 (.inl e)
    have k1 : k ≠ 1 := fun e => h01 (.inr e)
    by_cases h2 : k = 2
    · subst h2
      by_cases hs : 256 < (s.length : Int)
      · have HF : Hid (VT.walk d p 0 (.mk 2 n s l) = (p + 1, 2)) := hid (by rw [HWK.out, if_neg (by simp), if_neg h256, if_neg h01, if_pos rfl, if_pos (by omega)])
        clear h256 h01
        go_enter Tryz.func18, Tryz.ntmps18
        go_wp2_with fail
        go_end0
        rw [HF.out]
        exact ⟨rfl, cnt2 HC.out _ (p + 1) (by omega) 2 _⟩
      · have HF : Hid (VT.walk d p 0 (.mk 2 n s l) = (p + 1, 0)) := hid (by rw [HWK.out, if_neg (by simp), if_neg h256, if_neg h01, if_pos rfl, if_neg (by omega)])
        clear h256 h01
        go_enter Tryz.func18, Tryz.ntmps18
        go_wp2_with fail
        go_end0
        rw [HF.out]
        exact ⟨rfl, cnt1 HC.out _ (p + 1) (by omega) _⟩
    have b0 : (k == 0) = false := by simpa using k0
    have b1 : (k == 1) = false := by simpa using k1
    have b2 : (k == 2) = false := by simpa using h2
    by_cases h3 : k = 3
    · subst h3
      by_cases hd8 : 8 ≤ (d : Int)
      · have HFN : Hid (VT.walk d p 0 (.mk 3 n s l) = VT.walkL (d + 1) (p + 1) 30 l) := hid (by rw [HWK.out, if_neg (by simp), if_neg h256, if_neg h01, if_neg h2, if_pos rfl, if_pos (by omega)])
        clear h256 h01 k0 k1 h2
        go_enter Tryz.func18, Tryz.ntmps18
        go_wp2_with fail
        have Hs0 : Hid (Cnt (((w.setCell ⟨c, 0, none⟩ (.int .i64 ((p : Int) + 1))).setCell ⟨c, 1, none⟩ (.int .i64 30)).alloc (.cells #[.int .i64 3, .int .i64 n, .string (strOf s), .slice a l.length cap] 24)) c (p + 1) (30 : Int) ∧ Only (fun k => k = c) w (((w.setCell ⟨c, 0, none⟩ (.int .i64 ((p : Int) + 1))).setCell ⟨c, 1, none⟩ (.int .i64 30)).alloc (.cells #[.int .i64 3, .int .i64 n, .string (strOf s), .slice a l.length cap] 24))) := hid (cnt2 HC.out _ (p + 1) (by omega) 30 _)
        have HF : Hid (VT.walkL (d + 1) (p + 1) (30 : Int) l = (p + 1, (30 : Int))) := hid (walkL_bad _ _ _ _ (by decide))
        go_loopw [64] (fun i wr => i = .int .i64 0 ∧ Cnt wr c (p + 1) (30 : Int) ∧ Only (fun k => k = c) w wr) (fun _ _ => 0)
        case atStart => exact ⟨rfl, Hs0.out.1, Hs0.out.2⟩
        case round =>
          obtain ⟨rfl, hCj, hoj⟩ := hrel
          have r1 : wr.cell? ⟨c, 1, none⟩ = some (.int .i64 (30 : Int)) := cell_blk hCj 1
          have hcr := blk_lt hCj
          have HCj := hid hCj; have Hoj := hid hoj
          clear hCj hoj
          by_cases hjl : 0 < l.length
          · have hji : (0 : Int) < l.length := by omega
            obtain ⟨t, ht⟩ : ∃ t, l[0]? = some t := ⟨_, List.getElem?_eq_getElem hjl⟩
            obtain ⟨rfl, hGg⟩ := HA.out (by rintro rfl; simp at hjl)
            obtain ⟨cs, hcs, hVt⟩ := HL.out.get ht
            have hGc' : ∀ i, G i → ¬ i = c := fun i hi e => HGc.out (e ▸ hi)
            have hcw : ∀ i u, cs[i]? = some u → wr.cell? ⟨g, o + i, none⟩ = some u := fun i u hu => by
              have h1 := hcs i u hu
              rw [Nat.zero_mul, Nat.add_zero] at h1
              exact (World.cell?_of_block (Hoj.out.block g (World.block_lt_of_cell? _ _ h1) (hGc' g hGg))).trans h1
            obtain ⟨kx, nx, sx, ax, mx, cx, rfl⟩ := hVt.form
            have e0 := hcw 0 _ rfl
            rw [Nat.add_zero] at e0
            have e1 := hcw 1 _ rfl
            have e2 := hcw 2 _ rfl
            have e3 := hcw 3 _ rfl
            clear hcs hVt hcw ht
            go_wp2_with fail
            go_end0
            rw [HFN.out, HF.out]
            exact ⟨rfl, blk_alloc HCj.out, Hoj.out.trans (only_new _ _) (fun _ _ e => e.elim)⟩
          · obtain hl0 : l.length = 0 := by omega
            have hl1 : ¬ (0 : Int) < l.length := by omega
            go_wp2_with fail
            go_end0
            rw [HFN.out, HF.out]
            exact ⟨rfl, HCj.out, Hoj.out⟩
      · by_cases hl64 : 64 < (l.length : Int)
        · have HFN : Hid (VT.walk d p 0 (.mk 3 n s l) = VT.walkL (d + 1) (p + 1) 2 l) := hid (by rw [HWK.out, if_neg (by simp), if_neg h256, if_neg h01, if_neg h2, if_pos rfl, if_neg (by omega), if_pos (by omega)])
          clear h256 h01 k0 k1 h2
          go_enter Tryz.func18, Tryz.ntmps18
          go_wp2_with fail
          have Hs0 : Hid (Cnt (((w.setCell ⟨c, 0, none⟩ (.int .i64 ((p : Int) + 1))).setCell ⟨c, 1, none⟩ (.int .i64 2)).alloc (.cells #[.int .i64 3, .int .i64 n, .string (strOf s), .slice a l.length cap] 24)) c (p + 1) (2 : Int) ∧ Only (fun k => k = c) w (((w.setCell ⟨c, 0, none⟩ (.int .i64 ((p : Int) + 1))).setCell ⟨c, 1, none⟩ (.int .i64 2)).alloc (.cells #[.int .i64 3, .int .i64 n, .string (strOf s), .slice a l.length cap] 24))) := hid (cnt2 HC.out _ (p + 1) (by omega) 2 _)
          have HF : Hid (VT.walkL (d + 1) (p + 1) (2 : Int) l = (p + 1, (2 : Int))) := hid (walkL_bad _ _ _ _ (by decide))
          go_loopw [64] (fun i wr => i = .int .i64 0 ∧ Cnt wr c (p + 1) (2 : Int) ∧ Only (fun k => k = c) w wr) (fun _ _ => 0)
          case atStart => exact ⟨rfl, Hs0.out.1, Hs0.out.2⟩
          case round =>
            obtain ⟨rfl, hCj, hoj⟩ := hrel
            have r1 : wr.cell? ⟨c, 1, none⟩ = some (.int .i64 (2 : Int)) := cell_blk hCj 1
            have hcr := blk_lt hCj
            have HCj := hid hCj; have Hoj := hid hoj
            clear hCj hoj
            by_cases hjl : 0 < l.length
            · have hji : (0 : Int) < l.length := by omega
              obtain ⟨t, ht⟩ : ∃ t, l[0]? = some t := ⟨_, List.getElem?_eq_getElem hjl⟩
              obtain ⟨rfl, hGg⟩ := HA.out (by rintro rfl; simp at hjl)
              obtain ⟨cs, hcs, hVt⟩ := HL.out.get ht
              have hGc' : ∀ i, G i → ¬ i = c := fun i hi e => HGc.out (e ▸ hi)
              have hcw : ∀ i u, cs[i]? = some u → wr.cell? ⟨g, o + i, none⟩ = some u := fun i u hu => by
                have h1 := hcs i u hu
                rw [Nat.zero_mul, Nat.add_zero] at h1
                exact (World.cell?_of_block (Hoj.out.block g (World.block_lt_of_cell? _ _ h1) (hGc' g hGg))).trans h1
              obtain ⟨kx, nx, sx, ax, mx, cx, rfl⟩ := hVt.form
              have e0 := hcw 0 _ rfl
              rw [Nat.add_zero] at e0
              have e1 := hcw 1 _ rfl
              have e2 := hcw 2 _ rfl
              have e3 := hcw 3 _ rfl
              clear hcs hVt hcw ht
              go_wp2_with fail
              go_end0
              rw [HFN.out, HF.out]
              exact ⟨rfl, blk_alloc HCj.out, Hoj.out.trans (only_new _ _) (fun _ _ e => e.elim)⟩
            · obtain hl0 : l.length = 0 := by omega
              have hl1 : ¬ (0 : Int) < l.length := by omega
              go_wp2_with fail
              go_end0
              rw [HFN.out, HF.out]
              exact ⟨rfl, HCj.out, Hoj.out⟩
        · have HFN : Hid (VT.walk d p 0 (.mk 3 n s l) = VT.walkL (d + 1) (p + 1) 0 l) := hid (by rw [HWK.out, if_neg (by simp), if_neg h256, if_neg h01, if_neg h2, if_pos rfl, if_neg (by omega), if_neg (by omega)])
          have hd1 : ((d : Int) + 1) ≤ 8 := by omega
          clear h256 h01 k0 k1 h2
          go_enter Tryz.func18, Tryz.ntmps18
          go_wp2_with fail
          have Hs0 : Hid (Cnt ((w.setCell ⟨c, 0, none⟩ (.int .i64 ((p : Int) + 1))).alloc (.cells #[.int .i64 3, .int .i64 n, .string (strOf s), .slice a l.length cap] 24)) c (p + 1) (0 : Int) ∧ Only (fun k => k = c) w ((w.setCell ⟨c, 0, none⟩ (.int .i64 ((p : Int) + 1))).alloc (.cells #[.int .i64 3, .int .i64 n, .string (strOf s), .slice a l.length cap] 24))) := hid (cnt1 HC.out _ (p + 1) (by omega) _)
          go_loopw [64] (fun i wr => ∃ (j pj : Nat) (ej : Int), i = .int .i64 j ∧ j ≤ l.length ∧ Cnt wr c pj ej ∧ VT.walkL (d + 1) (p + 1) (0 : Int) l = VT.walkL (d + 1) pj ej (l.drop j) ∧ Only (fun k => k = c) w wr ∧ (ej = 0 → pj ≤ 256)) (fun i _ => l.length - (intOf i).toNat)
          case atStart => exact ⟨0, p + 1, (0 : Int), rfl, Nat.zero_le _, Hs0.out.1, rfl, Hs0.out.2, fun _ => by omega⟩
          case round =>
            obtain ⟨j, pj, ej, rfl, hj, hCj, hwj, hoj, hij⟩ := hrel
            have r1 : wr.cell? ⟨c, 1, none⟩ = some (.int .i64 ej) := cell_blk hCj 1
            have hcr := blk_lt hCj
            have HCj := hid hCj; have Hwj := hid hwj; have Hoj := hid hoj
            clear hCj hwj hoj
            by_cases hjl : j < l.length
            · have hji : (j : Int) < l.length := by omega
              obtain ⟨t, ht⟩ : ∃ t, l[j]? = some t := ⟨_, List.getElem?_eq_getElem hjl⟩
              obtain ⟨rfl, hGg⟩ := HA.out (by rintro rfl; simp at hjl)
              obtain ⟨cs, hcs, hVt⟩ := HL.out.get ht
              have hdrop : l.drop j = t :: l.drop (j + 1) := by rw [List.drop_eq_getElem_cons hjl]; congr 1; rw [List.getElem?_eq_getElem hjl] at ht; exact Option.some.inj ht
              have htz := szL_get ht
              have hGc' : ∀ i, G i → ¬ i = c := fun i hi e => HGc.out (e ▸ hi)
              have hcw : ∀ i u, cs[i]? = some u → wr.cell? ⟨g, o + j * 4 + i, none⟩ = some u := fun i u hu =>
                (World.cell?_of_block (Hoj.out.block g (World.block_lt_of_cell? _ _ (hcs i u hu)) (hGc' g hGg))).trans (hcs i u hu)
              have hVw := hVt.only Hoj.out hGc'
              obtain ⟨kx, nx, sx, ax, mx, cx, rfl⟩ := hVt.form
              have e0 := hcw 0 _ rfl
              rw [Nat.add_zero] at e0
              have e1 := hcw 1 _ rfl
              have e2 := hcw 2 _ rfl
              have e3 := hcw 3 _ rfl
              by_cases hej : ej = 0
              · subst hej
                have HCw : Hid (Cnt (wr.alloc (.cells #[.int .i64 kx, .int .i64 nx, .string (strOf sx), .slice ax mx cx] 24)) c pj 0) := hid (blk_alloc HCj.out)
                have HCL := hid (ih t (by omega) (wr.alloc (.cells #[.int .i64 kx, .int .i64 nx, .string (strOf sx), .slice ax mx cx] 24)) c G [.int .i64 kx, .int .i64 nx, .string (strOf sx), .slice ax mx cx] (d + 1) pj 0 HCw.out (hVw.same (only_new wr _)) HGc.out (fun i hi => by have := HGl.out i hi; have := Hoj.out.size; simp; omega) (by omega) hij)
                have Hdr := hid hdrop; have Hij := hid (hij rfl)
                clear hcs hVt hcw hVw ht hdrop hij
                go_wp2_with (go_at_call 18; refine HCL.out.mono ?_; rintro e w4 ⟨rfl, hC4, ho4⟩; have HC4 := hid hC4; have HO4 := hid ho4; clear hC4 ho4)
                go_roundw
                case rel =>
                  refine ⟨j + 1, _, _, by go_num, by omega, HC4.out, ?_, Hoj.out.trans (((only_new wr _).mono (G := fun k => k = c) (fun _ _ e => e.elim)).trans HO4.out (fun _ _ e => e)) (fun _ _ e => e), walk_le t _ _ _ (fun _ => ?_)⟩
                  · rw [Hwj.out, Hdr.out, VT.walkL, if_neg (by simp)]
                  · exact Hij.out
                case measure => simp [intOf]; omega
              · have hbe : (ej == 0) = false := by simpa using hej
                have hbe2 : (ej != 0) = true := by simpa using hej
                have HF : Hid (VT.walkL (d + 1) (p + 1) (0 : Int) l = (pj, ej)) := hid (by rw [Hwj.out]; exact walkL_bad _ _ _ _ hej)
                clear hcs hVt hcw hVw ht hdrop hij hej
                go_wp2_with fail
                go_end0
                rw [HFN.out, HF.out]
                exact ⟨rfl, blk_alloc HCj.out, Hoj.out.trans (only_new _ _) (fun _ _ e => e.elim)⟩
            · obtain rfl : j = l.length := by omega
              have HF : Hid (VT.walkL (d + 1) (p + 1) (0 : Int) l = (pj, ej)) := hid (by rw [Hwj.out, List.drop_length, VT.walkL])
              go_wp2_with fail
              go_end0
              rw [HFN.out, HF.out]
              exact ⟨rfl, HCj.out, Hoj.out⟩
    · have b3 : (k == 3) = false := by simpa using h3
      have HF : Hid (VT.walk d p 0 (.mk k n s l) = (p + 1, 9)) := hid (by rw [HWK.out, if_neg (by simp), if_neg h256, if_neg h01, if_neg h2, if_neg h3])
      clear h256 h01 k0 k1 h2 h3
      go_enter Tryz.func18, Tryz.ntmps18
      go_wp2_with fail
      go_end0
      rw [HF.out]
      exact ⟨rfl, cnt2 HC.out _ (p + 1) (by omega) 9 _⟩
  · have hbe : (e == 0) = false := by simpa using he
    have hbe2 : (e != 0) = true := by simpa using he
    have HF : Hid (VT.walk d p e (.mk k n s l) = (p, e)) := hid (walk_bad _ _ _ _ he)
    clear he hi
    go_enter Tryz.func18, Tryz.ntmps18
    go_wp2_with fail
    go_end0
    rw [HF.out]
    exact ⟨rfl, Hb0.out, (only_new w _).mono (fun _ _ e => e.elim)⟩
theorem walkC : ∀ m, WalkC m
  | 0 => fun t h => by have := sz_pos t; omega
  | m + 1 => walk_step m (walkC m)

mutual
theorem wr_len : ∀ (t : VT) (d p q : Nat), t.walk d p 0 = (q, 0) → t.wr.length + 300 * p ≤ 300 * q
  | .mk k n s l, d, p, q, h => by
    obtain ⟨hp, his⟩ := walk_is h
    rw [VT.wr, List.length_cons]
    cases his with
    | nil _ _ _ hq => simp; omega
    | int _ _ _ hq => have := numB_len (zigN n); simp; omega
    | text _ _ _ hq hs => have := numB_len s.length; simp [textB]; omega
    | list _ _ _ _ _ hl =>
      have := numB_len l.length
      have := wrL_len l (d + 1) (p + 1) q hl
      simp; omega
theorem wrL_len : ∀ (l : List VT) (d p q : Nat), VT.walkL d p 0 l = (q, 0) → (VT.wrL l).length + 300 * p ≤ 300 * q
  | [], d, p, q, h => by rw [VT.walkL] at h; rw [VT.wrL]; have := congrArg Prod.fst h; simp at this ⊢; omega
  | t :: ts, d, p, q, h => by
    obtain ⟨q1, h1, h2⟩ := walkL_cons h
    have e1 := wr_len t d p q1 h1
    have e2 := wrL_len ts d q1 q h2
    rw [VT.wrL, List.length_append]; omega
end
set_option maxRecDepth 100000 in
set_option maxHeartbeats 800000 in
theorem vcheck_c {G : Nat → Prop} {t : VT} {cs : List Value} (hV : VAt w G t cs) (hG : ∀ k, G k → k < w.heap.size) (hg : t.rg) :
    Calls Tryz.prog 6 #[.agg cs.toArray] w fun e w' => e = .returned (.int .i64 t.chk) ∧ Only (fun _ => False) w w' := by
  have HV := hid hV; have HG := hid hG; have Hg := hid hg
  obtain ⟨k, n, s, a, m, c, rfl⟩ := hV.form
  clear hV hG hg
  have hK := walkC t.sz t (Nat.le_refl _) ((w.alloc (.cells #[.int .i64 k, .int .i64 n, .string (strOf s), .slice a m c] 24)).alloc (.cells #[.int .i64 0, .int .i64 0] 51)) (w.heap.size + 1) G _ 0 0 0 (by have := blk_new (w.alloc (.cells #[.int .i64 k, .int .i64 n, .string (strOf s), .slice a m c] 24)) (.cells #[.int .i64 0, .int .i64 0] 51); rw [World.size_alloc] at this; exact this)
    (HV.out.same ((only_new w _).trans (only_new _ _) (fun _ _ e => e))) (fun e => by have := HG.out _ e; omega) (fun j hj => by have := HG.out j hj; simp; omega) (by omega) (fun _ => by omega)
  have HK := hid hK
  clear hK
  obtain ⟨⟨p1, e1⟩, hwk⟩ : ∃ x, t.walk 0 0 0 = x := ⟨_, rfl⟩
  rw [hwk] at HK
  have Hwk := hid hwk
  clear hwk
  go_enter Tryz.func6, Tryz.ntmps6
  go_wp2_with fail
  refine HK.out.mono ?_
  rintro e w1 ⟨rfl, hC, ho⟩
  have ho' : Only (fun _ => False) w w1 := ((only_new w (.cells #[.int .i64 k, .int .i64 n, .string (strOf s), .slice a m c] 24)).trans (only_new _ (.cells #[.int .i64 0, .int .i64 0] 51)) (fun _ _ e => e)).trans ho (fun j hj e => by have e' : j = w.heap.size + 1 := e; omega)
  have hb1 := blk_only (blk_alloc (o' := .cells #[.int .i64 0, .int .i64 0] 51) (blk_new w (.cells #[.int .i64 k, .int .i64 n, .string (strOf s), .slice a m c] 24))) ho (by show ¬ w.heap.size = w.heap.size + 1; omega)
  have c1 : w1.cell? ⟨w.heap.size + 1, 1, none⟩ = some (.int .i64 e1) := cell_blk hC 1
  have b0 : w1.cell? ⟨w.heap.size, 0, none⟩ = some (.int .i64 k) := cell_blk hb1 0
  have b1 : w1.cell? ⟨w.heap.size, 1, none⟩ = some (.int .i64 n) := cell_blk hb1 1
  have b2 : w1.cell? ⟨w.heap.size, 2, none⟩ = some (.string (strOf s)) := cell_blk hb1 2
  have b3 : w1.cell? ⟨w.heap.size, 3, none⟩ = some (.slice a m c) := cell_blk hb1 3
  have hlt := blk_lt hb1
  have HO := hid ho'
  clear hC ho ho' hb1
  by_cases he : e1 = 0
  · subst he
    have hwl := wr_len t 0 0 p1 Hwk.out
    have hwp := walk_le t 0 0 0 (fun _ => by omega) (by rw [Hwk.out])
    rw [Hwk.out] at hwp
    simp only at hwp
    have HW := hid (vwrite_c (w := w1.alloc (.cells #[.slice none 0 0] 54)) (b := w1.heap.size) (bs := []) (Wr.new (blk_new w1 _)) (HV.out.same (HO.out.trans (only_new w1 _) (fun _ _ e => e))) (fun j hj e => by have := HG.out j hj; have := HO.out.size; have e' : j = w1.heap.size := e; omega) (fun j hj => by have := HG.out j hj; have := HO.out.size; simp; omega) Hg.out (by simp; omega))
    have hwl' : t.wr.length ≤ 990000000 := by omega
    clear hwl hwp
    go_wp2_with fail
    refine HW.out.mono ?_
    rintro e w2 ⟨rfl, F2, hW2, ho2, hF2⟩
    rw [List.nil_append] at hW2
    have HLn := hid (wlen_c hW2)
    have HO2 : Hid (Only (fun _ => False) w w2) := hid (HO.out.trans ((only_new w1 _).trans ho2 (fun j hj e => by have e' : j = w1.heap.size := e; omega)) (fun _ _ e => e))
    clear hW2 ho2 hF2
    go_wp2_with fail
    refine HLn.out.mono ?_
    rintro e w3 ⟨rfl, rfl⟩
    by_cases h5 : 512 < (t.wr.length : Int)
    · have HF : Hid (t.chk = 2) := hid (by unfold VT.chk; rw [Hwk.out, if_neg (by simp), if_pos (by omega)])
      go_wp2_with fail
      go_ret
      rw [HF.out]; exact ⟨rfl, HO2.out⟩
    · have HF : Hid (t.chk = 0) := hid (by unfold VT.chk; rw [Hwk.out, if_neg (by simp), if_neg (by omega)])
      go_wp2_with fail
      go_ret
      rw [HF.out]; exact ⟨rfl, HO2.out⟩
  · have hbe : (e1 == 0) = false := by simpa using he
    have hbe2 : (e1 != 0) = true := by simpa using he
    have HF : Hid (t.chk = e1) := hid (by unfold VT.chk; rw [Hwk.out, if_pos he])
    clear he
    go_wp2_with fail
    go_ret
    rw [HF.out]; exact ⟨rfl, HO.out⟩
end
end Go.Proofs.YtokefeemhgcmhaaGreatDoor
namespace Go.Proofs.YtokefeemhgcmhaaGreatDoor
open Go.RowKit

theorem elV : Elem Tryz.prog 22 24 4 56 := .mk Tryz.underlying22 (z := .agg #[.int .i64 0, .int .i64 0, .string ⟨#[]⟩, .slice none 0 0]) (by kernel_rfl) rfl
/-- Cells, one value behind the other. -/
def VXs (w : World) (G : Nat → Prop) : List VT → List Value → Prop
  | [], xs => xs = []
  | t :: ts, xs => ∃ cs ys, xs = cs ++ ys ∧ VAt w G t cs ∧ VXs w G ts ys
section
variable {w w' : World} {G F : Nat → Prop}
theorem VXs.only (ho : Only F w w') (hd : ∀ k, G k → ¬ F k) : ∀ {l : List VT} {xs : List Value}, VXs w G l xs → VXs w' G l xs
  | [], _, h => h
  | _ :: _, _, ⟨cs, ys, e, h1, h2⟩ => ⟨cs, ys, e, h1.only ho hd, VXs.only ho hd h2⟩
theorem VXs.mono {G' : Nat → Prop} (hd : ∀ k, G k → G' k) : ∀ {l : List VT} {xs : List Value}, VXs w G l xs → VXs w G' l xs
  | [], _, h => h
  | _ :: _, _, ⟨cs, ys, e, h1, h2⟩ => ⟨cs, ys, e, h1.mono hd, VXs.mono hd h2⟩
theorem VXs.snoc {t : VT} {cs : List Value} (ht : VAt w G t cs) : ∀ {l : List VT} {xs : List Value}, VXs w G l xs → VXs w G (l ++ [t]) (xs ++ cs)
  | [], _, h => by
    have h' : _ = ([] : List Value) := h
    subst h'
    exact ⟨cs, [], by simp, ht, rfl⟩
  | _ :: _, _, ⟨cs', ys, e, h1, h2⟩ => ⟨cs', ys ++ cs, by rw [e, List.append_assoc], h1, VXs.snoc ht h2⟩
theorem VXs.ls {g : Nat} : ∀ {l : List VT} {xs : List Value} {o : Nat}, VXs w G l xs → (∀ j u, xs[j]? = some u → w.cell? ⟨g, o + j, none⟩ = some u) → VLs w G l g o
  | [], _, _, _, _ => by rw [VLs]; trivial
  | t :: ts, xs, o, ⟨cs, ys, e, h1, h2⟩, hc => by
    rw [VLs]
    refine ⟨⟨cs, fun j u hj => hc j u ?_, h1⟩, VXs.ls (o := o + 4) h2 (fun j u hj => ?_)⟩
    · rw [e, List.getElem?_append_left (by rcases Nat.lt_or_ge j cs.length with g | g; exact g; rw [List.getElem?_eq_none g] at hj; cases hj)]; exact hj
    · have := hc (4 + j) u (by rw [e, List.getElem?_append_right (by rw [h1.len]; omega), h1.len]; rw [show 4 + j - 4 = j from by omega]; exact hj)
      rw [Nat.add_assoc]; exact this
end
/-- Blocks that a call has made. -/
def New (w w' : World) (k : Nat) : Prop := w.heap.size ≤ k ∧ k < w'.heap.size
/-- A new value. -/
def Made (w : World) (t : VT) (e : Ending) (w' : World) : Prop := ∃ cs, e = .returned (.agg cs.toArray) ∧ VAt w' (New w w') t cs ∧ Only (fun _ => False) w w'
theorem info_val : (Tryz.prog.info? 24).map (·.size) = some 4 := by kernel_rfl
theorem clL_take {l : List VT} {j : Nat} {t : VT} (h : l[j]? = some t) : VT.clL (l.take (j + 1)) = VT.clL (l.take j) ++ [t.cl] := by
  rw [List.take_add_one, h]
  have app : ∀ a b : List VT, VT.clL (a ++ b) = VT.clL a ++ VT.clL b := by
    intro a b
    induction a with
    | nil => rw [VT.clL]; rfl
    | cons x xs ih => rw [List.cons_append, VT.clL, VT.clL, ih]; rfl
  rw [app]
  show _ ++ VT.clL [t] = _
  rw [VT.clL, VT.clL]
theorem szL_len : ∀ l : List VT, l.length ≤ VT.szL l
  | [] => by simp
  | t :: ts => by rw [VT.szL, List.length_cons]; have := szL_len ts; have := sz_pos t; omega
theorem val_one (k n : Int) (s : ByteArray) (a : Option Addr) (m c : Nat) : (#[Value.int .i64 k, .int .i64 n, .string s, .slice a m c] : Array Value).all (·.oneCell') = true := by simp [Value.oneCell']
theorem blk_mid (w : World) (A B C : Obj) : (((w.alloc A).alloc B).alloc C).heap[w.heap.size + 1]? = some B := by
  have := blk_alloc (o' := C) (blk_new (w.alloc A) B)
  rw [World.size_alloc] at this; exact this
theorem only3 (w : World) (A B C : Obj) : Only (fun _ => False) w (((w.alloc A).alloc B).alloc C) := ((only_new w A).trans (only_new _ B) (fun _ _ e => e)).trans (only_new _ C) (fun _ _ e => e)
end Go.Proofs.YtokefeemhgcmhaaGreatDoor
