/- wire.Reader: how it lies; its methods. -/
import Derived.Test.YtihidpfkdpjdpaaGreatDoorWire
import Derived.Test.YtihidpfkdpjdpaaGreatDoorEvL
import Derived.Deep.QuietTactic
import Derived.BigQuiet
namespace Go.Proofs.YtihidpfkdpjdpaaGreatDoor
open Go.RowKit

/-- At block b lies a reader of bytes at block g. -/
structure RdP (w : World) (b g cap : Nat) (r : RdM) : Prop where
  blk : w.heap[b]? = some (.cells #[.slice (some ⟨g, 0, none⟩) r.b.length cap, .int .i64 r.at', .int .i64 r.err] 86 (0, 0))
  row : Row w g 5 cap (bytesV r.b)
  ne : g ≠ b
  at0 : r.at' ≤ r.b.length
  len : r.b.length ≤ 1000000000
def Rd (w : World) (b g : Nat) (r : RdM) : Prop := ∃ cap, RdP w b g cap r
section
variable {w w' : World} {b g cap : Nat} {r : RdM}
theorem Rd.only {G : Nat → Prop} (h : Rd w b g r) (ho : Only G w w') (h1 : ¬ G b) (h2 : ¬ G g) : Rd w' b g r := by
  obtain ⟨cap, hp⟩ := h
  exact ⟨cap, blk_only hp.blk ho h1, hp.row.only ho h2, hp.ne, hp.at0, hp.len⟩
theorem Rd.same (h : Rd w b g r) (ho : Only (fun _ => False) w w') : Rd w' b g r := h.only ho (fun e => e) (fun e => e)
theorem Rd.at0 (h : Rd w b g r) : r.at' ≤ r.b.length := let ⟨_, hp⟩ := h; hp.at0
theorem Rd.len (h : Rd w b g r) : r.b.length ≤ 1000000000 := let ⟨_, hp⟩ := h; hp.len
theorem Rd.lt (h : Rd w b g r) : b < w.heap.size ∧ g < w.heap.size := let ⟨_, hp⟩ := h; ⟨blk_lt hp.blk, hp.row.lt⟩
/-- A cell of the reader's own is another one. -/
theorem RdP.set1 (h : RdP w b g cap r) (n : Nat) (hn : n ≤ r.b.length) : Rd (w.setCell ⟨b, 1, none⟩ (.int .i64 n)) b g { r with at' := n } := by
  refine ⟨cap, ?_, h.row.setCell_other _ _ h.ne, h.ne, hn, h.len⟩
  have := blk_set h.blk 1 (.int .i64 n)
  simpa using this
theorem RdP.set2 (h : RdP w b g cap r) (e : Int) : Rd (w.setCell ⟨b, 2, none⟩ (.int .i64 e)) b g { r with err := e } := by
  refine ⟨cap, ?_, h.row.setCell_other _ _ h.ne, h.ne, h.at0, h.len⟩
  have := blk_set h.blk 2 (.int .i64 e)
  simpa using this

set_option maxRecDepth 100000 in
theorem read_c (v : Value) (l : List UInt8) (hs : Src w v l) (hl : l.length ≤ 1000000000) :
    Calls Tryz.prog 44 #[v] w fun e w' => ∃ b g, e = .returned (.pointer (some ⟨b, 0, none⟩)) ∧ Rd w' b g (RdM.of l) ∧ w.heap.size ≤ b ∧ w.heap.size ≤ g ∧ Only (fun _ => False) w w' := by
  have hs1 : Src (w.alloc (.cells #[] 5)) v l := hs.same (only_new w _)
  obtain ⟨ax, cx, rfl, hg⟩ := hs1.g
  have HG := hid hg
  clear hs hs1 hg
  have HE : Hid (Gr (w.alloc (.cells #[] 5)) 5 1 (some ⟨w.heap.size, 0, none⟩) 0 0 []) := hid ⟨rfl, Nat.le_refl _, .inr ⟨_, rfl, [], blk_new w _, rfl⟩⟩
  go_enter Tryz.func44, Tryz.ntmps44
  go_wp2_with ((refine wpList_gr rfl el8 (.tmp 3) (.tmp 4) rfl HE.out rfl ax l.length cx rfl (bytesV l) HG.out (by omega) (by omega) ?_); intro ao' cap' w' hg' ha' ho'; have Hg := hid hg'; have Ha := hid ha'; have Ho := hid ho'; clear hg' ha' ho')
  go_ret
  have hg' := Hg.out
  rw [Nat.zero_add, List.nil_append] at hg'
  have hone : Only (fun _ => False) w w' := (only_new w (.cells #[] 5)).trans Ho.out (fun k hk e => by
    simp only [Option.some.injEq, Addr.mk.injEq, and_true] at e; omega)
  obtain ⟨g, rfl, hgl⟩ : ∃ g, ao' = some ⟨g, 0, none⟩ ∧ w.heap.size ≤ g := by
    rcases Ha.out with e | e
    · exact ⟨_, e, Nat.le_refl _⟩
    · exact ⟨_, e, by simp⟩
  obtain ⟨-, h2, h3⟩ := hg'
  rcases h3 with ⟨e, -⟩ | ⟨g', e, hr⟩
  · cases e
  simp only [Option.some.injEq, Addr.mk.injEq, and_true] at e
  subst e
  rw [Nat.mul_one] at hr
  have hs' := hone.size
  refine ⟨w'.heap.size, g, rfl, ⟨cap', ?_, hr.alloc _, by have := hr.lt; omega, Nat.zero_le _, hl⟩, by omega, hgl, hone.alloc _⟩
  rw [blk_new]; simp [RdM.of]
set_option maxRecDepth 100000 in
theorem rerr_c (h : Rd w b g r) : Calls Tryz.prog 47 #[.pointer (some ⟨b, 0, none⟩)] w fun e w' => e = .returned (.int .i64 r.err) ∧ w = w' := by
  obtain ⟨cap, hp⟩ := h
  have h2 : w.cell? ⟨b, 2, none⟩ = some (.int .i64 r.err) := cell_blk hp.blk 2
  clear hp
  go_enter Tryz.func47, Tryz.ntmps47
  go_wp2
  go_ret
  exact ⟨rfl, rfl⟩
set_option maxRecDepth 100000 in
theorem rat_c (h : Rd w b g r) : Calls Tryz.prog 74 #[.pointer (some ⟨b, 0, none⟩)] w fun e w' => e = .returned (.int .i64 r.at') ∧ w = w' := by
  obtain ⟨cap, hp⟩ := h
  have h2 : w.cell? ⟨b, 1, none⟩ = some (.int .i64 r.at') := cell_blk hp.blk 1
  clear hp
  go_enter Tryz.func74, Tryz.ntmps74
  go_wp2
  go_ret
  exact ⟨rfl, rfl⟩
set_option maxRecDepth 100000 in
theorem rfail_c (h : Rd w b g r) (c : Int) : Calls Tryz.prog 61 #[.pointer (some ⟨b, 0, none⟩), .int .i64 c] w fun e w' => e = .returned (.tuple #[]) ∧ Rd w' b g (r.fail c) ∧ Only (fun k => k = b) w w' := by
  obtain ⟨cap, hp⟩ := h
  have h2 : w.cell? ⟨b, 2, none⟩ = some (.int .i64 r.err) := cell_blk hp.blk 2
  have hz := frozen_blk hp.blk
  have HP := hid hp
  clear hp
  by_cases he : r.err = 0
  · have hb : (r.err == 0) = true := by simp [he]
    have HF : Hid (r.fail c = { r with err := c }) := hid (by unfold RdM.fail; rw [if_pos he])
    clear he
    go_enter Tryz.func61, Tryz.ntmps61
    go_wp2
    go_end0
    rw [HF.out]
    exact ⟨rfl, HP.out.set2 c, only_set _ _ _⟩
  · have hb : (r.err == 0) = false := by simp [he]
    have HF : Hid (r.fail c = r) := hid (fail_bad he)
    clear he
    go_enter Tryz.func61, Tryz.ntmps61
    go_wp2
    go_end0
    rw [HF.out]
    exact ⟨rfl, ⟨cap, HP.out⟩, Only.refl _ _⟩
theorem piece_if {g c o n : Nat} {l : List UInt8} (h : Row w g 5 c (bytesV l)) (hn : o + n ≤ l.length) (c' : Nat) : Src w (.slice (if c = o then some ⟨g, 0, none⟩ else some ⟨g, o, none⟩) n c') ((l.drop o).take n) := by
  have hlen : ((l.drop o).take n).length = n := by simp; omega
  refine ⟨_, c', by rw [hlen], fun hne => ?_⟩
  have hpos : 0 < n := by
    rcases Nat.eq_zero_or_pos n with rfl | e
    · simp at hne
    · exact e
  have hc := h.le
  rw [length_bytesV] at hc
  refine ⟨g, o, by rw [if_neg (by omega)], fun i u hu => ?_⟩
  have hu2 : (bytesV l)[o + i]? = some u := by
    rw [bytesV_get] at hu ⊢
    by_cases hi : i < n
    · rw [List.getElem?_take_of_lt hi, List.getElem?_drop] at hu; exact hu
    · rw [List.getElem?_eq_none (by omega)] at hu; cases hu
  have := h.news _ _ hu2
  rw [addr_add, Nat.zero_add] at this
  exact this
set_option maxRecDepth 100000 in
set_option maxHeartbeats 800000 in
theorem rtake_c (h : Rd w b g r) (n : Nat) (hn : n ≤ 1000000000) : Calls Tryz.prog 73 #[.pointer (some ⟨b, 0, none⟩), .int .i64 n] w fun e w' => ∃ v, e = .returned v ∧ Src w' v (r.take n).1 ∧ Rd w' b g (r.take n).2 ∧ Only (fun k => k = b) w w' := by
  obtain ⟨cap, hp⟩ := h
  have h0 : w.cell? ⟨b, 0, none⟩ = some (.slice (some ⟨g, 0, none⟩) r.b.length cap) := cell_blk hp.blk 0
  have h1 : w.cell? ⟨b, 1, none⟩ = some (.int .i64 r.at') := cell_blk hp.blk 1
  have h2 : w.cell? ⟨b, 2, none⟩ = some (.int .i64 r.err) := cell_blk hp.blk 2
  have hz := frozen_blk hp.blk
  have ha := hp.at0
  have hl := hp.len
  have hcap := hp.row.le
  rw [length_bytesV] at hcap
  have HP := hid hp
  clear hp
  by_cases he : r.err = 0
  · have hb : (r.err == 0) = true := by simp [he]
    by_cases hlt : r.b.length - r.at' < n
    · have HF := fun w1 (hr : Rd w1 b g r) => hid (rfail_c hr 6)
      have HT : Hid (r.take n = ([], r.fail 6)) := hid (by unfold RdM.take; rw [if_neg (by simp [he]), if_pos hlt])
      have hsub : IntKind.i64.wrap ((r.b.length : Int) - (r.at' : Int)) = (r.b.length : Int) - r.at' := IntWalk.i64_in _ (by omega)
      have hlt2 : (r.b.length : Int) - r.at' < n := by omega
      clear he
      go_enter Tryz.func73, Tryz.ntmps73
      go_wp2
      go_quiet (fail)
      go_wp2_with fail
      refine (HF _ (Rd.same ⟨cap, HP.out⟩ (only_drewN w _))).out.mono ?_
      rintro e w1 ⟨rfl, hr, ho⟩
      have HR := hid hr; have HO := hid ho
      clear hr ho
      go_wp2_with fail
      go_ret
      rw [HT.out]
      exact ⟨_, rfl, ⟨none, 0, rfl, by simp⟩, HR.out, ((only_drewN w _).mono (fun _ _ e => e.elim)).trans HO.out (fun _ _ e => e)⟩
    · have HT : Hid (r.take n = ((r.b.drop r.at').take n, { r with at' := r.at' + n })) := hid (by unfold RdM.take; rw [if_neg (by simp [he]), if_neg hlt])
      have hsub : IntKind.i64.wrap ((r.b.length : Int) - (r.at' : Int)) = (r.b.length : Int) - r.at' := IntWalk.i64_in _ (by omega)
      have hlt2 : ¬ (r.b.length : Int) - r.at' < n := by omega
      clear he hlt
      go_enter Tryz.func73, Tryz.ntmps73
      go_wp2
      go_quiet (fail)
      go_wp2_with fail
      have hRq : RdP (w.drewN nq) b g cap r := ⟨HP.out.blk, HP.out.row, HP.out.ne, HP.out.at0, HP.out.len⟩
      have hR2 := hRq.set1 (r.at' + n) (by omega)
      have hO2 : Only (fun k => k = b) w ((w.drewN nq).setCell ⟨b, 1, none⟩ (.int .i64 (r.at' + n : Nat))) := ((only_drewN w nq).mono (fun _ _ e => e.elim)).trans (only_set _ _ _) (fun _ _ e => e)
      have hcast : ((r.at' : Int) + (n : Int)) = ((r.at' + n : Nat) : Int) := by omega
      rw [hcast]
      obtain ⟨m, hm⟩ : ∃ m, r.at' + n = m := ⟨_, rfl⟩
      rw [hm] at hR2 hO2 ⊢
      obtain ⟨w1, hw1⟩ : ∃ w1, (w.drewN nq).setCell ⟨b, 1, none⟩ (.int .i64 (m : Nat)) = w1 := ⟨_, rfl⟩
      rw [hw1] at hR2 hO2 ⊢
      have HR2 := hid hR2; have HO2 := hid hO2
      obtain ⟨cap2, hP2⟩ := hR2
      have hcc : cap2 = cap := by
        have h1 := blk_set HP.out.blk 1 (.int .i64 (m : Nat))
        have h3 := hP2.blk
        rw [← hw1] at h3
        have h4 : (w.drewN nq).heap[b]? = w.heap[b]? := rfl
        have h5 := blk_set (w := w.drewN nq) (h4.trans HP.out.blk) 1 (.int .i64 (m : Nat))
        rw [h5] at h3
        simp at h3
        exact h3.symm
      subst hcc
      have k0 : w1.cell? ⟨b, 0, none⟩ = some (.slice (some ⟨g, 0, none⟩) r.b.length cap2) := cell_blk hP2.blk 0
      have k1 : w1.cell? ⟨b, 1, none⟩ = some (.int .i64 m) := cell_blk hP2.blk 1
      have hs1 : IntKind.i64.wrap ((m : Int) - (n : Int)) = (r.at' : Int) := by rw [← hm, IntWalk.i64_in _ (by omega)]; omega
      have hs2 : (r.at' : Int) ≤ (m : Int) := by omega
      have hs3 : (m : Int) ≤ (cap2 : Int) := by omega
      have hs4 : m - r.at' = n := by omega
      have Hm := hid hm
      have HP2 := hid hP2
      clear hw1 hO2 hP2 h0 h1 h2 hz hRq hcast hm
      go_quiet (fail)
      obtain ⟨pa, hpa⟩ : ∃ pa, (if cap2 = r.at' then some (⟨g, 0, none⟩ : Addr) else some ⟨g, r.at', none⟩) = pa := ⟨_, rfl⟩
      rw [hpa]
      have Hpa := hid hpa
      clear hpa
      go_wp2
      go_ret
      rw [HT.out]
      refine ⟨_, rfl, ?_, by rw [Hm.out]; exact HR2.out.same (only_drewN w1 nq), HO2.out.trans (only_drewN w1 nq) (fun _ _ e => e.elim)⟩
      have hrow : Row (w1.drewN nq) g 5 cap2 (bytesV r.b) := HP2.out.row
      have := piece_if (o := r.at') (n := n) hrow (by omega) (cap2 - r.at')
      rw [Hpa.out] at this
      exact this
  · have hb : (r.err == 0) = false := by simp [he]
    have HT : Hid (r.take n = ([], r)) := hid (take_bad he)
    clear he
    go_enter Tryz.func73, Tryz.ntmps73
    go_wp2
    go_ret
    rw [HT.out]
    exact ⟨_, rfl, ⟨none, 0, rfl, by simp⟩, ⟨cap, HP.out⟩, Only.refl _ _⟩

theorem take1 (r : RdM) : (r.take 1).1 = [] ∨ ∃ x, (r.take 1).1 = [x] := by
  unfold RdM.take
  split
  · exact .inl rfl
  · split
    · exact .inl rfl
    · simp only
      cases r.b.drop r.at' with
      | nil => exact .inl rfl
      | cons x xs => exact .inr ⟨x, rfl⟩
set_option maxRecDepth 100000 in
theorem rbyte_c (h : Rd w b g r) : Calls Tryz.prog 60 #[.pointer (some ⟨b, 0, none⟩)] w fun e w' => e = .returned (.int .u8 (r.byte.1 : Nat)) ∧ Rd w' b g r.byte.2 ∧ Only (fun k => k = b) w w' := by
  have HT := hid (rtake_c h 1 (by omega))
  clear h
  go_enter Tryz.func60, Tryz.ntmps60
  go_wp2_with fail
  refine HT.out.mono ?_
  rintro e w1 ⟨v, rfl, hs, hr, ho⟩
  have HR := hid hr; have HO := hid ho
  clear hr ho
  rcases take1 r with h1 | ⟨x, h1⟩
  · have HB : Hid (r.byte = (0, (r.take 1).2)) := hid (by unfold RdM.byte; rw [h1]; rfl)
    rw [h1] at hs
    obtain ⟨a, c, rfl, -⟩ := hs
    clear h1
    simp only [List.length_nil]
    go_wp2
    go_ret
    rw [HB.out]
    exact ⟨rfl, HR.out, HO.out⟩
  · have HB : Hid (r.byte = (x.toNat, (r.take 1).2)) := hid (by unfold RdM.byte; rw [h1]; rfl)
    rw [h1] at hs
    obtain ⟨a, c, rfl, hc⟩ := hs
    obtain ⟨g', o', rfl, hcell⟩ := hc (by simp)
    have hc0 : w1.cell? ⟨g', o', none⟩ = some (.int .u8 (x.toNat : Nat)) := by have := hcell 0 (.int .u8 (x.toNat : Nat)) rfl; rwa [Nat.add_zero] at this
    clear h1 hcell
    simp only [List.length_singleton]
    go_wp2
    go_ret
    rw [HB.out]
    exact ⟨rfl, HR.out, HO.out⟩

theorem byte_lt (r : RdM) : r.byte.1 < 256 := by
  unfold RdM.byte
  cases (r.take 1).1.head? with
  | none => simp
  | some x => have := x.toNat_lt; simpa using this
/-- The number that has been read is put to the next seven bits. -/
theorem or_sh (acc x sh : Nat) (ha : acc < 2 ^ sh) (hs : sh ≤ 63) (hx : x % 128 * 2 ^ sh < 18446744073709551616) : bits .or .u64 (acc : Int) (IntKind.u64.wrap (((x % 128 : Nat) : Int) * 2 ^ sh)) = ((acc + x % 128 * 2 ^ sh : Nat) : Int) := by
  have h2 : (2 : Nat) ^ sh ≤ 2 ^ 63 := Nat.pow_le_pow_right (by omega) hs
  have e1 : IntKind.u64.wrap (((x % 128 : Nat) : Int) * 2 ^ sh) = ((x % 128 * 2 ^ sh : Nat) : Int) := by
    rw [IntKind.wrap_u64, Int.natCast_mul, Int.natCast_pow]
    have : ((x % 128 * 2 ^ sh : Nat) : Int) = ((x % 128 : Nat) : Int) * ((2 : Nat) : Int) ^ sh := by rw [Int.natCast_mul, Int.natCast_pow]
    refine Int.emod_eq_of_lt ?_ ?_
    · have h0 : (0 : Int) ≤ ((x % 128 * 2 ^ sh : Nat) : Int) := Int.natCast_nonneg _
      rw [this] at h0; exact h0
    · have h0 : ((x % 128 * 2 ^ sh : Nat) : Int) < 18446744073709551616 := by omega
      rw [this] at h0; exact h0
  rw [e1, u64_or_nat _ _ (by omega) hx]
  congr 1
  rw [Nat.or_comm, ← Nat.shiftLeft_eq, ← Nat.shiftLeft_add_eq_or_of_lt ha]
  omega
theorem sh_bound {x sh : Nat} (h : sh ≤ 56) : x % 128 * 2 ^ sh < 18446744073709551616 := by
  have h1 : (2 : Nat) ^ sh ≤ 2 ^ 56 := Nat.pow_le_pow_right (by omega) h
  have h2 : x % 128 * 2 ^ sh ≤ 127 * 2 ^ 56 := Nat.mul_le_mul (by omega) h1
  omega
theorem acc_lt {acc y sh : Nat} (h : acc < 2 ^ sh) (hy : y < 128) : acc + y * 2 ^ sh < 2 ^ sh * 2 ^ 7 := by
  have h1 : y * 2 ^ sh ≤ 127 * 2 ^ sh := Nat.mul_le_mul_right _ (by omega)
  omega
set_option maxRecDepth 100000 in
set_option maxHeartbeats 3200000 in
theorem rnum_c (h : Rd w b g r) (most : Nat) (_hm : most < 18446744073709551616) : Calls Tryz.prog 45 #[.pointer (some ⟨b, 0, none⟩), .int .u64 most] w fun e w' => e = .returned (.int .u64 ((r.num most).1 : Nat)) ∧ Rd w' b g (r.num most).2 ∧ Only (fun k => k = b) w w' := by
  have HR := hid h
  clear h
  go_enter Tryz.func45, Tryz.ntmps45
  go_wp2_with fail
  go_loopw [5, 6, 7] (fun n s _ wr => ∃ (f sh acc : Nat) (r1 : RdM), n = .int .u64 acc ∧ s = .int .i64 sh ∧ sh + 7 * f = 70 ∧ 0 < f ∧ acc < 2 ^ sh ∧ RdM.numL most f sh acc r1 = r.num most ∧ Rd wr b g r1 ∧ Only (fun k => k = b) w wr) (fun _ s _ _ => 70 - (intOf s).toNat)
  case atStart => exact ⟨10, 0, 0, r, rfl, rfl, rfl, by omega, by decide, rfl, HR.out, Only.refl _ _⟩
  case round =>
    obtain ⟨f, sh, acc, r1, rfl, rfl, hf, hf0, hacc, hnum, hr1, ho1⟩ := hrel
    obtain ⟨f', rfl⟩ : ∃ f', f = f' + 1 := ⟨f - 1, by omega⟩
    have HB := hid (rbyte_c hr1)
    have HO := hid ho1; have HN := hid hnum; have HA := hid hacc
    have hx := byte_lt r1
    have HNL : Hid (RdM.numL most (f' + 1) sh acc r1 = if r1.byte.2.err ≠ 0 then (0, r1.byte.2) else if (sh = 63 ∧ 1 < r1.byte.1) ∨ (0 < sh ∧ r1.byte.1 = 0) then (0, r1.byte.2.fail 8) else
      if r1.byte.1 < 128 then (if most < acc + (r1.byte.1 % 128) * 2 ^ sh then (0, r1.byte.2.fail 2) else (acc + (r1.byte.1 % 128) * 2 ^ sh, r1.byte.2)) else RdM.numL most f' (sh + 7) (acc + (r1.byte.1 % 128) * 2 ^ sh) r1.byte.2) := hid (by rw [RdM.numL])
    obtain ⟨x, hxe⟩ : ∃ x, r1.byte.1 = x := ⟨_, rfl⟩
    obtain ⟨r2, hre⟩ : ∃ r2, r1.byte.2 = r2 := ⟨_, rfl⟩
    rw [hxe, hre] at HNL HB
    rw [hxe] at hx
    clear hxe hre hnum hr1 ho1 hacc
    have hx0 : (0 : Int) ≤ (x : Int) := by omega
    have hx1 : (x : Int) < 256 := by omega
    have hsh0 : (0 : Int) ≤ (sh : Int) := by omega
    have hsh1 : (sh : Int) ≤ 64 := by omega
    have hsh2 : (sh : Int) + 7 < 1000 := by omega
    by_cases he : r2.err = 0
    · have hb : (r2.err == 0) = true := by simp [he]
      have hb2 : (r2.err != 0) = false := by simp [he]
      go_wp2_with fail
      refine HB.out.mono ?_
      rintro e w1 ⟨rfl, hr2, ho2⟩
      have h2 : w1.cell? ⟨b, 2, none⟩ = some (.int .i64 r2.err) := let ⟨_, hp⟩ := hr2; cell_blk hp.blk 2
      have HR2 := hid hr2; have HO2 := hid ho2
      have HE := hid he
      clear hr2 ho2 he
      by_cases hbad : (sh = 63 ∧ 1 < x) ∨ (0 < sh ∧ x = 0)
      · have HF8 : Hid (RdM.numL most (f' + 1) sh acc r1 = (0, r2.fail 8)) := hid (by rw [HNL.out, if_neg (by simp [HE.out]), if_pos hbad])
        by_cases h63 : sh = 63
        · subst h63
          by_cases hx1' : 1 < (x : Int)
          · clear hbad
            go_wp2_with fail
            refine (rfail_c HR2.out 8).mono ?_
            rintro e w2 ⟨rfl, hr3, ho3⟩
            have HR3 := hid hr3; have HO3 := hid ho3
            clear hr3 ho3
            go_wp2_with fail
            go_ret
            rw [← HN.out, HF8.out]
            exact ⟨rfl, HR3.out, (HO.out.trans HO2.out (fun _ _ e => e)).trans HO3.out (fun _ _ e => e)⟩

          · obtain rfl : x = 0 := by omega
            clear hbad
            go_wp2_with fail
            refine (rfail_c HR2.out 8).mono ?_
            rintro e w2 ⟨rfl, hr3, ho3⟩
            have HR3 := hid hr3; have HO3 := hid ho3
            clear hr3 ho3
            go_wp2_with fail
            go_ret
            rw [← HN.out, HF8.out]
            exact ⟨rfl, HR3.out, (HO.out.trans HO2.out (fun _ _ e => e)).trans HO3.out (fun _ _ e => e)⟩

        · obtain rfl : x = 0 := by omega
          have t63 : ((sh : Int) == 63) = false := by simp; omega
          have tsh : 0 < (sh : Int) := by omega
          clear hbad h63
          go_wp2_with fail
          refine (rfail_c HR2.out 8).mono ?_
          rintro e w2 ⟨rfl, hr3, ho3⟩
          have HR3 := hid hr3; have HO3 := hid ho3
          clear hr3 ho3
          go_wp2_with fail
          go_ret
          rw [← HN.out, HF8.out]
          exact ⟨rfl, HR3.out, (HO.out.trans HO2.out (fun _ _ e => e)).trans HO3.out (fun _ _ e => e)⟩

      · have Hnb := hid hbad
        by_cases h63 : sh = 63
        · subst h63
          have tx1 : (x : Int) ≤ 1 := by omega
          have tx : ((x : Int) == 0) = false := by simp; omega
          have txx : x = 1 := by omega
          have Htxx := hid txx
          have hx128 : x % 128 * 2 ^ 63 < 18446744073709551616 := by rw [txx]; decide
          clear hbad txx
          obtain ⟨y, hy⟩ : ∃ y, x % 128 = y := ⟨_, rfl⟩
          have hand : bits .and .u8 (x : Int) 127 = ((y : Nat) : Int) := by
            have : bits .and .u8 (x : Int) 127 = ((x &&& 127 : Nat) : Int) := u8_and_nat x 127 (by omega) (by decide)
            rw [this, ← hy]; congr 1; exact Nat.and_two_pow_sub_one_eq_mod x 7
          have hyl : (y : Int) < 128 := by omega
          have hor := or_sh acc x 63 HA.out (by omega) (hx128)
          rw [hy] at hor HNL
          obtain ⟨acc', hacc'⟩ : ∃ acc', acc + y * 2 ^ 63 = acc' := ⟨_, rfl⟩
          rw [hacc'] at hor HNL
          have Hy := hid hy; have Hacc' := hid hacc'
          have hor' : bits .or .u64 (acc : Int) (IntKind.u64.wrap ((y : Int) * 9223372036854775808)) = (acc' : Int) := hor
          clear hy hacc' hor
          by_cases hlt : (x : Int) < 128
          · by_cases hmo : (most : Int) < (acc' : Int)
            · have HF2 : Hid (RdM.numL most (f' + 1) 63 acc r1 = (0, r2.fail 2)) := hid (by rw [HNL.out, if_neg (by simp [HE.out]), if_neg Hnb.out, if_pos (by omega), if_pos (by omega)])
              go_wp2_with fail
              refine (rfail_c HR2.out 2).mono ?_
              rintro e w2 ⟨rfl, hr3, ho3⟩
              have HR3 := hid hr3; have HO3 := hid ho3
              clear hr3 ho3
              go_wp2_with fail
              go_ret
              rw [← HN.out, HF2.out]
              exact ⟨rfl, HR3.out, (HO.out.trans HO2.out (fun _ _ e => e)).trans HO3.out (fun _ _ e => e)⟩
            · have HF2 : Hid (RdM.numL most (f' + 1) 63 acc r1 = (acc', r2)) := hid (by rw [HNL.out, if_neg (by simp [HE.out]), if_neg Hnb.out, if_pos (by omega), if_neg (by omega)])
              go_wp2_with fail
              go_ret
              rw [← HN.out, HF2.out]
              exact ⟨rfl, HR2.out, HO.out.trans HO2.out (fun _ _ e => e)⟩
          · exact absurd (by have := Htxx.out; omega : (x : Int) < 128) hlt
        · have t63 : ((sh : Int) == 63) = false := by simp; omega
          by_cases hs0 : sh = 0
          · subst hs0
            clear hbad h63
            obtain ⟨y, hy⟩ : ∃ y, x % 128 = y := ⟨_, rfl⟩
            have hand : bits .and .u8 (x : Int) 127 = ((y : Nat) : Int) := by
              have : bits .and .u8 (x : Int) 127 = ((x &&& 127 : Nat) : Int) := u8_and_nat x 127 (by omega) (by decide)
              rw [this, ← hy]; congr 1; exact Nat.and_two_pow_sub_one_eq_mod x 7
            have hyl : (y : Int) < 128 := by omega
            have hor := or_sh acc x 0 HA.out (by omega) (by omega)
            rw [hy] at hor HNL
            obtain ⟨acc', hacc'⟩ : ∃ acc', acc + y * 2 ^ 0 = acc' := ⟨_, rfl⟩
            rw [hacc'] at hor HNL
            have Hy := hid hy; have Hacc' := hid hacc'
            have hor' : bits .or .u64 (acc : Int) (y : Int) = (acc' : Int) := by
              have e : IntKind.u64.wrap ((y : Int) * 2 ^ 0) = (y : Int) := by rw [IntKind.wrap_u64]; omega
              rw [e] at hor; exact hor
            clear hy hacc' hor
            by_cases hlt : (x : Int) < 128
            · by_cases hmo : (most : Int) < (acc' : Int)
              · have HF2 : Hid (RdM.numL most (f' + 1) 0 acc r1 = (0, r2.fail 2)) := hid (by rw [HNL.out, if_neg (by simp [HE.out]), if_neg Hnb.out, if_pos (by omega), if_pos (by omega)])
                go_wp2_with fail
                refine (rfail_c HR2.out 2).mono ?_
                rintro e w2 ⟨rfl, hr3, ho3⟩
                have HR3 := hid hr3; have HO3 := hid ho3
                clear hr3 ho3
                go_wp2_with fail
                go_ret
                rw [← HN.out, HF2.out]
                exact ⟨rfl, HR3.out, (HO.out.trans HO2.out (fun _ _ e => e)).trans HO3.out (fun _ _ e => e)⟩
              · have HF2 : Hid (RdM.numL most (f' + 1) 0 acc r1 = (acc', r2)) := hid (by rw [HNL.out, if_neg (by simp [HE.out]), if_neg Hnb.out, if_pos (by omega), if_neg (by omega)])
                go_wp2_with fail
                go_ret
                rw [← HN.out, HF2.out]
                exact ⟨rfl, HR2.out, HO.out.trans HO2.out (fun _ _ e => e)⟩
            · have HF2 : Hid (RdM.numL most (f' + 1) 0 acc r1 = RdM.numL most f' (0 + 7) acc' r2) := hid (by rw [HNL.out, if_neg (by simp [HE.out]), if_neg Hnb.out, if_neg (by omega)])
              go_wp2_with fail
              go_roundw
              case rel =>
                refine ⟨f', 0 + 7, acc', r2, rfl, by go_num, by omega, by omega, ?_, by rw [← HF2.out]; exact HN.out, HR2.out, HO.out.trans HO2.out (fun _ _ e => e)⟩
                rw [← Hacc'.out, Nat.pow_add]
                exact acc_lt HA.out (by omega)
              case measure => simp [intOf]

          · have tsh : 0 < (sh : Int) := by omega
            have tx : ((x : Int) == 0) = false := by simp; omega
            have tx0 : x ≠ 0 := by omega
            have tsh2 : sh ≤ 56 := by omega
            clear hbad h63 hs0
            obtain ⟨y, hy⟩ : ∃ y, x % 128 = y := ⟨_, rfl⟩
            have hand : bits .and .u8 (x : Int) 127 = ((y : Nat) : Int) := by
              have : bits .and .u8 (x : Int) 127 = ((x &&& 127 : Nat) : Int) := u8_and_nat x 127 (by omega) (by decide)
              rw [this, ← hy]; congr 1; exact Nat.and_two_pow_sub_one_eq_mod x 7
            have hyl : (y : Int) < 128 := by omega
            have hor := or_sh acc x sh HA.out (by omega) (sh_bound tsh2)
            rw [hy] at hor HNL
            obtain ⟨acc', hacc'⟩ : ∃ acc', acc + y * 2 ^ sh = acc' := ⟨_, rfl⟩
            rw [hacc'] at hor HNL
            have Hy := hid hy; have Hacc' := hid hacc'
            clear hy hacc'
            by_cases hlt : (x : Int) < 128
            · by_cases hmo : (most : Int) < (acc' : Int)
              · have HF2 : Hid (RdM.numL most (f' + 1) sh acc r1 = (0, r2.fail 2)) := hid (by rw [HNL.out, if_neg (by simp [HE.out]), if_neg Hnb.out, if_pos (by omega), if_pos (by omega)])
                go_wp2_with fail
                refine (rfail_c HR2.out 2).mono ?_
                rintro e w2 ⟨rfl, hr3, ho3⟩
                have HR3 := hid hr3; have HO3 := hid ho3
                clear hr3 ho3
                go_wp2_with fail
                go_ret
                rw [← HN.out, HF2.out]
                exact ⟨rfl, HR3.out, (HO.out.trans HO2.out (fun _ _ e => e)).trans HO3.out (fun _ _ e => e)⟩
              · have HF2 : Hid (RdM.numL most (f' + 1) sh acc r1 = (acc', r2)) := hid (by rw [HNL.out, if_neg (by simp [HE.out]), if_neg Hnb.out, if_pos (by omega), if_neg (by omega)])
                go_wp2_with fail
                go_ret
                rw [← HN.out, HF2.out]
                exact ⟨rfl, HR2.out, HO.out.trans HO2.out (fun _ _ e => e)⟩
            · have HF2 : Hid (RdM.numL most (f' + 1) sh acc r1 = RdM.numL most f' (sh + 7) acc' r2) := hid (by rw [HNL.out, if_neg (by simp [HE.out]), if_neg Hnb.out, if_neg (by omega)])
              go_wp2_with fail
              go_roundw
              case rel =>
                refine ⟨f', sh + 7, acc', r2, rfl, by go_num, by omega, by omega, ?_, by rw [← HF2.out]; exact HN.out, HR2.out, HO.out.trans HO2.out (fun _ _ e => e)⟩
                rw [← Hacc'.out, Nat.pow_add]
                exact acc_lt HA.out (by omega)
              case measure => simp [intOf]; omega

    · have hb2 : (r2.err != 0) = true := by simp [he]
      have HF0 : Hid (RdM.numL most (f' + 1) sh acc r1 = (0, r2)) := hid (by rw [HNL.out, if_pos he])
      clear he
      go_wp2_with fail
      refine HB.out.mono ?_
      rintro e w1 ⟨rfl, hr2, ho2⟩
      have h2 : w1.cell? ⟨b, 2, none⟩ = some (.int .i64 r2.err) := let ⟨_, hp⟩ := hr2; cell_blk hp.blk 2
      have HR2 := hid hr2; have HO2 := hid ho2
      clear hr2 ho2
      go_wp2_with fail
      go_ret
      rw [← HN.out, HF0.out]
      exact ⟨rfl, HR2.out, HO.out.trans HO2.out (fun _ _ e => e)⟩

theorem num_le {r : RdM} {most : Nat} : (r.num most).1 ≤ most := by
  by_cases he : r.err = 0
  · by_cases h : (r.num most).2.err = 0
    · obtain ⟨n, post, e1, -, -, e4⟩ := num_inv he h
      rw [e1]; exact e4
    · exact numL_le most 10 0 0 r h
  · rw [num_bad he]; exact Nat.zero_le _
where
  numL_le (most : Nat) : ∀ (f sh acc : Nat) (r : RdM), (RdM.numL most f sh acc r).2.err ≠ 0 → (RdM.numL most f sh acc r).1 ≤ most
    | 0, _, _, _, _ => Nat.zero_le _
    | f + 1, sh, acc, r, h => by
      rw [RdM.numL] at h ⊢
      split at h
      · rename_i g; rw [if_pos g]; exact Nat.zero_le _
      · rename_i g
        rw [if_neg g]
        split at h
        · rename_i g2; rw [if_pos g2]; exact Nat.zero_le _
        · rename_i g2
          rw [if_neg g2]
          split at h
          · rename_i g3
            rw [if_pos g3]
            split at h
            · rename_i g4; rw [if_pos g4]; exact Nat.zero_le _
            · rename_i g4; rw [if_neg g4]; simp only; omega
          · rename_i g3
            rw [if_neg g3]
            exact numL_le most f (sh + 7) _ _ h
set_option maxRecDepth 100000 in
theorem rint_c (h : Rd w b g r) : Calls Tryz.prog 87 #[.pointer (some ⟨b, 0, none⟩)] w fun e w' => e = .returned (.int .i64 r.int.1) ∧ Rd w' b g r.int.2 ∧ Only (fun k => k = b) w w' := by
  have HN := hid (rnum_c h 18446744073709551615 (by decide))
  have hle := num_le (r := r) (most := 18446744073709551615)
  have HI : Hid (r.int = (zagN (r.num 18446744073709551615).1, (r.num 18446744073709551615).2)) := hid rfl
  obtain ⟨x, hx⟩ : ∃ x, r.num 18446744073709551615 = x := ⟨_, rfl⟩
  rw [hx] at HN HI hle
  have HZ := fun w1 => hid (zag_c (w := w1) x.1 (by omega))
  clear hx hle h
  go_enter Tryz.func87, Tryz.ntmps87
  go_wp2_with fail
  refine HN.out.mono ?_
  rintro e w1 ⟨rfl, hr, ho⟩
  have HR := hid hr; have HO := hid ho
  clear hr ho
  go_wp2_with fail
  refine (HZ _).out.mono ?_
  rintro e w2 ⟨rfl, rfl⟩
  go_wp2_with fail
  go_ret
  rw [HI.out]
  exact ⟨rfl, HR.out, HO.out⟩
set_option maxRecDepth 100000 in
theorem rtext_c (h : Rd w b g r) : Calls Tryz.prog 62 #[.pointer (some ⟨b, 0, none⟩)] w fun e w' => e = .returned (.string (strOf r.text.1)) ∧ Rd w' b g r.text.2 ∧ Only (fun k => k = b) w w' := by
  have HN := hid (rnum_c h 4096 (by decide))
  have hle := num_le (r := r) (most := 4096)
  have HI : Hid (r.text = (r.num 4096).2.take (r.num 4096).1) := hid rfl
  obtain ⟨⟨n, r1⟩, hx⟩ : ∃ x, r.num 4096 = x := ⟨_, rfl⟩
  rw [hx] at HN HI hle
  simp only at HN HI hle
  clear hx h
  have hn0 : (0 : Int) ≤ (n : Int) := by omega
  have hn1 : (n : Int) ≤ 4096 := by omega
  go_enter Tryz.func62, Tryz.ntmps62
  go_wp2_with fail
  refine HN.out.mono ?_
  rintro e w1 ⟨rfl, hr, ho⟩
  have HT := hid (rtake_c hr n (by omega))
  have HO := hid ho
  clear hr ho
  go_wp2_with fail
  refine HT.out.mono ?_
  rintro e w2 ⟨v, rfl, hs, hr2, ho2⟩
  have HR2 := hid hr2; have HO2 := hid ho2
  have hcv := conv_str hs
  obtain ⟨a, c, rfl⟩ := hs.len
  clear hr2 ho2 hs
  go_wp2_with fail
  go_ret
  rw [HI.out]
  exact ⟨rfl, HR2.out, HO.out.trans HO2.out (fun _ _ e => e)⟩
end
end Go.Proofs.YtihidpfkdpjdpaaGreatDoor
