/- The disk's plain model and the reference's: they answer alike. -/
import Derived.Test.YtepndjojodbhdaaRfX
namespace Go.Proofs.Ytepndjojodbhdaa
open Go.RowKit

/-- The disk D is the reference's r. -/
structure Match (D : DiskM) (r : RM) : Prop where
  n : r.sure.length = D.n
  su : ∀ k, k < D.n → r.sure.getD k [] = D.sure k
  pe : ∀ k : Nat, r.last (k : Int) = D.pend k
  rg : ∀ p ∈ r.ws, 0 ≤ p.1 ∧ p.1 < D.n
  dn : r.down = D.down
  fu : r.fuse = D.fuse
  nw : r.written = D.nw
  nf : r.flushed = D.nf
theorem match_burn {D : DiskM} {r : RM} (h : Match D r) (hf : -1 ≤ D.fuse) : Match D.burn r.burn.1 ∧ r.burn.2 = D.burns := by
  have hfu := h.fu
  unfold RM.burn DiskM.burn DiskM.burns
  rw [hfu]
  by_cases h0 : D.fuse = 0
  · rw [if_pos h0, if_neg (by omega), if_pos h0, h0]
    exact ⟨⟨h.n, h.su, h.pe, h.rg, rfl, rfl, h.nw, h.nf⟩, rfl⟩
  · by_cases h1 : 0 < D.fuse
    · rw [if_neg h0, if_pos h1, if_neg (by omega), if_neg h0]
      refine ⟨⟨h.n, h.su, h.pe, h.rg, h.dn, rfl, h.nw, h.nf⟩, ?_⟩
      simp [h0]
    · rw [if_neg h0, if_neg h1, if_pos (by omega), if_neg h0]
      refine ⟨⟨h.n, h.su, h.pe, h.rg, h.dn, hfu, h.nw, h.nf⟩, ?_⟩
      simp [h0]
theorem match_new (n : Nat) : Match (DiskM.new n) (RM.new n) := by
  refine ⟨by simp [RM.new, DiskM.new], fun k hk => ?_, fun k => rfl, fun p hp => by simp [RM.new] at hp, rfl, rfl, rfl, rfl⟩
  have hk' : k < n := hk
  simp [RM.new, DiskM.new, hk']
theorem match_up {D : DiskM} {r : RM} (h : Match D r) : Match D.up r.up := by
  have hd := h.dn
  unfold RM.up DiskM.up
  rw [hd]
  cases hdd : D.down with
  | true => exact ⟨h.n, h.su, fun k => rfl, fun p hp => by simp at hp, rfl, h.fu, h.nw, h.nf⟩
  | false => exact ⟨h.n, h.su, h.pe, h.rg, rfl, h.fu, h.nw, h.nf⟩
theorem match_fuse {D : DiskM} {r : RM} (h : Match D r) (n : Int) : Match (D.setFuse n) { r with fuse := max n (-1) } := ⟨h.n, h.su, h.pe, h.rg, h.dn, rfl, h.nw, h.nf⟩
theorem match_crash {D : DiskM} {r : RM} (h : Match D r) (keep : List Int) (tear at' : Int) : Match (D.crash keep tear at') (r.crash keep tear at') := by
  refine ⟨by show (r.crs keep tear at' r.sure.length).length = D.n; rw [crs_len]; exact h.n, fun k hk => ?_, fun k => rfl, fun p hp => by simp [RM.crash] at hp, rfl, rfl, h.nw, h.nf⟩
  have hk' : k < D.n := hk
  show (r.crs keep tear at' r.sure.length).getD k [] = D.crashed keep tear at' k
  have e : (r.crs keep tear at' r.sure.length).getD k [] = r.cr keep tear at' k := by
    unfold RM.crs
    rw [List.getD_eq_getElem?_getD, List.getElem?_map, List.getElem?_range (by rw [h.n]; exact hk')]
    rfl
  rw [e]
  unfold RM.cr DiskM.crashed
  rw [h.pe, h.su k hk']
  cases D.pend k <;> rfl
theorem match_get {D : DiskM} {r : RM} (h : Match D r) (hd : D.down = false) (n : Int) (h0 : 0 ≤ n) (h1 : n < D.n) : r.get n = (D.cur n.toNat, 0) := by
  obtain ⟨k, rfl⟩ := Int.eq_ofNat_of_zero_le h0
  unfold RM.get DiskM.cur
  rw [h.dn, hd, if_neg (by simp), if_neg (by rw [h.n]; omega), h.pe, Int.toNat_natCast, h.su k (by omega)]
theorem last_cons (n k : Int) (b : List UInt8) (ws : List (Int × List UInt8)) : lastW k (ws ++ [(n, b)]) none = if n = k then some b else lastW k ws none := by
  rw [lastW_app]; rfl
theorem match_write {D : DiskM} {r : RM} (h : Match D r) (hf : -1 ≤ D.fuse) (hw : 0 ≤ D.nw ∧ D.nw ≤ 1000000) (n : Int) (b : List UInt8) : Match (D.write n b).1 (r.put n b).1 ∧ (r.put n b).2 = (D.write n b).2 := by
  unfold RM.put DiskM.write
  rw [h.dn, h.n]
  cases hd : D.down with
  | true => exact ⟨h, rfl⟩
  | false =>
    simp only [Bool.false_eq_true, if_false]
    by_cases hn : n < 0 ∨ (D.n : Int) ≤ n
    · rw [if_pos hn, if_pos hn]; exact ⟨h, rfl⟩
    rw [if_neg hn, if_neg hn]
    by_cases hb : 128 < b.length
    · rw [if_pos hb, if_pos hb]; exact ⟨h, rfl⟩
    rw [if_neg hb, if_neg hb]
    by_cases hc : b.length < 128
    · rw [if_pos hc, if_pos hc]; exact ⟨h, rfl⟩
    rw [if_neg hc, if_neg hc]
    obtain ⟨hm, hbb⟩ := match_burn h hf
    rw [hbb]
    cases D.burns with
    | false => exact ⟨hm, rfl⟩
    | true =>
      simp only [if_true]
      obtain ⟨k, hk⟩ : ∃ k : Nat, n = k := ⟨n.toNat, by omega⟩
      subst hk
      refine ⟨⟨hm.n, hm.su, fun j => ?_, fun p hp => ?_, hm.dn, hm.fu, ?_, hm.nf⟩, by first | rfl | trivial⟩
      · show lastW j (r.burn.1.ws ++ [((k : Int), b)]) none = if j = (k : Int).toNat then some b else D.burn.pend j
        rw [last_cons, Int.toNat_natCast]
        by_cases e : j = k
        · rw [if_pos (by omega), if_pos e]
        · rw [if_neg (by omega), if_neg e]; exact hm.pe j
      · rcases List.mem_append.1 hp with hp | hp
        · exact hm.rg p hp
        · obtain rfl := List.mem_singleton.1 hp
          have : D.burn.n = D.n := burn_n D
          show 0 ≤ (k : Int) ∧ (k : Int) < ((D.burn.n : Nat) : Int)
          rw [this]; omega
      · show r.burn.1.written + 1 = wrap64 (D.nw + 1)
        rw [hm.nw, burn_nw]
        unfold wrap64; omega
theorem match_flush {D : DiskM} {r : RM} (h : Match D r) (hf : -1 ≤ D.fuse) (hw : 0 ≤ D.nf ∧ D.nf ≤ 1000000) : Match D.flush.1 r.flush.1 ∧ r.flush.2 = D.flush.2 := by
  unfold RM.flush DiskM.flush
  rw [h.dn]
  cases hd : D.down with
  | true => exact ⟨h, rfl⟩
  | false =>
    obtain ⟨hm, hbb⟩ := match_burn h hf
    rw [hbb]
    cases D.burns with
    | false => exact ⟨hm, rfl⟩
    | true =>
      refine ⟨⟨?_, fun k hk => ?_, fun k => rfl, fun p hp => by simp at hp, hm.dn, hm.fu, hm.nw, ?_⟩, rfl⟩
      · show (r.burn.1.curs r.burn.1.sure.length).length = D.burn.n
        rw [curs_len]; exact hm.n
      · have hk' : k < D.burn.n := hk
        show (r.burn.1.curs r.burn.1.sure.length).getD k [] = D.burn.cur k
        have e : (r.burn.1.curs r.burn.1.sure.length).getD k [] = (r.burn.1.last (k : Int)).getD (r.burn.1.sure.getD k []) := by
          unfold RM.curs
          rw [List.getD_eq_getElem?_getD, List.getElem?_map, List.getElem?_range (by rw [hm.n]; exact hk')]
          rfl
        rw [e, hm.pe, hm.su k hk']; rfl
      · show r.burn.1.flushed + 1 = wrap64 (D.nf + 1)
        rw [hm.nf, burn_nf]
        unfold wrap64; omega
end Go.Proofs.Ytepndjojodbhdaa
