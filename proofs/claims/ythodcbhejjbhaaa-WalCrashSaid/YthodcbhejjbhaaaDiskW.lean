/- The disk: Write. -/
import Derived.Test.YthodcbhejjbhaaaDiskD
namespace Go.Proofs.Ythodcbhejjbhaaa
open Go.RowKit

def DiskM.write (D : DiskM) (n : Int) (l : List UInt8) : DiskM × Int :=
  if D.down then (D, 50) else if n < 0 ∨ (D.n : Int) ≤ n then (D, 1) else if 128 < l.length then (D, 2) else if l.length < 128 then (D, 6)
  else if D.burns then ({ D.burn.put n.toNat l with nw := wrap64 (D.nw + 1) }, 0) else (D.burn, 50)

section
variable {w w' : World} {b : Nat} {D : DiskM} {F : Nat → Prop}

theorem burn_n (D : DiskM) : D.burn.n = D.n := by unfold DiskM.burn; split <;> (try split) <;> rfl
theorem burn_nw (D : DiskM) : D.burn.nw = D.nw := by unfold DiskM.burn; split <;> (try split) <;> rfl
theorem burn_nf (D : DiskM) : D.burn.nf = D.nf := by unfold DiskM.burn; split <;> (try split) <;> rfl
theorem burn_pend (D : DiskM) : D.burn.pend = D.pend := by unfold DiskM.burn; split <;> (try split) <;> rfl
theorem burn_sure (D : DiskM) : D.burn.sure = D.sure := by unfold DiskM.burn; split <;> (try split) <;> rfl

set_option maxRecDepth 100000 in
theorem write_refused (h : DiskAt w b D F) (n : Int) (v : Value) (l : List UInt8) (hs : Src w v l) (hc : D.down = true ∨ n < 0 ∨ (D.n : Int) ≤ n ∨ l.length ≠ 128) (hbig : l.length ≤ 1000000) :
    Calls Try.prog 72 #[.pointer (some ⟨b, 0, none⟩), .int .i64 n, v] w fun e w' => e = .returned (.int .i64 (D.write n l).2) ∧ (D.write n l).1 = D ∧ w = w' := by
  obtain ⟨gs, cap, ms, hcell, hz⟩ := h.cells
  obtain ⟨a, c, rfl, -⟩ := hs
  clear h
  cases hd : D.down with
  | true =>
    have e2 : D.write n l = (D, 50) := by simp [DiskM.write, hd]
    have E2 := hid e2
    rw [hd] at hcell
    clear hd e2 hc
    go_enter Try.func72, Try.ntmps72
    go_wp2
    go_ret
    rw [E2.out]; exact ⟨rfl, rfl, rfl⟩
  | false =>
    rw [hd] at hcell hc
    by_cases h1 : n < 0
    · have e2 : D.write n l = (D, 1) := by simp [DiskM.write, hd, h1]
      have E2 := hid e2
      clear hd e2 hc
      go_enter Try.func72, Try.ntmps72
      go_wp2
      go_ret
      rw [E2.out]; exact ⟨rfl, rfl, rfl⟩
    · by_cases h2 : (D.n : Int) ≤ n
      · have e2 : D.write n l = (D, 1) := by simp [DiskM.write, hd, h1, h2]
        have E2 := hid e2
        clear hd e2 hc
        go_enter Try.func72, Try.ntmps72
        go_wp2
        go_ret
        rw [E2.out]; exact ⟨rfl, rfl, rfl⟩
      · by_cases h3 : 128 < l.length
        · have e2 : D.write n l = (D, 2) := by simp [DiskM.write, hd, h1, h2, h3]
          have E2 := hid e2
          clear hd e2 hc
          go_enter Try.func72, Try.ntmps72
          go_wp2
          go_ret
          rw [E2.out]; exact ⟨rfl, rfl, rfl⟩
        · have h4 : l.length < 128 := by
            rcases hc with hc | hc | hc | hc
            · cases hc
            · exact absurd hc h1
            · exact absurd hc h2
            · omega
          have e2 : D.write n l = (D, 6) := by simp [DiskM.write, hd, h1, h2, h3, h4]
          have E2 := hid e2
          clear hd e2 hc
          go_enter Try.func72, Try.ntmps72
          go_wp2
          go_ret
          rw [E2.out]; exact ⟨rfl, rfl, rfl⟩

set_option maxRecDepth 100000 in
set_option maxHeartbeats 800000 in
theorem write_taken (h : DiskAt w b D F) (hd : D.down = false) (n : Int) (h0 : 0 ≤ n) (h1 : n < D.n) (v : Value) (l : List UInt8) (hs : Src w v l) (hv : ∀ g o c, v = .slice (some ⟨g, o, none⟩) l.length c → ¬ F g) (hl : l.length = 128) :
    Calls Try.prog 72 #[.pointer (some ⟨b, 0, none⟩), .int .i64 n, v] w fun e w' => e = .returned (.int .i64 (D.write n l).2) ∧ DStep w w' b (D.write n l).1 F := by
  obtain ⟨k, rfl⟩ := Int.eq_ofNat_of_zero_le h0
  have hk : k < D.n := by omega
  obtain ⟨gs, cap, ms, hcell, hz⟩ := h.cells
  rw [hd] at hcell
  have hgt : decide ((128 : Int) < (l.length : Int)) = false := by simp; omega
  have hlt : decide ((l.length : Int) < 128) = false := by simp; omega
  have HB := hid (burn_c h)
  have HL := hid hl
  have HS := hid hs
  have HV := hid hv
  have HA := hid h
  obtain ⟨a, c, rfl, -⟩ := hs
  have hge : ¬ ((D.n : Int) ≤ (k : Int)) := by omega
  cases hb : D.burns with
  | false =>
    have e2 : D.write k l = (D.burn, 50) := by simp [DiskM.write, hd, hl, hb]; omega
    have E2 := hid e2
    rw [hb] at HB
    clear hd e2 hl h hv h0 h1 hb
    go_enter Try.func72, Try.ntmps72
    go_wp2_with (go_at_call 73; refine HB.out.mono ?_; rintro e w' ⟨rfl, hat, hon⟩)
    go_ret
    rw [E2.out]; exact ⟨rfl, hat.step hon⟩
  | true =>
    have e2 : D.write k l = ({ D.burn.put k l with nw := wrap64 (D.nw + 1) }, 0) := by simp [DiskM.write, hd, hl, hb]; omega
    have E2 := hid e2
    rw [hb] at HB
    clear hd e2 hl h hv h0 h1 hb
    go_enter Try.func72, Try.ntmps72
    go_wp2_with (go_at_call 73; refine HB.out.mono ?_; rintro e w' ⟨rfl, hat, hon⟩; have Hat := hid hat; have Hon := hid hon; clear hat hon)
    obtain ⟨gs1, cap1, ms1, sg1, sc1, pe1, clock1, ρ1, hr1, hq1, hq2⟩ := Hat.out
    have hb1 := blk_set hr1.blk 0 (.int .i64 (wrap64 (D.burn.nw + 1)))
    have ho1 : Only (fun k => k = b) w' (w'.setCell ⟨b, 0, none⟩ (.int .i64 (wrap64 (D.burn.nw + 1)))) := only_set b 0 _
    have hr2 := hr1.upd ho1 { D.burn with nw := wrap64 (D.burn.nw + 1) } rfl rfl rfl hb1 hr1.fu
    refine (add64 _ _ _ D.burn.nw ?_ ?_).mono ?_
    · rw [cell_blk hr1.blk]; rfl
    · rw [frozen_blk hr1.blk]
    rintro e w2 ⟨rfl, hw2⟩
    rw [← hw2] at hr2 ho1
    have hc3 : w2.cell? ⟨b, 3, none⟩ = some (.map (some ms1)) := by rw [cell_blk hr2.blk]; rfl
    have hblt : b < w2.heap.size := blk_lt hr2.blk
    have hsrc2 : Src w2 (.slice a l.length c) l := (HS.out.only Hon.out (fun _ => HV.out)).only ho1 (fun _ g o c' e eb => HV.out g o c' e (by rw [eb]; exact HA.out.has))
    have hne : l ≠ [] := by intro e; have := HL.out; rw [e] at this; simp at this
    have hbig : l.length ≤ 1000000 := by rw [HL.out]; decide
    have hod : Only (fun _ => False) w2 w2.drew := (Only.refl _ _).drew
    have HC := hid (clone_any w2.drew _ l (hsrc2.only hod (fun _ _ _ _ _ e => e)) hne hbig)
    have hr2 := hr2.only hod (fun _ _ e => e)
    have ho1 := ho1.drew
    have HBM : Hid (¬ b = ms1) := hid (fun e => by have h1 := hr2.rb; have h2 := hr2.rm; rw [e, h2] at h1; cases h1)
    have HR2 := hid hr2; have HO1 := hid ho1; have HQ1 := hid hq1; have HQ2 := hid hq2; have HW2 := hid hw2; have HN := hid hblt
    clear hr2 ho1 hq1 hq2 hr1 hb1 hw2 hsrc2 hne hbig hblt
    go_wp2_with fail
    go_region_held3 (fun W => W.cell? ⟨b, 3, none⟩ = some (.map (some ms1)))
      (first | exact (World.cell?_of_block (Honly.out.block b HN.out (fun e => e))).trans hc3 | exact (World.cell?_of_block (Ho4.out.block b (Nat.lt_of_lt_of_le HN.out Honly.out.size) HBM.out)).trans ((World.cell?_of_block (Honly.out.block b HN.out (fun e => e))).trans hc3) | go_keep)
      ((go_at_call 70; refine HC.out.mono ?_; rintro e w3 ⟨v', g', c', rfl, hmade, honly⟩; have hv := hmade.val; rw [HL.out] at hv; subst hv; obtain ⟨w4, hup, hm4, ho4, hs4⟩ := (HR2.out.map.only honly (fun e => e)).run_update (P := Try.prog) 70 3 33 Try.underlying70 Try.underlying3 (k : Int) (secV g' c'); unfold secV at hup; have Hmade := hid hmade; have Honly := hid honly; have Hm4 := hid hm4; have Ho4 := hid ho4; have Hs4 := hid hs4; clear hmade honly hm4 ho4 hs4))
    go_wp2
    go_ret
    rw [E2.out]
    have hHr := HR2.out
    have hq1 := HQ1.out
    have hq2 := HQ2.out
    have hsz1 := HO1.out.size
    have hsz2 := Honly.out.size
    have hsz4 := Hs4.out
    have hlo := Hmade.out.lo
    have hhi := Hmade.out.hi
    have hsz0 := Hon.out.size
    have hfree : ρ1 g' = .non := by
      cases hρ : ρ1 g' with
      | non => rfl
      | _ => have := hq2 g' (hq1 g' (by rw [hρ]; simp)); omega
    have hrep := (hHr.only Honly.out (fun _ _ e => e)).putted (by show k < D.burn.n; rw [burn_n]; exact hk) HL.out hfree Hmade.out.row Hm4.out Ho4.out
    have heq : ({ D.burn with nw := wrap64 (D.burn.nw + 1) } : DiskM).put k l = { D.burn.put k l with nw := wrap64 (D.nw + 1) } := by simp [DiskM.put, burn_nw]
    rw [heq] at hrep
    have hall : Only F w w4 := ((Hon.out.trans HO1.out (fun j _ e => by rw [e]; exact HA.out.has)).trans Honly.out (fun _ _ e => e.elim)).trans Ho4.out (fun j _ e => by rw [e]; exact hq1 _ (by rw [hHr.rm]; simp))
    refine ⟨rfl, fun x => F x ∨ x = g', ⟨gs1, cap1, ms1, sg1, sc1, _, _, _, hrep, ?_, ?_⟩, hall, ?_⟩
    · intro j hj
      by_cases e : j = g'
      · exact .inr e
      · simp only [if_neg e] at hj; exact .inl (hq1 j hj)
    · rintro j (hj | rfl)
      · have := hq2 j hj; omega
      · omega
    · rintro j (hj | rfl)
      · exact .inl hj
      · right; omega

theorem write_c (h : DiskAt w b D F) (n : Int) (v : Value) (l : List UInt8) (hs : Src w v l) (hv : ∀ g o c, v = .slice (some ⟨g, o, none⟩) l.length c → ¬ F g) (hbig : l.length ≤ 1000000) :
    Calls Try.prog 72 #[.pointer (some ⟨b, 0, none⟩), .int .i64 n, v] w fun e w' => e = .returned (.int .i64 (D.write n l).2) ∧ DStep w w' b (D.write n l).1 F := by
  by_cases hc : D.down = true ∨ n < 0 ∨ (D.n : Int) ≤ n ∨ l.length ≠ 128
  · refine (write_refused h n v l hs hc hbig).mono ?_
    rintro e w' ⟨rfl, hD, rfl⟩
    rw [hD]; exact ⟨rfl, h.same⟩
  · have h1 : D.down = false := by cases hd : D.down <;> simp_all
    exact write_taken h h1 n (by omega) (by omega) v l hs hv (by omega)
end
end Go.Proofs.Ythodcbhejjbhaaa
