/- DiskFuse: the walk. -/
import Derived.Test.YtepndjojodbhdaaDiskO
namespace Go.Proofs.Ytepndjojodbhdaa
open Go.RowKit

/-- Behind so many done steps under a fuse. -/
def FuseRel (fuse done : Int) (D : DiskM) : Prop :=
  D.n = 4 ∧ ((D.down = false ∧ D.fuse = fuse - done ∧ 0 ≤ done ∧ done ≤ fuse) ∨ (D.down = true ∧ D.fuse = -1 ∧ done = fuse ∧ 0 ≤ done))

theorem flush_n (D : DiskM) : D.flush.1.n = D.n := by unfold DiskM.flush; split <;> (try split) <;> simp [DiskM.flushed, burn_n]
theorem write_n (D : DiskM) (n : Int) (l : List UInt8) : (D.write n l).1.n = D.n := by
  unfold DiskM.write; repeat' split
  all_goals simp [DiskM.put, burn_n]

theorem flush_yes {fuse done : Int} {D : DiskM} (h : FuseRel fuse done D) (hl : done < fuse) : D.flush.2 = 0 ∧ D.flush.1.down = false ∧ FuseRel fuse (done + 1) D.flush.1 := by
  obtain ⟨hn, ⟨hd, hf, h0, h1⟩ | ⟨hd, hf, h0, h1⟩⟩ := h
  · have hb : D.burns = true := by simp [DiskM.burns, hf]; omega
    have hbd : D.burn = { D with fuse := D.fuse - 1 } := by unfold DiskM.burn; rw [if_neg (by omega), if_neg (by omega)]
    have e : D.flush = ({ D.burn.flushed with nf := wrap64 (D.nf + 1) }, 0) := by simp [DiskM.flush, hd, hb]
    rw [e, hbd]
    refine ⟨rfl, hd, hn, .inl ⟨hd, ?_, by omega, by omega⟩⟩
    show D.fuse - 1 = _
    omega
  · omega
theorem flush_no {fuse done : Int} {D : DiskM} (h : FuseRel fuse done D) (hl : ¬ done < fuse) : D.flush.2 = 50 ∧ D.flush.1.down = true ∧ FuseRel fuse done D.flush.1 := by
  obtain ⟨hn, ⟨hd, hf, h0, h1⟩ | ⟨hd, hf, h0, h1⟩⟩ := h
  · have hb : D.burns = false := by simp [DiskM.burns, hf]; omega
    have hbd : D.burn = { D with down := true, fuse := -1 } := by unfold DiskM.burn; rw [if_neg (by omega), if_pos (by omega)]
    have e : D.flush = (D.burn, 50) := by simp [DiskM.flush, hd, hb]
    rw [e, hbd]
    exact ⟨rfl, rfl, hn, .inr ⟨rfl, rfl, by omega, by omega⟩⟩
  · have e : D.flush = (D, 50) := by simp [DiskM.flush, hd]
    rw [e]
    exact ⟨rfl, hd, hn, .inr ⟨hd, hf, h0, h1⟩⟩
theorem write_yes {fuse done : Int} {D : DiskM} (h : FuseRel fuse done D) (hl : done < fuse) (n : Int) (l : List UInt8) (h0' : 0 ≤ n) (h4 : n < 4) (hll : l.length = 128) : (D.write n l).2 = 0 ∧ (D.write n l).1.down = false ∧ FuseRel fuse (done + 1) (D.write n l).1 := by
  obtain ⟨hn, ⟨hd, hf, h0, h1⟩ | ⟨hd, hf, h0, h1⟩⟩ := h
  · have hb : D.burns = true := by simp [DiskM.burns, hf]; omega
    have hbd : D.burn = { D with fuse := D.fuse - 1 } := by unfold DiskM.burn; rw [if_neg (by omega), if_neg (by omega)]
    have e : D.write n l = ({ D.burn.put n.toNat l with nw := wrap64 (D.nw + 1) }, 0) := by simp [DiskM.write, hd, hb, hn, hll]; omega
    rw [e, hbd]
    refine ⟨rfl, hd, hn, .inl ⟨hd, ?_, by omega, by omega⟩⟩
    show D.fuse - 1 = _
    omega
  · omega
theorem write_no {fuse done : Int} {D : DiskM} (h : FuseRel fuse done D) (hl : ¬ done < fuse) (n : Int) (l : List UInt8) (h0' : 0 ≤ n) (h4 : n < 4) (hll : l.length = 128) : (D.write n l).2 = 50 ∧ (D.write n l).1.down = true ∧ FuseRel fuse done (D.write n l).1 := by
  obtain ⟨hn, ⟨hd, hf, h0, h1⟩ | ⟨hd, hf, h0, h1⟩⟩ := h
  · have hb : D.burns = false := by simp [DiskM.burns, hf]; omega
    have hbd : D.burn = { D with down := true, fuse := -1 } := by unfold DiskM.burn; rw [if_neg (by omega), if_pos (by omega)]
    have e : D.write n l = (D.burn, 50) := by simp [DiskM.write, hd, hb, hn, hll]; omega
    rw [e, hbd]
    exact ⟨rfl, rfl, hn, .inr ⟨rfl, rfl, by omega, by omega⟩⟩
  · have e : D.write n l = (D, 50) := by simp [DiskM.write, hd]
    rw [e]
    exact ⟨rfl, hd, hn, .inr ⟨hd, hf, h0, h1⟩⟩

theorem made_src128 {w w' : World} {g : Nat} {l : List UInt8} (hm : Made w w' (.slice (some ⟨g, 0, none⟩) 128 128) l g 128) (_hl : l.length = 128) : Src w' (.slice (some ⟨g, 0, none⟩) 128 128) l := hm.src

/-- In the loop. -/
def FuseInv (w wr : World) (b : Nat) (fuse done : Int) : Prop := ∃ D F, DiskAt wr b D F ∧ FuseRel fuse done D ∧ Only (fun _ => False) w wr ∧ ∀ k, F k → w.heap.size ≤ k

set_option maxRecDepth 100000 in
set_option maxHeartbeats 1600000 in
theorem diskFuse_c (w : World) (v : Value) (l : List OpM) (h : OpsAt w w.heap.size v l) (fuse : Int) (hf1 : fuse ≤ 9223372036854775807) :
    Calls Try.prog 3 #[.int .i64 fuse, v] w fun e w' => e = .returned (.bool true) ∧ Only (fun _ => False) w w' := by
  have HF1 := hid hf1
  clear hf1
  go_enter Try.func3, Try.ntmps3
  go_wp2_with fail
  refine (works_c w).mono ?_
  rintro e w1 ⟨rfl, ho1⟩
  have hfit := fits_c w1 w.heap.size ho1.size v l (h.only ho1 (Nat.le_refl _) (fun _ _ e => e))
  have HFit := hid hfit; have Ho1 := hid ho1; have H := hid h
  clear hfit ho1 h
  go_wp2_with fail
  refine HFit.out.mono ?_
  rintro e w2 ⟨rfl, ho2⟩
  have Ho2 := hid (Ho1.out.trans ho2 (fun _ _ e => e))
  clear ho2 Ho1 HFit
  cases hfits : fitsB l with
  | false =>
    go_wp2_with fail
    go_ret
    exact ⟨rfl, Ho2.out⟩
  | true =>
    by_cases hlo : fuse < 0
    · go_wp2_with fail
      go_ret
      exact ⟨rfl, Ho2.out⟩
    by_cases hhi : 40 < fuse
    · go_wp2_with fail
      go_ret
      exact ⟨rfl, Ho2.out⟩
    go_wp2_with fail
    refine (new_ok w2 4 (by decide) (by decide)).mono ?_
    rintro e w3 ⟨b, F0, rfl, h0, ho0, hF0⟩
    have H0 := hid h0; have Ho3 := hid (Ho2.out.trans ho0 (fun _ _ e => e))
    have HF0 : Hid (∀ k, F0 k → w.heap.size ≤ k) := hid (fun k hk => by have h1 := Ho2.out.size; have h2 := hF0 k hk; omega)
    clear h0 ho0 hF0 Ho2
    go_wp2_with fail
    refine (fuse_c H0.out fuse HF1.out).mono ?_
    rintro e w4 ⟨rfl, h1, ho⟩
    have hrel0 : FuseRel fuse 0 ((DiskM.new 4).setFuse fuse) := ⟨rfl, .inl ⟨rfl, by simp [DiskM.setFuse]; omega, by omega, by omega⟩⟩
    have HI : Hid (FuseInv w w4 b fuse 0) := hid ⟨_, _, h1, hrel0, Ho3.out.trans ho (fun k hk hf => by have := HF0.out k hf; omega), HF0.out⟩
    clear h1 ho H0 Ho3 HF0 hrel0
    obtain ⟨a, c, rfl, hll, hl⟩ := H.out
    have HL := hid hl
    clear hl hfits
    go_wp2_with fail
    try go_frame
    go_loopw [7, 9, 10, 38] (fun dn _ _ i wr => ∃ k done : Nat, i = .int .i64 k ∧ k ≤ l.length ∧ dn = .int .i64 done ∧ done ≤ k ∧ FuseInv w wr b fuse done) (fun _ _ _ i _ => l.length - (intOf i).toNat)
    case atStart => exact ⟨0, 0, rfl, Nat.zero_le _, rfl, Nat.le_refl _, HI.out⟩
    case round =>
      obtain ⟨k, done, rfl, hk, rfl, hdk, hinv⟩ := hrel
      have HI := hid hinv
      clear hinv
      by_cases hkl : k < l.length
      · obtain ⟨hat, g, of, rfl, hgB, hc⟩ := HL.out k l[k] (List.getElem?_eq_getElem hkl)
        obtain ⟨D, F, hD, hrel', ho, hF⟩ := HI.out
        obtain ⟨o, hoo⟩ : ∃ o, o = l[k] := ⟨_, rfl⟩
        rw [← hoo] at hat hc
        have hcw : ∀ j u, o.cells[j]? = some u → wr.cell? ⟨g, of + k * 7 + j, none⟩ = some u := by
          intro j u hj
          rw [← hc j u hj]
          exact World.cell?_of_block (ho.block g hgB (fun e => e))
        have c0 := hcw 0 _ rfl
        rw [Nat.add_zero] at c0
        have c1 := hcw 1 _ rfl
        have c2 := hcw 2 _ rfl
        have c3 := hcw 3 _ rfl
        have c4 := hcw 4 _ rfl
        have c5 := hcw 5 _ rfl
        have c6 := hcw 6 _ rfl
        have hatw := hat.only ho (fun _ _ e => e)
        obtain ⟨da, dc, hd⟩ := hat.data.len
        obtain ⟨ka, kc, hkv⟩ := hat.keep.len
        rw [hd] at c5
        rw [hkv, length_intsV] at c6
        have Hat := hid hatw; have HD := hid hD; have HRel := hid hrel'; have Ho := hid ho; have HF := hid hF; have Hdv := hid hd; have Hkv := hid hkv
        clear hc hcw hat hoo hd hkv hatw hD hrel' ho hF HI
        have HDa : ∀ ob, Hid (DiskAt (wr.alloc ob) b D F) := fun ob => HD.out.only ((Only.refl _ _).alloc _) (fun _ _ e => e)
        by_cases hkind : o.kind = 2
        · have hk2 : (o.kind == 2) = true := by simp [hkind]
          clear hkind
          by_cases hlt : (done : Int) < fuse
          · obtain ⟨e1, e2, e3⟩ := flush_yes HRel.out hlt
            have E1 := hid e1; have E2 := hid e2; have E3 := hid e3
            clear e1 e2 e3
            go_wp2_with fail
            refine (flush_c (HDa _).out).mono ?_
            rintro e w5 ⟨rfl, hD5, ho5⟩
            rw [E1.out]
            have HD6 := hid hD5
            have HI6 : Hid (FuseInv w w5 b fuse ((done : Int) + 1)) := hid ⟨_, F, hD5, E3.out, (Ho.out.alloc _).trans ho5 (fun k hk hf => by have := HF.out k hf; omega), HF.out⟩
            clear hD5 ho5
            go_wp2_with fail
            refine (down_c HD6.out).mono ?_
            rintro e w' ⟨rfl, rfl⟩
            rw [E2.out]
            go_wp2_with fail
            go_roundw
            case rel => exact ⟨k + 1, done + 1, by go_num, by omega, by go_num, by omega, HI6.out⟩
            case measure => simp [intOf]; omega
          · obtain ⟨e1, e2, e3⟩ := flush_no HRel.out hlt
            have E1 := hid e1; have E2 := hid e2; have E3 := hid e3
            clear e1 e2 e3
            go_wp2_with fail
            refine (flush_c (HDa _).out).mono ?_
            rintro e w5 ⟨rfl, hD5, ho5⟩
            rw [E1.out]
            have HD6 := hid hD5
            have HI6 : Hid (FuseInv w w5 b fuse ((done : Int))) := hid ⟨_, F, hD5, E3.out, (Ho.out.alloc _).trans ho5 (fun k hk hf => by have := HF.out k hf; omega), HF.out⟩
            clear hD5 ho5
            go_wp2_with fail
            refine (down_c HD6.out).mono ?_
            rintro e w' ⟨rfl, rfl⟩
            rw [E2.out]
            go_wp2_with fail
            go_roundw
            case rel => exact ⟨k + 1, done, by go_num, by omega, rfl, by omega, HI6.out⟩
            case measure => simp [intOf]; omega
        · have hk2 : (o.kind == 2) = false := by simp [hkind]
          clear hkind
          obtain ⟨q, hq⟩ : ∃ q : Int, (if 0 < o.n then o.n else 0) = q := ⟨_, rfl⟩
          have hq0 : 0 ≤ q := by rw [← hq]; split <;> omega
          have hq1 : 0 ≤ q.tmod 4 := by rw [Int.tmod_eq_emod_of_nonneg hq0]; omega
          have hq2 : q.tmod 4 < 4 := by rw [Int.tmod_eq_emod_of_nonneg hq0]; omega
          have HDd : ∀ ob, Hid (DiskAt (wr.alloc ob).drew b D F) := fun ob => HD.out.only ((Only.refl _ _).alloc _).drew (fun _ _ e => e)
          have HSrc : ∀ ob, Hid (Src (wr.alloc ob).drew (.slice da o.data.length dc) o.data) := fun ob => by
            have := Hat.out.data.only ((Only.refl (fun _ => False) wr).alloc ob).drew (fun _ _ _ _ _ e => e)
            rw [Hdv.out] at this; exact this
          by_cases hlt : (done : Int) < fuse
          · obtain ⟨e1, e2, e3⟩ := write_yes HRel.out hlt (q.tmod 4) (sectorL o.data) hq1 hq2 (by simp)
            have E1 := hid e1; have E2 := hid e2; have E3 := hid e3
            clear e1 e2 e3
            have hgn : (Hid (¬ F wr.heap.size)) := hid (fun h => by have := HD.out.lt h; omega)
            go_wp2_with fail
            go_region_held3 (fun W' => W'.cell? ⟨wr.heap.size, 1, none⟩ = some (.int .i64 o.n) ∧ W'.cell? ⟨wr.heap.size, 5, none⟩ = some (.slice da o.data.length dc))
              (first | exact ⟨(World.cell?_of_block (Ho5.out.block wr.heap.size (by simp) (fun e => e))).trans (by simp), (World.cell?_of_block (Ho5.out.block wr.heap.size (by simp) (fun e => e))).trans (by simp)⟩ | exact ⟨(World.cell?_of_block (Ho6.out.block wr.heap.size (Nat.lt_of_lt_of_le (by simp) Ho5.out.size) hgn.out)).trans ((World.cell?_of_block (Ho5.out.block wr.heap.size (by simp) (fun e => e))).trans (by simp)), (World.cell?_of_block (Ho6.out.block wr.heap.size (Nat.lt_of_lt_of_le (by simp) Ho5.out.size) hgn.out)).trans ((World.cell?_of_block (Ho5.out.block wr.heap.size (by simp) (fun e => e))).trans (by simp))⟩ | go_keep)
              (first
                | (go_at_call 29; refine (sector_c _ _ o.data (HSrc _).out).mono ?_; rintro e w5 ⟨g5, rfl, hm5, ho5⟩; have HWr := hid (write_c ((HDd _).out.only ho5 (fun _ _ e => e)) (q.tmod 4) _ (sectorL o.data) (made_src128 hm5 (length_sectorL _)) (hm5.apart (HDd _).out) (by simp)); have Ho5 := hid ho5; clear hm5 ho5)
                | (go_at_call 28; refine HWr.out.mono ?_; rintro e w6 ⟨rfl, F6, hD6, ho6, hF6⟩; have HD6 := hid hD6; have Ho6 := hid ho6; have HF6 := hid hF6; clear hD6 ho6 hF6; rw [E1.out]))
            all_goals
              have HI6 : Hid (FuseInv w w6 b fuse ((done : Int) + 1)) := hid ⟨_, F6, HD6.out, E3.out, ((Ho.out.alloc _).drew.trans Ho5.out (fun _ _ e => e)).trans Ho6.out (fun k hk hf => by have := HF.out k hf; omega), fun k hk => by
                have h1 := Ho.out.size
                have h2 := Ho5.out.size
                have h3 : wr.heap.size ≤ w5.heap.size := Nat.le_trans (by simp) h2
                rcases HF6.out k hk with h | h
                · exact HF.out k h
                · omega⟩
              go_wp2_with fail
              refine (down_c HD6.out).mono ?_
              rintro e w' ⟨rfl, rfl⟩
              rw [E2.out]
              go_wp2_with fail
              go_roundw
              case rel => exact ⟨k + 1, done + 1, by go_num, by omega, by go_num, by omega, HI6.out⟩
              case measure => simp [intOf]; omega
          · obtain ⟨e1, e2, e3⟩ := write_no HRel.out hlt (q.tmod 4) (sectorL o.data) hq1 hq2 (by simp)
            have E1 := hid e1; have E2 := hid e2; have E3 := hid e3
            clear e1 e2 e3
            have hgn : (Hid (¬ F wr.heap.size)) := hid (fun h => by have := HD.out.lt h; omega)
            go_wp2_with fail
            go_region_held3 (fun W' => W'.cell? ⟨wr.heap.size, 1, none⟩ = some (.int .i64 o.n) ∧ W'.cell? ⟨wr.heap.size, 5, none⟩ = some (.slice da o.data.length dc))
              (first | exact ⟨(World.cell?_of_block (Ho5.out.block wr.heap.size (by simp) (fun e => e))).trans (by simp), (World.cell?_of_block (Ho5.out.block wr.heap.size (by simp) (fun e => e))).trans (by simp)⟩ | exact ⟨(World.cell?_of_block (Ho6.out.block wr.heap.size (Nat.lt_of_lt_of_le (by simp) Ho5.out.size) hgn.out)).trans ((World.cell?_of_block (Ho5.out.block wr.heap.size (by simp) (fun e => e))).trans (by simp)), (World.cell?_of_block (Ho6.out.block wr.heap.size (Nat.lt_of_lt_of_le (by simp) Ho5.out.size) hgn.out)).trans ((World.cell?_of_block (Ho5.out.block wr.heap.size (by simp) (fun e => e))).trans (by simp))⟩ | go_keep)
              (first
                | (go_at_call 29; refine (sector_c _ _ o.data (HSrc _).out).mono ?_; rintro e w5 ⟨g5, rfl, hm5, ho5⟩; have HWr := hid (write_c ((HDd _).out.only ho5 (fun _ _ e => e)) (q.tmod 4) _ (sectorL o.data) (made_src128 hm5 (length_sectorL _)) (hm5.apart (HDd _).out) (by simp)); have Ho5 := hid ho5; clear hm5 ho5)
                | (go_at_call 28; refine HWr.out.mono ?_; rintro e w6 ⟨rfl, F6, hD6, ho6, hF6⟩; have HD6 := hid hD6; have Ho6 := hid ho6; have HF6 := hid hF6; clear hD6 ho6 hF6; rw [E1.out]))
            all_goals
              have HI6 : Hid (FuseInv w w6 b fuse ((done : Int))) := hid ⟨_, F6, HD6.out, E3.out, ((Ho.out.alloc _).drew.trans Ho5.out (fun _ _ e => e)).trans Ho6.out (fun k hk hf => by have := HF.out k hf; omega), fun k hk => by
                have h1 := Ho.out.size
                have h2 := Ho5.out.size
                have h3 : wr.heap.size ≤ w5.heap.size := Nat.le_trans (by simp) h2
                rcases HF6.out k hk with h | h
                · exact HF.out k h
                · omega⟩
              go_wp2_with fail
              refine (down_c HD6.out).mono ?_
              rintro e w' ⟨rfl, rfl⟩
              rw [E2.out]
              go_wp2_with fail
              go_roundw
              case rel => exact ⟨k + 1, done, by go_num, by omega, rfl, by omega, HI6.out⟩
              case measure => simp [intOf]; omega
      · have : k = l.length := by omega
        subst this
        obtain ⟨D, F, hD, hrel', ho, hF⟩ := HI.out
        have HD := hid hD; have HRel := hid hrel'; have Ho := hid ho; have HF := hid hF
        clear hD hrel' ho hF HI HL H
        rcases HRel.out with ⟨hn, ⟨hd, hf, h0, h1⟩ | ⟨hd, hf, h0, h1⟩⟩
        · have Hd := hid hd; have Hn := hid hn
          clear hd hf h0 h1 hn
          go_wp2_with fail
          refine (read_ok HD.out Hd.out 0 (by decide) (by rw [Hn.out]; decide)).mono ?_
          rintro e w5 ⟨g, c5, rfl, hm, ho5⟩
          have HD5 := hid (HD.out.only ho5 (fun _ _ e => e))
          have Ho5 := hid (Ho.out.trans ho5 (fun _ _ e => e))
          clear hm ho5
          unfold secV
          go_wp2_with fail
          refine (down_c HD5.out).mono ?_
          rintro e w' ⟨rfl, rfl⟩
          rw [Hd.out]
          go_wp2_with fail
          refine (down_c HD5.out).mono ?_
          rintro e w' ⟨rfl, rfl⟩
          rw [Hd.out]
          go_wp2_with fail
          refine (up_c HD5.out).mono ?_
          rintro e w6 ⟨rfl, hD6, ho6⟩
          have HD6 := hid hD6
          have Ho6 := hid (Ho5.out.trans ho6 (fun k hk hf => by have := HF.out k hf; omega))
          clear hD6 ho6
          go_wp2_with fail
          refine (down_c HD6.out).mono ?_
          rintro e w' ⟨rfl, rfl⟩
          rw [show D.up.down = false from rfl]
          go_wp2_with fail
          go_ret
          exact ⟨rfl, Ho6.out⟩
        · have Hd := hid hd; have Hn := hid hn; have Hf := hid hf
          clear hd hf h0 h1 hn
          go_wp2_with fail
          refine (read_down HD.out Hd.out 0).mono ?_
          rintro e w' ⟨rfl, rfl⟩
          go_wp2_with fail
          refine (down_c HD.out).mono ?_
          rintro e w' ⟨rfl, rfl⟩
          rw [Hd.out]
          go_wp2_with fail
          refine (down_c HD.out).mono ?_
          rintro e w' ⟨rfl, rfl⟩
          rw [Hd.out]
          go_wp2_with fail
          refine (up_c HD.out).mono ?_
          rintro e w6 ⟨rfl, hD6, ho6⟩
          have HD6 := hid hD6
          have Ho6 := hid (Ho.out.trans ho6 (fun k hk hf => by have := HF.out k hf; omega))
          clear hD6 ho6
          go_wp2_with fail
          refine (down_c HD6.out).mono ?_
          rintro e w' ⟨rfl, rfl⟩
          rw [show D.up.down = false from rfl]
          go_wp2_with fail
          refine (full_c w6 1 1 rfl).mono ?_
          rintro e w7 ⟨g7, rfl, hm, ho7⟩
          have h7 := HD6.out.only ho7 (fun _ _ e => e)
          have HW := hid (write_c h7 0 _ _ (by have := hm.src; exact this) (hm.apart HD6.out) (by simp))
          have Ho7 := hid (Ho6.out.trans ho7 (fun _ _ e => e))
          have hc1 : (D.up.write 0 (List.replicate 128 1)).2 = 0 := by simp [DiskM.write, DiskM.up, DiskM.burns, Hn.out, Hf.out]
          have hc2 : (D.up.write 0 (List.replicate 128 1)).1.flush.2 = 0 := by simp [DiskM.write, DiskM.up, DiskM.burns, DiskM.burn, DiskM.put, DiskM.flush, Hn.out, Hf.out]
          have Hc1 := hid hc1; have Hc2 := hid hc2
          clear h7 hm ho7 hc1 hc2
          go_wp2_with fail
          refine HW.out.mono ?_
          rintro e w8 ⟨rfl, F8, hD8, ho8, hF8⟩
          rw [Hc1.out]
          have HD8 := hid hD8
          have HF8 : Hid (∀ k, F8 k → w.heap.size ≤ k) := hid (fun k hk => by have h5 := Ho7.out.size; rcases hF8 k hk with h | h; exact HF.out k h; omega)
          have Ho8 := hid (Ho7.out.trans ho8 (fun k hk hf => by have := HF.out k hf; omega))
          clear hD8 ho8 hF8 HW
          go_wp2_with fail
          refine (flush_c HD8.out).mono ?_
          rintro e w9 ⟨rfl, hD9, ho9⟩
          rw [Hc2.out]
          have Ho9 := hid (Ho8.out.trans ho9 (fun k hk hf => by have := HF8.out k hf; omega))
          clear hD9 ho9
          go_wp2_with fail
          go_ret
          exact ⟨rfl, Ho9.out⟩
end Go.Proofs.Ytepndjojodbhdaa
