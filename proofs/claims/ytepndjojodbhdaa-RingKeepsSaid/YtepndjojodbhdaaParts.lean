/- RingParts: the walk. -/
import Derived.Test.YtepndjojodbhdaaGoesR
import Derived.Test.YtepndjojodbhdaaRig
import Derived.Test.YtepndjojodbhdaaOpenP
namespace Go.Proofs.Ytepndjojodbhdaa
open Go.RowKit

theorem OneParts {w : World} {N : Nat → Prop} {g c : Nat} {pa : Option Addr} {l : List UInt8} {T : TypeId} (hn : ¬ N g) (hg : w.heap[g]? = some (.cells #[.slice pa l.length c] T (0, 0))) (hs : Src w (.slice pa l.length c) l) (hl : l.length ≤ 1000000) (hp : ∀ g' o', pa = some ⟨g', o', none⟩ → ¬ N g') :
    PartsAt w (.slice (some ⟨g, 0, none⟩) 1 1) [l] N := by
  refine ⟨_, _, rfl, (by show 1 ≤ 9223372036854775807; decide), fun i x hi => ?_⟩
  match i with
  | 0 =>
    simp only [List.getElem?_cons_zero, Option.some.injEq] at hi
    subst hi
    exact ⟨g, 0, pa, c, rfl, hn, by rw [cell_blk hg]; rfl, hs, fun _ g' o' e => hp g' o' e, hl⟩
  | i + 1 => simp at hi

set_option maxRecDepth 100000 in
set_option maxHeartbeats 1600000 in
theorem ringParts_c (w : World) (v : Value) (ps : List (List UInt8)) (h : PartsV w v ps) :
    Calls Try.prog 6 #[v] w fun e w' => e = .returned (.bool true) ∧ Only (fun _ => False) w w' := by
  have HV := hid h
  obtain ⟨a, c, rfl, hpl, hpp⟩ := h
  have HP := hid hpp
  clear hpp
  by_cases h20 : 20 < (ps.length : Int)
  · go_enter Try.func6, Try.ntmps6
    go_wp2_with fail
    refine (goes_c _).mono ?_
    rintro e w1 ⟨rfl, ho1⟩
    go_wp2_with fail
    go_ret
    exact ⟨rfl, ho1⟩
  go_enter Try.func6, Try.ntmps6
  go_wp2_with fail
  refine (goes_c _).mono ?_
  rintro e w1 ⟨rfl, ho1⟩
  have Ho1 := hid ho1
  clear ho1
  go_wp2_with fail
  refine (new_ok w1 8 (by decide) (by decide)).mono ?_
  rintro e w2 ⟨d, FD, rfl, hD, ho2, hFD⟩
  have HD := hid hD; have Ho2 := hid (Ho1.out.trans ho2 (fun _ _ e => e)); have HFD : Hid (∀ k, FD k → w.heap.size ≤ k) := hid (fun k hk => Nat.le_trans Ho1.out.size (hFD k hk))
  clear hD ho2 hFD
  go_wp2_with fail
  refine (new_ok w2 8 (by decide) (by decide)).mono ?_
  rintro e w3 ⟨d2, FE, rfl, hE, ho3, hFE⟩
  have HD3 := hid (HD.out.only ho3 (fun _ _ e => e)); have HE := hid hE; have Ho3 := hid (Ho2.out.trans ho3 (fun _ _ e => e)); have HFE := hid hFE
  have Hs23 := hid ho3.size; have HDlt := hid (fun k => @DiskAt.lt _ _ _ _ HD.out k)
  clear hE ho3 hFE HD
  go_wp2_with fail
  refine (rig_new HD3.out 0 8 (by decide) (by decide)).mono ?_
  rintro e w4 ⟨r, G1, rfl, hR, ho4, hG1⟩
  have HR := hid hR; have HE4 := hid (HE.out.only ho4 (fun _ _ e => e)); have Ho4 := hid (Ho3.out.trans ho4 (fun _ _ e => e)); have HG1 := hid hG1; have Hs34 := hid ho4.size
  clear hR ho4 hG1
  go_wp2_with fail
  refine (rig_new HE4.out 0 8 (by decide) (by decide)).mono ?_
  rintro e w5 ⟨s, G2, rfl, hS, ho5, hG2⟩
  have HS := hid hS; have HR5 := hid (HR.out.only ho5 (fun _ _ e => e)); have Ho5 := hid (Ho4.out.trans ho5 (fun _ _ e => e))
  have HDis : Hid (∀ k, G1 k → ¬ G2 k) := hid (fun k hk h2 => by
    have l4 := HR.out.lt hk
    have s23 := Hs23.out
    rcases HG1.out k hk with e1 | e1 <;> rcases hG2 k h2 with e2 | e2
    · have := HDlt.out k e1; have := HFE.out k e2; omega
    · omega
    · have := HE.out.lt e2; omega
    · omega)
  have HGw : Hid ((∀ k, G1 k → w.heap.size ≤ k) ∧ ∀ k, G2 k → w.heap.size ≤ k) := hid ⟨fun k hk => by
    rcases HG1.out k hk with e1 | e1
    · exact HFD.out k e1
    · have := Ho3.out.size; omega, fun k hk => by
    rcases hG2 k hk with e1 | e1
    · have := HFE.out k e1; have := Ho2.out.size; omega
    · have := Ho4.out.size; omega⟩
  clear hS ho5 hG2 HR HE4 HE HD3 HG1 HFD HFE Hs23 Hs34 HDlt Ho1 Ho2 Ho3 Ho4
  go_wp2_with fail
  try go_frame
  go_loopw [54, 11, 13] (fun i al _ wr => ∃ (k : Nat) (ao : Option Addr) (cap : Nat) (l : List UInt8), i = .int .i64 k ∧ k ≤ ps.length ∧ l = (ps.take k).flatten ∧ al = .slice ao l.length cap ∧ l.length ≤ 40 * k ∧ (∀ x ∈ ps.take k, x.length ≤ 40) ∧ BOut wr ao cap l w5.heap.size ∧ Only (fun _ => False) w5 wr) (fun i _ _ _ => ps.length - (intOf i).toNat)
  case atStart => exact ⟨0, none, 0, [], rfl, Nat.zero_le _, rfl, rfl, Nat.zero_le _, by simp, .inl ⟨rfl, rfl, rfl⟩, Only.refl _ _⟩
  case round =>
    obtain ⟨k, ao, cap, l, rfl, hk, hl, rfl, hl40, hall, hout, ho⟩ := hrel
    have Hl := hid hl; have Hall := hid hall; have HOut := hid hout; have Ho := hid ho
    clear hl hall hout ho
    by_cases hkl : k < ps.length
    · obtain ⟨hpb, gp, op, pa, pc, rfl, hcp, hsp⟩ := HP.out k ps[k] (List.getElem?_eq_getElem hkl)
      have hgl := World.block_lt_of_cell? _ _ hcp
      have hoo := Ho5.out.trans Ho.out (fun _ _ e => e)
      have hcw : wr.cell? ⟨gp, op + k, none⟩ = some (.slice pa ps[k].length pc) := (World.cell?_of_block (hoo.block gp hgl (fun e => e))).trans hcp
      have HSP := hid (hsp.only hoo (fun _ _ _ _ _ e => e))
      have htk : (ps.take (k + 1)).flatten = l ++ ps[k] := by rw [take_flat ps k hkl, Hl.out]
      have htm : ∀ x ∈ ps.take (k + 1), x ∈ ps.take k ∨ x = ps[k] := by
        intro x hx
        rw [List.take_succ_eq_append_getElem hkl, List.mem_append, List.mem_singleton] at hx
        exact hx
      have Htk := hid htk; have Htm := hid htm
      obtain ⟨M, hM⟩ : ∃ M, M = ps[k] := ⟨_, rfl⟩
      rw [← hM] at hcw hpb HSP Htk Htm
      clear htk htm hcp hsp hoo hM hgl
      by_cases hM40 : 40 < (M.length : Int)
      · go_wp2_with fail
        go_ret
        exact ⟨rfl, Ho5.out.trans Ho.out (fun _ _ e => e)⟩
      · have hsz5 := Ho.out.size
        go_wp2_with (first | (refine wpList_addo rfl (.tmp 61) (.tmp 62) rfl ao cap w5.heap.size l rfl HOut.out hsz5 pa M pc rfl HSP.out (by omega) ?_; intro ao2 cap2 w7 hout2 ho2; have HOut2 := hid hout2; have Ho2 := hid (Ho.out.trans ho2 (fun j hj e => by have e' : w5.heap.size ≤ j := e; omega)); clear hout2 ho2))
        go_roundw
        case rel => exact ⟨k + 1, ao2, cap2, l ++ M, by go_num, by omega, Htk.out.symm, by rw [List.length_append], by rw [List.length_append]; omega, fun x hx => by rcases Htm.out x hx with e | e; exact Hall.out x e; rw [e]; omega, HOut2.out, Ho2.out⟩
        case measure => simp [intOf]; omega
    · obtain rfl : k = ps.length := by omega
      have hlA := Hl.out
      rw [List.take_length] at hlA
      have hallA : ∀ x ∈ ps, x.length ≤ 40 := fun x hx => Hall.out x (by rw [List.take_length]; exact hx)
      have HlA := hid hlA; have HallA := hid hallA
      have hl800 : l.length ≤ 800 := by omega
      have HoA := hid (Ho5.out.trans Ho.out (fun _ _ e => e))
      have HRA := hid (HR5.out.only Ho.out (fun _ _ e => e))
      have HSA := hid (HS.out.only Ho.out (fun _ _ e => e))
      have HSrcA : Hid (Src (wr.alloc (.cells #[] 5)) (.slice ao l.length cap) l) := hid (HOut.out.src.only ((Only.refl (fun _ => False) wr).alloc _) (fun _ _ _ _ _ e => e))
      clear hlA hallA Hl Hall
      go_wp2_with (first | (refine wpList_addb rfl (.tmp 65) (.tmp 66) rfl wr.heap.size 0 [] rfl (Row.new' _ _ _ _ rfl) ao l cap rfl HSrcA.out (by simp; omega) ?_; intro g1 cap1 w7 hcap1 hrow1 hg1 ho1; have Hrow1 := hid hrow1; have Hg1 := hid hg1; have Ho7 := hid (((Only.refl (fun _ => False) wr).alloc _).trans ho1 (fun k hk e => by omega)); clear hrow1 hg1 ho1 hcap1))
      have hg1lo : wr.heap.size ≤ g1 := by rcases Hg1.out with h | h <;> (first | omega | (simp at h; omega))
      have HR7 := hid (HRA.out.only Ho7.out (fun _ _ e => e))
      have HS7 := hid (HSA.out.only Ho7.out (fun _ _ e => e))
      have HoB := hid (HoA.out.trans Ho7.out (fun _ _ e => e))
      have hfl : ps.flatten.length ≤ 800 := by rw [← HlA.out]; exact hl800
      have HA1 := hid (rig_append HR7.out 0 (Nat.zero_le _) (.slice a ps.length c) ps (HV.out.parts (fun x hx => Nat.le_trans (HallA.out x hx) (by decide)) HoB.out (fun _ _ e => e) HGw.out.1) (by show ps.flatten.length ≤ 8 * 128 - (0 - 0 / 128 * 128); omega) (by decide))
      clear HR7
      refine HA1.out.mono ?_
      rintro e w8 ⟨rfl, G1', hR8, ho8, hG1'⟩
      have HR8 := hid hR8; have Ho8 := hid ho8; have HG1' := hid hG1'
      have hgG1 : ¬ G1 g1 := fun e => by have := HRA.out.lt e; omega
      have hgG2 : ¬ G2 g1 := fun e => by have := HSA.out.lt e; omega
      have HS8 := hid (HS7.out.only ho8 (fun k hk h1 => HDis.out k h1 hk))
      have HRow8 := hid (Hrow1.out.only ho8 hgG1)
      have HgG := hid (And.intro hgG1 hgG2)
      have HDis8 : Hid (∀ k, G1' k → ¬ G2 k) := hid (fun k hk h2 => by
        rcases hG1' k hk with e | e
        · exact HDis.out k e h2
        · have := HS7.out.lt h2; omega)
      have HG1w : Hid (∀ k, G1' k → w.heap.size ≤ k) := hid (fun k hk => by
        rcases hG1' k hk with e | e
        · exact HGw.out.1 k e
        · have := HoB.out.size; omega)
      have HoC := hid (HoB.out.trans ho8 (fun k hk e => by have := HGw.out.1 k e; omega))
      clear hR8 ho8 hG1' hgG1 hgG2 HA1 HS7
      go_wp2_with fail
      have HS8a := hid (HS8.out.only ((Only.refl (fun _ => False) w8).alloc (.cells #[.slice (some ⟨g1, 0, none⟩) l.length cap1] 30)) (fun _ _ e => e))
      have hsrc8 : Src (w8.alloc (.cells #[.slice (some ⟨g1, 0, none⟩) l.length cap1] 30)) (.slice (some ⟨g1, 0, none⟩) l.length cap1) l := (HRow8.out.alloc _).src
      have HA2 := hid (rig_append HS8a.out 0 (Nat.zero_le _) (.slice (some ⟨w8.heap.size, 0, none⟩) 1 1) [l] (OneParts (fun e => Nat.lt_irrefl _ (HS8.out.lt e)) (blk_new _ _) hsrc8 (by omega) (fun g' o' e h2 => by simp only [Option.some.injEq, Addr.mk.injEq] at e; rw [← e.1] at h2; exact HgG.out.2 h2)) (by show [l].flatten.length ≤ 8 * 128 - (0 - 0 / 128 * 128); simp; omega) (by decide))
      clear hsrc8
      refine HA2.out.mono ?_
      rintro e w9 ⟨rfl, G2', hS9, ho9, hG2'⟩
      have hrow9 := (HRow8.out.alloc (.cells #[.slice (some ⟨g1, 0, none⟩) l.length cap1] 30)).only ho9 HgG.out.2
      have hoD := (HoC.out.alloc (.cells #[.slice (some ⟨g1, 0, none⟩) l.length cap1] 30)).trans ho9 (fun k hk e => by have := HGw.out.2 k e; omega)
      have hR9 := (HR8.out.only ((Only.refl (fun _ => False) w8).alloc (.cells #[.slice (some ⟨g1, 0, none⟩) l.length cap1] 30)) (fun _ _ e => e)).only ho9 (fun k hk h2 => HDis8.out k hk h2)
      have hX9 : Only (fun k => k < w5.heap.size ∨ wr.heap.size ≤ k) wr w9 := ((((Ho7.out.mono (G := fun k => k < w5.heap.size ∨ wr.heap.size ≤ k) (fun _ _ e => e.elim)).trans Ho8.out (fun k _ e => .inl (HR5.out.lt e))).alloc _).trans ho9 (fun k _ e => .inl (HS.out.lt e)))
      have hg1G1 : ¬ G1' g1 := fun e => by
        rcases HG1'.out g1 e with e | e
        · exact HgG.out.1 e
        · have := Hrow1.out.lt; omega
      have hg1G2 : ¬ G2' g1 := fun e => by
        rcases hG2' g1 e with e | e
        · exact HgG.out.2 e
        · have := HRow8.out.lt; simp at e; omega
      have HI9 := hid (IncInv.start hrow9)
      have HoD := hid hoD; have HR9 := hid hR9; have HS9 := hid hS9; have HX9 := hid hX9; have Hg1N := hid (And.intro hg1G1 hg1G2)
      have hg1w : w.heap.size ≤ g1 := by have := HoA.out.size; omega
      clear hS9 ho9 hG2' hrow9 hoD hR9 hX9 hg1G1 hg1G2 HA2 HS8a HS8 HR8 Ho8 HG1' HRow8 HgG HDis8 HoC HRA HSA
      go_wp2_with fail
      try go_frame
      go_loopw [81, 15] (fun i _ wx => ∃ k : Nat, i = .int .i64 k ∧ k ≤ l.length ∧ IncInv w9 wx g1 cap1 l.length) (fun i _ _ => l.length - (intOf i).toNat)
      case atStart => exact ⟨0, rfl, Nat.zero_le _, HI9.out⟩
      case round =>
        rename World => wx
        obtain ⟨k, rfl, hk, hinv⟩ := hrel
        have HI := hid hinv
        clear hinv
        by_cases hkl : k < l.length
        · have hkl' : (k : Int) < (l.length : Int) := by omega
          obtain ⟨x, hcx, hzx, hnx⟩ := HI.out.cell k hkl
          have HN := hid hnx
          clear hnx HI
          go_wp2
          go_roundw
          case rel => exact ⟨k + 1, by go_num, by omega, HN.out _⟩
          case measure => simp [intOf]; omega
        · obtain rfl : k = l.length := by omega
          have ho10 : Only (fun j => j = g1) w9 wx := by obtain ⟨_, _, _, h⟩ := HI.out; exact h
          have HR10 := hid (HR9.out.only ho10 (fun k hk e => Hg1N.out.1 (e ▸ hk)))
          have HS10 := hid (HS9.out.only ho10 (fun k hk e => Hg1N.out.2 (e ▸ hk)))
          have HoE := hid (HoD.out.trans ho10 (fun k hk e => by omega))
          have HX10 := hid (HX9.out.trans ho10 (fun k _ e => .inr (e ▸ hg1lo)))
          have hwx := HoE.out.size
          have hwrx := HX10.out.size
          have htxr : ([] ++ ps.flatten : List UInt8) = l := HlA.out.symm
          have htxs : ([] ++ [l].flatten : List UInt8) = l := by simp
          rw [htxr] at HR10
          rw [htxs] at HS10
          have HRd := hid (rig_read HR10.out 0 l.length (by omega) (by omega) (by unfold ups; omega))
          rw [show (l.drop 0).take l.length = l from by simp] at HRd
          clear ho10 HI HoD HX9 HR9 HS9 HI9
          go_wp2_with fail
          refine HRd.out.mono ?_
          rintro e w11 ⟨bo, cap2, rfl, hbo, ho11⟩
          have HBo := hid hbo
          have HR11 := hid (HR10.out.only ho11 (fun _ _ e => e)); have HS11 := hid (HS10.out.only ho11 (fun _ _ e => e))
          have HoF := hid (HoE.out.trans ho11 (fun _ _ e => e)); have HX11 := hid (HX10.out.trans ho11 (fun _ _ e => e.elim))
          clear hbo ho11 HRd HoE HX10
          go_wp2_with fail
          try go_frame
          go_loopw [100, 18] (fun i _ wy => ∃ k : Nat, i = .int .i64 k ∧ k ≤ l.length ∧ Only (fun k => wx.heap.size ≤ k) w11 wy ∧ (0 < l.length → ∃ ga, bo = some ⟨ga, 0, none⟩ ∧ wx.heap.size ≤ ga ∧ IncInv w11 wy ga cap2 l.length)) (fun i _ _ => l.length - (intOf i).toNat)
          case atStart =>
            refine ⟨0, rfl, Nat.zero_le _, Only.refl _ _, fun h0 => ?_⟩
            rcases HBo.out with ⟨-, -, e⟩ | ⟨ga, e, hlo, hrow⟩
            · rw [e] at h0; exact absurd h0 (by decide)
            · exact ⟨ga, e, hlo, IncInv.start hrow⟩
          case round =>
            rename World => wy
            obtain ⟨k, rfl, hk, hoy, hinv⟩ := hrel
            have HI := hid hinv; have Hoy := hid hoy
            clear hinv hoy
            by_cases hkl : k < l.length
            · have hkl' : (k : Int) < (l.length : Int) := by omega
              obtain ⟨ga, rfl, hga, hI⟩ := HI.out (by omega)
              obtain ⟨x, hcx, hzx, hnx⟩ := hI.cell k hkl
              have HN := hid hnx
              have Hga := hid hga
              clear hnx HI hI hga
              go_wp2
              go_roundw
              case rel => exact ⟨k + 1, by go_num, by omega, Hoy.out.trans (only_set _ _ _) (fun j _ e => e ▸ Hga.out), fun _ => ⟨ga, rfl, Hga.out, HN.out _⟩⟩
              case measure => simp [intOf]; omega
            · obtain rfl : k = l.length := by omega
              have HRy := hid (HR11.out.only Hoy.out (fun j hj e => by have := HR10.out.lt hj; omega))
              have HSy := hid (HS11.out.only Hoy.out (fun j hj e => by have := HS10.out.lt hj; omega))
              have HoG := hid (HoF.out.trans Hoy.out (fun j hj e => by omega))
              have HAll := hid (HOut.out.only (HX11.out.trans Hoy.out (fun j _ e => .inr (by omega))) (fun j hj hlo e => by omega))
              have HRs := hid (rig_read HSy.out 0 l.length (by omega) (by omega) (by unfold ups; omega))
              rw [show (l.drop 0).take l.length = l from by simp] at HRs
              clear HI HoF HX11 HR11 HS11 HR10 HS10 HBo
              go_wp2_with fail
              refine HRs.out.mono ?_
              rintro e w13 ⟨bo2, cap3, rfl, hbo2, ho13⟩
              have HRr := hid (rig_read (HRy.out.only ho13 (fun _ _ e => e)) 0 l.length (by omega) (by omega) (by unfold ups; omega))
              rw [show (l.drop 0).take l.length = l from by simp] at HRr
              have HBo2 := hid hbo2; have Ho13 := hid ho13
              clear hbo2 ho13 HRs
              go_wp2_with fail
              refine HRr.out.mono ?_
              rintro e w14 ⟨bo3, cap4, rfl, hbo3, ho14⟩
              have Ho14 := hid (HoG.out.trans (Ho13.out.trans ho14 (fun _ _ e => e)) (fun _ _ e => e))
              have hcv1 := conv_str (HBo2.out.only ho14 (fun _ _ _ e => e)).src
              have hcv2 := conv_str hbo3.src
              have hcv3 := conv_str (HAll.out.only (Ho13.out.trans ho14 (fun _ _ e => e)) (fun _ _ _ e => e)).src
              have HTr := hid (rig_tail (HRy.out.only (Ho13.out.trans ho14 (fun _ _ e => e)) (fun _ _ e => e)))
              have HTs := hid (rig_tail (HSy.out.only (Ho13.out.trans ho14 (fun _ _ e => e)) (fun _ _ e => e)))
              clear hbo3 ho14 HRr HBo2 HAll HRy HSy
              go_wp2_with (first | (refine HTr.out.mono ?_; rintro e w' ⟨rfl, rfl⟩) | (refine HTs.out.mono ?_; rintro e w' ⟨rfl, rfl⟩))
              go_ret
              exact ⟨rfl, Ho14.out⟩
end Go.Proofs.Ytepndjojodbhdaa
