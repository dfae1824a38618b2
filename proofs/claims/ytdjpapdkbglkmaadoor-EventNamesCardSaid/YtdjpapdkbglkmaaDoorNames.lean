/- EventNames's walk. -/
import Derived.Test.YtdjpapdkbglkmaaDoorTells
import Derived.Test.YtdjpapdkbglkmaaDoorRefN
namespace Go.Proofs.YtdjpapdkbglkmaaDoor
open Go.RowKit

/-- The last of the kinds that have a name. -/
def wantF (s : List UInt8) : Nat → Nat
  | 0 => 0
  | j + 1 => if evName ((j + 1 : Nat) : Int) = s then j + 1 else wantF s j
theorem wantF_none {s : List UInt8} : ∀ {j : Nat}, (∀ i < j, evName ((i + 1 : Nat) : Int) ≠ s) → wantF s j = 0
  | 0, _ => rfl
  | j + 1, h => by rw [wantF, if_neg (h j (by omega))]; exact wantF_none (fun i hi => h i (by omega))
theorem wantF_hit {s : List UInt8} {i : Nat} (hi : evName ((i + 1 : Nat) : Int) = s) : ∀ {j : Nat}, i < j → (∀ i' < j, i' ≠ i → evName ((i' + 1 : Nat) : Int) ≠ s) → wantF s j = i + 1
  | 0, h, _ => absurd h (by omega)
  | j + 1, h, hn => by
    rw [wantF]
    by_cases e : j = i
    · subst e; rw [if_pos hi]
    · rw [if_neg (hn j (by omega) e)]
      exact wantF_hit hi (by omega) (fun i' h1 h2 => hn i' (by omega) h2)
theorem wantF_kind (s : List UInt8) : wantF s 21 = kindOf s := by
  by_cases h : ∃ i : Nat, i < 21 ∧ evName ((i + 1 : Nat) : Int) = s
  · obtain ⟨i, hi, he⟩ := h
    have hx : ∀ i' < 21, i' ≠ i → evName ((i' + 1 : Nat) : Int) ≠ s := fun i' h1 h2 h3 => by
      have := evName_inj (k := ((i' + 1 : Nat) : Int)) (m := ((i + 1 : Nat) : Int)) (by omega) (by omega) (by rw [h3, he])
      omega
    rw [wantF_hit he hi hx, kindOf_hit (fun i' h1 => hx i' (by omega) (by omega)) hi he]
  · have hx : ∀ i < 21, evName ((i + 1 : Nat) : Int) ≠ s := fun i hi he => h ⟨i, hi, he⟩
    rw [wantF_none hx, kindOf_none hx]
section
variable {w : World}
theorem ek_at (G : Nat → Prop) (k : Int) : EAt w G ⟨0, 0, k, 0, 0, [], [], .nil⟩ [.int .i64 0, .int .i64 0, .int .i64 k, .int .i64 0, .int .i64 0, .string ⟨#[]⟩, .string ⟨#[]⟩, .int .i64 0, .int .i64 0, .string ⟨#[]⟩, .slice none 0 0] := ⟨_, rfl, novls w G 0 0 []⟩
set_option maxRecDepth 100000 in
set_option maxHeartbeats 3200000 in
theorem names_c (hT : Tab w) (k : Int) (s : List UInt8) (h1 : -9223372036854775808 ≤ k) (h2 : k ≤ 9223372036854775807) : Calls Tryd.prog 5 #[.int .i64 k, .string (strOf s)] w fun x w' => x = .returned (.bool true) ∧ Only (fun _ => False) w w' := by
  have HTL := hid (tells_c hT)
  clear hT
  have hsl : (strOf s).size = s.length := rfl
  go_enter Tryd.func5, Tryd.ntmps5
  go_wp2_with fail
  refine HTL.out.mono ?_
  rintro x w1 ⟨rfl, ho1⟩
  have HO1 := hid ho1
  clear ho1 HTL
  by_cases h100 : 100 < (s.length : Int)
  · go_wp2_with fail
    go_ret
    exact ⟨rfl, HO1.out⟩
  go_wp2_with fail
  have HB1 := hid (blk_new w1 (.cells #[.int .i64 0, .int .i64 0, .int .i64 k, .int .i64 0, .int .i64 0, .string ⟨#[]⟩, .string ⟨#[]⟩, .int .i64 0, .int .i64 0, .string ⟨#[]⟩, .slice none 0 0] 28))
  have HO2 := hid (HO1.out.trans (only_new w1 (.cells #[.int .i64 0, .int .i64 0, .int .i64 k, .int .i64 0, .int .i64 0, .string ⟨#[]⟩, .string ⟨#[]⟩, .int .i64 0, .int .i64 0, .string ⟨#[]⟩, .slice none 0 0] 28)) (fun _ _ e => e))
  go_loopw [6, 7] (fun u i wr => ∃ j : Nat, i = .int .i64 (j + 1 : Nat) ∧ j ≤ 21 ∧ u = .int .i64 (wantF s j) ∧ Only (fun _ => False) (w1.alloc (.cells #[.int .i64 0, .int .i64 0, .int .i64 k, .int .i64 0, .int .i64 0, .string ⟨#[]⟩, .string ⟨#[]⟩, .int .i64 0, .int .i64 0, .string ⟨#[]⟩, .slice none 0 0] 28)) wr) (fun _ i _ => 22 - (intOf i).toNat)
  case atStart => exact ⟨0, rfl, by omega, rfl, Only.refl _ _⟩
  case round =>
    obtain ⟨j, rfl, hj, rfl, ho⟩ := hrel
    have HO := hid ho
    clear ho
    have HW : Hid (wantF s (j + 1) = if evName ((j + 1 : Nat) : Int) = s then j + 1 else wantF s j) := hid (by rw [wantF])
    obtain ⟨q, hq⟩ : ∃ q, j + 1 = q := ⟨_, rfl⟩
    obtain ⟨u, hu⟩ : ∃ u, wantF s j = u := ⟨_, rfl⟩
    rw [hq, hu] at HW
    rw [hq, hu]
    by_cases hjl : (q : Int) ≤ 21
    · have HN := hid (refname_c (w := wr) (q : Int))
      obtain ⟨nm, hnm⟩ : ∃ x, evName (q : Int) = x := ⟨_, rfl⟩
      rw [hnm] at HN HW
      have HQ := hid hq
      clear hnm hu hq
      by_cases he : nm = s
      · subst he
        have hbe : ((strOf nm).toList == (strOf nm).toList) = true := by simp
        have HW2 := hid (HW.out.trans (if_pos rfl))
        go_wp2_with fail
        refine HN.out.mono ?_
        rintro x w2 ⟨rfl, ho2⟩
        have HO3 := hid (HO.out.trans ho2 (fun _ _ e => e))
        clear ho2
        go_wp2_with fail
        go_roundw
        case rel => exact ⟨q, by go_num, by omega, by rw [HW2.out], HO3.out⟩
        case measure => simp [intOf]; omega
      · have hbe : ((strOf nm).toList == (strOf s).toList) = false := by rw [strOf_list, strOf_list]; simpa using he
        have hbe2 : ¬ (strOf nm).toList = (strOf s).toList := by rw [strOf_list, strOf_list]; exact he
        have HW2 := hid (HW.out.trans (if_neg he))
        clear he
        go_wp2_with fail
        refine HN.out.mono ?_
        rintro x w2 ⟨rfl, ho2⟩
        have HO3 := hid (HO.out.trans ho2 (fun _ _ e => e))
        clear ho2
        go_wp2_with fail
        go_roundw
        case rel => exact ⟨q, by go_num, by omega, by rw [HW2.out], HO3.out⟩
        case measure => simp [intOf]; omega
    · obtain rfl : j = 21 := by omega
      have huk : u = kindOf s := by rw [← hu]; exact wantF_kind s
      have HK := hid (kind_c (w := wr) s)
      rw [← huk] at HK
      have HN := fun wc => hid (name_c (w := wc) k h1 h2)
      have HR := fun wc => hid (refname_c (w := wc) k)
      obtain ⟨nm, hnm⟩ : ∃ x, evName k = x := ⟨_, rfl⟩
      simp only [hnm] at HN HR
      clear huk hu hq hnm HW
      go_wp2_with fail
      refine HK.out.mono ?_
      rintro x w2 ⟨rfl, ho2⟩
      have HO3 := hid (HO.out.trans ho2 (fun _ _ e => e))
      clear ho2 HK
      have hub : ((u : Int) != (u : Int)) = false := by simp
      go_wp2_with fail
      refine (HN _).out.mono ?_
      rintro x w3 ⟨rfl, n3, rfl⟩
      go_wp2_with fail
      refine (HR _).out.mono ?_
      rintro x w4 ⟨rfl, ho4⟩
      have HO4 := hid ((HO3.out.trans (only_drewN _ n3) (fun _ _ e => e)).trans ho4 (fun _ _ e => e))
      clear ho4 HN HR
      have HB4 := hid (blk_only HB1.out HO4.out (fun e => e))
      have HOW := hid (HO2.out.trans HO4.out (fun _ _ e => e))
      clear HO HO3 hub
      obtain ⟨T, hT⟩ : ∃ T, taskB k = T := ⟨_, rfl⟩
      obtain ⟨C, hC⟩ : ∃ C, closesB k = C := ⟨_, rfl⟩
      obtain ⟨O, hO⟩ : ∃ O, outsideB k = O := ⟨_, rfl⟩
      have HTk := hid hT; have HCk := hid hC; have HOk := hid hO
      clear hT hC hO
      go_upto_region 14 with fail
      go_cut [8] from 38 to 51 (fun t wx => t = .bool T ∧ w4 = wx)
      case first =>
        by_cases g2 : k = 2
        · subst g2
          have e1 : T = true := by rw [← HTk.out]; rfl
          go_wp2_with fail
          go_meet
          case rel => exact ⟨by rw [e1], rfl⟩
        have b2 : (k == 2) = false := by simpa using g2
        by_cases g3 : k = 3
        · subst g3
          have e1 : T = true := by rw [← HTk.out]; rfl
          go_wp2_with fail
          go_meet
          case rel => exact ⟨by rw [e1], rfl⟩
        have b3 : (k == 3) = false := by simpa using g3
        by_cases g5 : k = 5
        · subst g5
          have e1 : T = true := by rw [← HTk.out]; rfl
          go_wp2_with fail
          go_meet
          case rel => exact ⟨by rw [e1], rfl⟩
        have b5 : (k == 5) = false := by simpa using g5
        by_cases g6 : k = 6
        · subst g6
          have e1 : T = true := by rw [← HTk.out]; rfl
          go_wp2_with fail
          go_meet
          case rel => exact ⟨by rw [e1], rfl⟩
        have b6 : (k == 6) = false := by simpa using g6
        have e1 : T = false := by rw [← HTk.out]; unfold taskB; simp [g2, g3, g5, g6]
        go_wp2_with fail
        go_meet
        case rel => exact ⟨by rw [e1], rfl⟩
      case rest =>
      obtain ⟨rfl, rfl⟩ := hcut
      go_upto_region 15 with fail
      go_cut [9] from 52 to 57 (fun t wx => t = .bool C ∧ w4 = wx)
      case first =>
        by_cases g1 : 16 ≤ k
        · by_cases g2 : k ≤ 21
          · skip
            have e1 : C = true := by rw [← HCk.out]; exact decide_eq_true ⟨g1, g2⟩
            go_wp2_with fail
            go_meet
            case rel => exact ⟨by rw [e1], rfl⟩
          · skip
            have e1 : C = false := by rw [← HCk.out]; exact decide_eq_false (fun h => g2 h.2)
            go_wp2_with fail
            go_meet
            case rel => exact ⟨by rw [e1], rfl⟩
        · skip
          have e1 : C = false := by rw [← HCk.out]; exact decide_eq_false (fun h => g1 h.1)
          go_wp2_with fail
          go_meet
          case rel => exact ⟨by rw [e1], rfl⟩
      case rest =>
      obtain ⟨rfl, rfl⟩ := hcut
      go_upto_region 16 with fail
      go_cut [10] from 58 to 87 (fun t wx => t = .bool O ∧ w4 = wx)
      case first =>
        by_cases g1 : k = 1
        · subst g1
          have e1 : O = true := by rw [← HOk.out]; rfl
          go_wp2_with fail
          go_meet
          case rel => exact ⟨by rw [e1], rfl⟩
        have b1 : (k == 1) = false := by simpa using g1
        by_cases g8 : 8 ≤ k
        · by_cases g10 : k ≤ 10
          · skip
            have e1 : O = true := by
              rw [← HOk.out]
              have : k = 8 ∨ k = 9 ∨ k = 10 := by omega
              rcases this with rfl | rfl | rfl <;> rfl
            go_wp2_with fail
            go_meet
            case rel => exact ⟨by rw [e1], rfl⟩
          · skip
            by_cases g12 : k = 12
            · subst g12
              have e1 : O = true := by rw [← HOk.out]; rfl
              go_wp2_with fail
              go_meet
              case rel => exact ⟨by rw [e1], rfl⟩
            have b12 : (k == 12) = false := by simpa using g12
            by_cases g14 : k = 14
            · subst g14
              have e1 : O = true := by rw [← HOk.out]; rfl
              go_wp2_with fail
              go_meet
              case rel => exact ⟨by rw [e1], rfl⟩
            have b14 : (k == 14) = false := by simpa using g14
            by_cases g15 : k = 15
            · subst g15
              have e1 : O = true := by rw [← HOk.out]; rfl
              go_wp2_with fail
              go_meet
              case rel => exact ⟨by rw [e1], rfl⟩
            have b15 : (k == 15) = false := by simpa using g15
            by_cases g19 : k = 19
            · subst g19
              have e1 : O = true := by rw [← HOk.out]; rfl
              go_wp2_with fail
              go_meet
              case rel => exact ⟨by rw [e1], rfl⟩
            have b19 : (k == 19) = false := by simpa using g19
            by_cases g20 : k = 20
            · subst g20
              have e1 : O = true := by rw [← HOk.out]; rfl
              go_wp2_with fail
              go_meet
              case rel => exact ⟨by rw [e1], rfl⟩
            have b20 : (k == 20) = false := by simpa using g20
            have e1 : O = false := by
              rw [← HOk.out]; unfold outsideB
              have x8 : ¬ k = 8 := by omega
              have x9 : ¬ k = 9 := by omega
              have x10 : ¬ k = 10 := by omega
              simp [g1, x8, x9, x10, g12, g14, g15, g19, g20]
            go_wp2_with fail
            go_meet
            case rel => exact ⟨by rw [e1], rfl⟩
        · skip
          have e1 : O = false := by
            rw [← HOk.out]; unfold outsideB
            have x : ¬ k = 8 ∧ ¬ k = 9 ∧ ¬ k = 10 ∧ ¬ k = 12 ∧ ¬ k = 14 ∧ ¬ k = 15 ∧ ¬ k = 19 ∧ ¬ k = 20 := by omega
            simp [g1, x.1, x.2.1, x.2.2.1, x.2.2.2.1, x.2.2.2.2.1, x.2.2.2.2.2.1, x.2.2.2.2.2.2.1, x.2.2.2.2.2.2.2]
          have b12 : (k == 12) = false := by simp; omega
          have b14 : (k == 14) = false := by simp; omega
          have b15 : (k == 15) = false := by simp; omega
          have b19 : (k == 19) = false := by simp; omega
          have b20 : (k == 20) = false := by simp; omega
          go_wp2_with fail
          go_meet
          case rel => exact ⟨by rw [e1], rfl⟩
      case rest =>
      obtain ⟨rfl, rfl⟩ := hcut
      have HX := fun wc => hid (task_c (w := wc) (G := fun _ => False) (e := ⟨0, 0, k, 0, 0, [], [], .nil⟩) (cs := [.int .i64 0, .int .i64 0, .int .i64 k, .int .i64 0, .int .i64 0, .string ⟨#[]⟩, .string ⟨#[]⟩, .int .i64 0, .int .i64 0, .string ⟨#[]⟩, .slice none 0 0]) (ek_at _ k))
      have HY := fun wc => hid (closes_c (w := wc) (G := fun _ => False) (e := ⟨0, 0, k, 0, 0, [], [], .nil⟩) (cs := [.int .i64 0, .int .i64 0, .int .i64 k, .int .i64 0, .int .i64 0, .string ⟨#[]⟩, .string ⟨#[]⟩, .int .i64 0, .int .i64 0, .string ⟨#[]⟩, .slice none 0 0]) (ek_at _ k))
      have HZ := fun wc => hid (outside_c (w := wc) (G := fun _ => False) (e := ⟨0, 0, k, 0, 0, [], [], .nil⟩) (cs := [.int .i64 0, .int .i64 0, .int .i64 k, .int .i64 0, .int .i64 0, .string ⟨#[]⟩, .string ⟨#[]⟩, .int .i64 0, .int .i64 0, .string ⟨#[]⟩, .slice none 0 0]) (ek_at _ k))
      simp only [HTk.out] at HX
      simp only [HCk.out] at HY
      simp only [HOk.out] at HZ
      have tT : (T == T) = true := by simp
      have tC : (C == C) = true := by simp
      have tO : (O == O) = true := by simp
      have c0 : w4.cell? ⟨w1.heap.size, 0, none⟩ = some (.int .i64 0) := cell_blk HB4.out 0
      have c1 : w4.cell? ⟨w1.heap.size, 1, none⟩ = some (.int .i64 0) := cell_blk HB4.out 1
      have c2 : w4.cell? ⟨w1.heap.size, 2, none⟩ = some (.int .i64 k) := cell_blk HB4.out 2
      have c3 : w4.cell? ⟨w1.heap.size, 3, none⟩ = some (.int .i64 0) := cell_blk HB4.out 3
      have c4 : w4.cell? ⟨w1.heap.size, 4, none⟩ = some (.int .i64 0) := cell_blk HB4.out 4
      have c5 : w4.cell? ⟨w1.heap.size, 5, none⟩ = some (.string ⟨#[]⟩) := cell_blk HB4.out 5
      have c6 : w4.cell? ⟨w1.heap.size, 6, none⟩ = some (.string ⟨#[]⟩) := cell_blk HB4.out 6
      have c7 : w4.cell? ⟨w1.heap.size, 7, none⟩ = some (.int .i64 0) := cell_blk HB4.out 7
      have c8 : w4.cell? ⟨w1.heap.size, 8, none⟩ = some (.int .i64 0) := cell_blk HB4.out 8
      have c9 : w4.cell? ⟨w1.heap.size, 9, none⟩ = some (.string ⟨#[]⟩) := cell_blk HB4.out 9
      have c10 : w4.cell? ⟨w1.heap.size, 10, none⟩ = some (.slice none 0 0) := cell_blk HB4.out 10
      have hlw0 : w1.heap.size < w4.heap.size := blk_lt HB4.out
      go_wp2_with fail
      refine (HX _).out.mono ?_
      rintro x w5 ⟨rfl, ho⟩
      have HB5 := hid (blk_only HB4.out ho (fun e => e))
      have HOX := hid (HOW.out.trans ho (fun _ _ e => e))
      clear ho HX
      clear c0 c1 c2 c3 c4 c5 c6 c7 c8 c9 c10
      have c0 : w5.cell? ⟨w1.heap.size, 0, none⟩ = some (.int .i64 0) := cell_blk HB5.out 0
      have c1 : w5.cell? ⟨w1.heap.size, 1, none⟩ = some (.int .i64 0) := cell_blk HB5.out 1
      have c2 : w5.cell? ⟨w1.heap.size, 2, none⟩ = some (.int .i64 k) := cell_blk HB5.out 2
      have c3 : w5.cell? ⟨w1.heap.size, 3, none⟩ = some (.int .i64 0) := cell_blk HB5.out 3
      have c4 : w5.cell? ⟨w1.heap.size, 4, none⟩ = some (.int .i64 0) := cell_blk HB5.out 4
      have c5 : w5.cell? ⟨w1.heap.size, 5, none⟩ = some (.string ⟨#[]⟩) := cell_blk HB5.out 5
      have c6 : w5.cell? ⟨w1.heap.size, 6, none⟩ = some (.string ⟨#[]⟩) := cell_blk HB5.out 6
      have c7 : w5.cell? ⟨w1.heap.size, 7, none⟩ = some (.int .i64 0) := cell_blk HB5.out 7
      have c8 : w5.cell? ⟨w1.heap.size, 8, none⟩ = some (.int .i64 0) := cell_blk HB5.out 8
      have c9 : w5.cell? ⟨w1.heap.size, 9, none⟩ = some (.string ⟨#[]⟩) := cell_blk HB5.out 9
      have c10 : w5.cell? ⟨w1.heap.size, 10, none⟩ = some (.slice none 0 0) := cell_blk HB5.out 10
      have hlw1 : w1.heap.size < w5.heap.size := blk_lt HB5.out
      go_wp2_with fail
      refine (HY _).out.mono ?_
      rintro x w6 ⟨rfl, ho⟩
      have HB6 := hid (blk_only HB5.out ho (fun e => e))
      have HOY := hid (HOX.out.trans ho (fun _ _ e => e))
      clear ho HY
      clear c0 c1 c2 c3 c4 c5 c6 c7 c8 c9 c10
      have c0 : w6.cell? ⟨w1.heap.size, 0, none⟩ = some (.int .i64 0) := cell_blk HB6.out 0
      have c1 : w6.cell? ⟨w1.heap.size, 1, none⟩ = some (.int .i64 0) := cell_blk HB6.out 1
      have c2 : w6.cell? ⟨w1.heap.size, 2, none⟩ = some (.int .i64 k) := cell_blk HB6.out 2
      have c3 : w6.cell? ⟨w1.heap.size, 3, none⟩ = some (.int .i64 0) := cell_blk HB6.out 3
      have c4 : w6.cell? ⟨w1.heap.size, 4, none⟩ = some (.int .i64 0) := cell_blk HB6.out 4
      have c5 : w6.cell? ⟨w1.heap.size, 5, none⟩ = some (.string ⟨#[]⟩) := cell_blk HB6.out 5
      have c6 : w6.cell? ⟨w1.heap.size, 6, none⟩ = some (.string ⟨#[]⟩) := cell_blk HB6.out 6
      have c7 : w6.cell? ⟨w1.heap.size, 7, none⟩ = some (.int .i64 0) := cell_blk HB6.out 7
      have c8 : w6.cell? ⟨w1.heap.size, 8, none⟩ = some (.int .i64 0) := cell_blk HB6.out 8
      have c9 : w6.cell? ⟨w1.heap.size, 9, none⟩ = some (.string ⟨#[]⟩) := cell_blk HB6.out 9
      have c10 : w6.cell? ⟨w1.heap.size, 10, none⟩ = some (.slice none 0 0) := cell_blk HB6.out 10
      have hlw2 : w1.heap.size < w6.heap.size := blk_lt HB6.out
      go_wp2_with fail
      refine (HZ _).out.mono ?_
      rintro x w7 ⟨rfl, ho⟩
      have HB7 := hid (blk_only HB6.out ho (fun e => e))
      have HOZ := hid (HOY.out.trans ho (fun _ _ e => e))
      clear ho HZ
      go_wp2_with fail
      go_ret
      exact ⟨rfl, HOZ.out⟩
end
end Go.Proofs.YtdjpapdkbglkmaaDoor
