/- foliotlaw05.same. -/
import Derived.Test.YtepndjojodbhdaaRfL
import Derived.BigQuiet
namespace Go.Proofs.Ytepndjojodbhdaa
open Go.RowKit

theorem lastW_any (n : Int) : ∀ (ws : List (Int × List UInt8)) (acc : Option (List UInt8)), (lastW n ws acc).isSome = (acc.isSome || ws.any fun p => p.1 == n)
  | [], acc => by simp [lastW]
  | p :: ps, acc => by
    have ih := lastW_any n ps (if p.1 = n then some p.2 else acc)
    unfold lastW
    rw [ih, List.any_cons]
    by_cases h : p.1 = n
    · simp [h]
    · have e : (p.1 == n) = false := by simp [h]
      simp [h, e]
theorem any_take {α : Type} (f : α → Bool) (l : List α) (k : Nat) (x : α) (h : l[k]? = some x) : (l.take (k + 1)).any f = ((l.take k).any f || f x) := by
  rw [List.take_add_one, h]; simp
theorem Match.found {D : DiskM} {r : RM} (h : Match D r) {ks : List Int} (hp : PendOf D ks) {n : Int} (hn : n ∈ ks) : (r.ws.any fun p => p.1 == n) = true := by
  obtain ⟨j, rfl, hj⟩ := (hp.2 n).1 hn
  have := lastW_any (j : Int) r.ws none
  rw [show lastW (j : Int) r.ws none = D.pend j from h.pe j] at this
  simp only [Option.isSome_none, Bool.false_or] at this
  rw [← this]
  cases hd : D.pend j with
  | none => exact absurd hd hj
  | some x => rfl
theorem Match.there {D : DiskM} {r : RM} (h : Match D r) {ks : List Int} (hp : PendOf D ks) {p : Int × List UInt8} (hpw : p ∈ r.ws) : (ks.any fun n => n == p.1) = true := by
  obtain ⟨h0, h1⟩ := h.rg p hpw
  obtain ⟨j, hj⟩ : ∃ j : Nat, p.1 = j := ⟨p.1.toNat, by omega⟩
  have : p.1 ∈ ks := by
    refine (hp.2 p.1).2 ⟨j, hj, ?_⟩
    have := lastW_any (j : Int) r.ws none
    rw [show lastW (j : Int) r.ws none = D.pend j from h.pe j] at this
    simp only [Option.isSome_none, Bool.false_or] at this
    intro e
    rw [e] at this
    have h2 : (r.ws.any fun q => q.1 == (j : Int)) = true := List.any_eq_true.2 ⟨p, hpw, by simp [hj]⟩
    rw [h2] at this
    cases this
  exact List.any_eq_true.2 ⟨p.1, this, by simp⟩
theorem SrcP.cellsP {w : World} {wa : Option Addr} {wk : Nat} {l : List (Int × List UInt8)} (h : SrcP w (.slice wa l.length wk) l) (hne : l ≠ []) : ∃ g o, wa = some ⟨g, o, none⟩ ∧ ∀ (i : Nat) (p : Int × List UInt8), l[i]? = some p → w.cell? ⟨g, o + i * 2, none⟩ = some (.int .i64 p.1) ∧ w.cell? ⟨g, o + i * 2 + 1, none⟩ = some (.string (strOf p.2)) := by
  obtain ⟨a, c, e, hq⟩ := h
  simp only [Value.slice.injEq] at e
  obtain ⟨rfl, -, -⟩ := e
  exact hq hne
/-- The cells of a slice of ints. -/
theorem SrcV.ints {w : World} {bo : Option Addr} {cap : Nat} {ks : List Int} (h : SrcV w (.slice bo ks.length cap) (intsV ks)) (hne : ks ≠ []) : ∃ g o, bo = some ⟨g, o, none⟩ ∧ ∀ k n, ks[k]? = some n → w.cell? ⟨g, o + k, none⟩ = some (.int .i64 n) := by
  obtain ⟨a, c, e, hq⟩ := h
  simp only [Value.slice.injEq] at e
  obtain ⟨rfl, -, -⟩ := e
  obtain ⟨g, o, e2, hc⟩ := hq (by intro e; apply hne; have := congrArg List.length e; simpa using this)
  refine ⟨g, o, e2, fun k n hk => hc k _ ?_⟩
  rw [intsV_get, hk]; rfl
section
variable {w : World} {b : Nat} {D : DiskM} {F : Nat → Prop} {cs : Array Value} {r : RM} {G : Nat → Prop}
set_option maxRecDepth 100000 in
set_option maxHeartbeats 6400000 in
theorem same_c (hD : DiskAt w b D F) (hr : RefAt w cs r G) (hm : Match D r) (HWL : r.ws.length ≤ 1000000) :
    Calls Try.prog 67 #[.pointer (some ⟨b, 0, none⟩), .agg cs] w fun e w' => e = .returned (.bool true) ∧ Only (fun _ => False) w w' := by
  obtain ⟨sa, sc, wa, wk, rfl, -⟩ := hr.ex
  have HR := hid hr; have HM := hid hm
  unfold RM.cells
  rw [hm.n, hm.dn, hm.nw, hm.nf]
  have HW : Hid (∀ n, DiskAt ((w.alloc (.cells #[.slice sa D.n sc, .slice wa r.ws.length wk, .bool D.down, .int .i64 r.fuse, .int .i64 D.nw, .int .i64 D.nf] 113)).drewN n) b D F) := hid (fun n => hD.only (((Only.refl (fun _ => False) w).alloc _).trans (only_drewS _ n) (fun _ _ e => e)) (fun _ _ e => e))
  have HS := hid (fun n => (sectors_c (HW.out n)).mono (fun e w' h => (⟨h.1, h.2.symm⟩ : _ ∧ _)))
  have HDn := hid (fun n => (down_c (HW.out n)).mono (fun e w' h => (⟨h.1, h.2.symm⟩ : _ ∧ _)))
  have HWr := hid (fun n => (writes_c (HW.out n)).mono (fun e w' h => (⟨h.1, h.2.symm⟩ : _ ∧ _)))
  have HFl := hid (fun n => (flushes_c (HW.out n)).mono (fun e w' h => (⟨h.1, h.2.symm⟩ : _ ∧ _)))
  clear hr hm hD
  have hdd : (D.down == D.down) = true := beq_self_eq_true _
  go_enter Try.func67, Try.ntmps67
  go_wp2_with fail
  go_quiet ((first | (with_reducible exact Calls.quiet_of_same (HS.out _)) | (with_reducible exact Calls.quiet_of_same (HDn.out _)) | (with_reducible exact Calls.quiet_of_same (HWr.out _)) | (with_reducible exact Calls.quiet_of_same (HFl.out _))))
  obtain ⟨w1, hw1⟩ : ∃ w1, (w.alloc (.cells #[.slice sa D.n sc, .slice wa r.ws.length wk, .bool D.down, .int .i64 r.fuse, .int .i64 D.nw, .int .i64 D.nf] 113)).drewN nq = w1 := ⟨_, rfl⟩
  have Ho1 : Hid (Only (fun _ => False) w w1) := hid (by rw [← hw1]; exact ((Only.refl (fun _ => False) w).alloc _).trans (only_drewS _ _) (fun _ _ e => e))
  have Hb1 : Hid (w1.heap[w.heap.size]? = some (.cells #[.slice sa D.n sc, .slice wa r.ws.length wk, .bool D.down, .int .i64 r.fuse, .int .i64 D.nw, .int .i64 D.nf] 113 (0, 0))) := hid (by rw [← hw1]; exact blk_only (blk_new w _) (only_drewS _ _) (fun e => e))
  have HD1 := hid (HW.out nq)
  have HR1 := hid (HR.out.same Ho1.out)
  rw [hw1] at HD1 ⊢
  clear hw1 HW HS HDn HWr HFl
  have x0 : w1.cell? ⟨w.heap.size, 0, none⟩ = some (.slice sa D.n sc) := cell_blk Hb1.out 0
  go_wp2_with fail
  clear x0
  go_loopw [54, 5, 6, 7, 8] (fun i _ _ _ _ wr => ∃ k : Nat, i = .int .i64 k ∧ k ≤ D.n ∧ Only (fun _ => False) w1 wr) (fun i _ _ _ _ _ => D.n - (intOf i).toNat)
  case atStart => exact ⟨0, rfl, Nat.zero_le _, Only.refl _ _⟩
  case round =>
    obtain ⟨k, rfl, hk, ho⟩ := hrel
    have Ho := hid ho
    clear ho
    have hn0 := HD1.out.n0.2
    by_cases hkn : k < D.n
    · have hki : (k : Int) < D.n := by omega
      have hsu := HM.out.su k hkn
      have hcell : ∃ g o, sa = some ⟨g, o, none⟩ ∧ wr.cell? ⟨g, o + k, none⟩ = some (.string (strOf (D.sure k))) := by
        obtain ⟨s1', c1', a1', d1', e, hq1, -, -, -⟩ := (HR1.out.same Ho.out).ex
        unfold RM.cells at e
        simp only [Array.mk.injEq, List.cons.injEq, Value.slice.injEq, true_and] at e
        obtain ⟨⟨rfl, rfl⟩, -⟩ := e
        obtain ⟨a', c', e, hq⟩ := hq1
        simp only [Value.slice.injEq] at e
        obtain ⟨rfl, -, -⟩ := e
        have hkl : k < r.sure.length := by rw [HM.out.n]; exact hkn
        have hne : strs r.sure ≠ [] := by
          intro e
          have := congrArg List.length e
          rw [length_strs, List.length_nil] at this
          omega
        obtain ⟨g, o, e2, hq2⟩ := hq hne
        refine ⟨g, o, e2, hq2 k _ ?_⟩
        rw [← hsu]
        simp [strs, List.getElem?_eq_getElem hkl]
      obtain ⟨g, o, rfl, hc⟩ := hcell
      have hSu := hid (sure_ok (HD1.out.only Ho.out (fun _ _ e => e)) k (by omega) hki)
      have hse : ((strOf (D.sure k)).toList == (strOf (D.sure k)).toList) = true := beq_self_eq_true _
      clear hsu
      go_wp2_with (go_at_call 34; refine hSu.out.mono ?_; rintro e w5 ⟨g5, c5, rfl, hm5, ho5⟩; have hcv := conv_str hm5.src; unfold secV at hcv ⊢; rw [Int.toNat_natCast] at hcv; have Ho5 := hid (Ho.out.trans ho5 (fun _ _ e => e)); clear hm5 ho5)
      go_roundw
      case rel => exact ⟨k + 1, by go_num, by omega, Ho5.out⟩
      case measure => simp [intOf]; omega
    · obtain rfl : k = D.n := by omega
      have HP := hid (pending_c (HD1.out.only Ho.out (fun _ _ e => e)))
      go_wp2_with (go_at_call 62; refine HP.out.mono ?_; rintro e w5 ⟨bo, cap, ks, rfl, hio, ho5, hpo, hkl⟩; have Hio := hid hio; have Ho5 := hid ho5; have HPo := hid hpo; clear hio ho5 hpo)
      have HR5 := hid ((HR1.out.same Ho.out).same Ho5.out)
      have HW5 : Hid (SrcP w5 (.slice wa r.ws.length wk) r.ws) := hid (by
        obtain ⟨s1', c1', a1', d1', e, -, hq2, -, -⟩ := HR5.out.ex
        unfold RM.cells at e
        simp only [Array.mk.injEq, List.cons.injEq, Value.slice.injEq, true_and] at e
        obtain ⟨-, ⟨rfl, rfl⟩, -⟩ := e
        exact hq2)
      have Hb5 := hid (blk_only (blk_only Hb1.out Ho.out (fun e => e)) Ho5.out (fun e => e))
      have Hio5 := hid Hio.out.src
      have HO := hid (Ho1.out.trans (Ho.out.trans Ho5.out (fun _ _ e => e)) (fun _ _ e => e))
      have hwsl := HWL
      clear Hio Ho5 Ho HR1 Hb1 HD1 HP
      go_loopw [78, 10, 11, 12, 14] (fun i _ _ _ _ wr => ∃ k : Nat, i = .int .i64 k ∧ k ≤ ks.length ∧ Only (fun _ => False) w5 wr) (fun i _ _ _ _ _ => ks.length - (intOf i).toNat)
      case atStart => exact ⟨0, rfl, Nat.zero_le _, Only.refl _ _⟩
      case round =>
        obtain ⟨k, rfl, hk, ho⟩ := hrel
        have Ho := hid ho
        clear ho
        by_cases hkn : k < ks.length
        · have hki : (k : Int) < ks.length := by omega
          obtain ⟨n, hn⟩ : ∃ n, ks[k]? = some n := ⟨_, List.getElem?_eq_getElem hkn⟩
          have hne : ks ≠ [] := by rintro rfl; simp at hkn
          obtain ⟨g, o, rfl, hcs⟩ := (Hio5.out.only Ho.out (fun _ _ _ _ _ _ e => e)).ints hne
          have hc := hcs k n hn
          have Hfd := hid (HM.out.found HPo.out (List.mem_of_getElem? hn))
          have H2 : Hid (k = 0 ∨ ∃ m, (0 : Int) < k ∧ ks[k - 1]? = some m ∧ wr.cell? ⟨g, o + (k - 1), none⟩ = some (.int .i64 m) ∧ m < n) := hid (by
            rcases Nat.eq_zero_or_pos k with h0 | h0
            · exact .inl h0
            · obtain ⟨m, hm⟩ : ∃ m, ks[k - 1]? = some m := ⟨_, List.getElem?_eq_getElem (by omega)⟩
              refine .inr ⟨m, by omega, hm, hcs _ _ hm, ?_⟩
              obtain ⟨l1, e1⟩ := List.getElem?_eq_some_iff.1 hm
              obtain ⟨l2, e2⟩ := List.getElem?_eq_some_iff.1 hn
              have := List.pairwise_iff_getElem.1 HPo.out.1 (k - 1) k l1 l2 (by omega)
              rw [e1, e2] at this; exact this)
          clear hcs hn
          obtain ⟨wo, rfl⟩ : ∃ wo : World, wo = wr := ⟨_, rfl⟩
          rcases H2.out with h0 | ⟨m, hk0, -, hcm, hmn⟩
          · have d0 : decide ((0 : Int) < (k : Int)) = false := by simp [h0]
            have d1 : decide (0 < k) = false := by simp [h0]
            have d2 : ¬ 0 < k := by omega
            have x1 : wo.cell? ⟨w.heap.size, 1, none⟩ = some (.slice wa r.ws.length wk) := cell_blk (blk_only Hb5.out Ho.out (fun e => e)) 1
            clear h0
            go_wp2_with fail
            go_loopw [97, 12, 14] (fun i f _ wr => ∃ m : Nat, i = .int .i64 m ∧ m ≤ r.ws.length ∧ f = .bool ((r.ws.take m).any fun p => p.1 == n) ∧ Only (fun _ => False) wo wr) (fun i _ _ _ => r.ws.length - (intOf i).toNat)
            case atStart => exact ⟨0, rfl, Nat.zero_le _, rfl, Only.refl _ _⟩
            case round =>
              obtain ⟨m, rfl, hm, rfl, hoi⟩ := hrel
              have Hoi := hid hoi
              clear hoi
              by_cases hml : m < r.ws.length
              · obtain ⟨p, hp⟩ : ∃ p, r.ws[m]? = some p := ⟨_, List.getElem?_eq_getElem hml⟩
                obtain ⟨ga, oa, rfl, hcw⟩ := (HW5.out.only (Ho.out.trans Hoi.out (fun _ _ e => e)) (fun _ _ _ _ e => e)).cellsP (by intro e; rw [e] at hml; simp at hml)
                obtain ⟨q1, q2⟩ := hcw m p hp
                have Hp := hid (any_take (fun p : Int × List UInt8 => p.1 == n) r.ws m p hp)
                obtain ⟨b0, hb0⟩ : ∃ b0, ((r.ws.take m).any fun p => p.1 == n) = b0 := ⟨_, rfl⟩
                rw [hb0] at Hp ⊢
                have hmi : (m : Int) < r.ws.length := by omega
                clear hp hcw hb0
                cases b0 with
                | true =>
                  go_wp2_with fail
                  go_roundw
                  case rel => exact ⟨m + 1, by go_num, by omega, by rw [Hp.out]; rfl, Hoi.out.alloc _⟩
                  case measure => simp [intOf]; omega
                | false =>
                  by_cases hpn : p.1 = n
                  · have hb : (p.1 == n) = true := by simp [hpn]
                    have Hb := hid hb
                    clear hpn
                    go_wp2_with fail
                    go_roundw
                    case rel => exact ⟨m + 1, by go_num, by omega, by rw [Hp.out, Hb.out]; rfl, Hoi.out.alloc _⟩
                    case measure => simp [intOf]; omega
                  · have hb : (p.1 == n) = false := by simp [hpn]
                    have Hb := hid hb
                    clear hpn
                    go_wp2_with fail
                    go_roundw
                    case rel => exact ⟨m + 1, by go_num, by omega, by rw [Hp.out, Hb.out]; rfl, Hoi.out.alloc _⟩
                    case measure => simp [intOf]; omega
              · obtain rfl : m = r.ws.length := by omega
                have e1 : ((r.ws.take r.ws.length).any fun p => p.1 == n) = true := by rw [List.take_length]; exact Hfd.out
                rw [e1]
                clear e1
                go_wp2_with fail
                go_roundw
                case rel => exact ⟨k + 1, by go_num, by omega, Ho.out.trans Hoi.out (fun _ _ e => e)⟩
                case measure => simp [intOf]; omega
          · have hnn : ¬ n ≤ m := by omega
            have d0 : decide ((0 : Int) < (k : Int)) = true := by simpa using hk0
            have d1 : decide (0 < k) = true := by simp; omega
            have x1 : wo.cell? ⟨w.heap.size, 1, none⟩ = some (.slice wa r.ws.length wk) := cell_blk (blk_only Hb5.out Ho.out (fun e => e)) 1
            go_wp2_with fail
            go_loopw [97, 12, 14] (fun i f _ wr => ∃ m : Nat, i = .int .i64 m ∧ m ≤ r.ws.length ∧ f = .bool ((r.ws.take m).any fun p => p.1 == n) ∧ Only (fun _ => False) wo wr) (fun i _ _ _ => r.ws.length - (intOf i).toNat)
            case atStart => exact ⟨0, rfl, Nat.zero_le _, rfl, Only.refl _ _⟩
            case round =>
              obtain ⟨m, rfl, hm, rfl, hoi⟩ := hrel
              have Hoi := hid hoi
              clear hoi
              by_cases hml : m < r.ws.length
              · obtain ⟨p, hp⟩ : ∃ p, r.ws[m]? = some p := ⟨_, List.getElem?_eq_getElem hml⟩
                obtain ⟨ga, oa, rfl, hcw⟩ := (HW5.out.only (Ho.out.trans Hoi.out (fun _ _ e => e)) (fun _ _ _ _ e => e)).cellsP (by intro e; rw [e] at hml; simp at hml)
                obtain ⟨q1, q2⟩ := hcw m p hp
                have Hp := hid (any_take (fun p : Int × List UInt8 => p.1 == n) r.ws m p hp)
                obtain ⟨b0, hb0⟩ : ∃ b0, ((r.ws.take m).any fun p => p.1 == n) = b0 := ⟨_, rfl⟩
                rw [hb0] at Hp ⊢
                have hmi : (m : Int) < r.ws.length := by omega
                clear hp hcw hb0
                cases b0 with
                | true =>
                  go_wp2_with fail
                  go_roundw
                  case rel => exact ⟨m + 1, by go_num, by omega, by rw [Hp.out]; rfl, Hoi.out.alloc _⟩
                  case measure => simp [intOf]; omega
                | false =>
                  by_cases hpn : p.1 = n
                  · have hb : (p.1 == n) = true := by simp [hpn]
                    have Hb := hid hb
                    clear hpn
                    go_wp2_with fail
                    go_roundw
                    case rel => exact ⟨m + 1, by go_num, by omega, by rw [Hp.out, Hb.out]; rfl, Hoi.out.alloc _⟩
                    case measure => simp [intOf]; omega
                  · have hb : (p.1 == n) = false := by simp [hpn]
                    have Hb := hid hb
                    clear hpn
                    go_wp2_with fail
                    go_roundw
                    case rel => exact ⟨m + 1, by go_num, by omega, by rw [Hp.out, Hb.out]; rfl, Hoi.out.alloc _⟩
                    case measure => simp [intOf]; omega
              · obtain rfl : m = r.ws.length := by omega
                have e1 : ((r.ws.take r.ws.length).any fun p => p.1 == n) = true := by rw [List.take_length]; exact Hfd.out
                rw [e1]
                clear e1
                go_wp2_with fail
                go_roundw
                case rel => exact ⟨k + 1, by go_num, by omega, Ho.out.trans Hoi.out (fun _ _ e => e)⟩
                case measure => simp [intOf]; omega
        · obtain rfl : k = ks.length := by omega
          have x1 : wr.cell? ⟨w.heap.size, 1, none⟩ = some (.slice wa r.ws.length wk) := cell_blk (blk_only Hb5.out Ho.out (fun e => e)) 1
          go_wp2_with fail
          go_loopw [115, 16, 17, 19] (fun i _ _ _ wr' => ∃ k : Nat, i = .int .i64 k ∧ k ≤ r.ws.length ∧ Only (fun _ => False) w5 wr') (fun i _ _ _ _ => r.ws.length - (intOf i).toNat)
          case atStart => exact ⟨0, rfl, Nat.zero_le _, Ho.out⟩
          case round =>
            clear Ho
            obtain ⟨k, rfl, hk, ho⟩ := hrel
            have Ho := hid ho
            clear ho
            by_cases hkn : k < r.ws.length
            · have hki : (k : Int) < r.ws.length := by omega
              obtain ⟨p, hp⟩ : ∃ p, r.ws[k]? = some p := ⟨_, List.getElem?_eq_getElem hkn⟩
              obtain ⟨ga, oa, rfl, hcw⟩ := (HW5.out.only Ho.out (fun _ _ _ _ e => e)).cellsP (by intro e; rw [e] at hkn; simp at hkn)
              obtain ⟨q1, q2⟩ := hcw k p hp
              have Hfd := hid (HM.out.there HPo.out (List.mem_of_getElem? hp))
              clear hp hcw
              go_wp2_with fail
              go_loopw [121, 17, 19] (fun i f _ wx => ∃ m : Nat, i = .int .i64 m ∧ m ≤ ks.length ∧ f = .bool ((ks.take m).any fun n => n == p.1) ∧ wx = wr.alloc (.cells #[.int .i64 p.1, .string (strOf p.2)] 178)) (fun i _ _ _ => ks.length - (intOf i).toNat)
              case atStart => exact ⟨0, rfl, Nat.zero_le _, rfl, rfl⟩
              case round =>
                obtain ⟨m, rfl, hm, rfl, hwx⟩ := hrel
                subst hwx
                by_cases hml : m < ks.length
                · have hmi : (m : Int) < ks.length := by omega
                  obtain ⟨n, hn⟩ : ∃ n, ks[m]? = some n := ⟨_, List.getElem?_eq_getElem hml⟩
                  obtain ⟨g, o, rfl, hcs⟩ := (Hio5.out.only Ho.out (fun _ _ _ _ _ _ e => e)).ints (by intro e; rw [e] at hml; simp at hml)
                  have hc := hcs m n hn
                  have hgl := World.block_lt_of_cell? _ _ hc
                  have Hp := hid (any_take (fun n : Int => n == p.1) ks m n hn)
                  obtain ⟨b0, hb0⟩ : ∃ b0, ((ks.take m).any fun n => n == p.1) = b0 := ⟨_, rfl⟩
                  rw [hb0] at Hp ⊢
                  clear hn hcs hb0
                  cases b0 with
                  | true =>
                    go_wp2_with fail
                    go_roundw
                    case rel => exact ⟨m + 1, by go_num, by omega, by rw [Hp.out]; rfl, by first | rfl | trivial⟩
                    case measure => simp [intOf]; omega
                  | false =>
                    by_cases hpn : n = p.1
                    · have hb : (n == p.1) = true := by simp [hpn]
                      have Hb := hid hb
                      clear hpn
                      go_wp2_with fail
                      go_roundw
                      case rel => exact ⟨m + 1, by go_num, by omega, by rw [Hp.out, Hb.out]; rfl, by first | rfl | trivial⟩
                      case measure => simp [intOf]; omega
                    · have hb : (n == p.1) = false := by simp [hpn]
                      have Hb := hid hb
                      clear hpn
                      go_wp2_with fail
                      go_roundw
                      case rel => exact ⟨m + 1, by go_num, by omega, by rw [Hp.out, Hb.out]; rfl, by first | rfl | trivial⟩
                      case measure => simp [intOf]; omega
                · obtain rfl : m = ks.length := by omega
                  have e1 : ((ks.take ks.length).any fun n => n == p.1) = true := by rw [List.take_length]; exact Hfd.out
                  rw [e1]
                  clear e1
                  go_wp2_with fail
                  go_roundw
                  case rel => exact ⟨k + 1, by go_num, by omega, Ho.out.alloc _⟩
                  case measure => simp [intOf]; omega
            · obtain rfl : k = r.ws.length := by omega
              go_wp2_with fail
              go_ret
              exact ⟨rfl, HO.out.trans Ho.out (fun _ _ e => e)⟩
end
end Go.Proofs.Ytepndjojodbhdaa
