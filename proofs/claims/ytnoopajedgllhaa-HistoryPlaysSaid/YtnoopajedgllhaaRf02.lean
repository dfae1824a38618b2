/- foliotref02: Num, Int, Text. -/
import Derived.Test.YtnoopajedgllhaaValM
import Derived.Deep.RegionLaw
namespace Go.Proofs.Ytnoopajedgllhaa
open Go.RowKit
section
variable {w : World} {K : Act → World → Prop} {Q : Exit → Act → World → Prop} {o : Oper} {a : Act}
/-- string(b) of bytes. -/
theorem wp_cv (x : Operand) (ho : o.op = .convert 72 9 x) {l : List UInt8} (hs : Src w (a.eval x) l) (h : K (a.put o.dst (.string (strOf l))) w) : o.wp Try.prog a w K Q := by
  unfold Oper.wp execOp
  simp only [ho, Sem.run_bind, Sem.run_pure, Result.andThen_ok, conv_str hs]
  exact h
theorem src1 {g y : Nat} {T : TypeId} {fr : Nat × Nat} (h : w.heap[g]? = some (.cells #[.int .u8 y] T fr)) (hy : y < 256) : Src w (.slice (some ⟨g, 0, none⟩) 1 1) [UInt8.ofNat y] := by
  refine ⟨_, 1, rfl, fun _ => ⟨_, 0, rfl, fun i u hu => ?_⟩⟩
  rw [Nat.zero_add, cell_blk h]
  have e : (UInt8.ofNat y).toNat = y := by simp; omega
  simpa [bytesV, e] using hu
theorem strOf_app' (a b : List UInt8) : strOf a ++ strOf b = strOf (a ++ b) := by apply ByteArray.ext; simp [strOf]
def RNumC (f : Nat) : Prop := f ≤ 9 → ∀ (w : World) (n : Nat), n < 2 ^ (7 * f + 1) → n < 18446744073709551616 → Calls Try.prog 27 #[.int .u64 n] w fun e w' => e = .returned (.string (strOf (numF f n))) ∧ Only (fun _ => False) w w'
set_option maxRecDepth 100000 in
theorem rnumS (f : Nat) (ih : 0 < f → RNumC (f - 1)) : RNumC f := by
  intro hf9 w n hn hn2
  by_cases h : n < 128
  · have hF : Hid (numF f n = [UInt8.ofNat n]) := hid (by cases f with | zero => rfl | succ f => rw [numF, if_pos h])
    have hi : (n : Int) < 128 := by omega
    have hcv : (convert 72 9 (.slice (some ⟨w.heap.size, 0, none⟩) 1 1)).run Try.prog (w.alloc (.cells #[.int .u8 n] 5)) = .ok (.string (strOf [UInt8.ofNat n])) (w.alloc (.cells #[.int .u8 n] 5)) := conv_str (src1 (blk_new w _) (by omega))
    clear h hn hn2
    go_enter Try.func27, Try.ntmps27
    go_wp2_with fail
    go_ret
    rw [hF.out]; exact ⟨rfl, only_new w _⟩
  · have hi : ¬ (n : Int) < 128 := by omega
    obtain ⟨f, rfl⟩ : ∃ f', f = f' + 1 := by
      cases f with
      | zero => simp at hn; omega
      | succ f => exact ⟨f, rfl⟩
    have hF : Hid (numF (f + 1) n = UInt8.ofNat (n % 128 + 128) :: numF f (n / 128)) := hid (by rw [numF, if_neg h])
    have hI := fun wc => hid (ih (by omega) (by omega) wc (n / 128) (by
      rw [show 7 * (f + 1) + 1 = (7 * f + 1) + 7 from by omega, Nat.pow_add] at hn
      exact Nat.div_lt_of_lt_mul (by rw [Nat.mul_comm]; exact hn)) (by omega))
    simp only [Nat.add_sub_cancel] at hI
    have hlen := numF_len f (n / 128)
    obtain ⟨y, hy⟩ : ∃ y, n % 128 + 128 = y := ⟨_, rfl⟩
    obtain ⟨rs, hrs⟩ : ∃ y, numF f (n / 128) = y := ⟨_, rfl⟩
    rw [hy, hrs] at hF
    rw [hrs] at hlen
    simp only [hrs] at hI
    have z1 : ¬ 9223372036854775807 < (strOf [UInt8.ofNat y]).size + (strOf rs).size := by have h1 : (strOf rs).size = rs.length := rfl; have h2 : (strOf [UInt8.ofNat y]).size = 1 := rfl; omega
    have cc : strOf [UInt8.ofNat y] ++ strOf rs = strOf (UInt8.ofNat y :: rs) := strOf_app' [UInt8.ofNat y] rs
    have hyl : y < 256 := by omega
    obtain ⟨m, hm⟩ : ∃ m, n / 128 = m := ⟨_, rfl⟩
    have e1 : IntKind.u8.wrap (IntKind.u64.wrap ((n : Int).tmod 128 + 128)) = (y : Int) := by
      rw [Int.tmod_eq_emod_of_nonneg (by omega), IntWalk.u64_in _ (by omega), IntKind.wrap_u8]; omega
    have e2 : IntKind.u64.wrap ((n : Int) / 128) = (m : Int) := by rw [IntWalk.u64_in _ (by omega)]; omega
    simp only [hm] at hI
    have HY := hid hy; have HM := hid hm
    clear hm
    clear hy hrs hlen hn ih h
    go_enter Try.func27, Try.ntmps27
    go_wp2_with fail
    have hcvA : (convert 72 9 (.slice (some ⟨w.heap.size, 0, none⟩) 1 1)).run Try.prog ((w.alloc (.cells #[.int .u8 y] 5)).drew) = .ok (.string (strOf [UInt8.ofNat y])) ((w.alloc (.cells #[.int .u8 y] 5)).drew) := conv_str (src1 (g := w.heap.size) (w := ((w.alloc (.cells #[.int .u8 y] 5)).drew)) (blk_new w (.cells #[.int .u8 y] 5)) hyl)
    go_region_law (refine step_of rfl (wp_callc (o := ⟨some 17, _, _, _, _, _⟩) (f := 27) (args := #[.int .u64 m]) (by kernel_rfl) ?_); refine (hI _).out.mono ?_; rintro e w2 ⟨rfl, ho2⟩; refine ⟨_, rfl, ?_⟩; have HO2 := hid ho2; clear ho2; have hcvC : (convert 72 9 (.slice (some ⟨w2.heap.size, 0, none⟩) 1 1)).run Try.prog (w2.alloc (.cells #[.int .u8 y] 5)) = .ok (.string (strOf [UInt8.ofNat y])) (w2.alloc (.cells #[.int .u8 y] 5)) := conv_str (src1 (g := w2.heap.size) (blk_new w2 (.cells #[.int .u8 y] 5)) hyl); (try have hcvB : (convert 72 9 (.slice (some ⟨w.heap.size, 0, none⟩) 1 1)).run Try.prog w2 = .ok (.string (strOf [UInt8.ofNat y])) w2 := conv_str (src1 (g := w.heap.size) (w := w2) (blk_only (w := ((w.alloc (.cells #[.int .u8 y] 5)).drew)) (blk_new w (.cells #[.int .u8 y] 5)) HO2.out (fun e => e)) hyl)))
    all_goals
      go_wp2_with fail
      go_ret
      rw [hF.out]
      exact ⟨rfl, by first | exact (((only_new w _).drew).trans HO2.out (fun _ _ e => e)) | exact ((((Only.refl _ w).drew).trans HO2.out (fun _ _ e => e)).alloc _)⟩
theorem rnumC : ∀ f, RNumC f
  | 0 => rnumS 0 (fun h => absurd h (by omega))
  | f + 1 => rnumS (f + 1) (fun _ => rnumC f)
theorem rfnum_c (n : Nat) (hn : n < 18446744073709551616) : Calls Try.prog 27 #[.int .u64 n] w fun e w' => e = .returned (.string (strOf (numB n))) ∧ Only (fun _ => False) w w' :=
  rnumC 9 (by omega) w n (by have : (2 : Nat) ^ (7 * 9 + 1) = 18446744073709551616 := by decide
                             omega) hn
set_option maxRecDepth 100000 in
theorem rfint_c (n : Int) (h1 : -9223372036854775808 ≤ n) (h2 : n ≤ 9223372036854775807) : Calls Try.prog 88 #[.int .i64 n] w fun e w' => e = .returned (.string (strOf (numB (zigN n)))) ∧ Only (fun _ => False) w w' := by
  by_cases h : 0 ≤ n
  · have hz : ((zigN n : Nat) : Int) = n * 2 := by unfold zigN; rw [if_pos h]; omega
    have hN := rfnum_c (w := w) (zigN n) (by omega)
    rw [hz] at hN
    obtain ⟨z, hzz⟩ : ∃ z, numB (zigN n) = z := ⟨_, rfl⟩
    rw [hzz] at hN ⊢
    have HN := hid hN
    clear hz hN hzz
    go_enter Try.func88, Try.ntmps88
    go_wp2_with fail
    refine HN.out.mono ?_
    rintro e w1 ⟨rfl, ho⟩
    have HO := hid ho
    clear ho
    go_wp2_with fail
    go_ret
    exact ⟨rfl, HO.out⟩
  · have hz : ((zigN n : Nat) : Int) = -(n + 1) * 2 + 1 := by unfold zigN; rw [if_neg h]; omega
    have hN := rfnum_c (w := w) (zigN n) (by omega)
    rw [hz] at hN
    obtain ⟨z, hzz⟩ : ∃ z, numB (zigN n) = z := ⟨_, rfl⟩
    rw [hzz] at hN ⊢
    have HN := hid hN
    clear hz hN hzz
    have hn0 : n + 1 ≤ 0 := by omega
    go_enter Try.func88, Try.ntmps88
    go_wp2_with fail
    refine HN.out.mono ?_
    rintro e w1 ⟨rfl, ho⟩
    have HO := hid ho
    clear ho
    go_wp2_with fail
    go_ret
    exact ⟨rfl, HO.out⟩
set_option maxRecDepth 100000 in
theorem rftext_c (l : List UInt8) (hl : l.length ≤ 9000000000000000000) : Calls Try.prog 26 #[.string (strOf l)] w fun e w' => e = .returned (.string (strOf (textB l))) ∧ Only (fun _ => False) w w' := by
  have hsz : (strOf l).size = l.length := rfl
  have HN := hid (rfnum_c (w := w) l.length (by omega))
  have hnl := numB_len l.length
  have HT : Hid (textB l = numB l.length ++ l) := hid rfl
  obtain ⟨z, hzz⟩ : ∃ z, numB l.length = z := ⟨_, rfl⟩
  rw [hzz] at HN HT hnl
  have cc : strOf z ++ strOf l = strOf (z ++ l) := strOf_app' z l
  have z1 : ¬ 9223372036854775807 < (strOf z).size + (strOf l).size := by have h1 : (strOf z).size = z.length := rfl; omega
  clear hzz
  go_enter Try.func26, Try.ntmps26
  go_wp2_with fail
  refine HN.out.mono ?_
  rintro e w1 ⟨rfl, ho⟩
  have HO := hid ho
  clear ho
  go_wp2_with fail
  go_ret
  rw [HT.out]; exact ⟨rfl, HO.out⟩
end
end Go.Proofs.Ytnoopajedgllhaa
