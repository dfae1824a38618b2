/- event.entry: a kind's name and its fields; has; Closes; Outside. -/
import Derived.Test.YtdjpapdkbglkmaaGreatDoorValM
import Derived.Test.YtdjpapdkbglkmaaGreatDoorEvL
import Derived.Test.YtdjpapdkbglkmaaGreatDoorShelf
namespace Go.Proofs.YtdjpapdkbglkmaaGreatDoor
open Go.RowKit

theorem indexByte_at (c : UInt8) : ∀ (a b : List UInt8), c ∉ a → Lib.indexByte (a ++ c :: b) c = a.length
  | [], b, _ => by simp [Lib.indexByte]
  | x :: xs, b, h => by
    have hx : ¬ x = c := fun e => h (by rw [e]; exact List.mem_cons_self)
    have ih := indexByte_at c xs b (fun m => h (List.mem_cons_of_mem _ m))
    rw [List.cons_append, Lib.indexByte, if_neg (by simpa using hx), ih, if_neg (by rw [beq_iff_eq]; omega), List.length_cons]; omega
theorem indexByte_mem (c : UInt8) : ∀ (l : List UInt8), (0 ≤ Lib.indexByte l c) = (c ∈ l)
  | [] => by simp [Lib.indexByte]
  | x :: xs => by
    have ih := indexByte_mem c xs
    have hge := Lib.indexByte_ge xs c
    rw [Lib.indexByte]
    by_cases hx : x = c
    · subst hx; simp
    · have hx' : ¬ c = x := fun e => hx e.symm
      rw [if_neg (by simpa using hx)]
      by_cases h1 : Lib.indexByte xs c = -1
      · rw [if_pos (by simp [h1])]
        rw [h1] at ih
        simp [hx'] at ih ⊢
        exact ih
      · rw [if_neg (by simpa using h1)]
        have h0 : 0 ≤ Lib.indexByte xs c := by omega
        have hm : c ∈ xs := by rw [← ih]; exact h0
        simp [hm]; omega
def wordsOf : List (List UInt8 × List UInt8) → List UInt8
  | [] => []
  | (a, b) :: l => (a ++ 58 :: b) ++ 32 :: wordsOf l
theorem words_eq : (⟨#[114, 117, 110, 45, 115, 116, 97, 114, 116, 101, 100, 58, 65, 66, 78, 84, 86, 32, 116, 97, 115, 107, 45, 115, 99, 104, 101, 100, 117, 108, 101, 100, 58, 66, 32, 116, 97, 115, 107, 45, 115, 116, 97, 114, 116, 101, 100, 58, 65, 66, 32, 116, 97, 115, 107, 45, 99, 111, 109, 112, 108, 101, 116, 101, 100, 58, 65, 66, 32, 116, 97, 115, 107, 45, 116, 105, 109, 101, 100, 45, 111, 117, 116, 58, 66, 32, 116, 97, 115, 107, 45, 102, 97, 105, 108, 101, 100, 58, 66, 78, 32, 97, 99, 116, 105, 118, 105, 116, 121, 45, 115, 99, 104, 101, 100, 117, 108, 101, 100, 58, 65, 66, 78, 86, 32, 97, 99, 116, 105, 118, 105, 116, 121, 45, 99, 111, 109, 112, 108, 101, 116, 101, 100, 58, 65, 86, 32, 97, 99, 116, 105, 118, 105, 116, 121, 45, 102, 97, 105, 108, 101, 100, 58, 65, 78, 32, 97, 99, 116, 105, 118, 105, 116, 121, 45, 116, 105, 109, 101, 100, 45, 111, 117, 116, 58, 65, 32, 116, 105, 109, 101, 114, 45, 115, 116, 97, 114, 116, 101, 100, 58, 65, 66, 32, 116, 105, 109, 101, 114, 45, 102, 105, 114, 101, 100, 58, 65, 32, 116, 105, 109, 101, 114, 45, 99, 97, 110, 99, 101, 108, 101, 100, 58, 65, 32, 115, 105, 103, 110, 97, 108, 45, 114, 101, 99, 101, 105, 118, 101, 100, 58, 78, 86, 32, 99, 97, 110, 99, 101, 108, 45, 114, 101, 113, 117, 101, 115, 116, 101, 100, 58, 32, 114, 117, 110, 45, 99, 111, 109, 112, 108, 101, 116, 101, 100, 58, 86, 32, 114, 117, 110, 45, 102, 97, 105, 108, 101, 100, 58, 78, 32, 114, 117, 110, 45, 99, 97, 110, 99, 101, 108, 101, 100, 58, 32, 114, 117, 110, 45, 116, 101, 114, 109, 105, 110, 97, 116, 101, 100, 58, 78, 32, 114, 117, 110, 45, 116, 105, 109, 101, 100, 45, 111, 117, 116, 58, 32, 99, 111, 110, 116, 105, 110, 117, 101, 100, 45, 97, 115, 45, 110, 101, 119, 58, 66, 86, 32]⟩ : ByteArray) = strOf (wordsOf evTab) := by kernel_rfl
theorem ext_to (a b : List UInt8) (c : UInt8) : (strOf (a ++ c :: b)).extract 0 a.length = strOf a := by
  apply ByteArray.ext
  apply Array.ext'
  simp [strOf, ByteArray.data_extract, List.extract_eq_take_drop]
theorem ext_from (a b : List UInt8) (c : UInt8) (m : Nat) (hm : m = (a ++ c :: b).length) : (strOf (a ++ c :: b)).extract (a.length + 1) m = strOf b := by
  subst hm
  apply ByteArray.ext
  apply Array.ext'
  have e : List.drop (a.length + 1) a = [] := List.drop_of_length_le (by omega)
  simp [strOf, ByteArray.data_extract, List.extract_eq_take_drop, List.drop_append]
  rw [e, List.nil_append, List.take_of_length_le (by omega)]
section
variable {w : World}
set_option maxRecDepth 100000 in
set_option maxHeartbeats 800000 in
theorem cutS_c (a b : List UInt8) (c : UInt8) (h : c ∉ a) (hl : (a ++ c :: b).length ≤ 1000000000) : Calls Tryz.prog 84 #[.string (strOf (a ++ c :: b)), .string ⟨#[c]⟩] w fun e w' => e = .returned (.tuple #[.string (strOf a), .string (strOf b), .bool true]) ∧ ∃ n, w' = w.drewN n := by
  have hi := indexByte_at c a b h
  have HI := hid (Tryz.stringslite_Index_one (strOf (a ++ c :: b)) c w)
  rw [strOf_data, hi] at HI
  have hsz : (strOf (a ++ c :: b)).size = a.length + (b.length + 1) := by rw [strOf_size, List.length_append, List.length_cons]
  have hab : a.length + (b.length + 1) ≤ 1000000000 := by simpa using hl
  have hx1 := ext_to a b c
  have hx2 := ext_from a b c (a.length + (b.length + 1)) (by simp)
  have hsum : IntKind.i64.wrap ((a.length : Int) + 1) = (a.length : Int) + 1 := IntWalk.i64_in _ (by omega)
  have ht1 : ((a.length : Int) + 1).toNat = a.length + 1 := by omega
  have h0 : (0 : Int) ≤ (a.length : Int) + 1 := by omega
  have hle : (a.length : Int) + 1 ≤ (a.length + (b.length + 1) : Nat) := by omega
  have hle2 : (a.length : Int) ≤ (a.length + (b.length + 1) : Nat) := by omega
  have hc1 : (⟨#[c]⟩ : ByteArray).size = 1 := rfl
  clear hi h hl
  obtain ⟨S, hS⟩ : ∃ S, strOf (a ++ c :: b) = S := ⟨_, rfl⟩
  rw [hS] at HI hsz hx1 hx2 ⊢
  obtain ⟨n, hn⟩ : ∃ n, a.length = n := ⟨_, rfl⟩
  obtain ⟨m, hm⟩ : ∃ m, b.length = m := ⟨_, rfl⟩
  rw [hn] at HI
  rw [hn, hm] at hsz hx2 hab hle hle2
  rw [hn] at hsum ht1 h0
  rw [hn] at hx1
  clear hS hn hm
  go_enter Tryz.func84, Tryz.ntmps84
  go_wp2_with fail
  refine HI.out.mono ?_
  rintro e w1 ⟨rfl, rfl⟩
  go_wp2_with fail
  go_quiet (fail)
  go_wp2
  go_wp2
  go_ret3
  exact ⟨rfl, _, rfl⟩
set_option maxRecDepth 100000 in
theorem cut_c (a b : List UInt8) (c : UInt8) (h : c ∉ a) (hl : (a ++ c :: b).length ≤ 1000000000) : Calls Tryz.prog 66 #[.string (strOf (a ++ c :: b)), .string ⟨#[c]⟩] w fun e w' => e = .returned (.tuple #[.string (strOf a), .string (strOf b), .bool true]) ∧ ∃ n, w' = w.drewN n := by
  have HC := hid (cutS_c (w := w) a b c h hl)
  clear h hl
  obtain ⟨S, hS⟩ : ∃ S, strOf (a ++ c :: b) = S := ⟨_, rfl⟩
  rw [hS] at HC ⊢
  clear hS
  go_enter Tryz.func66, Tryz.ntmps66
  go_wp2_with fail
  refine HC.out.mono ?_
  rintro e w1 ⟨rfl, n, rfl⟩
  go_wp2_with fail
  go_ret3
  exact ⟨rfl, _, rfl⟩
theorem ev_row {i : Nat} (h : i < 21) : ∃ a b, evTab[i]? = some (a, b) ∧ 32 ∉ a ++ 58 :: b ∧ 58 ∉ a ∧ (a ++ 58 :: b).length ≤ 100 := by
  have : ∀ j : Fin 21, ∃ x, evTab[j.val]? = some x ∧ 32 ∉ x.1 ++ 58 :: x.2 ∧ 58 ∉ x.1 ∧ (x.1 ++ 58 :: x.2).length ≤ 100 := by decide
  obtain ⟨x, h1, h2⟩ := this ⟨i, h⟩
  exact ⟨x.1, x.2, h1, h2⟩
theorem words_len (i : Nat) : (wordsOf (evTab.drop i)).length ≤ 1000 := by
  have h : ∀ j : Fin 22, (wordsOf (evTab.drop j.val)).length ≤ 1000 := by decide +kernel
  rcases Nat.lt_or_ge i 22 with g | g
  · exact h ⟨i, g⟩
  · rw [List.drop_of_length_le (by have : evTab.length = 21 := rfl; omega)]; simp [wordsOf]
theorem words_drop {i : Nat} {a b : List UInt8} (h : evTab[i]? = some (a, b)) : wordsOf (evTab.drop i) = (a ++ 58 :: b) ++ 32 :: wordsOf (evTab.drop (i + 1)) := by
  obtain ⟨hi, he⟩ := List.getElem?_eq_some_iff.1 h
  rw [List.drop_eq_getElem_cons hi, he, wordsOf]
/-- Name and fields, once the kind has been come to. -/
def nmAt (kind : Int) (k : Nat) : List UInt8 × List UInt8 := if kind < k then (evName kind, evFlds kind) else ([], [])
theorem nm_zero : strOf [] = (⟨#[]⟩ : ByteArray) := rfl
set_option maxRecDepth 100000 in
set_option maxHeartbeats 1600000 in
theorem entry_c (kind : Int) (h1 : -9223372036854775808 ≤ kind) (h2 : kind ≤ 9223372036854775807) : Calls Tryz.prog 37 #[.int .i64 kind] w fun e w' => e = .returned (.tuple #[.string (strOf (evName kind)), .string (strOf (evFlds kind))]) ∧ ∃ n, w' = w.drewN n := by
  go_enter Tryz.func37, Tryz.ntmps37
  go_wp2_with fail
  go_loopw [2, 3, 4, 5, 6] (fun nm fl rest k _ wr => ∃ (j : Nat), k = .int .i64 j ∧ 1 ≤ j ∧ j ≤ 22 ∧ rest = .string (strOf (wordsOf (evTab.drop (j - 1)))) ∧ nm = .string (strOf (nmAt kind j).1) ∧ fl = .string (strOf (nmAt kind j).2) ∧ (1 < j → (j : Int) ≤ kind + 1) ∧ ∃ n, wr = w.drewN n) (fun _ _ _ k _ _ => 30 - (intOf k).toNat)
  case atStart =>
    refine ⟨1, rfl, by omega, by omega, ?_, ?_, ?_, by omega, 0, rfl⟩
    · exact congrArg Value.string words_eq
    · unfold nmAt evName; split
      · rw [if_neg (by omega)]; rfl
      · rfl
    · unfold nmAt evFlds; split
      · rw [if_neg (by omega)]; rfl
      · rfl
  case round =>
    obtain ⟨j, rfl, hj1, hj22, rfl, rfl, rfl, hjk, n, rfl⟩ := hrel
    have HJK := hid hjk
    clear hjk
    have e1 : nmAt kind 0 = nmAt kind 0 := rfl
    by_cases hk : (j : Int) ≤ kind
    · have hnm : nmAt kind j = ([], []) := by unfold nmAt; rw [if_neg (by omega)]
      rw [hnm]
      by_cases h22 : j = 22
      · subst h22
        have hr : wordsOf (evTab.drop (22 - 1)) = [] := by decide +kernel
        have hE : Hid (evName kind = [] ∧ evFlds kind = []) := hid ⟨by unfold evName; rw [if_neg (by omega)], by unfold evFlds; rw [if_neg (by omega)]⟩
        rw [hr]
        have hem : (strOf []).toList.isEmpty = true := by rw [strOf_list]; rfl
        clear hr hnm e1
        go_wp2_with fail
        go_ret2
        rw [hE.out.1, hE.out.2]
        exact ⟨rfl, _, rfl⟩
      · obtain ⟨a, b, hrow, h32, h58, hab⟩ := ev_row (i := j - 1) (by omega)
        have hwd := words_drop hrow
        have hwl := words_len (j - 1)
        rw [hwd] at hwl ⊢
        rw [show j - 1 + 1 = j from by omega] at hwl ⊢
        have HC1 := hid (cut_c (w := w.drewN n) (a ++ 58 :: b) (wordsOf (evTab.drop j)) 32 h32 (by omega))
        have HC2 := fun w1 => hid (cut_c (w := w1) a b 58 h58 (by omega))
        have hne : (strOf ((a ++ 58 :: b) ++ 32 :: wordsOf (evTab.drop j))).toList.isEmpty = false := by rw [strOf_list]; simp
        have HR := hid hrow
        obtain ⟨S, hS⟩ : ∃ S, strOf ((a ++ 58 :: b) ++ 32 :: wordsOf (evTab.drop j)) = S := ⟨_, rfl⟩
        obtain ⟨S2, hS2⟩ : ∃ S, strOf (a ++ 58 :: b) = S := ⟨_, rfl⟩
        rw [hS] at HC1 hne ⊢
        rw [hS2] at HC1
        simp only [hS2] at HC2
        clear hS hS2 hwd hwl hab h32 h58 hrow hnm e1
        by_cases hjk : (j : Int) = kind
        · have hb : ((j : Int) == kind) = true := by simpa using hjk
          clear hjk
          go_wp2_with fail
          refine HC1.out.mono ?_
          rintro e w1 ⟨rfl, q, rfl⟩
          go_wp2_with fail
          refine (HC2 _).out.mono ?_
          rintro e w1 ⟨rfl, q2, rfl⟩
          go_wp2_with fail
          go_roundw
          case rel =>
            have hN : nmAt kind (j + 1) = (a, b) := by
              unfold nmAt
              have hkj : (j : Int) = kind := by simpa using hb
              rw [if_pos (by omega)]
              unfold evName evFlds
              rw [if_pos (by omega), if_pos (by omega)]
              have : evTab.getD (kind.toNat - 1) ([], []) = (a, b) := by rw [List.getD_eq_getElem?_getD, show kind.toNat - 1 = j - 1 from by omega, HR.out]; rfl
              rw [this]
            exact ⟨j + 1, by go_num, by omega, by omega, rfl, by rw [hN], by rw [hN], fun _ => by omega, _, rfl⟩
          case measure => simp [intOf]; omega
        · have hb : ((j : Int) == kind) = false := by simpa using hjk
          go_wp2_with fail
          refine HC1.out.mono ?_
          rintro e w1 ⟨rfl, q, rfl⟩
          go_wp2_with fail
          go_roundw
          case rel =>
            have hN : nmAt kind (j + 1) = ([], []) := by unfold nmAt; rw [if_neg (by omega)]
            exact ⟨j + 1, by go_num, by omega, by omega, rfl, by rw [hN], by rw [hN], fun _ => by omega, _, rfl⟩
          case measure => simp [intOf]; omega
    · have hE : Hid ((nmAt kind j) = (evName kind, evFlds kind)) := hid (by unfold nmAt; rw [if_pos (by omega)])
      clear e1
      go_wp2_with fail
      go_ret2
      rw [hE.out]
      exact ⟨rfl, _, rfl⟩
end
end Go.Proofs.YtdjpapdkbglkmaaGreatDoor
