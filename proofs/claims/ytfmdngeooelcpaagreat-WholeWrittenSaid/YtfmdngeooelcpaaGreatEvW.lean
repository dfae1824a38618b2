/- event.entry: a kind's name and its fields; has; Closes; Outside. How an event lies in memory; has, Closes, Outside, Check. event.Write. -/
import Derived.Test.YtfmdngeooelcpaaGreatValM
import Derived.Test.YtfmdngeooelcpaaGreatEvL
import Derived.Test.YtfmdngeooelcpaaGreatShelf
import Derived.Test.YtfmdngeooelcpaaGreatEvA
import Derived.Test.YtfmdngeooelcpaaGreatVMisc
import Derived.Deep.Cut
import Derived.Deep.CutRange
import Derived.Deep.CutBlock
namespace Go.Proofs.YtfmdngeooelcpaaGreat
open Go.RowKit

theorem indexByte_at (c : UInt8) : ∀ (a b : List UInt8), c ∉ a → Lib.indexByte (a ++ c :: b) c = a.length
  | [], b, _ => by simp [Lib.indexByte]
  | x :: xs, b, h => by
    have hx : ¬ x = c := fun e => h (by rw [e]; exact List.mem_cons_self)
    have ih := indexByte_at c xs b (fun m => h (List.mem_cons_of_mem _ m))
    rw [List.cons_append, Lib.indexByte, if_neg (by simpa using hx), ih, if_neg (by rw [beq_iff_eq]; omega), List.length_cons]; omega
theorem indexByte_mem (c : UInt8) : ∀ (l : List UInt8), (0 ≤ Lib.indexByte l c) = (c ∈ l)
  | [] => by simp [Lib.indexByte]
  | x :: xs => by
    have ih := indexByte_mem c xs
    have hge := Lib.indexByte_ge xs c
    rw [Lib.indexByte]
    by_cases hx : x = c
    · subst hx; simp
    · have hx' : ¬ c = x := fun e => hx e.symm
      rw [if_neg (by simpa using hx)]
      by_cases h1 : Lib.indexByte xs c = -1
      · rw [if_pos (by simp [h1])]
        rw [h1] at ih
        simp [hx'] at ih ⊢
        exact ih
      · rw [if_neg (by simpa using h1)]
        have h0 : 0 ≤ Lib.indexByte xs c := by omega
        have hm : c ∈ xs := by rw [← ih]; exact h0
        simp [hm]; omega
def wordsOf : List (List UInt8 × List UInt8) → List UInt8
  | [] => []
  | (a, b) :: l => (a ++ 58 :: b) ++ 32 :: wordsOf l
theorem words_eq : (⟨#[114, 117, 110, 45, 115, 116, 97, 114, 116, 101, 100, 58, 65, 66, 78, 84, 86, 32, 116, 97, 115, 107, 45, 115, 99, 104, 101, 100, 117, 108, 101, 100, 58, 66, 32, 116, 97, 115, 107, 45, 115, 116, 97, 114, 116, 101, 100, 58, 65, 66, 32, 116, 97, 115, 107, 45, 99, 111, 109, 112, 108, 101, 116, 101, 100, 58, 65, 66, 32, 116, 97, 115, 107, 45, 116, 105, 109, 101, 100, 45, 111, 117, 116, 58, 66, 32, 116, 97, 115, 107, 45, 102, 97, 105, 108, 101, 100, 58, 66, 78, 32, 97, 99, 116, 105, 118, 105, 116, 121, 45, 115, 99, 104, 101, 100, 117, 108, 101, 100, 58, 65, 66, 78, 86, 32, 97, 99, 116, 105, 118, 105, 116, 121, 45, 99, 111, 109, 112, 108, 101, 116, 101, 100, 58, 65, 86, 32, 97, 99, 116, 105, 118, 105, 116, 121, 45, 102, 97, 105, 108, 101, 100, 58, 65, 78, 32, 97, 99, 116, 105, 118, 105, 116, 121, 45, 116, 105, 109, 101, 100, 45, 111, 117, 116, 58, 65, 32, 116, 105, 109, 101, 114, 45, 115, 116, 97, 114, 116, 101, 100, 58, 65, 66, 32, 116, 105, 109, 101, 114, 45, 102, 105, 114, 101, 100, 58, 65, 32, 116, 105, 109, 101, 114, 45, 99, 97, 110, 99, 101, 108, 101, 100, 58, 65, 32, 115, 105, 103, 110, 97, 108, 45, 114, 101, 99, 101, 105, 118, 101, 100, 58, 78, 86, 32, 99, 97, 110, 99, 101, 108, 45, 114, 101, 113, 117, 101, 115, 116, 101, 100, 58, 32, 114, 117, 110, 45, 99, 111, 109, 112, 108, 101, 116, 101, 100, 58, 86, 32, 114, 117, 110, 45, 102, 97, 105, 108, 101, 100, 58, 78, 32, 114, 117, 110, 45, 99, 97, 110, 99, 101, 108, 101, 100, 58, 32, 114, 117, 110, 45, 116, 101, 114, 109, 105, 110, 97, 116, 101, 100, 58, 78, 32, 114, 117, 110, 45, 116, 105, 109, 101, 100, 45, 111, 117, 116, 58, 32, 99, 111, 110, 116, 105, 110, 117, 101, 100, 45, 97, 115, 45, 110, 101, 119, 58, 66, 86, 32]⟩ : ByteArray) = strOf (wordsOf evTab) := by kernel_rfl
theorem ext_to (a b : List UInt8) (c : UInt8) : (strOf (a ++ c :: b)).extract 0 a.length = strOf a := by
  apply ByteArray.ext
  apply Array.ext'
  simp [strOf, ByteArray.data_extract, List.extract_eq_take_drop]
theorem ext_from (a b : List UInt8) (c : UInt8) (m : Nat) (hm : m = (a ++ c :: b).length) : (strOf (a ++ c :: b)).extract (a.length + 1) m = strOf b := by
  subst hm
  apply ByteArray.ext
  apply Array.ext'
  have e : List.drop (a.length + 1) a = [] := List.drop_of_length_le (by omega)
  simp [strOf, ByteArray.data_extract, List.extract_eq_take_drop, List.drop_append]
  rw [e, List.nil_append, List.take_of_length_le (by omega)]
section
variable {w : World}
set_option maxRecDepth 100000 in
set_option maxHeartbeats 800000 in
theorem cutS_c (a b : List UInt8) (c : UInt8) (h : c ∉ a) (hl : (a ++ c :: b).length ≤ 1000000000) : Calls Tryz.prog 92 #[.string (strOf (a ++ c :: b)), .string ⟨#[c]⟩] w fun e w' => e = .returned (.tuple #[.string (strOf a), .string (strOf b), .bool true]) ∧ ∃ n, w' = w.drewN n := by
  have hi := indexByte_at c a b h
  have HI := hid (Tryz.stringslite_Index_one (strOf (a ++ c :: b)) c w)
  rw [strOf_data, hi] at HI
  have hsz : (strOf (a ++ c :: b)).size = a.length + (b.length + 1) := by rw [strOf_size, List.length_append, List.length_cons]
  have hab : a.length + (b.length + 1) ≤ 1000000000 := by simpa using hl
  have hx1 := ext_to a b c
  have hx2 := ext_from a b c (a.length + (b.length + 1)) (by simp)
  have hsum : IntKind.i64.wrap ((a.length : Int) + 1) = (a.length : Int) + 1 := IntWalk.i64_in _ (by omega)
  have ht1 : ((a.length : Int) + 1).toNat = a.length + 1 := by omega
  have h0 : (0 : Int) ≤ (a.length : Int) + 1 := by omega
  have hle : (a.length : Int) + 1 ≤ (a.length + (b.length + 1) : Nat) := by omega
  have hle2 : (a.length : Int) ≤ (a.length + (b.length + 1) : Nat) := by omega
  have hc1 : (⟨#[c]⟩ : ByteArray).size = 1 := rfl
  clear hi h hl
  obtain ⟨S, hS⟩ : ∃ S, strOf (a ++ c :: b) = S := ⟨_, rfl⟩
  rw [hS] at HI hsz hx1 hx2 ⊢
  obtain ⟨n, hn⟩ : ∃ n, a.length = n := ⟨_, rfl⟩
  obtain ⟨m, hm⟩ : ∃ m, b.length = m := ⟨_, rfl⟩
  rw [hn] at HI
  rw [hn, hm] at hsz hx2 hab hle hle2
  rw [hn] at hsum ht1 h0
  rw [hn] at hx1
  clear hS hn hm
  go_enter Tryz.func92, Tryz.ntmps92
  go_wp2_with fail
  refine HI.out.mono ?_
  rintro e w1 ⟨rfl, rfl⟩
  go_wp2_with fail
  go_quiet (fail)
  go_wp2
  go_wp2
  go_ret3
  exact ⟨rfl, _, rfl⟩
set_option maxRecDepth 100000 in
theorem cut_c (a b : List UInt8) (c : UInt8) (h : c ∉ a) (hl : (a ++ c :: b).length ≤ 1000000000) : Calls Tryz.prog 78 #[.string (strOf (a ++ c :: b)), .string ⟨#[c]⟩] w fun e w' => e = .returned (.tuple #[.string (strOf a), .string (strOf b), .bool true]) ∧ ∃ n, w' = w.drewN n := by
  have HC := hid (cutS_c (w := w) a b c h hl)
  clear h hl
  obtain ⟨S, hS⟩ : ∃ S, strOf (a ++ c :: b) = S := ⟨_, rfl⟩
  rw [hS] at HC ⊢
  clear hS
  go_enter Tryz.func78, Tryz.ntmps78
  go_wp2_with fail
  refine HC.out.mono ?_
  rintro e w1 ⟨rfl, n, rfl⟩
  go_wp2_with fail
  go_ret3
  exact ⟨rfl, _, rfl⟩
theorem ev_row {i : Nat} (h : i < 21) : ∃ a b, evTab[i]? = some (a, b) ∧ 32 ∉ a ++ 58 :: b ∧ 58 ∉ a ∧ (a ++ 58 :: b).length ≤ 100 := by
  have : ∀ j : Fin 21, ∃ x, evTab[j.val]? = some x ∧ 32 ∉ x.1 ++ 58 :: x.2 ∧ 58 ∉ x.1 ∧ (x.1 ++ 58 :: x.2).length ≤ 100 := by decide
  obtain ⟨x, h1, h2⟩ := this ⟨i, h⟩
  exact ⟨x.1, x.2, h1, h2⟩
theorem words_len (i : Nat) : (wordsOf (evTab.drop i)).length ≤ 1000 := by
  have h : ∀ j : Fin 22, (wordsOf (evTab.drop j.val)).length ≤ 1000 := by decide +kernel
  rcases Nat.lt_or_ge i 22 with g | g
  · exact h ⟨i, g⟩
  · rw [List.drop_of_length_le (by have : evTab.length = 21 := rfl; omega)]; simp [wordsOf]
theorem words_drop {i : Nat} {a b : List UInt8} (h : evTab[i]? = some (a, b)) : wordsOf (evTab.drop i) = (a ++ 58 :: b) ++ 32 :: wordsOf (evTab.drop (i + 1)) := by
  obtain ⟨hi, he⟩ := List.getElem?_eq_some_iff.1 h
  rw [List.drop_eq_getElem_cons hi, he, wordsOf]
/-- Name and fields, once the kind has been come to. -/
def nmAt (kind : Int) (k : Nat) : List UInt8 × List UInt8 := if kind < k then (evName kind, evFlds kind) else ([], [])
theorem nm_zero : strOf [] = (⟨#[]⟩ : ByteArray) := rfl
set_option maxRecDepth 100000 in
set_option maxHeartbeats 1600000 in
theorem entry_c (kind : Int) (h1 : -9223372036854775808 ≤ kind) (h2 : kind ≤ 9223372036854775807) : Calls Tryz.prog 55 #[.int .i64 kind] w fun e w' => e = .returned (.tuple #[.string (strOf (evName kind)), .string (strOf (evFlds kind))]) ∧ ∃ n, w' = w.drewN n := by
  go_enter Tryz.func55, Tryz.ntmps55
  go_wp2_with fail
  go_loopw [2, 3, 4, 5, 6] (fun nm fl rest k _ wr => ∃ (j : Nat), k = .int .i64 j ∧ 1 ≤ j ∧ j ≤ 22 ∧ rest = .string (strOf (wordsOf (evTab.drop (j - 1)))) ∧ nm = .string (strOf (nmAt kind j).1) ∧ fl = .string (strOf (nmAt kind j).2) ∧ (1 < j → (j : Int) ≤ kind + 1) ∧ ∃ n, wr = w.drewN n) (fun _ _ _ k _ _ => 30 - (intOf k).toNat)
  case atStart =>
    refine ⟨1, rfl, by omega, by omega, ?_, ?_, ?_, by omega, 0, rfl⟩
    · exact congrArg Value.string words_eq
    · unfold nmAt evName; split
      · rw [if_neg (by omega)]; rfl
      · rfl
    · unfold nmAt evFlds; split
      · rw [if_neg (by omega)]; rfl
      · rfl
  case round =>
    obtain ⟨j, rfl, hj1, hj22, rfl, rfl, rfl, hjk, n, rfl⟩ := hrel
    have HJK := hid hjk
    clear hjk
    have e1 : nmAt kind 0 = nmAt kind 0 := rfl
    by_cases hk : (j : Int) ≤ kind
    · have hnm : nmAt kind j = ([], []) := by unfold nmAt; rw [if_neg (by omega)]
      rw [hnm]
      by_cases h22 : j = 22
      · subst h22
        have hr : wordsOf (evTab.drop (22 - 1)) = [] := by decide +kernel
        have hE : Hid (evName kind = [] ∧ evFlds kind = []) := hid ⟨by unfold evName; rw [if_neg (by omega)], by unfold evFlds; rw [if_neg (by omega)]⟩
        rw [hr]
        have hem : (strOf []).toList.isEmpty = true := by rw [strOf_list]; rfl
        clear hr hnm e1
        go_wp2_with fail
        go_ret2
        rw [hE.out.1, hE.out.2]
        exact ⟨rfl, _, rfl⟩
      · obtain ⟨a, b, hrow, h32, h58, hab⟩ := ev_row (i := j - 1) (by omega)
        have hwd := words_drop hrow
        have hwl := words_len (j - 1)
        rw [hwd] at hwl ⊢
        rw [show j - 1 + 1 = j from by omega] at hwl ⊢
        have HC1 := hid (cut_c (w := w.drewN n) (a ++ 58 :: b) (wordsOf (evTab.drop j)) 32 h32 (by omega))
        have HC2 := fun w1 => hid (cut_c (w := w1) a b 58 h58 (by omega))
        have hne : (strOf ((a ++ 58 :: b) ++ 32 :: wordsOf (evTab.drop j))).toList.isEmpty = false := by rw [strOf_list]; simp
        have HR := hid hrow
        obtain ⟨S, hS⟩ : ∃ S, strOf ((a ++ 58 :: b) ++ 32 :: wordsOf (evTab.drop j)) = S := ⟨_, rfl⟩
        obtain ⟨S2, hS2⟩ : ∃ S, strOf (a ++ 58 :: b) = S := ⟨_, rfl⟩
        rw [hS] at HC1 hne ⊢
        rw [hS2] at HC1
        simp only [hS2] at HC2
        clear hS hS2 hwd hwl hab h32 h58 hrow hnm e1
        by_cases hjk : (j : Int) = kind
        · have hb : ((j : Int) == kind) = true := by simpa using hjk
          clear hjk
          go_wp2_with fail
          refine HC1.out.mono ?_
          rintro e w1 ⟨rfl, q, rfl⟩
          go_wp2_with fail
          refine (HC2 _).out.mono ?_
          rintro e w1 ⟨rfl, q2, rfl⟩
          go_wp2_with fail
          go_roundw
          case rel =>
            have hN : nmAt kind (j + 1) = (a, b) := by
              unfold nmAt
              have hkj : (j : Int) = kind := by simpa using hb
              rw [if_pos (by omega)]
              unfold evName evFlds
              rw [if_pos (by omega), if_pos (by omega)]
              have : evTab.getD (kind.toNat - 1) ([], []) = (a, b) := by rw [List.getD_eq_getElem?_getD, show kind.toNat - 1 = j - 1 from by omega, HR.out]; rfl
              rw [this]
            exact ⟨j + 1, by go_num, by omega, by omega, rfl, by rw [hN], by rw [hN], fun _ => by omega, _, rfl⟩
          case measure => simp [intOf]; omega
        · have hb : ((j : Int) == kind) = false := by simpa using hjk
          go_wp2_with fail
          refine HC1.out.mono ?_
          rintro e w1 ⟨rfl, q, rfl⟩
          go_wp2_with fail
          go_roundw
          case rel =>
            have hN : nmAt kind (j + 1) = ([], []) := by unfold nmAt; rw [if_neg (by omega)]
            exact ⟨j + 1, by go_num, by omega, by omega, rfl, by rw [hN], by rw [hN], fun _ => by omega, _, rfl⟩
          case measure => simp [intOf]; omega
    · have hE : Hid ((nmAt kind j) = (evName kind, evFlds kind)) := hid (by unfold nmAt; rw [if_pos (by omega)])
      clear e1
      go_wp2_with fail
      go_ret2
      rw [hE.out]
      exact ⟨rfl, _, rfl⟩
end
end Go.Proofs.YtfmdngeooelcpaaGreat
namespace Go.Proofs.YtfmdngeooelcpaaGreat
open Go.RowKit

section
variable {w w' : World} {G F : Nat → Prop} {e : EM} {cs : List Value}
set_option maxRecDepth 100000 in
theorem has_c (l : List UInt8) (c : Nat) (bb : Bool) (hb : decide (UInt8.ofNat c ∈ l) = bb) : Calls Tryz.prog 56 #[.string (strOf l), .int .u8 c] w fun e w' => e = .returned (.bool bb) ∧ w = w' := by
  have HI := hid (Tryz.strings_IndexByte (strOf l) c w)
  rw [strOf_data] at HI
  have e1 : (c : Int).toNat.toUInt8 = UInt8.ofNat c := rfl
  rw [e1] at HI
  have hm := indexByte_mem (UInt8.ofNat c) l
  obtain ⟨x, hx⟩ : ∃ x, Lib.indexByte l (UInt8.ofNat c) = x := ⟨_, rfl⟩
  rw [hx] at HI hm
  have hxb : decide (0 ≤ x) = bb := by rw [← hb]; exact decide_eq_decide.2 (by rw [hm])
  clear hx hm hb e1
  have HB := hid hxb
  clear hxb
  go_enter Tryz.func56, Tryz.ntmps56
  go_wp2_with fail
  refine HI.out.mono ?_
  rintro e w1 ⟨rfl, rfl⟩
  go_wp2_with fail
  go_ret
  exact ⟨congrArg (fun q => Ending.returned (.bool q)) HB.out, rfl⟩
set_option maxRecDepth 100000 in
set_option maxHeartbeats 3200000 in
theorem echeck_c (hE : EAt w G e cs) (hG : ∀ k, G k → k < w.heap.size) (hg : e.rg) :
    Calls Tryz.prog 31 #[.agg cs.toArray] w fun x w' => x = .returned (.int .i64 e.chk) ∧ Only (fun _ => False) w w' := by
  obtain ⟨vk, vn, vs, va, vm, vc, rfl, hV⟩ := hE.form
  have hvk := hV.k
  obtain ⟨gid, gtm, gk, ga, gb, gn, gt, gv⟩ := hg
  have HV := hid hV; have HG := hid hG; have Hgv := hid gv
  have HEN := fun w1 => hid (entry_c (w := w1) e.k gk.1 gk.2)
  have HCK : Hid (e.chk = if evName e.k = [] then 9
    else if e.id < 1 ∨ 1048576 < e.id ∨ e.tm < 0 ∨ 4611686018427387903 < e.tm then 1
    else if e.a < 0 ∨ e.b < 0 ∨ (65 ∉ evFlds e.k ∧ e.a ≠ 0) ∨ (66 ∉ evFlds e.k ∧ e.b ≠ 0) then 1
    else if 64 < e.name.length ∨ 128 < e.text.length then 2
    else if (78 ∉ evFlds e.k ∧ e.name ≠ []) ∨ (84 ∉ evFlds e.k ∧ e.text ≠ []) then 8
    else if 86 ∉ evFlds e.k ∧ vk ≠ 0 then 8
    else e.v.chk) := hid (by unfold EM.chk; rw [hvk])
  obtain ⟨nm, hnm⟩ : ∃ x, evName e.k = x := ⟨_, rfl⟩
  obtain ⟨fl, hfl⟩ : ∃ x, evFlds e.k = x := ⟨_, rfl⟩
  rw [hnm, hfl] at HCK
  simp only [hnm, hfl] at HEN
  clear hE hV hvk hG gv hnm hfl gk
  obtain ⟨id, tm, k, a, b, name, text, v⟩ := e
  simp only at HCK HEN gid gtm ga gb gn gt HV Hgv ⊢
  have hsn : (strOf name).size = name.length := rfl
  have hst : (strOf text).size = text.length := rfl
  go_enter Tryz.func31, Tryz.ntmps31
  go_wp2_with fail
  refine (HEN _).out.mono ?_
  rintro x w1 ⟨rfl, n, rfl⟩
  clear HEN
  obtain ⟨wb, hwb⟩ : ∃ wb, ((w.alloc (.cells #[.int .i64 id, .int .i64 tm, .int .i64 k, .int .i64 a, .int .i64 b, .string (strOf name), .string (strOf text), .int .i64 vk, .int .i64 vn, .string (strOf vs), .slice va vm vc] 43)).drewN n) = wb := ⟨_, rfl⟩
  have hob : Only (fun _ => False) w wb := by rw [← hwb]; exact (only_new w _).trans (only_drewN _ n) (fun _ _ e => e)
  have hbb : wb.heap[w.heap.size]? = some (.cells #[.int .i64 id, .int .i64 tm, .int .i64 k, .int .i64 a, .int .i64 b, .string (strOf name), .string (strOf text), .int .i64 vk, .int .i64 vn, .string (strOf vs), .slice va vm vc] 43 (0, 0)) := by rw [← hwb]; exact blk_new w _
  rw [hwb]
  have b0 : wb.cell? ⟨w.heap.size, 0, none⟩ = some (.int .i64 id) := cell_blk hbb 0
  have b1 : wb.cell? ⟨w.heap.size, 1, none⟩ = some (.int .i64 tm) := cell_blk hbb 1
  have b3 : wb.cell? ⟨w.heap.size, 3, none⟩ = some (.int .i64 a) := cell_blk hbb 3
  have b4 : wb.cell? ⟨w.heap.size, 4, none⟩ = some (.int .i64 b) := cell_blk hbb 4
  have b5 : wb.cell? ⟨w.heap.size, 5, none⟩ = some (.string (strOf name)) := cell_blk hbb 5
  have b6 : wb.cell? ⟨w.heap.size, 6, none⟩ = some (.string (strOf text)) := cell_blk hbb 6
  have b7 : wb.cell? ⟨w.heap.size, 7, none⟩ = some (.int .i64 vk) := cell_blk hbb 7
  have b8 : wb.cell? ⟨w.heap.size, 8, none⟩ = some (.int .i64 vn) := cell_blk hbb 8
  have b9 : wb.cell? ⟨w.heap.size, 9, none⟩ = some (.string (strOf vs)) := cell_blk hbb 9
  have b10 : wb.cell? ⟨w.heap.size, 10, none⟩ = some (.slice va vm vc) := cell_blk hbb 10
  have HOB := hid hob
  clear hob hbb hwb
  by_cases hn0 : nm = []
  · have hF : Hid ((⟨id, tm, k, a, b, name, text, v⟩ : EM).chk = 9) := hid (by rw [HCK.out, if_pos hn0])
    subst hn0
    have hem : (strOf []).toList.isEmpty = true := by rw [strOf_list]; rfl
    go_wp2_with fail
    go_ret
    rw [hF.out]; exact ⟨rfl, HOB.out⟩
  have hne : (strOf nm).toList.isEmpty = false := by rw [strOf_list]; simpa using hn0
  obtain ⟨B1, hB1⟩ : ∃ B : Bool, decide (id < 1 ∨ 1048576 < id ∨ tm < 0 ∨ 4611686018427387903 < tm) = B := ⟨_, rfl⟩
  obtain ⟨B2, hB2⟩ : ∃ B : Bool, decide (a < 0 ∨ b < 0 ∨ (65 ∉ fl ∧ a ≠ 0) ∨ (66 ∉ fl ∧ b ≠ 0)) = B := ⟨_, rfl⟩
  obtain ⟨B3, hB3⟩ : ∃ B : Bool, decide (64 < name.length ∨ 128 < text.length) = B := ⟨_, rfl⟩
  obtain ⟨B4, hB4⟩ : ∃ B : Bool, decide ((78 ∉ fl ∧ name ≠ []) ∨ (84 ∉ fl ∧ text ≠ [])) = B := ⟨_, rfl⟩
  obtain ⟨B5, hB5⟩ : ∃ B : Bool, decide (86 ∉ fl ∧ vk ≠ 0) = B := ⟨_, rfl⟩
  have HC2 : Hid ((⟨id, tm, k, a, b, name, text, v⟩ : EM).chk = if B1 then 1 else if B2 then 1 else if B3 then 2 else if B4 then 8 else if B5 then 8 else v.chk) := hid (by
    rw [HCK.out, if_neg hn0, ← hB1, ← hB2, ← hB3, ← hB4, ← hB5]; simp only [decide_eq_true_eq])
  have H1 := hid hB1; have H2 := hid hB2; have H3 := hid hB3; have H4 := hid hB4; have H5 := hid hB5
  clear HCK hB1 hB2 hB3 hB4 hB5 hn0
  go_upto_region 4 with fail
  go_cut [14] from 14 to 32 (fun x wx => wb = wx ∧ x = .bool B1)
  case first =>
    by_cases h1 : id < 1
    · skip
      have e1 : B1 = true := by rw [← H1.out]; simp; omega
      go_wp2_with fail
      go_meet
      case rel => exact ⟨rfl, by rw [e1]⟩
    · skip
      by_cases h2 : 1048576 < id
      · skip
        have e1 : B1 = true := by rw [← H1.out]; simp; omega
        go_wp2_with fail
        go_meet
        case rel => exact ⟨rfl, by rw [e1]⟩
      · skip
        by_cases h3 : tm < 0
        · skip
          have e1 : B1 = true := by rw [← H1.out]; simp; omega
          go_wp2_with fail
          go_meet
          case rel => exact ⟨rfl, by rw [e1]⟩
        · skip
          by_cases h4 : 4611686018427387903 < tm
          · skip
            have e1 : B1 = true := by rw [← H1.out]; simp; omega
            go_wp2_with fail
            go_meet
            case rel => exact ⟨rfl, by rw [e1]⟩
          · skip
            have e1 : B1 = false := by rw [← H1.out]; simp; omega
            go_wp2_with fail
            go_meet
            case rel => exact ⟨rfl, by rw [e1]⟩
  case rest =>
  obtain ⟨rfl, rfl⟩ := hcut
  cases B1 with
  | true =>
    have hF : Hid ((⟨id, tm, k, a, b, name, text, v⟩ : EM).chk = 1) := hid (by rw [HC2.out]; simp)
    go_wp2_with fail
    go_ret
    rw [hF.out]; exact ⟨rfl, HOB.out⟩
  | false =>
  obtain ⟨mA, hmA⟩ : ∃ m : Bool, decide (UInt8.ofNat 65 ∈ fl) = m := ⟨_, rfl⟩
  obtain ⟨mB, hmB⟩ : ∃ m : Bool, decide (UInt8.ofNat 66 ∈ fl) = m := ⟨_, rfl⟩
  obtain ⟨mN, hmN⟩ : ∃ m : Bool, decide (UInt8.ofNat 78 ∈ fl) = m := ⟨_, rfl⟩
  obtain ⟨mT, hmT⟩ : ∃ m : Bool, decide (UInt8.ofNat 84 ∈ fl) = m := ⟨_, rfl⟩
  obtain ⟨mV, hmV⟩ : ∃ m : Bool, decide (UInt8.ofNat 86 ∈ fl) = m := ⟨_, rfl⟩
  have M65 := hid hmA; have M66 := hid hmB; have M78 := hid hmN; have M84 := hid hmT; have M86 := hid hmV
  have K65 : Hid (Calls Tryz.prog 56 #[.string (strOf fl), .int .u8 65] wb fun e w' => e = .returned (.bool mA) ∧ wb = w') := hid (has_c fl 65 mA hmA)
  have K66 : Hid (Calls Tryz.prog 56 #[.string (strOf fl), .int .u8 66] wb fun e w' => e = .returned (.bool mB) ∧ wb = w') := hid (has_c fl 66 mB hmB)
  have K78 : Hid (Calls Tryz.prog 56 #[.string (strOf fl), .int .u8 78] wb fun e w' => e = .returned (.bool mN) ∧ wb = w') := hid (has_c fl 78 mN hmN)
  have K84 : Hid (Calls Tryz.prog 56 #[.string (strOf fl), .int .u8 84] wb fun e w' => e = .returned (.bool mT) ∧ wb = w') := hid (has_c fl 84 mT hmT)
  have K86 : Hid (Calls Tryz.prog 56 #[.string (strOf fl), .int .u8 86] wb fun e w' => e = .returned (.bool mV) ∧ wb = w') := hid (has_c fl 86 mV hmV)
  clear hmA hmB hmN hmT hmV
  go_upto_region 6 with fail
  go_cut [33] from 33 to 61 (fun x wx => wb = wx ∧ x = .bool B2)
  case first =>
    by_cases h1 : a < 0
    · skip
      have e1 : B2 = true := by rw [← H2.out]; exact decide_eq_true (.inl h1)
      go_wp2_with fail
      go_meet
      case rel => exact ⟨rfl, by rw [e1]⟩
    · by_cases h2 : b < 0
      · skip
        have e1 : B2 = true := by rw [← H2.out]; exact decide_eq_true (.inr (.inl h2))
        go_wp2_with fail
        go_meet
        case rel => exact ⟨rfl, by rw [e1]⟩
      · skip
        cases mA with
        | true =>
          have p65 : (65 : UInt8) ∈ fl := by simpa using M65.out
          cases mB with
          | true =>
            have p66 : (66 : UInt8) ∈ fl := by simpa using M66.out
            have e1 : B2 = false := by rw [← H2.out]; exact decide_eq_false (by rintro (h | h | ⟨h, h'⟩ | ⟨h, h'⟩) <;> first | omega | (exact absurd ‹_› h) | (exact h' Za.out) | (exact h' Zb.out) | (exact h' Zname.out) | (exact h' Ztext.out))
            go_wp2_with (first | (go_at_call 56; (with_reducible refine K65.out.mono ?_); rintro x w2 ⟨rfl, rfl⟩) | (go_at_call 56; (with_reducible refine K66.out.mono ?_); rintro x w2 ⟨rfl, rfl⟩))
            go_meet
            case rel => exact ⟨rfl, by rw [e1]⟩
          | false =>
            have p66 : (66 : UInt8) ∉ fl := by simpa using M66.out
            by_cases hb : b = 0
            · have zb : (b == 0) = true := by simpa using hb
              have yb : (b != 0) = false := by simpa using hb
              have Zb := hid hb
              clear hb
              have e1 : B2 = false := by rw [← H2.out]; exact decide_eq_false (by rintro (h | h | ⟨h, h'⟩ | ⟨h, h'⟩) <;> first | omega | (exact absurd ‹_› h) | (exact h' Za.out) | (exact h' Zb.out) | (exact h' Zname.out) | (exact h' Ztext.out))
              go_wp2_with (first | (go_at_call 56; (with_reducible refine K65.out.mono ?_); rintro x w2 ⟨rfl, rfl⟩) | (go_at_call 56; (with_reducible refine K66.out.mono ?_); rintro x w2 ⟨rfl, rfl⟩))
              go_meet
              case rel => exact ⟨rfl, by rw [e1]⟩
            · have zb : (b == 0) = false := by simpa using hb
              have yb : (b != 0) = true := by simpa using hb
              have e1 : B2 = true := by rw [← H2.out]; exact decide_eq_true (.inr (.inr (.inr ⟨p66, hb⟩)))
              go_wp2_with (first | (go_at_call 56; (with_reducible refine K65.out.mono ?_); rintro x w2 ⟨rfl, rfl⟩) | (go_at_call 56; (with_reducible refine K66.out.mono ?_); rintro x w2 ⟨rfl, rfl⟩))
              go_meet
              case rel => exact ⟨rfl, by rw [e1]⟩
        | false =>
          have p65 : (65 : UInt8) ∉ fl := by simpa using M65.out
          by_cases ha : a = 0
          · have za : (a == 0) = true := by simpa using ha
            have ya : (a != 0) = false := by simpa using ha
            have Za := hid ha
            clear ha
            cases mB with
            | true =>
              have p66 : (66 : UInt8) ∈ fl := by simpa using M66.out
              have e1 : B2 = false := by rw [← H2.out]; exact decide_eq_false (by rintro (h | h | ⟨h, h'⟩ | ⟨h, h'⟩) <;> first | omega | (exact absurd ‹_› h) | (exact h' Za.out) | (exact h' Zb.out) | (exact h' Zname.out) | (exact h' Ztext.out))
              go_wp2_with (first | (go_at_call 56; (with_reducible refine K65.out.mono ?_); rintro x w2 ⟨rfl, rfl⟩) | (go_at_call 56; (with_reducible refine K66.out.mono ?_); rintro x w2 ⟨rfl, rfl⟩))
              go_meet
              case rel => exact ⟨rfl, by rw [e1]⟩
            | false =>
              have p66 : (66 : UInt8) ∉ fl := by simpa using M66.out
              by_cases hb : b = 0
              · have zb : (b == 0) = true := by simpa using hb
                have yb : (b != 0) = false := by simpa using hb
                have Zb := hid hb
                clear hb
                have e1 : B2 = false := by rw [← H2.out]; exact decide_eq_false (by rintro (h | h | ⟨h, h'⟩ | ⟨h, h'⟩) <;> first | omega | (exact absurd ‹_› h) | (exact h' Za.out) | (exact h' Zb.out) | (exact h' Zname.out) | (exact h' Ztext.out))
                go_wp2_with (first | (go_at_call 56; (with_reducible refine K65.out.mono ?_); rintro x w2 ⟨rfl, rfl⟩) | (go_at_call 56; (with_reducible refine K66.out.mono ?_); rintro x w2 ⟨rfl, rfl⟩))
                go_meet
                case rel => exact ⟨rfl, by rw [e1]⟩
              · have zb : (b == 0) = false := by simpa using hb
                have yb : (b != 0) = true := by simpa using hb
                have e1 : B2 = true := by rw [← H2.out]; exact decide_eq_true (.inr (.inr (.inr ⟨p66, hb⟩)))
                go_wp2_with (first | (go_at_call 56; (with_reducible refine K65.out.mono ?_); rintro x w2 ⟨rfl, rfl⟩) | (go_at_call 56; (with_reducible refine K66.out.mono ?_); rintro x w2 ⟨rfl, rfl⟩))
                go_meet
                case rel => exact ⟨rfl, by rw [e1]⟩
          · have za : (a == 0) = false := by simpa using ha
            have ya : (a != 0) = true := by simpa using ha
            have e1 : B2 = true := by rw [← H2.out]; exact decide_eq_true (.inr (.inr (.inl ⟨p65, ha⟩)))
            go_wp2_with (first | (go_at_call 56; (with_reducible refine K65.out.mono ?_); rintro x w2 ⟨rfl, rfl⟩) | (go_at_call 56; (with_reducible refine K66.out.mono ?_); rintro x w2 ⟨rfl, rfl⟩))
            go_meet
            case rel => exact ⟨rfl, by rw [e1]⟩
  case rest =>
  obtain ⟨rfl, rfl⟩ := hcut
  cases B2 with
  | true =>
    have hF : Hid ((⟨id, tm, k, a, b, name, text, v⟩ : EM).chk = 1) := hid (by rw [HC2.out]; simp)
    go_wp2_with fail
    go_ret
    rw [hF.out]; exact ⟨rfl, HOB.out⟩
  | false =>
  go_upto_region 8 with fail
  go_cut [62] from 62 to 72 (fun x wx => wb = wx ∧ x = .bool B3)
  case first =>
    by_cases h1 : 64 < (name.length : Int)
    · skip
      have e1 : B3 = true := by rw [← H3.out]; simp; omega
      go_wp2_with fail
      go_meet
      case rel => exact ⟨rfl, by rw [e1]⟩
    · skip
      by_cases h2 : 128 < (text.length : Int)
      · skip
        have e1 : B3 = true := by rw [← H3.out]; simp; omega
        go_wp2_with fail
        go_meet
        case rel => exact ⟨rfl, by rw [e1]⟩
      · skip
        have e1 : B3 = false := by rw [← H3.out]; simp; omega
        go_wp2_with fail
        go_meet
        case rel => exact ⟨rfl, by rw [e1]⟩
  case rest =>
  obtain ⟨rfl, rfl⟩ := hcut
  cases B3 with
  | true =>
    have hF : Hid ((⟨id, tm, k, a, b, name, text, v⟩ : EM).chk = 2) := hid (by rw [HC2.out]; simp)
    go_wp2_with fail
    go_ret
    rw [hF.out]; exact ⟨rfl, HOB.out⟩
  | false =>
  go_upto_region 10 with fail
  go_cut [73] from 73 to 91 (fun x wx => wb = wx ∧ x = .bool B4)
  case first =>
    cases mN with
    | true =>
      have p78 : (78 : UInt8) ∈ fl := by simpa using M78.out
      cases mT with
      | true =>
        have p84 : (84 : UInt8) ∈ fl := by simpa using M84.out
        have e1 : B4 = false := by rw [← H4.out]; exact decide_eq_false (by rintro (⟨h, h'⟩ | ⟨h, h'⟩) <;> first | (exact absurd ‹_› h) | (exact h' Za.out) | (exact h' Zb.out) | (exact h' Zname.out) | (exact h' Ztext.out))
        go_wp2_with (first | (go_at_call 56; (with_reducible refine K78.out.mono ?_); rintro x w2 ⟨rfl, rfl⟩) | (go_at_call 56; (with_reducible refine K84.out.mono ?_); rintro x w2 ⟨rfl, rfl⟩))
        go_meet
        case rel => exact ⟨rfl, by rw [e1]⟩
      | false =>
        have p84 : (84 : UInt8) ∉ fl := by simpa using M84.out
        by_cases htext : text = []
        · have ztext : (strOf text).toList.isEmpty = true := by rw [strOf_list, htext]; rfl
          have Ztext := hid htext
          clear htext
          have e1 : B4 = false := by rw [← H4.out]; exact decide_eq_false (by rintro (⟨h, h'⟩ | ⟨h, h'⟩) <;> first | (exact absurd ‹_› h) | (exact h' Za.out) | (exact h' Zb.out) | (exact h' Zname.out) | (exact h' Ztext.out))
          go_wp2_with (first | (go_at_call 56; (with_reducible refine K78.out.mono ?_); rintro x w2 ⟨rfl, rfl⟩) | (go_at_call 56; (with_reducible refine K84.out.mono ?_); rintro x w2 ⟨rfl, rfl⟩))
          go_meet
          case rel => exact ⟨rfl, by rw [e1]⟩
        · have ztext : (strOf text).toList.isEmpty = false := by rw [strOf_list]; simpa using htext
          have e1 : B4 = true := by rw [← H4.out]; exact decide_eq_true (.inr ⟨p84, htext⟩)
          go_wp2_with (first | (go_at_call 56; (with_reducible refine K78.out.mono ?_); rintro x w2 ⟨rfl, rfl⟩) | (go_at_call 56; (with_reducible refine K84.out.mono ?_); rintro x w2 ⟨rfl, rfl⟩))
          go_meet
          case rel => exact ⟨rfl, by rw [e1]⟩
    | false =>
      have p78 : (78 : UInt8) ∉ fl := by simpa using M78.out
      by_cases hname : name = []
      · have zname : (strOf name).toList.isEmpty = true := by rw [strOf_list, hname]; rfl
        have Zname := hid hname
        clear hname
        cases mT with
        | true =>
          have p84 : (84 : UInt8) ∈ fl := by simpa using M84.out
          have e1 : B4 = false := by rw [← H4.out]; exact decide_eq_false (by rintro (⟨h, h'⟩ | ⟨h, h'⟩) <;> first | (exact absurd ‹_› h) | (exact h' Za.out) | (exact h' Zb.out) | (exact h' Zname.out) | (exact h' Ztext.out))
          go_wp2_with (first | (go_at_call 56; (with_reducible refine K78.out.mono ?_); rintro x w2 ⟨rfl, rfl⟩) | (go_at_call 56; (with_reducible refine K84.out.mono ?_); rintro x w2 ⟨rfl, rfl⟩))
          go_meet
          case rel => exact ⟨rfl, by rw [e1]⟩
        | false =>
          have p84 : (84 : UInt8) ∉ fl := by simpa using M84.out
          by_cases htext : text = []
          · have ztext : (strOf text).toList.isEmpty = true := by rw [strOf_list, htext]; rfl
            have Ztext := hid htext
            clear htext
            have e1 : B4 = false := by rw [← H4.out]; exact decide_eq_false (by rintro (⟨h, h'⟩ | ⟨h, h'⟩) <;> first | (exact absurd ‹_› h) | (exact h' Za.out) | (exact h' Zb.out) | (exact h' Zname.out) | (exact h' Ztext.out))
            go_wp2_with (first | (go_at_call 56; (with_reducible refine K78.out.mono ?_); rintro x w2 ⟨rfl, rfl⟩) | (go_at_call 56; (with_reducible refine K84.out.mono ?_); rintro x w2 ⟨rfl, rfl⟩))
            go_meet
            case rel => exact ⟨rfl, by rw [e1]⟩
          · have ztext : (strOf text).toList.isEmpty = false := by rw [strOf_list]; simpa using htext
            have e1 : B4 = true := by rw [← H4.out]; exact decide_eq_true (.inr ⟨p84, htext⟩)
            go_wp2_with (first | (go_at_call 56; (with_reducible refine K78.out.mono ?_); rintro x w2 ⟨rfl, rfl⟩) | (go_at_call 56; (with_reducible refine K84.out.mono ?_); rintro x w2 ⟨rfl, rfl⟩))
            go_meet
            case rel => exact ⟨rfl, by rw [e1]⟩
      · have zname : (strOf name).toList.isEmpty = false := by rw [strOf_list]; simpa using hname
        have e1 : B4 = true := by rw [← H4.out]; exact decide_eq_true (.inl ⟨p78, hname⟩)
        go_wp2_with (first | (go_at_call 56; (with_reducible refine K78.out.mono ?_); rintro x w2 ⟨rfl, rfl⟩) | (go_at_call 56; (with_reducible refine K84.out.mono ?_); rintro x w2 ⟨rfl, rfl⟩))
        go_meet
        case rel => exact ⟨rfl, by rw [e1]⟩
  case rest =>
  obtain ⟨rfl, rfl⟩ := hcut
  cases B4 with
  | true =>
    have hF : Hid ((⟨id, tm, k, a, b, name, text, v⟩ : EM).chk = 8) := hid (by rw [HC2.out]; simp)
    go_wp2_with fail
    go_ret
    rw [hF.out]; exact ⟨rfl, HOB.out⟩
  | false =>
  go_upto_region 12 with fail
  go_cut [92] from 92 to 101 (fun x wx => wb = wx ∧ x = .bool B5)
  case first =>
    cases mV with
    | true =>
      have p86 : (86 : UInt8) ∈ fl := by simpa using M86.out
      have e1 : B5 = false := by rw [← H5.out]; exact decide_eq_false (fun h => h.1 p86)
      go_wp2_with (first | (go_at_call 56; (with_reducible refine K86.out.mono ?_); rintro x w2 ⟨rfl, rfl⟩))
      go_meet
      case rel => exact ⟨rfl, by rw [e1]⟩
    | false =>
      have p86 : (86 : UInt8) ∉ fl := by simpa using M86.out
      by_cases hvk : vk = 0
      · have zvk : (vk == 0) = true := by simpa using hvk
        have yvk : (vk != 0) = false := by simpa using hvk
        have Zvk := hid hvk
        clear hvk
        have e1 : B5 = false := by rw [← H5.out]; exact decide_eq_false (fun h => h.2 Zvk.out)
        go_wp2_with (first | (go_at_call 56; (with_reducible refine K86.out.mono ?_); rintro x w2 ⟨rfl, rfl⟩))
        go_meet
        case rel => exact ⟨rfl, by rw [e1]⟩
      · have zvk : (vk == 0) = false := by simpa using hvk
        have yvk : (vk != 0) = true := by simpa using hvk
        have e1 : B5 = true := by rw [← H5.out]; exact decide_eq_true ⟨p86, hvk⟩
        go_wp2_with (first | (go_at_call 56; (with_reducible refine K86.out.mono ?_); rintro x w2 ⟨rfl, rfl⟩))
        go_meet
        case rel => exact ⟨rfl, by rw [e1]⟩
  case rest =>
  obtain ⟨rfl, rfl⟩ := hcut
  cases B5 with
  | true =>
    have hF : Hid ((⟨id, tm, k, a, b, name, text, v⟩ : EM).chk = 8) := hid (by rw [HC2.out]; simp)
    go_wp2_with fail
    go_ret
    rw [hF.out]; exact ⟨rfl, HOB.out⟩
  | false =>
    have hF : Hid ((⟨id, tm, k, a, b, name, text, v⟩ : EM).chk = v.chk) := hid (by rw [HC2.out]; simp)
    have HVC := hid (vcheck_c (HV.out.same HOB.out) (fun i hi => by have := HG.out i hi; have := HOB.out.size; omega) Hgv.out)
    go_wp2_with fail
    refine HVC.out.mono ?_
    rintro x w2 ⟨rfl, ho2⟩
    have HO2 := hid ho2
    clear ho2
    go_wp2_with fail
    go_ret
    rw [hF.out]; exact ⟨rfl, HOB.out.trans HO2.out (fun _ _ e => e)⟩
end
end Go.Proofs.YtfmdngeooelcpaaGreat
namespace Go.Proofs.YtfmdngeooelcpaaGreat
open Go.RowKit

section
variable {w : World} {b : Nat} {F G : Nat → Prop} {bs : List UInt8}
theorem wbyte1_c {w0 w : World} {b : Nat} {F : Nat → Prop} {bs : List UInt8} (h : Wr w0 b F bs) (y : Nat) (hy : y < 256) (hl : bs.length ≤ 999999000) (hw : w = w0.alloc (.cells #[.int .u8 y] 5)) :
    Calls Tryz.prog 50 #[.pointer (some ⟨b, 0, none⟩), .slice (some ⟨w0.heap.size, 0, none⟩) 1 1] w fun e w' => e = .returned (.tuple #[]) ∧ WStep w0 w' b F (bs ++ [UInt8.ofNat y]) := by
  subst hw
  have hs1 : Src (w0.alloc (.cells #[.int .u8 y] 5)) (.slice (some ⟨w0.heap.size, 0, none⟩) 1 1) [UInt8.ofNat y] := by
    refine ⟨_, 1, rfl, fun _ => ⟨_, 0, rfl, fun i u hu => ?_⟩⟩
    rw [Nat.zero_add, cell_blk (blk_new w0 (.cells #[.int .u8 y] 5))]
    have e : (UInt8.ofNat y).toNat = y := by simp; omega
    simpa [bytesV, e] using hu
  exact (wbyte_c (h.same (only_new w0 _)) _ _ hs1 (by simp; omega)).mono fun e w' hh => ⟨hh.1, hh.2.pre (only_new w0 _) (fun k hk => h.lt hk)⟩
theorem wnum2_c {w0 w : World} {b : Nat} {F : Nat → Prop} {bs : List UInt8} (h : Wr w0 b F bs) (n m : Nat) (hn : n < 18446744073709551616) (hm : m < 18446744073709551616) (hl : bs.length ≤ 999999000) (hw : w = w0.alloc (.cells #[.int .u64 n, .int .u64 m] 72)) :
    Calls Tryz.prog 24 #[.pointer (some ⟨b, 0, none⟩), .slice (some ⟨w0.heap.size, 0, none⟩) 2 2] w fun e w' => e = .returned (.tuple #[]) ∧ WStep w0 w' b F (bs ++ (numB n ++ numB m)) := by
  subst hw
  refine (wnum_c (h.same (only_new w0 _)) _ [n, m] (numsV_two (G := fun k => k = w0.heap.size) (blk_new w0 _) hn hm rfl) (fun k hk hf => ?_) (by simp; omega)).mono fun e w' hh => ⟨hh.1, ?_⟩
  · have := h.lt hf
    have hk' : k = w0.heap.size := hk
    omega
  · have := hh.2
    simp only [List.flatMap_cons, List.flatMap_nil, List.append_nil] at this
    exact this.pre (only_new w0 _) (fun k hk => h.lt hk)
theorem evFlds_mem {k : Int} {c : UInt8} (h : c ∈ evFlds k) : c = 65 ∨ c = 66 ∨ c = 78 ∨ c = 84 ∨ c = 86 := by
  unfold evFlds at h
  by_cases g : 1 ≤ k ∧ k ≤ 21
  · rw [if_pos g] at h
    have hall : ∀ i : Fin 21, ∀ c ∈ (evTab.getD i.val ([], [])).2, c = 65 ∨ c = 66 ∨ c = 78 ∨ c = 84 ∨ c = 86 := by decide
    exact hall ⟨k.toNat - 1, by omega⟩ c h
  · rw [if_neg g] at h; simp at h
theorem evFlds_len (k : Int) : (evFlds k).length ≤ 5 := by
  unfold evFlds
  by_cases g : 1 ≤ k ∧ k ≤ 21
  · rw [if_pos g]
    have hall : ∀ i : Fin 21, (evTab.getD i.val ([], [])).2.length ≤ 5 := by decide
    exact hall ⟨k.toNat - 1, by omega⟩
  · rw [if_neg g]; simp
set_option maxRecDepth 100000 in
set_option maxHeartbeats 3200000 in
theorem ewrite_c {e : EM} {cs : List Value} (hW : Wr w b F bs) (hE : EAt w G e cs) (hd : ∀ k, G k → ¬ F k) (hG : ∀ k, G k → k < w.heap.size) (hg : e.rg) (hgd : e.Good) (hl : bs.length ≤ 900000000) :
    Calls Tryz.prog 32 #[.pointer (some ⟨b, 0, none⟩), .agg cs.toArray] w fun x w' => x = .returned (.tuple #[]) ∧ WStep w w' b F (bs ++ e.wr) := by
  obtain ⟨vk, vn, vs, va, vm, vc, rfl, hV⟩ := hE.form
  obtain ⟨gid, gtm, gk, ga, gb, gn, gt, gv⟩ := hg
  have Hgv := hid gv; have HV := hid hV; have HD := hid hd; have HGl := hid hG
  have HEN := fun w1 => hid (entry_c (w := w1) e.k gk.1 gk.2)
  have hfb : ¬ F w.heap.size := fun h => by have := hW.lt h; omega
  have HW := hid hW
  have hk := hgd.k
  have hid' := hgd.id
  have htm := hgd.tm
  have ha0 := hgd.a0
  have hb0 := hgd.b0
  have hnl := hgd.nL
  have htl := hgd.tL
  obtain ⟨q9, hwk9, hvl⟩ := chk_walk hgd.v
  have hfm := fun c => @evFlds_mem e.k c
  have hfl := evFlds_len e.k
  have hwr : e.wr = UInt8.ofNat (e.k % 256).toNat :: (numB e.id.toNat ++ (numB e.tm.toNat ++ (evFlds e.k).flatMap e.fb)) := rfl
  have hfbl : ∀ c, (e.fb c).length ≤ 1000 := fun c => by
    unfold EM.fb
    have h1 := numB_len e.a.toNat
    have h2 := numB_len e.b.toNat
    have h3 := numB_len e.name.length
    have h4 := numB_len e.text.length
    repeat' split
    all_goals first | omega | (unfold textB; rw [List.length_append]; omega) | simp
  obtain ⟨nm, hnm⟩ : ∃ x, evName e.k = x := ⟨_, rfl⟩
  obtain ⟨fl, hfl'⟩ : ∃ x, evFlds e.k = x := ⟨_, rfl⟩
  rw [hfl'] at hwr hfl
  simp only [hfl'] at hfm
  simp only [hnm, hfl'] at HEN
  have hfall : ∀ i, ((fl.take i).flatMap e.fb).length ≤ 5000 := fun i => by
    have h1 : ∀ l : List UInt8, (l.flatMap e.fb).length ≤ 1000 * l.length := by
      intro l
      induction l with
      | nil => simp
      | cons c l ih => rw [List.flatMap_cons, List.length_append, List.length_cons]; have := hfbl c; omega
    have h2 := h1 (fl.take i)
    have h3 : (fl.take i).length ≤ fl.length := by rw [List.length_take]; omega
    omega
  obtain ⟨y, hy⟩ : ∃ y, (e.k % 256).toNat = y := ⟨_, rfl⟩
  have hwk : IntKind.u8.wrap e.k = (y : Int) := by rw [IntKind.wrap_u8]; omega
  have hyl : y < 256 := by omega
  rw [hy] at hwr
  obtain ⟨id, tm, k, a, b', name, text, v⟩ := e
  simp only at HEN gid gtm gk ga gb gn gt HV Hgv hk hid' htm ha0 hb0 hnl htl hwk hwr hfall hvl hwk9 ⊢
  obtain ⟨idn, rfl⟩ := Int.eq_ofNat_of_zero_le (by omega : 0 ≤ id)
  obtain ⟨tmn, rfl⟩ := Int.eq_ofNat_of_zero_le (by omega : 0 ≤ tm)
  obtain ⟨an, rfl⟩ := Int.eq_ofNat_of_zero_le ha0
  obtain ⟨bn, rfl⟩ := Int.eq_ofNat_of_zero_le hb0
  have HFA : Hid ((⟨idn, tmn, k, an, bn, name, text, v⟩ : EM).fb 65 = numB an) := hid (by simp [EM.fb])
  have HFB : Hid ((⟨idn, tmn, k, an, bn, name, text, v⟩ : EM).fb 66 = numB bn) := hid (by simp [EM.fb])
  have HFN : Hid ((⟨idn, tmn, k, an, bn, name, text, v⟩ : EM).fb 78 = textB name) := hid (by simp [EM.fb])
  have HFT : Hid ((⟨idn, tmn, k, an, bn, name, text, v⟩ : EM).fb 84 = textB text) := hid (by simp [EM.fb])
  have HFV : Hid ((⟨idn, tmn, k, an, bn, name, text, v⟩ : EM).fb 86 = v.wr) := hid (by simp [EM.fb])
  simp only [Int.toNat_natCast] at hwr
  obtain ⟨fb, hfbe⟩ : ∃ x, (⟨idn, tmn, k, an, bn, name, text, v⟩ : EM).fb = x := ⟨_, rfl⟩
  rw [hfbe] at HFA HFB HFN HFT HFV hwr hfall
  obtain ⟨pre, hpre⟩ : ∃ x, (bs ++ [UInt8.ofNat y]) ++ (numB idn ++ numB tmn) = x := ⟨_, rfl⟩
  have hprel : pre.length ≤ 900000100 := by
    rw [← hpre]; have := numB_len idn; have := numB_len tmn; simp only [List.length_append, List.length_cons, List.length_nil]; omega
  have hgo : bs ++ (⟨idn, tmn, k, an, bn, name, text, v⟩ : EM).wr = pre ++ fl.flatMap fb := by rw [hwr, ← hpre]; simp
  have HGO := hid hgo; have HPRE := hid hpre; have HFM := hid hfm; have HFALL := hid hfall
  clear hE hV hd hG gv hnm hfl' hW hwr hgd hy hpre hgo hfm hfall hfbl gk hfbe
  have hbx : (w.alloc (.cells #[.int .i64 idn, .int .i64 tmn, .int .i64 k, .int .i64 an, .int .i64 bn, .string (strOf name), .string (strOf text), .int .i64 vk, .int .i64 vn, .string (strOf vs), .slice va vm vc] 43)).heap[w.heap.size]? = some (.cells #[.int .i64 idn, .int .i64 tmn, .int .i64 k, .int .i64 an, .int .i64 bn, .string (strOf name), .string (strOf text), .int .i64 vk, .int .i64 vn, .string (strOf vs), .slice va vm vc] 43 (0, 0)) := blk_new w _
  have HBX := hid hbx
  clear hbx
  go_enter Tryz.func32, Tryz.ntmps32
  go_wp2_with fail
  refine (HEN _).out.mono ?_
  rintro x w1 ⟨rfl, n, rfl⟩
  clear HEN
  obtain ⟨wb, hwb⟩ : ∃ wb, ((w.alloc (.cells #[.int .i64 idn, .int .i64 tmn, .int .i64 k, .int .i64 an, .int .i64 bn, .string (strOf name), .string (strOf text), .int .i64 vk, .int .i64 vn, .string (strOf vs), .slice va vm vc] 43)).drewN n) = wb := ⟨_, rfl⟩
  have hob : Only (fun _ => False) w wb := by rw [← hwb]; exact (only_new w _).trans (only_drewN _ n) (fun _ _ e => e)
  have hbb : wb.heap[w.heap.size]? = some (.cells #[.int .i64 idn, .int .i64 tmn, .int .i64 k, .int .i64 an, .int .i64 bn, .string (strOf name), .string (strOf text), .int .i64 vk, .int .i64 vn, .string (strOf vs), .slice va vm vc] 43 (0, 0)) := by rw [← hwb]; exact blk_new w _
  have hsz : wb.heap.size = w.heap.size + 1 := by rw [← hwb]; exact World.size_alloc _ _
  rw [hwb]
  have b2 : wb.cell? ⟨w.heap.size, 2, none⟩ = some (.int .i64 k) := cell_blk hbb 2
  have HWB := hid (HW.out.same hob)
  have HY := hid (wbyte1_c HWB.out y hyl (by omega) rfl)
  have HOB := hid hob; have HBB := hid hbb; have HSZ := hid hsz
  clear hob hbb hwb hsz
  go_wp2_with fail
  refine HY.out.mono ?_
  rintro x w2 ⟨rfl, F1, hW1, ho1, hF1⟩
  have hfbb : ¬ F1 w.heap.size := fun e => by rcases hF1 _ e with e | e; exact hfb e; have := HSZ.out; omega
  have hb2 := blk_only HBB.out ho1 hfb
  have c0 : w2.cell? ⟨w.heap.size, 0, none⟩ = some (.int .i64 idn) := cell_blk hb2 0
  have c1 : w2.cell? ⟨w.heap.size, 1, none⟩ = some (.int .i64 tmn) := cell_blk hb2 1
  have HN2 := hid (wnum2_c hW1 idn tmn (by omega) (by omega) (by simp; omega) rfl)
  rw [HPRE.out] at HN2
  have HO1 := hid ho1; have HF1 := hid hF1; have HB2 := hid hb2
  clear hW1 ho1 hF1 hb2
  go_wp2_with fail
  refine HN2.out.mono ?_
  rintro x w3 ⟨rfl, hst3⟩
  have HST3 : Hid (WStep wb w3 b F pre) := hid (hst3.comp HO1.out HF1.out)
  clear hst3 c0 c1 b2
  have hszl : (strOf fl).size = fl.length := rfl
  go_wp2_with fail
  go_loopw [30] (fun i wr => ∃ j : Nat, i = .int .i64 j ∧ j ≤ (strOf fl).size ∧ WStep wb wr b F (pre ++ (fl.take j).flatMap fb)) (fun i _ => (strOf fl).size - (intOf i).toNat)
  case atStart => exact ⟨0, rfl, Nat.zero_le _, by simpa using HST3.out⟩
  case round =>
    obtain ⟨j, rfl, hj, hst⟩ := hrel
    by_cases hjl : j < (strOf fl).size
    · have hjl' : j < fl.length := hjl
      obtain ⟨c, hc⟩ : ∃ c, fl[j]? = some c := ⟨_, List.getElem?_eq_getElem hjl'⟩
      have hsc := strOf_at hc hjl
      have hcm := HFM.out c (List.mem_of_getElem? hc)
      have hnx := flat_take1 (f := fb) hc
      have hln := HFALL.out j
      obtain ⟨F1, hW1, ho1, hF1⟩ := hst
      have hfbb : ¬ F1 w.heap.size := fun e => by rcases hF1 _ e with e | e; exact hfb e; have := HSZ.out; omega
      have hb2 := blk_only HBB.out ho1 hfb
      have c3 : wr.cell? ⟨w.heap.size, 3, none⟩ = some (.int .i64 an) := cell_blk hb2 3
      have c4 : wr.cell? ⟨w.heap.size, 4, none⟩ = some (.int .i64 bn) := cell_blk hb2 4
      have c5 : wr.cell? ⟨w.heap.size, 5, none⟩ = some (.string (strOf name)) := cell_blk hb2 5
      have c6 : wr.cell? ⟨w.heap.size, 6, none⟩ = some (.string (strOf text)) := cell_blk hb2 6
      have c7 : wr.cell? ⟨w.heap.size, 7, none⟩ = some (.int .i64 vk) := cell_blk hb2 7
      have c8 : wr.cell? ⟨w.heap.size, 8, none⟩ = some (.int .i64 vn) := cell_blk hb2 8
      have c9 : wr.cell? ⟨w.heap.size, 9, none⟩ = some (.string (strOf vs)) := cell_blk hb2 9
      have c10 : wr.cell? ⟨w.heap.size, 10, none⟩ = some (.slice va vm vc) := cell_blk hb2 10
      have hpl : (pre ++ (fl.take j).flatMap fb).length ≤ 900010000 := by rw [List.length_append]; omega
      obtain ⟨q, hq⟩ : ∃ q, pre ++ (fl.take j).flatMap fb = q := ⟨_, rfl⟩
      rw [hq] at hW1 hpl
      have hnx2 : pre ++ (fl.take (j + 1)).flatMap fb = q ++ fb c := by rw [hnx, ← List.append_assoc, hq]
      have HW1 := hid hW1; have HO1 := hid ho1; have HF1 := hid hF1; have HNX := hid hnx2
      clear hc hnx hln hW1 ho1 hF1 hb2 hq hnx2
      rcases hcm with rfl | rfl | rfl | rfl | rfl
      · have hcv : ((((strOf fl)[j]'hjl).toNat : Nat) : Int) = 65 := by rw [hsc]; rfl
        clear hsc
        have HCL := hid (wnum1_c HW1.out an (by omega) (by omega) rfl)
        go_wp2_with fail
        refine HCL.out.mono ?_
        rintro x w5 ⟨rfl, hst5⟩
        have HST5 := hid (hst5.comp HO1.out HF1.out)
        clear hst5
        go_wp2_with fail
        go_roundw
        case rel => exact ⟨j + 1, by go_num, by omega, by rw [HNX.out, HFA.out]; exact HST5.out⟩
        case measure => simp [intOf]; omega
      · have hcv : ((((strOf fl)[j]'hjl).toNat : Nat) : Int) = 66 := by rw [hsc]; rfl
        clear hsc
        have HCL := hid (wnum1_c HW1.out bn (by omega) (by omega) rfl)
        go_wp2_with fail
        refine HCL.out.mono ?_
        rintro x w5 ⟨rfl, hst5⟩
        have HST5 := hid (hst5.comp HO1.out HF1.out)
        clear hst5
        go_wp2_with fail
        go_roundw
        case rel => exact ⟨j + 1, by go_num, by omega, by rw [HNX.out, HFB.out]; exact HST5.out⟩
        case measure => simp [intOf]; omega
      · have hcv : ((((strOf fl)[j]'hjl).toNat : Nat) : Int) = 78 := by rw [hsc]; rfl
        clear hsc
        have HCL := hid (wtext_c HW1.out name (by omega))
        go_wp2_with fail
        refine HCL.out.mono ?_
        rintro x w5 ⟨rfl, hst5⟩
        have HST5 := hid (hst5.comp HO1.out HF1.out)
        clear hst5
        go_wp2_with fail
        go_roundw
        case rel => exact ⟨j + 1, by go_num, by omega, by rw [HNX.out, HFN.out]; exact HST5.out⟩
        case measure => simp [intOf]; omega
      · have hcv : ((((strOf fl)[j]'hjl).toNat : Nat) : Int) = 84 := by rw [hsc]; rfl
        clear hsc
        have HCL := hid (wtext_c HW1.out text (by omega))
        go_wp2_with fail
        refine HCL.out.mono ?_
        rintro x w5 ⟨rfl, hst5⟩
        have HST5 := hid (hst5.comp HO1.out HF1.out)
        clear hst5
        go_wp2_with fail
        go_roundw
        case rel => exact ⟨j + 1, by go_num, by omega, by rw [HNX.out, HFT.out]; exact HST5.out⟩
        case measure => simp [intOf]; omega
      · have hcv : ((((strOf fl)[j]'hjl).toNat : Nat) : Int) = 86 := by rw [hsc]; rfl
        clear hsc
        have HCL := hid (vwrite_c HW1.out ((HV.out.same HOB.out).only HO1.out HD.out) (fun i hi e => by rcases HF1.out i e with e | e; exact HD.out i hi e; have := HGl.out i hi; have := HSZ.out; omega) (fun i hi => by have := HGl.out i hi; have := HSZ.out; have := HO1.out.size; omega) Hgv.out (by omega))
        go_wp2_with fail
        refine HCL.out.mono ?_
        rintro x w5 ⟨rfl, hst5⟩
        have HST5 := hid (hst5.comp HO1.out HF1.out)
        clear hst5
        go_wp2_with fail
        go_roundw
        case rel => exact ⟨j + 1, by go_num, by omega, by rw [HNX.out, HFV.out]; exact HST5.out⟩
        case measure => simp [intOf]; omega
    · have HST := hid hst
      have hje : j = fl.length := by omega
      have htk : fl.take j = fl := by rw [hje, List.take_length]
      have HTK := hid htk
      clear hst htk hje
      go_wp2_with fail
      go_end0
      refine ⟨rfl, ?_⟩
      have h1 := HST.out
      rw [HTK.out, ← HGO.out] at h1
      exact h1.comp (HOB.out.mono (fun _ _ e => e.elim)) (fun _ hk => .inl hk)
end
end Go.Proofs.YtfmdngeooelcpaaGreat
