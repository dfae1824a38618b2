/- RingPlays: the walk. -/
import Derived.Test.YtepndjojodbhdaaGoesR
import Derived.Test.YtepndjojodbhdaaRig
import Derived.Test.YtepndjojodbhdaaStrB
import Derived.Test.YtepndjojodbhdaaOpenR
import Derived.Test.YtepndjojodbhdaaParts
import Derived.Deep.QuietTactic
import Derived.BigQuiet
namespace Go.Proofs.Ytepndjojodbhdaa
open Go.RowKit

theorem strOf_append (a b : List UInt8) : strOf a ++ strOf b = strOf (a ++ b) := by
  apply ByteArray.ext
  simp [strOf]

theorem strOf_extract (l : List UInt8) (a n : Nat) : (strOf l).extract a (a + n) = strOf ((l.drop a).take n) := by
  apply ByteArray.ext
  apply Array.ext'
  simp [strOf, ByteArray.data_extract, List.extract_eq_take_drop]

/-- Bytes so often. -/
def rep : Nat → List UInt8 → List UInt8
  | 0, _ => []
  | n + 1, l => rep n l ++ l
theorem length_rep (n : Nat) (l : List UInt8) : (rep n l).length = n * l.length := by
  induction n with
  | zero => simp [rep]
  | succ n ih => simp [rep, ih, Nat.succ_mul]

/-- What stands between the rounds. -/
def PlayInv (w wr : World) (b count : Nat) (rv tv : Value) (k : Nat) : Prop :=
  ∃ r text G, rv = .pointer (some ⟨r, 0, none⟩) ∧ tv = .string (strOf text) ∧ Rig wr r b 1 count 7 text G ∧ Only (fun _ => False) w wr ∧ (∀ j, G j → w.heap.size ≤ j) ∧ text.length ≤ 2000 * k

set_option maxRecDepth 100000 in
set_option maxHeartbeats 6400000 in
theorem ringPlays_c (w : World) (count : Int) (v : Value) (l : List ROp) (h : ROpsAt w v l) :
    Calls Try.prog 7 #[.int .i64 count, v] w fun e w' => e = .returned (.bool true) ∧ Only (fun _ => False) w w' := by
  obtain ⟨a, c, rfl, hll, hl⟩ := h
  have HL := hid hl
  clear hl
  by_cases hc : count < 1 ∨ 5 < count ∨ 40 < (l.length : Int)
  · by_cases h1 : count < 1
    · clear hc
      go_enter Try.func7, Try.ntmps7
      go_wp2_with fail
      refine (goes_c _).mono ?_
      rintro e w1 ⟨rfl, ho1⟩
      go_wp2_with fail
      go_ret
      exact ⟨rfl, ho1⟩
    by_cases h2 : 5 < count
    · clear hc
      go_enter Try.func7, Try.ntmps7
      go_wp2_with fail
      refine (goes_c _).mono ?_
      rintro e w1 ⟨rfl, ho1⟩
      go_wp2_with fail
      go_ret
      exact ⟨rfl, ho1⟩
    have h3 : 40 < (l.length : Int) := by omega
    clear hc
    go_enter Try.func7, Try.ntmps7
    go_wp2_with fail
    refine (goes_c _).mono ?_
    rintro e w1 ⟨rfl, ho1⟩
    go_wp2_with fail
    go_ret
    exact ⟨rfl, ho1⟩
  obtain ⟨count, rfl⟩ : ∃ k : Nat, count = k := ⟨count.toNat, by omega⟩
  have h1 : ¬ (count : Int) < 1 := by omega
  have h2 : ¬ 5 < (count : Int) := by omega
  have h3 : ¬ 40 < (l.length : Int) := by omega
  clear hc
  go_enter Try.func7, Try.ntmps7
  go_wp2_with fail
  refine (goes_c _).mono ?_
  rintro e w1 ⟨rfl, ho1⟩
  have Ho1 := hid ho1
  clear ho1
  go_wp2_with fail
  refine (new_ok w1 7 (by decide) (by decide)).mono ?_
  rintro e w2 ⟨b, FD, rfl, hD, ho2, hFD⟩
  have HD := hid hD; have Ho2 := hid (Ho1.out.trans ho2 (fun _ _ e => e)); have HFD : Hid (∀ k, FD k → w.heap.size ≤ k) := hid (fun k hk => Nat.le_trans Ho1.out.size (hFD k hk))
  clear hD ho2 hFD
  go_wp2_with fail
  refine (rig_new HD.out 1 count (by omega) (by omega)).mono ?_
  rintro e w3 ⟨r, G, rfl, hR, ho3, hG⟩
  have HI : Hid (PlayInv w w3 b count (.pointer (some ⟨r, 0, none⟩)) (.string ⟨#[]⟩) 0) := hid ⟨r, [], G, rfl, rfl, hR, Ho2.out.trans ho3 (fun _ _ e => e), fun k hk => by
    rcases hG k hk with e | e
    · exact HFD.out k e
    · have := Ho2.out.size; omega, Nat.zero_le _⟩
  clear hR ho3 hG HD HFD Ho1 Ho2
  go_wp2_with fail
  try go_frame
  go_loopw [52, 7, 10, 12, 13, 14, 15, 16, 17, 18, 19, 20] (fun i rv tv _ _ _ _ _ _ _ _ _ wr => ∃ k : Nat, i = .int .i64 k ∧ k ≤ l.length ∧ PlayInv w wr b count rv tv k) (fun i _ _ _ _ _ _ _ _ _ _ _ _ => l.length - (intOf i).toNat)
  case atStart => exact ⟨0, rfl, Nat.zero_le _, HI.out⟩
  case round =>
    obtain ⟨k, rfl, hk, r, text, G, rfl, rfl, hR, ho, hG, htl⟩ := hrel
    have HR := hid hR; have Ho := hid ho; have HG := hid hG
    clear hR ho hG
    by_cases hkl : k < l.length
    · obtain ⟨hat, g, of, rfl, hgl, hcl⟩ := HL.out k l[k] (List.getElem?_eq_getElem hkl)
      obtain ⟨o, hoo⟩ : ∃ o, o = l[k] := ⟨_, rfl⟩
      rw [← hoo] at hat hcl
      have hcw : ∀ j u, o.cells[j]? = some u → wr.cell? ⟨g, of + k * 6 + j, none⟩ = some u := by
        intro j u hj
        rw [← hcl j u hj]
        exact World.cell?_of_block (Ho.out.block g hgl (fun e => e))
      have c0 := hcw 0 _ rfl
      rw [Nat.add_zero] at c0
      have c1 := hcw 1 _ rfl
      have c2 := hcw 2 _ rfl
      have c3 := hcw 3 _ rfl
      have c4 := hcw 4 _ rfl
      have c5 := hcw 5 _ rfl
      obtain ⟨da, dc, hd⟩ := hat.data.len
      rw [hd] at c5
      have Hat := hid hat; have Hd := hid hd
      clear hcl hcw hat hoo hd hgl
      have HRa : ∀ ob, Hid (Rig (wr.alloc ob) r b 1 count 7 text G) := fun ob => HR.out.only ((Only.refl (fun _ => False) wr).alloc ob) (fun _ _ e => e)
      have HSa : ∀ ob, Hid (Src (wr.alloc ob) (.slice da o.data.length dc) o.data) := fun ob => by
        have := Hat.out.data.only ((Ho.out).alloc ob) (fun _ _ _ _ _ e => e)
        rw [Hd.out] at this; exact this
      have htx : (strOf text).size = text.length := rfl
      have Htx := hid htx
      have htb : ((strOf text).size : Int) ≤ 80000 := by omega
      clear htx
      by_cases h100 : 100 < (o.data.length : Int)
      · go_wp2_with fail
        go_ret
        exact ⟨rfl, Ho.out.alloc _⟩
      by_cases hk2 : o.kind = 2
      · have e0 : (o.kind == 0) = false := by rw [hk2]; decide
        have e1 : (o.kind == 1) = false := by rw [hk2]; decide
        have e2 : (o.kind == 2) = true := by rw [hk2]; decide
        clear hk2
        go_wp2_with fail
        refine (rig_flush (HRa _).out).mono ?_
        rintro e w5 ⟨rfl, hR5, ho5⟩
        have HR5 := hid hR5
        have Ho5 := hid ((Ho.out.alloc _).trans ho5 (fun j hj e => by have := HG.out j e; omega))
        clear hR5 ho5
        have HT5 : Hid (Calls Try.prog 37 #[.pointer (some ⟨r, 0, none⟩)] w5 fun e w' => e = .returned (.int .u64 (strOf text).size) ∧ w5 = w') := hid (rig_tail HR5.out)
        have HZ5 : Hid (Calls Try.prog 38 #[.pointer (some ⟨r, 0, none⟩)] w5 fun e w' => e = .returned (.int .i64 (128 * (count : Int))) ∧ w5 = w') := hid ((rig_size HR5.out).mono (fun e w' h => ⟨by rw [h.1]; exact ret_i (by omega), h.2⟩))
        go_wp2_with (first | (go_at_call 37; refine HT5.out.mono ?_; rintro e w' ⟨rfl, rfl⟩) | (go_at_call 38; refine HZ5.out.mono ?_; rintro e w' ⟨rfl, rfl⟩))
        go_roundw
        case rel => exact ⟨k + 1, by go_num, by omega, r, text, G, rfl, rfl, HR5.out, Ho5.out, HG.out, by omega⟩
        case measure => simp [intOf]; omega
      by_cases hk3 : o.kind = 3
      · have e0 : (o.kind == 0) = false := by rw [hk3]; decide
        have e1 : (o.kind == 1) = false := by rw [hk3]; decide
        have e2 : (o.kind == 2) = false := by rw [hk3]; decide
        have e3 : (o.kind == 3) = true := by rw [hk3]; decide
        clear hk2 hk3
        go_wp2_with fail
        refine (rig_again (HRa _).out (by omega)).mono ?_
        rintro e w5 ⟨r', G', rfl, hR5, ho5, hG'⟩
        have HR5 := hid hR5
        have HG5 : Hid (∀ j, G' j → w.heap.size ≤ j) := hid (fun j hj => by
          rcases hG' j hj with e | e
          · exact HG.out j e
          · have := (Ho.out.alloc (.cells #[] 0)).size; have := Ho.out.size; simp at e; omega)
        have Ho5 := hid ((Ho.out.alloc _).trans ho5 (fun j hj e => e.elim))
        clear hR5 ho5 hG'
        have HT5 : Hid (Calls Try.prog 37 #[.pointer (some ⟨r', 0, none⟩)] w5 fun e w' => e = .returned (.int .u64 (strOf text).size) ∧ w5 = w') := hid (rig_tail HR5.out)
        have HZ5 : Hid (Calls Try.prog 38 #[.pointer (some ⟨r', 0, none⟩)] w5 fun e w' => e = .returned (.int .i64 (128 * (count : Int))) ∧ w5 = w') := hid ((rig_size HR5.out).mono (fun e w' h => ⟨by rw [h.1]; exact ret_i (by omega), h.2⟩))
        go_wp2_with (first | (go_at_call 37; refine HT5.out.mono ?_; rintro e w' ⟨rfl, rfl⟩) | (go_at_call 38; refine HZ5.out.mono ?_; rintro e w' ⟨rfl, rfl⟩))
        go_roundw
        case rel => exact ⟨k + 1, by go_num, by omega, r', text, G', rfl, rfl, HR5.out, Ho5.out, HG5.out, by omega⟩
        case measure => simp [intOf]; omega
      by_cases hk0 : o.kind = 0
      · have e0 : (o.kind == 0) = true := by rw [hk0]; decide
        clear hk0 hk2 hk3
        obtain ⟨m, hm⟩ : ∃ m : Int, (if (20 : Int) < o.often then 20 else o.often) = m := ⟨_, rfl⟩
        obtain ⟨T, hT⟩ : ∃ T : Nat, (if 0 < m then m else 0) = (T : Int) := ⟨(if 0 < m then m else 0).toNat, by split <;> omega⟩
        have hT1 : (T : Int) ≤ 20 := by rw [← hT, ← hm]; split <;> split <;> omega
        have hcv : ∀ ob, (convert 30 9 (.slice da o.data.length dc)).run Try.prog (wr.alloc ob) = .ok (.string (strOf o.data)) (wr.alloc ob) := fun ob => conv_str (HSa ob).out
        go_wp2_with fail
        go_loop [68, 13] (fun j sv => ∃ i : Nat, j = .int .i64 i ∧ i ≤ T ∧ sv = .string (strOf (rep i o.data))) (fun j _ => T - (intOf j).toNat)
        case atStart => exact ⟨0, rfl, Nat.zero_le _, rfl⟩
        case round =>
          obtain ⟨i, rfl, hi, rfl⟩ := hrel
          by_cases hiT : i < T
          · have hcat : (strOf (rep i o.data)).size + (strOf o.data).size ≤ 9223372036854775807 := by
              have h1 : (strOf (rep i o.data)).size = (rep i o.data).length := rfl
              have h3 : (strOf o.data).size = o.data.length := rfl
              rw [h1, h3, length_rep, ← Nat.succ_mul]
              have h4 : i.succ ≤ 20 := by omega
              have h5 : o.data.length ≤ 100 := by omega
              exact Nat.le_trans (Nat.mul_le_mul h4 h5) (by decide)
            go_wp2_with fail
            go_round
            case rel => exact ⟨i + 1, by go_num, by omega, by rw [strOf_append]; rfl⟩
            case measure => simp [intOf]; omega
          · obtain rfl : i = T := by omega
            obtain ⟨S, hS⟩ : ∃ S, rep i o.data = S := ⟨_, rfl⟩
            have hS1 : S.length ≤ 2000 := by
              rw [← hS, length_rep]
              have h1 : i ≤ 20 := by omega
              have h2 : o.data.length ≤ 100 := by omega
              exact Nat.le_trans (Nat.mul_le_mul h1 h2) (by decide)
            rw [hS]
            have hSx : (strOf S).size = S.length := rfl
            have HSx := hid hSx
            have hSb : ((strOf S).size : Int) ≤ 2000 := by omega
            clear hSx hcv hS
            obtain ⟨m2, hm2⟩ : ∃ m2 : Int, (if ((strOf text).size : Int) < o.head then ((strOf text).size : Int) else o.head) = m2 := ⟨_, rfl⟩
            obtain ⟨q, hq⟩ : ∃ q : Int, (if 0 < m2 then m2 else 0) = q := ⟨_, rfl⟩
            have hq0 : 0 ≤ q := by rw [← hq]; split <;> omega
            have hq1 : q ≤ ((strOf text).size : Int) := by rw [← hq, ← hm2]; split <;> split <;> omega
            obtain ⟨A, hA⟩ : ∃ A : Nat, ((strOf text).size : Int) - q = (A : Int) := ⟨(((strOf text).size : Int) - q).toNat, by omega⟩
            have hAl : (A : Int) ≤ ((strOf text).size : Int) := by omega
            have Hlen := hid (show A ≤ text.length by have := Htx.out; omega)
            obtain ⟨obS, hobS⟩ : ∃ obS : Obj, obS = .cells #[.int .i64 o.kind, .int .i64 o.head, .int .i64 o.at', .int .i64 o.n, .int .i64 o.often, .slice da o.data.length dc] 56 := ⟨_, rfl⟩
            have hconv := conv_bytes (wr.alloc obS) S
            have HcS := hid (conv_bytes_src (wr.alloc obS) S)
            have HcO := hid (bytesWorld_only (wr.alloc obS) 5 (strOf S))
            have hcz : (Go.Lib.bytesWorld (wr.alloc obS) 5 (strOf S)).heap.size = wr.heap.size + 2 := by
              simp [Go.Lib.bytesWorld, freeze_size]
            obtain ⟨W4, hW4⟩ : ∃ W4 : World, Go.Lib.bytesWorld (wr.alloc obS) 5 (strOf S) = W4 := ⟨_, rfl⟩
            obtain ⟨c4, hc4⟩ : ∃ c4 : Nat, grownCap (wr.alloc obS) S.length 0 5 = c4 := ⟨_, rfl⟩
            have hsz1 : (wr.alloc obS).heap.size = wr.heap.size + 1 := by simp
            rw [hW4, hc4, hsz1] at hconv HcS
            rw [hW4] at HcO hcz
            clear hW4 hc4 hsz1
            have HR4 := hid ((HRa obS).out.only HcO.out (fun _ _ e => e))
            have HoB := hid ((Ho.out.alloc obS).trans HcO.out (fun _ _ e => e))
            have Hcz := hid hcz
            have HPa : Hid (PartsAt (W4.alloc (.cells #[.slice (some ⟨wr.heap.size + 1, 0, none⟩) S.length c4] 30)) (.slice (some ⟨wr.heap.size + 2, 0, none⟩) 1 1) [S] G) := by
              have hb := blk_new W4 (.cells #[.slice (some ⟨wr.heap.size + 1, 0, none⟩) S.length c4] 30)
              rw [hcz] at hb
              refine hid (OneParts (fun e => ?_) hb (HcS.out.only ((Only.refl (fun _ => False) W4).alloc _) (fun _ _ _ _ _ e => e)) (by omega) (fun g' o' e h2 => ?_))
              · have := HR.out.lt e; omega
              · simp only [Option.some.injEq, Addr.mk.injEq] at e
                rw [← e.1] at h2
                have := HR.out.lt h2; omega
            have HRp := hid (HR4.out.only ((Only.refl (fun _ => False) W4).alloc (.cells #[.slice (some ⟨wr.heap.size + 1, 0, none⟩) S.length c4] 30)) (fun _ _ e => e))
            have hfl : [S].flatten = S := by simp
            have hAno := fun hbad => rig_full HRp.out A Hlen.out _ [S] HPa.out hbad
            have hAyes := fun hfit => rig_append HRp.out A Hlen.out _ [S] HPa.out hfit (by have := Htx.out; omega)
            rw [hfl] at hAno hAyes
            have HAno := hid hAno; have HAyes := hid hAyes
            clear hAno hAyes hfl
            have hcat : (strOf text).size + (strOf S).size ≤ 9223372036854775807 := by omega
            by_cases hpos : ((strOf text).size : Int) - (A : Int) / 128 * 128 < 128 * (count : Int)
            · have hLe : ((count * 128 - (text.length - A / 128 * 128) : Nat) : Int) = 128 * (count : Int) - (((strOf text).size : Int) - (A : Int) / 128 * 128) := by have := Htx.out; omega
              have HLf : Hid (Calls Try.prog 41 #[.pointer (some ⟨r, 0, none⟩), .int .u64 A] (wr.alloc obS) fun e w' => e = .returned (.int .i64 (128 * (count : Int) - (((strOf text).size : Int) - (A : Int) / 128 * 128))) ∧ (wr.alloc obS) = w') := hid (by rw [← hLe]; exact rig_left (HRa obS).out A Hlen.out)
              have HLe := hid hLe
              clear hLe
              by_cases hfull : 128 * (count : Int) - (((strOf text).size : Int) - (A : Int) / 128 * 128) < ((strOf S).size : Int)
              · have HA2 := hid (HAno.out (by have := HLe.out; have := HSx.out; omega))
                clear HAno HAyes
                subst hobS
                go_wp2_with (first | (go_at_call 41; refine HLf.out.mono ?_; rintro e w' ⟨rfl, rfl⟩))
                refine HA2.out.mono ?_
                rintro e w5 ⟨rfl, rfl⟩
                have HT5 : Hid (Calls Try.prog 37 #[.pointer (some ⟨r, 0, none⟩)] (W4.alloc (.cells #[.slice (some ⟨wr.heap.size + 1, 0, none⟩) S.length c4] 30)) fun e w' => e = .returned (.int .u64 (strOf text).size) ∧ (W4.alloc (.cells #[.slice (some ⟨wr.heap.size + 1, 0, none⟩) S.length c4] 30)) = w') := hid (rig_tail HRp.out)
                have HZ5 : Hid (Calls Try.prog 38 #[.pointer (some ⟨r, 0, none⟩)] (W4.alloc (.cells #[.slice (some ⟨wr.heap.size + 1, 0, none⟩) S.length c4] 30)) fun e w' => e = .returned (.int .i64 (128 * (count : Int))) ∧ (W4.alloc (.cells #[.slice (some ⟨wr.heap.size + 1, 0, none⟩) S.length c4] 30)) = w') := hid ((rig_size HRp.out).mono (fun e w' h => ⟨by rw [h.1]; exact ret_i (by omega), h.2⟩))
                go_wp2_with (first | (go_at_call 37; refine HT5.out.mono ?_; rintro e w' ⟨rfl, rfl⟩) | (go_at_call 38; refine HZ5.out.mono ?_; rintro e w' ⟨rfl, rfl⟩))
                go_roundw
                case rel => exact ⟨k + 1, by go_num, by omega, r, text, G, rfl, rfl, HRp.out, HoB.out.alloc _, HG.out, by omega⟩
                case measure => simp [intOf]; omega
              · have HA2 := hid (HAyes.out (by have := HLe.out; have := HSx.out; omega))
                clear HAno HAyes
                subst hobS
                go_wp2_with (first | (go_at_call 41; refine HLf.out.mono ?_; rintro e w' ⟨rfl, rfl⟩))
                refine HA2.out.mono ?_
                rintro e w5 ⟨rfl, G5, hR5, ho5, hG5⟩
                have HR5 := hid hR5
                have Ho5 := hid ((HoB.out.alloc _).trans ho5 (fun j hj e => by have := HG.out j e; omega))
                have HG5 : Hid (∀ j, G5 j → w.heap.size ≤ j) := hid (fun j hj => by
                  rcases hG5 j hj with e | e
                  · exact HG.out j e
                  · have := (HoB.out.alloc (.cells #[.slice (some ⟨wr.heap.size + 1, 0, none⟩) S.length c4] 30)).size; omega)
                clear hR5 ho5 hG5
                have HT5 : Hid (Calls Try.prog 37 #[.pointer (some ⟨r, 0, none⟩)] w5 fun e w' => e = .returned (.int .u64 ((strOf text).size + (strOf S).size : Int)) ∧ w5 = w') := hid ((rig_tail HR5.out).mono (fun e w' h => ⟨by rw [h.1, List.length_append, ← HSx.out, ← Htx.out, Int.natCast_add], h.2⟩))
                have HZ5 : Hid (Calls Try.prog 38 #[.pointer (some ⟨r, 0, none⟩)] w5 fun e w' => e = .returned (.int .i64 (128 * (count : Int))) ∧ w5 = w') := hid ((rig_size HR5.out).mono (fun e w' h => ⟨by rw [h.1]; exact ret_i (by omega), h.2⟩))
                go_wp2_with (first | (go_at_call 37; refine HT5.out.mono ?_; rintro e w' ⟨rfl, rfl⟩) | (go_at_call 38; refine HZ5.out.mono ?_; rintro e w' ⟨rfl, rfl⟩))
                go_roundw
                case rel => exact ⟨k + 1, by go_num, by omega, r, text ++ S, G5, rfl, by rw [strOf_append], HR5.out, Ho5.out, HG5.out, by have := HSx.out; rw [List.length_append]; omega⟩
                case measure => simp [intOf]; omega
            · have hLe : ((count * 128 - (text.length - A / 128 * 128) : Nat) : Int) = (0 : Int) := by have := Htx.out; omega
              have HLf : Hid (Calls Try.prog 41 #[.pointer (some ⟨r, 0, none⟩), .int .u64 A] (wr.alloc obS) fun e w' => e = .returned (.int .i64 0) ∧ (wr.alloc obS) = w') := hid (by rw [← hLe]; exact rig_left (HRa obS).out A Hlen.out)
              have HLe := hid hLe
              clear hLe
              by_cases hfull : (0 : Int) < ((strOf S).size : Int)
              · have HA2 := hid (HAno.out (by have := HLe.out; have := HSx.out; omega))
                clear HAno HAyes
                subst hobS
                go_wp2_with (first | (go_at_call 41; refine HLf.out.mono ?_; rintro e w' ⟨rfl, rfl⟩))
                refine HA2.out.mono ?_
                rintro e w5 ⟨rfl, rfl⟩
                have HT5 : Hid (Calls Try.prog 37 #[.pointer (some ⟨r, 0, none⟩)] (W4.alloc (.cells #[.slice (some ⟨wr.heap.size + 1, 0, none⟩) S.length c4] 30)) fun e w' => e = .returned (.int .u64 (strOf text).size) ∧ (W4.alloc (.cells #[.slice (some ⟨wr.heap.size + 1, 0, none⟩) S.length c4] 30)) = w') := hid (rig_tail HRp.out)
                have HZ5 : Hid (Calls Try.prog 38 #[.pointer (some ⟨r, 0, none⟩)] (W4.alloc (.cells #[.slice (some ⟨wr.heap.size + 1, 0, none⟩) S.length c4] 30)) fun e w' => e = .returned (.int .i64 (128 * (count : Int))) ∧ (W4.alloc (.cells #[.slice (some ⟨wr.heap.size + 1, 0, none⟩) S.length c4] 30)) = w') := hid ((rig_size HRp.out).mono (fun e w' h => ⟨by rw [h.1]; exact ret_i (by omega), h.2⟩))
                go_wp2_with (first | (go_at_call 37; refine HT5.out.mono ?_; rintro e w' ⟨rfl, rfl⟩) | (go_at_call 38; refine HZ5.out.mono ?_; rintro e w' ⟨rfl, rfl⟩))
                go_roundw
                case rel => exact ⟨k + 1, by go_num, by omega, r, text, G, rfl, rfl, HRp.out, HoB.out.alloc _, HG.out, by omega⟩
                case measure => simp [intOf]; omega
              · have HA2 := hid (HAyes.out (by have := HLe.out; have := HSx.out; omega))
                clear HAno HAyes
                subst hobS
                go_wp2_with (first | (go_at_call 41; refine HLf.out.mono ?_; rintro e w' ⟨rfl, rfl⟩))
                refine HA2.out.mono ?_
                rintro e w5 ⟨rfl, G5, hR5, ho5, hG5⟩
                have HR5 := hid hR5
                have Ho5 := hid ((HoB.out.alloc _).trans ho5 (fun j hj e => by have := HG.out j e; omega))
                have HG5 : Hid (∀ j, G5 j → w.heap.size ≤ j) := hid (fun j hj => by
                  rcases hG5 j hj with e | e
                  · exact HG.out j e
                  · have := (HoB.out.alloc (.cells #[.slice (some ⟨wr.heap.size + 1, 0, none⟩) S.length c4] 30)).size; omega)
                clear hR5 ho5 hG5
                have HT5 : Hid (Calls Try.prog 37 #[.pointer (some ⟨r, 0, none⟩)] w5 fun e w' => e = .returned (.int .u64 ((strOf text).size + (strOf S).size : Int)) ∧ w5 = w') := hid ((rig_tail HR5.out).mono (fun e w' h => ⟨by rw [h.1, List.length_append, ← HSx.out, ← Htx.out, Int.natCast_add], h.2⟩))
                have HZ5 : Hid (Calls Try.prog 38 #[.pointer (some ⟨r, 0, none⟩)] w5 fun e w' => e = .returned (.int .i64 (128 * (count : Int))) ∧ w5 = w') := hid ((rig_size HR5.out).mono (fun e w' h => ⟨by rw [h.1]; exact ret_i (by omega), h.2⟩))
                go_wp2_with (first | (go_at_call 37; refine HT5.out.mono ?_; rintro e w' ⟨rfl, rfl⟩) | (go_at_call 38; refine HZ5.out.mono ?_; rintro e w' ⟨rfl, rfl⟩))
                go_roundw
                case rel => exact ⟨k + 1, by go_num, by omega, r, text ++ S, G5, rfl, by rw [strOf_append], HR5.out, Ho5.out, HG5.out, by have := HSx.out; rw [List.length_append]; omega⟩
                case measure => simp [intOf]; omega
      by_cases hk1 : o.kind = 1
      · have e0 : (o.kind == 0) = false := by rw [hk1]; decide
        have e1 : (o.kind == 1) = true := by rw [hk1]; decide
        clear hk0 hk1 hk2 hk3
        obtain ⟨m, hm⟩ : ∃ m : Int, (if ((strOf text).size : Int) < o.at' then ((strOf text).size : Int) else o.at') = m := ⟨_, rfl⟩
        obtain ⟨q, hq⟩ : ∃ q : Int, (if 0 < m then m else 0) = q := ⟨_, rfl⟩
        have hq0 : 0 ≤ q := by rw [← hq]; split <;> omega
        have hq1 : q ≤ ((strOf text).size : Int) := by rw [← hq, ← hm]; split <;> split <;> omega
        go_wp2_with fail
        obtain ⟨A, hA⟩ : ∃ A : Nat, ((strOf text).size : Int) - q = (A : Int) := ⟨(((strOf text).size : Int) - q).toNat, by omega⟩
        rw [hA]
        have hAl : A ≤ text.length := by have := Htx.out; omega
        by_cases hr : o.n < 0 ∨ (text.length : Int) - (A : Int) < o.n
        · refine (rig_range (HRa _).out A o.n hAl hr Hat.out.n0.2).mono ?_
          rintro e w5 ⟨rfl, rfl⟩
          have HT5 : ∀ ob, Hid (Calls Try.prog 37 #[.pointer (some ⟨r, 0, none⟩)] (wr.alloc ob) fun e w' => e = .returned (.int .u64 (strOf text).size) ∧ (wr.alloc ob) = w') := fun ob => hid (rig_tail (HRa ob).out)
          have HZ5 : ∀ ob, Hid (Calls Try.prog 38 #[.pointer (some ⟨r, 0, none⟩)] (wr.alloc ob) fun e w' => e = .returned (.int .i64 (128 * (count : Int))) ∧ (wr.alloc ob) = w') := fun ob => hid ((rig_size (HRa ob).out).mono (fun e w' h => ⟨by rw [h.1]; exact ret_i (by omega), h.2⟩))
          by_cases hn0 : o.n < 0
          · clear hr
            go_wp2_with (first | (go_at_call 37; refine (HT5 _).out.mono ?_; rintro e w' ⟨rfl, rfl⟩) | (go_at_call 38; refine (HZ5 _).out.mono ?_; rintro e w' ⟨rfl, rfl⟩))
            go_roundw
            case rel => exact ⟨k + 1, by go_num, by omega, r, text, G, rfl, rfl, (HRa _).out, Ho.out.alloc _, HG.out, by omega⟩
            case measure => simp [intOf]; omega
          · have hn1 : ((strOf text).size : Int) - (A : Int) < o.n := by rcases hr with h | h; exact absurd h hn0; exact h
            clear hr
            go_wp2_with (first | (go_at_call 37; refine (HT5 _).out.mono ?_; rintro e w' ⟨rfl, rfl⟩) | (go_at_call 38; refine (HZ5 _).out.mono ?_; rintro e w' ⟨rfl, rfl⟩))
            go_roundw
            case rel => exact ⟨k + 1, by go_num, by omega, r, text, G, rfl, rfl, (HRa _).out, Ho.out.alloc _, HG.out, by omega⟩
            case measure => simp [intOf]; omega
        · obtain ⟨N, hN⟩ : ∃ N : Nat, o.n = N := ⟨o.n.toNat, by omega⟩
          rw [hN] at c3 hr ⊢
          have hAN : A + N ≤ text.length := by omega
          have hn0 : ¬ (N : Int) < 0 := by omega
          have hn1 : ¬ ((strOf text).size : Int) - (A : Int) < (N : Int) := by have := Htx.out; omega
          clear hr
          by_cases hov : count * 128 < ups text.length * 128 - A
          · have hov' : 128 * (count : Int) < (((strOf text).size : Int) + 127) / 128 * 128 - (A : Int) := by have := Htx.out; unfold ups at hov; omega
            refine (rig_missing (HRa _).out A N hAN (by omega) hov).mono ?_
            rintro e w5 ⟨rfl, rfl⟩
            have HT5 : ∀ ob, Hid (Calls Try.prog 37 #[.pointer (some ⟨r, 0, none⟩)] (wr.alloc ob) fun e w' => e = .returned (.int .u64 (strOf text).size) ∧ (wr.alloc ob) = w') := fun ob => hid (rig_tail (HRa ob).out)
            have HZ5 : ∀ ob, Hid (Calls Try.prog 38 #[.pointer (some ⟨r, 0, none⟩)] (wr.alloc ob) fun e w' => e = .returned (.int .i64 (128 * (count : Int))) ∧ (wr.alloc ob) = w') := fun ob => hid ((rig_size (HRa ob).out).mono (fun e w' h => ⟨by rw [h.1]; exact ret_i (by omega), h.2⟩))
            go_wp2_with (first | (go_at_call 37; refine (HT5 _).out.mono ?_; rintro e w' ⟨rfl, rfl⟩) | (go_at_call 38; refine (HZ5 _).out.mono ?_; rintro e w' ⟨rfl, rfl⟩))
            go_roundw
            case rel => exact ⟨k + 1, by go_num, by omega, r, text, G, rfl, rfl, (HRa _).out, Ho.out.alloc _, HG.out, by omega⟩
            case measure => simp [intOf]; omega
          · have hov' : ¬ 128 * (count : Int) < (((strOf text).size : Int) + 127) / 128 * 128 - (A : Int) := by have := Htx.out; unfold ups at hov; omega
            refine (rig_read (HRa _).out A N hAN (by omega) (by omega)).mono ?_
            rintro e w5 ⟨bo, cap, rfl, hbo, ho5⟩
            have HBo := hid hbo; have Ho5 := hid ho5
            have hcb : w5.cell? ⟨wr.heap.size, 3, none⟩ = some (.int .i64 N) := (World.cell?_of_block (ho5.block wr.heap.size (by simp) (fun e => e))).trans (by simp)
            clear hbo ho5
            have hcw : ∀ n, (convert 30 9 (.slice bo N cap)).run Try.prog (w5.drewN n) = .ok (.string (strOf ((text.drop A).take N))) (w5.drewN n) := fun n => by
              have hs := (HBo.out.only (F := fun _ => False) (w' := w5.drewN n) ⟨rfl, rfl, rfl, Nat.le_refl _, fun _ _ _ => rfl⟩ (fun _ _ _ e => e)).src
              rw [show ((text.drop A).take N).length = N from by simp; omega] at hs
              exact conv_str hs
            have HR5 : ∀ n, Hid (Rig (w5.drewN n) r b 1 count 7 text G) := fun n => hid ((HRa _).out.only (Ho5.out.trans (only_drewN _ _) (fun _ _ e => e)) (fun _ _ e => e))
            have hse : ((strOf (List.take N (List.drop A text))).toList == ((strOf text).extract A (A + N)).toList) = true := by rw [strOf_extract]; exact beq_self_eq_true _
            go_wp2_with fail
            go_quiet (fail)
            have HT5 : ∀ n, Hid (Calls Try.prog 37 #[.pointer (some ⟨r, 0, none⟩)] (w5.drewN n) fun e w' => e = .returned (.int .u64 (strOf text).size) ∧ (w5.drewN n) = w') := fun n => hid (rig_tail (HR5 n).out)
            have HZ5 : ∀ n, Hid (Calls Try.prog 38 #[.pointer (some ⟨r, 0, none⟩)] (w5.drewN n) fun e w' => e = .returned (.int .i64 (128 * (count : Int))) ∧ (w5.drewN n) = w') := fun n => hid ((rig_size (HR5 n).out).mono (fun e w' h => ⟨by rw [h.1]; exact ret_i (by omega), h.2⟩))
            go_wp2_with (first | (go_at_call 37; refine (HT5 _).out.mono ?_; rintro e w' ⟨rfl, rfl⟩) | (go_at_call 38; refine (HZ5 _).out.mono ?_; rintro e w' ⟨rfl, rfl⟩))
            go_roundw
            case rel => exact ⟨k + 1, by go_num, by omega, r, text, G, rfl, rfl, (HR5 _).out, (Ho.out.alloc _).trans (Ho5.out.trans (only_drewN _ _) (fun _ _ e => e)) (fun _ _ e => e), HG.out, by omega⟩
            case measure => simp [intOf]; omega
      · have e0 : (o.kind == 0) = false := by simpa using hk0
        have e1 : (o.kind == 1) = false := by simpa using hk1
        have e2 : (o.kind == 2) = false := by simpa using hk2
        have e3 : (o.kind == 3) = false := by simpa using hk3
        clear hk0 hk1 hk2 hk3
        have HT5 : ∀ ob, Hid (Calls Try.prog 37 #[.pointer (some ⟨r, 0, none⟩)] (wr.alloc ob) fun e w' => e = .returned (.int .u64 (strOf text).size) ∧ (wr.alloc ob) = w') := fun ob => hid (rig_tail (HRa ob).out)
        have HZ5 : ∀ ob, Hid (Calls Try.prog 38 #[.pointer (some ⟨r, 0, none⟩)] (wr.alloc ob) fun e w' => e = .returned (.int .i64 (128 * (count : Int))) ∧ (wr.alloc ob) = w') := fun ob => hid ((rig_size (HRa ob).out).mono (fun e w' h => ⟨by rw [h.1]; exact ret_i (by omega), h.2⟩))
        go_wp2_with (first | (go_at_call 37; refine (HT5 _).out.mono ?_; rintro e w' ⟨rfl, rfl⟩) | (go_at_call 38; refine (HZ5 _).out.mono ?_; rintro e w' ⟨rfl, rfl⟩))
        go_roundw
        case rel => exact ⟨k + 1, by go_num, by omega, r, text, G, rfl, rfl, (HRa _).out, Ho.out.alloc _, HG.out, by omega⟩
        case measure => simp [intOf]; omega
    · obtain rfl : k = l.length := by omega
      clear HL HR HG
      go_wp2_with fail
      go_ret
      exact ⟨rfl, Ho.out⟩
end Go.Proofs.Ytepndjojodbhdaa
