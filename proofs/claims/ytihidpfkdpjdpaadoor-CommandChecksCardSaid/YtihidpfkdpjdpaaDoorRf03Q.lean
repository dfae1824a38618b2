/- foliotref03.Quote. -/
import Derived.Test.YtihidpfkdpjdpaaDoorValP
namespace Go.Proofs.YtihidpfkdpjdpaaDoor
open Go.RowKit
theorem strOf_ext1 {s : List UInt8} {j : Nat} {c : UInt8} (h : s[j]? = some c) : (strOf s).extract j (j + 1) = strOf [c] := by
  apply ByteArray.ext
  rw [ByteArray.data_extract]
  show s.toArray.extract j (j + 1) = [c].toArray
  apply Array.ext'
  rw [Array.toList_extract, List.extract_eq_take_drop]
  show List.take (j + 1 - j) (s.drop j) = [c]
  have hj : j < s.length := by
    rcases Nat.lt_or_ge j s.length with g | g
    · exact g
    · rw [List.getElem?_eq_none g] at h; cases h
  rw [List.getElem?_eq_getElem hj] at h
  rw [List.drop_eq_getElem_cons hj, Option.some.inj h, show j + 1 - j = 1 from by omega]
  rfl
theorem lit_at : ∀ h : Nat, h < 16 → ([48, 49, 50, 51, 52, 53, 54, 55, 56, 57, 97, 98, 99, 100, 101, 102] : List UInt8)[h]? = some (hx h) := by decide +kernel
theorem lit_ext (h : Nat) (hh : h < 16) : (⟨#[48, 49, 50, 51, 52, 53, 54, 55, 56, 57, 97, 98, 99, 100, 101, 102]⟩ : ByteArray).extract h (h + 1) = strOf [hx h] := by
  have e : (⟨#[48, 49, 50, 51, 52, 53, 54, 55, 56, 57, 97, 98, 99, 100, 101, 102]⟩ : ByteArray) = strOf [48, 49, 50, 51, 52, 53, 54, 55, 56, 57, 97, 98, 99, 100, 101, 102] := rfl
  rw [e]
  exact strOf_ext1 (lit_at h hh)
section
variable {w : World}
set_option maxRecDepth 100000 in
set_option maxHeartbeats 1600000 in
theorem rquote_c (s : List UInt8) (hs : s.length ≤ 1000000000) : Calls Tryd.prog 50 #[.string (strOf s)] w fun x w' => x = .returned (.string (strOf (quo s))) ∧ Only (fun _ => False) w w' := by
  go_enter Tryd.func50, Tryd.ntmps50
  go_wp2_with fail
  go_loopw [5, 3] (fun i v wr => ∃ (j : Nat) (q : List UInt8), i = .int .i64 j ∧ j ≤ s.length ∧ v = .string (strOf q) ∧ q = (s.take j).flatMap qB ∧ Only (fun _ => False) w wr) (fun i _ _ => s.length - (intOf i).toNat)
  case atStart => exact ⟨0, [], rfl, Nat.zero_le _, rfl, rfl, Only.refl _ _⟩
  case round =>
    obtain ⟨j, q, rfl, hj, rfl, hq, ho⟩ := hrel
    have hql : q.length ≤ 4 * s.length := by
      have h1 := flat_qB (s.take j)
      have h2 : (s.take j).length ≤ s.length := by rw [List.length_take]; omega
      rw [hq]; omega
    have hsl : (strOf s).size = s.length := rfl
    have hqs : (strOf q).size = q.length := rfl
    have HQ := hid hq; have HO := hid ho
    clear hq ho
    by_cases hjl : j < (strOf s).size
    · have hjl' : j < s.length := hjl
      obtain ⟨c, hc⟩ : ∃ c, s[j]? = some c := ⟨_, List.getElem?_eq_getElem hjl'⟩
      have hsc := strOf_at hc hjl
      have HNX : Hid ((s.take (j + 1)).flatMap qB = q ++ qB c) := hid (by rw [flat_take1 (f := qB) hc, HQ.out])
      have hext : (strOf s).extract j (j + 1) = strOf [c] := strOf_ext1 hc
      obtain ⟨cn, hcn⟩ : ∃ n : Nat, c.toNat = n := ⟨_, rfl⟩
      have hcv : ((((strOf s)[j]'hjl).toNat : Nat) : Int) = (cn : Int) := by rw [hsc, hcn]
      have hcl : cn < 256 := by rw [← hcn]; exact UInt8.toNat_lt _
      have hct : c = UInt8.ofNat cn := by rw [← hcn]; simp
      have HCT := hid hct; have HCN := hid hcn
      have hji : (j : Int) + 1 ≤ (strOf s).size := by omega
      have cc1 : strOf q ++ strOf [c] = strOf (q ++ [c]) := strOf_app _ _
      have zz1 : ¬ 9223372036854775807 < (strOf q).size + (strOf [c]).size := by have : (strOf [c]).size = 1 := rfl; omega
      clear hsc hct hcn hc hqs
      by_cases h34 : cn = 34
      · subst h34
        have hc34 := hid (show c = 34 from HCT.out)
        have cc2 : (⟨#[92]⟩ : ByteArray) ++ strOf [c] = strOf [92, c] := strOf_app [92] _
        have cc3 : strOf q ++ strOf [92, c] = strOf (q ++ [92, c]) := strOf_app _ _
        have zz2 : ¬ 9223372036854775807 < 1 + (strOf [c]).size := by have : (strOf [c]).size = 1 := rfl; omega
        have zz3 : ¬ 9223372036854775807 < (strOf q).size + (strOf [92, c]).size := by have : (strOf [92, c]).size = 2 := rfl; have : (strOf q).size = q.length := rfl; omega
        go_wp2_with fail
        go_roundw
        case rel => exact ⟨j + 1, _, by go_num, hjl', rfl, by rw [HNX.out, qB, if_pos (.inl hc34.out)], HO.out⟩
        case measure => simp [intOf]; omega
      by_cases h92 : cn = 92
      · subst h92
        have hc92 := hid (show c = 92 from HCT.out)
        have cc2 : (⟨#[92]⟩ : ByteArray) ++ strOf [c] = strOf [92, c] := strOf_app [92] _
        have cc3 : strOf q ++ strOf [92, c] = strOf (q ++ [92, c]) := strOf_app _ _
        have zz2 : ¬ 9223372036854775807 < 1 + (strOf [c]).size := by have : (strOf [c]).size = 1 := rfl; omega
        have zz3 : ¬ 9223372036854775807 < (strOf q).size + (strOf [92, c]).size := by have : (strOf [92, c]).size = 2 := rfl; have : (strOf q).size = q.length := rfl; omega
        go_wp2_with fail
        go_roundw
        case rel => exact ⟨j + 1, _, by go_num, hjl', rfl, by rw [HNX.out, qB, if_pos (.inr hc92.out)], HO.out⟩
        case measure => simp [intOf]; omega
      have hcA : ¬ (c = 34 ∨ c = 92) := by
        rintro (h | h)
        · rw [h] at HCN; exact h34 HCN.out.symm
        · rw [h] at HCN; exact h92 HCN.out.symm
      have b34 : ((cn : Int) == 34) = false := by have : ¬ (cn : Int) = 34 := by omega
                                                  simpa using this
      have b92 : ((cn : Int) == 92) = false := by have : ¬ (cn : Int) = 92 := by omega
                                                  simpa using this
      by_cases hpr : 32 ≤ cn ∧ cn < 127
      · have h32 : (32 : Int) ≤ cn := by omega
        have h127 : (cn : Int) < 127 := by omega
        have hcB : ¬ (c < 32 ∨ 126 < c) := by
          rintro (h | h)
          · have h' : c.toNat < 32 := h
            rw [HCN.out] at h'; omega
          · have h' : 126 < c.toNat := h
            rw [HCN.out] at h'; omega
        have HB := hid hcB; have HAA := hid hcA
        clear h34 h92 hcA hcB
        go_wp2_with fail
        go_roundw
        case rel => exact ⟨j + 1, _, by go_num, hjl', rfl, by rw [HNX.out, qB, if_neg HAA.out, if_neg HB.out], HO.out⟩
        case measure => simp [intOf]; omega
      · have hcC : c < 32 ∨ 126 < c := by
          rcases Nat.lt_or_ge cn 32 with h | h
          · exact .inl (by show c.toNat < 32; rw [HCN.out]; exact h)
          · exact .inr (by show 126 < c.toNat; rw [HCN.out]; omega)
        have HB := hid hcC; have HAA := hid hcA
        obtain ⟨h, hh⟩ : ∃ h, cn / 16 = h := ⟨_, rfl⟩
        obtain ⟨l, hl⟩ : ∃ l, cn % 16 = l := ⟨_, rfl⟩
        have hh16 : h < 16 := by omega
        have hl16 : l < 16 := by omega
        have HH := hid hh; have HLL := hid hl
        have hdv : (cn : Int).tdiv 16 = (h : Int) := by rw [← hh]; rfl
        have hmd : (cn : Int).tmod 16 = (l : Int) := by rw [← hl]; rfl
        have hxe := lit_ext h hh16
        have lxe := lit_ext l hl16
        have hi16 : (h : Int) + 1 ≤ 16 := by omega
        have hj16 : (l : Int) + 1 ≤ 16 := by omega
        have hsz : h + 1 ≤ 16 := hh16
        have lsz : l + 1 ≤ 16 := hl16
        have cc4 : (⟨#[92, 120]⟩ : ByteArray) ++ strOf [hx h] = strOf [92, 120, hx h] := strOf_app [92, 120] _
        have cc5 : strOf [92, 120, hx h] ++ strOf [hx l] = strOf [92, 120, hx h, hx l] := strOf_app _ _
        have cc6 : strOf q ++ strOf [92, 120, hx h, hx l] = strOf (q ++ [92, 120, hx h, hx l]) := strOf_app _ _
        have zz4 : ¬ 9223372036854775807 < 2 + (strOf [hx h]).size := by have : (strOf [hx h]).size = 1 := rfl; omega
        have zz5 : ¬ 9223372036854775807 < (strOf [92, 120, hx h]).size + (strOf [hx l]).size := by have : (strOf [hx l]).size = 1 := rfl; have : (strOf [92, 120, hx h]).size = 3 := rfl; omega
        have zz6 : ¬ 9223372036854775807 < (strOf q).size + (strOf [92, 120, hx h, hx l]).size := by have : (strOf [92, 120, hx h, hx l]).size = 4 := rfl; have : (strOf q).size = q.length := rfl; omega
        clear h34 h92 hcA hcC hh hl
        by_cases h32 : (32 : Int) ≤ cn
        · have h127 : ¬ (cn : Int) < 127 := by omega
          clear hpr
          go_wp2_with fail
          go_region
          all_goals
            go_wp2_with fail
            go_roundw
            case rel => exact ⟨j + 1, _, by go_num, hjl', rfl, by rw [HNX.out, qB, if_neg HAA.out, if_pos HB.out, HCN.out, HH.out, HLL.out], HO.out.trans ((Only.refl (fun _ => False) wr).drew) (fun _ _ e => e)⟩
            case measure => simp [intOf]; omega
        · clear hpr
          go_wp2_with fail
          go_region
          all_goals
            go_wp2_with fail
            go_roundw
            case rel => exact ⟨j + 1, _, by go_num, hjl', rfl, by rw [HNX.out, qB, if_neg HAA.out, if_pos HB.out, HCN.out, HH.out, HLL.out], HO.out.trans ((Only.refl (fun _ => False) wr).drew) (fun _ _ e => e)⟩
            case measure => simp [intOf]; omega
    · have hje : q = s.flatMap qB := by rw [HQ.out, List.take_of_length_le (by omega)]
      have HF : Hid (quo s = 34 :: (q ++ [34])) := hid (by rw [hje]; rfl)
      have hji : ¬ (j : Int) < (strOf s).size := by omega
      have cc1 : (⟨#[34]⟩ : ByteArray) ++ strOf q = strOf (34 :: q) := strOf_app [34] _
      have cc2 : strOf (34 :: q) ++ (⟨#[34]⟩ : ByteArray) = strOf (34 :: q ++ [34]) := strOf_app _ [34]
      have zz1 : ¬ 9223372036854775807 < 1 + (strOf q).size := by omega
      have zz2 : ¬ 9223372036854775807 < (strOf (34 :: q)).size + 1 := by have : (strOf (34 :: q)).size = q.length + 1 := rfl; omega
      clear hje
      go_wp2_with fail
      go_ret
      rw [HF.out]; exact ⟨rfl, HO.out⟩
end
end Go.Proofs.YtihidpfkdpjdpaaDoor
