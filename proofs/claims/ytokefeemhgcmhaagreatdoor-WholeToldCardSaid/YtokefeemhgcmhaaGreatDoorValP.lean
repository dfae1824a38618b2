/- value.Quote, value.Print. -/
import Derived.Test.YtokefeemhgcmhaaGreatDoorItoa
import Derived.Test.YtokefeemhgcmhaaGreatDoorPrV
import Derived.Test.YtokefeemhgcmhaaGreatDoorValM
import Derived.Test.YtokefeemhgcmhaaGreatDoorVMisc
namespace Go.Proofs.YtokefeemhgcmhaaGreatDoor
open Go.RowKit

section
variable {w : World}
theorem hexAt : ∀ (a : Nat) (h : a < 16), ((⟨#[48, 49, 50, 51, 52, 53, 54, 55, 56, 57, 97, 98, 99, 100, 101, 102]⟩ : ByteArray)[a]'h) = hx a := by decide +kernel
theorem and15 (n : Nat) (h : n < 256) : bits .and .u8 (n : Int) 15 = ((n % 16 : Nat) : Int) := by
  have : ∀ n : Fin 256, bits .and .u8 ((n : Nat) : Int) 15 = (((n : Nat) % 16 : Nat) : Int) := by decide +kernel
  exact this ⟨n, h⟩
theorem flat_qB (s : List UInt8) : (s.flatMap qB).length ≤ 4 * s.length := by
  induction s with
  | nil => simp
  | cons c s ih => rw [List.flatMap_cons, List.length_append, List.length_cons]; have := qB_len c; omega
set_option maxRecDepth 100000 in
set_option maxHeartbeats 1600000 in
theorem quote_c (s : List UInt8) (hs : s.length ≤ 1000000000) : Calls Tryz.prog 27 #[.string (strOf s)] w fun x w' => x = .returned (.string (strOf (quo s))) ∧ Only (fun _ => False) w w' := by
  go_enter Tryz.func27, Tryz.ntmps27
  go_wp2_with fail
  have hg0 : Gr (w.alloc (.cells #[.int .u8 34] 5)) 5 1 (some ⟨w.heap.size, 0, none⟩) 1 1 (bytesV [34]) := ⟨rfl, Nat.le_refl _, .inr ⟨_, rfl, [], (by rw [blk_new]; rfl), rfl⟩⟩
  have HG0 := hid hg0
  have HO0 := hid (only_new w (.cells #[.int .u8 34] 5))
  clear hg0
  go_loopw [4, 3] (fun i v wr => ∃ (j cp n : Nat) (q : List UInt8) (b : Nat), i = .int .i64 j ∧ j ≤ s.length ∧ v = .slice (some ⟨b, 0, none⟩) n cp ∧ q = (s.take j).flatMap qB ∧ n = q.length + 1 ∧ Gr wr 5 1 (some ⟨b, 0, none⟩) n cp (bytesV (34 :: q)) ∧ w.heap.size ≤ b ∧ Only (fun _ => False) w wr) (fun i _ _ => s.length - (intOf i).toNat)
  case atStart => exact ⟨0, 1, 1, [], w.heap.size, rfl, Nat.zero_le _, rfl, rfl, rfl, HG0.out, Nat.le_refl _, HO0.out⟩
  case round =>
    obtain ⟨j, cp, n, q, b, rfl, hj, rfl, hq, hn, hgr, hb, ho⟩ := hrel
    have hql : q.length ≤ 4 * s.length := by
      have h1 := flat_qB (s.take j)
      have h2 : (s.take j).length ≤ s.length := by rw [List.length_take]; omega
      rw [hq]; omega
    have hbl := hgr.lt rfl
    have hnb : n ≤ 4 * s.length + 1 := by omega
    have HQ := hid hq; have HGR := hid hgr; have HO := hid ho; have HN := hid hn
    clear hq hgr ho hn
    by_cases hjl : j < (strOf s).size
    · have hjl' : j < s.length := hjl
      obtain ⟨c, hc⟩ : ∃ c, s[j]? = some c := ⟨_, List.getElem?_eq_getElem hjl'⟩
      have hsc := strOf_at hc hjl
      have HNX : Hid ((s.take (j + 1)).flatMap qB = q ++ qB c) := hid (by rw [flat_take1 (f := qB) hc, HQ.out])
      obtain ⟨cn, rfl⟩ : ∃ n : Nat, c = UInt8.ofNat n := ⟨c.toNat, by simp⟩
      have hcl : (UInt8.ofNat cn).toNat < 256 := UInt8.toNat_lt _
      obtain ⟨c, hcc⟩ : ∃ c, UInt8.ofNat cn = c := ⟨_, rfl⟩
      rw [hcc] at hcl hsc HNX
      clear hcc hc
      obtain ⟨cn, hcn⟩ : ∃ n : Nat, c.toNat = n := ⟨_, rfl⟩
      have hcv : ((((strOf s)[j]'hjl).toNat : Nat) : Int) = (cn : Int) := by rw [hsc, hcn]
      have hct : c = UInt8.ofNat cn := by rw [← hcn]; simp
      rw [hcn] at hcl
      have HCT := hid hct; have HCN := hid hcn
      clear hsc hct hcn
      by_cases h34 : cn = 34
      · subst h34
        have hc34 : c = 34 := HCT.out
        go_wp2_with (refine wpList_gr (o := ⟨some 30, _, _, _, _, _⟩) rfl el8 (.tmp 27) (.tmp 29) rfl (HGR.out.only (only_new wr _) (fun _ _ e => e)) rfl (some ⟨wr.heap.size, 0, none⟩) 2 2 rfl (bytesV [92, 34]) (SrcG.new (T := 5) (fr := (0, 0)) (by rw [blk_new]; rfl) (by simp) (oneCell_bytesV _)) (by omega) (by omega) ?_; intro ao' cp' w9 hg9 ha9 ho9; have HG9 := hid hg9; have HA9 := hid ha9; have HO9 := hid ho9; clear hg9 ha9 ho9)
        go_roundw
        case rel =>
          have hg9 := HG9.out
          rw [← bytesV_append, List.cons_append] at hg9
          have ho9 : Only (fun k => some ⟨b, 0, none⟩ = some (⟨k, 0, none⟩ : Addr)) wr w9 := ((only_new wr _).mono (fun _ _ e => e.elim)).trans HO9.out (fun _ _ e => e)
          have hx : ∃ b', ao' = some ⟨b', 0, none⟩ ∧ w.heap.size ≤ b' := by
            have := HO.out.size
            rcases HA9.out with h | h
            · exact ⟨b, h, hb⟩
            · exact ⟨_, h, by simp; omega⟩
          obtain ⟨b', rfl, hb'⟩ := hx
          refine ⟨j + 1, cp', n + 2, q ++ [92, 34], b', by go_num, hjl', rfl, ?_, by have := HN.out; simp only [List.length_append, List.length_cons, List.length_nil]; omega, hg9, hb', HO.out.trans ho9 (fun k hk e => by simp only [Option.some.injEq, Addr.mk.injEq, and_true] at e; omega)⟩
          · rw [HNX.out, qB, hc34, if_pos (.inl rfl)]
        case measure => simp [intOf]; omega
      by_cases h92 : cn = 92
      · subst h92
        have hc92 : c = 92 := HCT.out
        go_wp2_with (refine wpList_gr (o := ⟨some 30, _, _, _, _, _⟩) rfl el8 (.tmp 27) (.tmp 29) rfl (HGR.out.only (only_new wr _) (fun _ _ e => e)) rfl (some ⟨wr.heap.size, 0, none⟩) 2 2 rfl (bytesV [92, 92]) (SrcG.new (T := 5) (fr := (0, 0)) (by rw [blk_new]; rfl) (by simp) (oneCell_bytesV _)) (by omega) (by omega) ?_; intro ao' cp' w9 hg9 ha9 ho9; have HG9 := hid hg9; have HA9 := hid ha9; have HO9 := hid ho9; clear hg9 ha9 ho9)
        go_roundw
        case rel =>
          have hg9 := HG9.out
          rw [← bytesV_append, List.cons_append] at hg9
          have ho9 : Only (fun k => some ⟨b, 0, none⟩ = some (⟨k, 0, none⟩ : Addr)) wr w9 := ((only_new wr _).mono (fun _ _ e => e.elim)).trans HO9.out (fun _ _ e => e)
          have hx : ∃ b', ao' = some ⟨b', 0, none⟩ ∧ w.heap.size ≤ b' := by
            have := HO.out.size
            rcases HA9.out with h | h
            · exact ⟨b, h, hb⟩
            · exact ⟨_, h, by simp; omega⟩
          obtain ⟨b', rfl, hb'⟩ := hx
          refine ⟨j + 1, cp', n + 2, q ++ [92, 92], b', by go_num, hjl', rfl, ?_, by have := HN.out; simp only [List.length_append, List.length_cons, List.length_nil]; omega, hg9, hb', HO.out.trans ho9 (fun k hk e => by simp only [Option.some.injEq, Addr.mk.injEq, and_true] at e; omega)⟩
          · rw [HNX.out, qB, hc92, if_pos (.inr rfl)]
        case measure => simp [intOf]; omega
      have hcA : ¬ (c = 34 ∨ c = 92) := by
        rintro (h | h)
        · rw [h] at HCN; exact h34 HCN.out.symm
        · rw [h] at HCN; exact h92 HCN.out.symm
      have b34 : ((cn : Int) == 34) = false := by have : ¬ (cn : Int) = 34 := by omega
                                                  simpa using this
      have b92 : ((cn : Int) == 92) = false := by have : ¬ (cn : Int) = 92 := by omega
                                                  simpa using this
      obtain ⟨h, hh⟩ : ∃ h, cn / 16 = h := ⟨_, rfl⟩
      obtain ⟨l, hl⟩ : ∃ l, cn % 16 = l := ⟨_, rfl⟩
      have hh16 : h < 16 := by omega
      have hl16 : l < 16 := by omega
      have hi16 : (h : Int) < 16 := by omega
      have hj16 : (l : Int) < 16 := by omega
      have hdv : (cn : Int) / 16 = (h : Int) := by omega
      have had : bits .and .u8 (cn : Int) 15 = (l : Int) := by rw [← hl]; exact and15 cn hcl
      have hva : (((⟨#[48, 49, 50, 51, 52, 53, 54, 55, 56, 57, 97, 98, 99, 100, 101, 102]⟩ : ByteArray)[h]'hh16).toNat : Int) = ((hx h).toNat : Int) := by rw [hexAt h hh16]
      have hvl : (((⟨#[48, 49, 50, 51, 52, 53, 54, 55, 56, 57, 97, 98, 99, 100, 101, 102]⟩ : ByteArray)[l]'hl16).toNat : Int) = ((hx l).toNat : Int) := by rw [hexAt l hl16]
      by_cases h32 : (cn : Int) < 32
      · clear h34 h92
        have hcC : c < 32 ∨ 126 < c := .inl (by show c.toNat < 32; rw [HCN.out]; omega)
        go_wp2_with fail
        go_region_law (first
          | (refine step_of rfl (wp_gr (o := ⟨some 46, _, _, _, _, _⟩) el8 (.tmp 38) (.tmp 45) rfl (HGR.out.only (only_new wr _).drew (fun _ _ e => e)) rfl _ 4 4 rfl (bytesV [92, 120, hx h, hx l]) (SrcG.new (T := 5) (fr := (0, 0)) ((blk_new wr _).trans rfl) (by simp) (oneCell_bytesV _)) (by omega) (by omega) ?_); intro ao' cp' w9 hg9 ha9 ho9; have HG9 := hid hg9; have HA9 := hid ha9; have HO9 := hid ho9; clear hg9 ha9 ho9))
        all_goals
          go_wp2_with fail
          go_roundw
          case rel =>
            have hg9 := HG9.out
            rw [← bytesV_append, List.cons_append] at hg9
            have ho9 : Only (fun k => some ⟨b, 0, none⟩ = some (⟨k, 0, none⟩ : Addr)) wr w9 := ((only_new wr _).drew.mono (fun _ _ e => e.elim)).trans HO9.out (fun _ _ e => e)
            have hx : ∃ b', ao' = some ⟨b', 0, none⟩ ∧ w.heap.size ≤ b' := by
              have := HO.out.size
              rcases HA9.out with h | h
              · exact ⟨b, h, hb⟩
              · exact ⟨_, h, by simp; omega⟩
            obtain ⟨b', rfl, hb'⟩ := hx
            refine ⟨j + 1, cp', n + 4, q ++ [92, 120, hx h, hx l], b', by go_num, hjl', rfl, ?_, by have := HN.out; simp only [List.length_append, List.length_cons, List.length_nil]; omega, hg9, hb', HO.out.trans ho9 (fun k hk e => by simp only [Option.some.injEq, Addr.mk.injEq, and_true] at e; omega)⟩
            · rw [HNX.out, qB, if_neg hcA, if_pos hcC, HCN.out, hh, hl]
          case measure => simp [intOf]; omega
      by_cases h126 : (126 : Int) < cn
      · clear h34 h92
        have hcC : c < 32 ∨ 126 < c := .inr (by show 126 < c.toNat; rw [HCN.out]; omega)
        go_wp2_with fail
        go_region_law (first
          | (refine step_of rfl (wp_gr (o := ⟨some 46, _, _, _, _, _⟩) el8 (.tmp 38) (.tmp 45) rfl (HGR.out.only (only_new wr _).drew (fun _ _ e => e)) rfl _ 4 4 rfl (bytesV [92, 120, hx h, hx l]) (SrcG.new (T := 5) (fr := (0, 0)) ((blk_new wr _).trans rfl) (by simp) (oneCell_bytesV _)) (by omega) (by omega) ?_); intro ao' cp' w9 hg9 ha9 ho9; have HG9 := hid hg9; have HA9 := hid ha9; have HO9 := hid ho9; clear hg9 ha9 ho9))
        all_goals
          go_wp2_with fail
          go_roundw
          case rel =>
            have hg9 := HG9.out
            rw [← bytesV_append, List.cons_append] at hg9
            have ho9 : Only (fun k => some ⟨b, 0, none⟩ = some (⟨k, 0, none⟩ : Addr)) wr w9 := ((only_new wr _).drew.mono (fun _ _ e => e.elim)).trans HO9.out (fun _ _ e => e)
            have hx : ∃ b', ao' = some ⟨b', 0, none⟩ ∧ w.heap.size ≤ b' := by
              have := HO.out.size
              rcases HA9.out with h | h
              · exact ⟨b, h, hb⟩
              · exact ⟨_, h, by simp; omega⟩
            obtain ⟨b', rfl, hb'⟩ := hx
            refine ⟨j + 1, cp', n + 4, q ++ [92, 120, hx h, hx l], b', by go_num, hjl', rfl, ?_, by have := HN.out; simp only [List.length_append, List.length_cons, List.length_nil]; omega, hg9, hb', HO.out.trans ho9 (fun k hk e => by simp only [Option.some.injEq, Addr.mk.injEq, and_true] at e; omega)⟩
            · rw [HNX.out, qB, if_neg hcA, if_pos hcC, HCN.out, hh, hl]
          case measure => simp [intOf]; omega
      have hcB : ¬ (c < 32 ∨ 126 < c) := by
        rintro (h | h)
        · have h' : c.toNat < 32 := h
          rw [HCN.out] at h'; omega
        · have h' : 126 < c.toNat := h
          rw [HCN.out] at h'; omega
      clear h34 h92
      go_wp2_with (refine wpList_gr (o := ⟨some 19, _, _, _, _, _⟩) rfl el8 (.tmp 16) (.tmp 18) rfl (HGR.out.only (only_new wr _) (fun _ _ e => e)) rfl (some ⟨wr.heap.size, 0, none⟩) 1 1 rfl (bytesV [c]) (SrcG.new (T := 5) (fr := (0, 0)) (by rw [blk_new]; simp [bytesV, HCN.out]) (by simp) (oneCell_bytesV _)) (by omega) (by omega) ?_; intro ao' cp' w9 hg9 ha9 ho9; have HG9 := hid hg9; have HA9 := hid ha9; have HO9 := hid ho9; clear hg9 ha9 ho9)
      go_roundw
      case rel =>
        have hg9 := HG9.out
        rw [← bytesV_append, List.cons_append] at hg9
        have ho9 : Only (fun k => some ⟨b, 0, none⟩ = some (⟨k, 0, none⟩ : Addr)) wr w9 := ((only_new wr _).mono (fun _ _ e => e.elim)).trans HO9.out (fun _ _ e => e)
        have hx : ∃ b', ao' = some ⟨b', 0, none⟩ ∧ w.heap.size ≤ b' := by
          have := HO.out.size
          rcases HA9.out with h | h
          · exact ⟨b, h, hb⟩
          · exact ⟨_, h, by simp; omega⟩
        obtain ⟨b', rfl, hb'⟩ := hx
        refine ⟨j + 1, cp', n + 1, q ++ [c], b', by go_num, hjl', rfl, ?_, by have := HN.out; simp only [List.length_append, List.length_cons, List.length_nil]; omega, hg9, hb', HO.out.trans ho9 (fun k hk e => by simp only [Option.some.injEq, Addr.mk.injEq, and_true] at e; omega)⟩
        · rw [HNX.out, qB, if_neg hcA, if_neg hcB]
      case measure => simp [intOf]; omega
    · have hje : q = s.flatMap qB := by rw [HQ.out, List.take_of_length_le (by have : (strOf s).size = s.length := rfl; omega)]
      have hji : ¬ (j : Int) < (strOf s).size := by omega
      go_wp2_with (refine wpList_gr (o := ⟨some 49, _, _, _, _, _⟩) rfl el8 (.tmp 47) (.tmp 48) rfl (HGR.out.only (only_new wr _) (fun _ _ e => e)) rfl (some ⟨wr.heap.size, 0, none⟩) 1 1 rfl (bytesV [34]) (SrcG.new (T := 5) (fr := (0, 0)) (by rw [blk_new]; rfl) (by simp) (oneCell_bytesV _)) (by omega) (by omega) ?_; intro ao' cp' w9 hg9 ha9 ho9; have hg9b := hg9; rw [← bytesV_append] at hg9b; have hcv := conv_str hg9b.src; clear hg9b; have HG9 := hid hg9; have HA9 := hid ha9; have HO9 := hid ho9; clear hg9 ha9 ho9)
      go_ret
      refine ⟨?_, HO.out.trans (((only_new wr _).mono (fun _ _ e => e.elim)).trans HO9.out (fun _ _ e => e)) (fun k hk e => by simp only [Option.some.injEq, Addr.mk.injEq, and_true] at e; omega)⟩
      exact rfl
end
end Go.Proofs.YtokefeemhgcmhaaGreatDoor
