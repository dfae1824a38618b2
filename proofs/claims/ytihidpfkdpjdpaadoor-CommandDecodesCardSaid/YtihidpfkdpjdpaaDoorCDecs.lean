/- CommandDecodes's walk. -/
import Derived.Test.YtihidpfkdpjdpaaDoorWants
import Derived.Test.YtihidpfkdpjdpaaDoorRf10
import Derived.Test.YtihidpfkdpjdpaaDoorOpenC
namespace Go.Proofs.YtihidpfkdpjdpaaDoor
open Go.RowKit
theorem cd_no {l : List UInt8} (h : (cdR l).2 ≠ 0) : (cdR l).1 = [] := by
  unfold cdR at h ⊢
  by_cases h1 : (rdCs ((RdM.of l).num 256).1 ((RdM.of l).num 256).2).2.done ≠ 0
  · rw [if_pos h1]
  rw [if_neg h1] at h ⊢
  by_cases h2 : cAll (rdCs ((RdM.of l).num 256).1 ((RdM.of l).num 256).2).1 ≠ 0
  · rw [if_pos h2]
  rw [if_neg h2] at h
  exact absurd rfl h
section
variable {w : World}
set_option maxRecDepth 100000 in
set_option maxHeartbeats 3200000 in
theorem cdecodes_c (hT : Tab w) {v : Value} {l : List UInt8} (hs : Src w v l) : Calls Tryd.prog 4 #[v] w fun x w' => x = .returned (.bool true) ∧ Only (fun _ => False) w w' := by
  have HTL := hid (wants_c hT)
  have HS := hid hs
  obtain ⟨a0, cp0, rfl⟩ := hs.len
  clear hT hs
  go_enter Tryd.func4, Tryd.ntmps4
  go_wp2_with fail
  refine HTL.out.mono ?_
  rintro x w1 ⟨rfl, ho1⟩
  have HO1 := hid ho1
  have HS1 := hid (HS.out.same ho1)
  clear ho1 HTL
  by_cases h1000 : 1000 < (l.length : Int)
  · go_wp2_with fail
    go_ret
    exact ⟨rfl, HO1.out⟩
  have HD := hid (cdecode_c HS1.out (by omega))
  have hok := cd_inv (b := l)
  have hno := cd_no (l := l)
  go_wp2_with fail
  refine HD.out.mono ?_
  rintro x w2 ⟨v2, rfl, hcm, ho2, hrg⟩
  obtain ⟨⟨es, d⟩, hde⟩ : ∃ x, cdR l = x := ⟨_, rfl⟩
  rw [hde] at hok hno hcm hrg ⊢
  simp only at hok hno hcm hrg ⊢
  obtain ⟨ea, ec, rfl⟩ := hcm.len
  have HO2 := hid (HO1.out.trans ho2 (fun _ _ e => e))
  have HS2 := hid (HS1.out.same ho2)
  have HCM := hid hcm; have HRG := hid hrg
  clear hcm ho2 HD hde hrg
  by_cases hd : d = 0
  · subst hd
    obtain ⟨hca, hwr, -⟩ := hok rfl
    have hl6 := (cgood_of hca).1
    have HCA := hid hca; have HWR := hid hwr
    have HEN := hid (cencode_c HCM.out (fun k hk => hk.2) HRG.out (by omega))
    clear hok hno hca hwr
    go_wp2_with fail
    refine HEN.out.mono ?_
    rintro x w4 ⟨v4, rfl, hv4⟩
    rw [HCA.out, if_pos rfl, HWR.out] at hv4
    rw [HCA.out]
    obtain ⟨ao, cp, rfl, hgr, -, ho4⟩ := hv4
    have HS4 := hid hgr.src
    have HO4 := hid (HO2.out.trans ho4 (fun _ _ e => e))
    have HS5 := hid (HS2.out.same ho4)
    have HRC := hid (r10all_c (HCM.out.same ho4) (fun k hk => by have h1 : k < w2.heap.size := hk.2; have := ho4.size; omega) (fun e he => (HRG.out e he).1) (by omega))
    rw [HCA.out] at HRC
    clear hgr ho4 HEN
    go_wp2_with fail
    refine HRC.out.mono ?_
    rintro x w6 ⟨rfl, ho6⟩
    have HO6 := hid (HO4.out.trans ho6 (fun _ _ e => e))
    have hcv1 := conv_str (HS4.out.same ho6)
    have hcv2 := conv_str (HS5.out.same ho6)
    clear ho6 HRC
    go_wp2_with fail
    go_ret
    exact ⟨rfl, HO6.out⟩
  · have hdb : (d != 0) = true := by simpa using hd
    have hz := hno hd
    subst hz
    clear hok hno hd
    go_wp2_with fail
    go_ret
    exact ⟨rfl, HO2.out⟩
end
end Go.Proofs.YtihidpfkdpjdpaaDoor
