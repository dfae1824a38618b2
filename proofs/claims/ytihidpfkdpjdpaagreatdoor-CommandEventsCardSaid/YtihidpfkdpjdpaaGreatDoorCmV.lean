/- command.Same, command.Saturate, command.Made. -/
import Derived.Test.YtihidpfkdpjdpaaGreatDoorCmA
import Derived.Test.YtihidpfkdpjdpaaGreatDoorESame
namespace Go.Proofs.YtihidpfkdpjdpaaGreatDoor
open Go.RowKit
section
variable {w : World}
set_option maxRecDepth 100000 in
set_option maxHeartbeats 3200000 in
theorem csame_c {e f : EM} {G H : Nat → Prop} {cs ds : List Value} (hV : CAt w G e cs) (hU : CAt w H f ds) (hg : e.v.rg) (hh : f.v.rg) (ce : e.isC) (cf : f.isC) :
    Calls Tryz.prog 17 #[.agg cs.toArray, .agg ds.toArray] w fun x w' => x = .returned (.bool (e.same f)) ∧ Only (fun _ => False) w w' := by
  obtain ⟨k, n, s, a, m, c, rfl, hv⟩ := hV.form
  obtain ⟨k', n', s', a', m', c', rfl, hu⟩ := hU.form
  obtain ⟨id, tm, kd, ea, eb, nm, tx, v⟩ := e
  obtain ⟨id', tm', kd', ea', eb', nm', tx', v'⟩ := f
  obtain ⟨c1, c2⟩ := ce
  obtain ⟨d1, d2⟩ := cf
  simp only at c1 c2 d1 d2
  subst c1 c2 d1 d2
  have ho := ((only_new w (.cells #[.int .i64 kd, .int .i64 tm, .int .i64 ea, .int .i64 eb, .string (strOf nm), .int .i64 k, .int .i64 n, .string (strOf s), .slice a m c] 26)).trans (only_new _ (.cells #[.int .i64 kd', .int .i64 tm', .int .i64 ea', .int .i64 eb', .string (strOf nm'), .int .i64 k', .int .i64 n', .string (strOf s'), .slice a' m' c'] 26)) (fun _ _ e => e))
  have HI := hid (vsame_c (hv.same ho) (hu.same ho) hg hh)
  have HO := hid ho
  have HS : Hid ((⟨0, tm, kd, ea, eb, nm, [], v⟩ : EM).same ⟨0, tm', kd', ea', eb', nm', [], v'⟩ = (kd == kd' && tm == tm' && ea == ea' && eb == eb' && nm == nm' && v.cmp v' == 0)) := hid (by
    show ((0 : Int) == 0 && tm == tm' && kd == kd' && ea == ea' && eb == eb' && nm == nm' && (([] : List UInt8) == []) && v.cmp v' == 0) = _
    generalize (tm == tm') = p1
    generalize (kd == kd') = p2
    generalize (ea == ea') = p3
    generalize (eb == eb') = p4
    generalize (nm == nm') = p5
    generalize (v.cmp v' == 0) = p6
    cases p1 <;> cases p2 <;> cases p3 <;> cases p4 <;> cases p5 <;> cases p6 <;> rfl)
  obtain ⟨z, hz⟩ : ∃ z, (v.cmp v' == 0) = z := ⟨_, rfl⟩
  rw [hz] at HI HS
  clear ho hV hU hg hh hv hu hz
  by_cases qkd : kd = kd'
  · have bkd : (kd == kd') = true := by simpa using qkd
    have Skd := hid bkd
    clear qkd
    by_cases qtm : tm = tm'
    · have btm : (tm == tm') = true := by simpa using qtm
      have Stm := hid btm
      clear qtm
      by_cases qea : ea = ea'
      · have bea : (ea == ea') = true := by simpa using qea
        have Sea := hid bea
        clear qea
        by_cases qeb : eb = eb'
        · have beb : (eb == eb') = true := by simpa using qeb
          have Seb := hid beb
          clear qeb
          by_cases qnm : nm = nm'
          · have bnm : ((strOf nm).toList == (strOf nm').toList) = true := by rw [strOf_list, strOf_list]; simpa using qnm
            have Snm := hid (show (nm == nm') = true by simpa using qnm)
            clear qnm
            have HF := hid (show ((⟨0, tm, kd, ea, eb, nm, [], v⟩ : EM).same ⟨0, tm', kd', ea', eb', nm', [], v'⟩) = z by rw [HS.out, Skd.out, Stm.out, Sea.out, Seb.out, Snm.out]; simp)
            go_enter Tryz.func17, Tryz.ntmps17
            go_wp2_with fail
            refine HI.out.mono ?_
            rintro x w2 ⟨rfl, ho2⟩
            have HO2 := hid ho2
            clear ho2
            go_wp2_with fail
            go_ret
            rw [HF.out]; exact ⟨rfl, HO.out.trans HO2.out (fun _ _ e => e)⟩
          · have bnm : ((strOf nm).toList == (strOf nm').toList) = false := by rw [strOf_list, strOf_list]; simpa using qnm
            have HF := hid (show ((⟨0, tm, kd, ea, eb, nm, [], v⟩ : EM).same ⟨0, tm', kd', ea', eb', nm', [], v'⟩) = false by rw [HS.out, show (nm == nm') = false by simpa using qnm]; simp)
            clear qnm
            go_enter Tryz.func17, Tryz.ntmps17
            go_wp2_with fail
            go_ret
            rw [HF.out]; exact ⟨rfl, HO.out⟩
        · have beb : (eb == eb') = false := by simpa using qeb
          have HF := hid (show ((⟨0, tm, kd, ea, eb, nm, [], v⟩ : EM).same ⟨0, tm', kd', ea', eb', nm', [], v'⟩) = false by rw [HS.out, show (eb == eb') = false by simpa using qeb]; simp)
          clear qeb
          go_enter Tryz.func17, Tryz.ntmps17
          go_wp2_with fail
          go_ret
          rw [HF.out]; exact ⟨rfl, HO.out⟩
      · have bea : (ea == ea') = false := by simpa using qea
        have HF := hid (show ((⟨0, tm, kd, ea, eb, nm, [], v⟩ : EM).same ⟨0, tm', kd', ea', eb', nm', [], v'⟩) = false by rw [HS.out, show (ea == ea') = false by simpa using qea]; simp)
        clear qea
        go_enter Tryz.func17, Tryz.ntmps17
        go_wp2_with fail
        go_ret
        rw [HF.out]; exact ⟨rfl, HO.out⟩
    · have btm : (tm == tm') = false := by simpa using qtm
      have HF := hid (show ((⟨0, tm, kd, ea, eb, nm, [], v⟩ : EM).same ⟨0, tm', kd', ea', eb', nm', [], v'⟩) = false by rw [HS.out, show (tm == tm') = false by simpa using qtm]; simp)
      clear qtm
      go_enter Tryz.func17, Tryz.ntmps17
      go_wp2_with fail
      go_ret
      rw [HF.out]; exact ⟨rfl, HO.out⟩
  · have bkd : (kd == kd') = false := by simpa using qkd
    have HF := hid (show ((⟨0, tm, kd, ea, eb, nm, [], v⟩ : EM).same ⟨0, tm', kd', ea', eb', nm', [], v'⟩) = false by rw [HS.out, show (kd == kd') = false by simpa using qkd]; simp)
    clear qkd
    go_enter Tryz.func17, Tryz.ntmps17
    go_wp2_with fail
    go_ret
    rw [HF.out]; exact ⟨rfl, HO.out⟩
set_option maxRecDepth 100000 in
theorem satu_c (now t : Int) (g1 : -9223372036854775808 ≤ now ∧ now ≤ 9223372036854775807) (g2 : -9223372036854775808 ≤ t ∧ t ≤ 9223372036854775807) : Calls Tryz.prog 22 #[.int .i64 now, .int .i64 t] w fun x w' => x = .returned (.int .i64 (satu now t)) ∧ w = w' := by
  by_cases h1 : now < 0
  · have HF : Hid (satu now t = 0) := hid (by unfold satu; rw [if_pos (.inl h1)])
    go_enter Tryz.func22, Tryz.ntmps22
    go_wp2_with fail
    go_ret
    rw [HF.out]; exact ⟨rfl, rfl⟩
  by_cases h2 : t < 0
  · have HF : Hid (satu now t = 0) := hid (by unfold satu; rw [if_pos (.inr h2)])
    go_enter Tryz.func22, Tryz.ntmps22
    go_wp2_with fail
    go_ret
    rw [HF.out]; exact ⟨rfl, rfl⟩
  by_cases h3 : 4611686018427387903 ≤ now
  · have HF : Hid (satu now t = 4611686018427387903) := hid (by unfold satu; rw [if_neg (by omega), if_pos (.inl h3)])
    go_enter Tryz.func22, Tryz.ntmps22
    go_wp2_with fail
    go_ret
    rw [HF.out]; exact ⟨rfl, rfl⟩
  by_cases h4 : 4611686018427387903 - now < t
  · have HF : Hid (satu now t = 4611686018427387903) := hid (by unfold satu; rw [if_neg (by omega), if_pos (.inr h4)])
    go_enter Tryz.func22, Tryz.ntmps22
    go_wp2_with fail
    go_ret
    rw [HF.out]; exact ⟨rfl, rfl⟩
  have HF : Hid (satu now t = now + t) := hid (by unfold satu; rw [if_neg (by omega), if_neg (by omega)])
  go_enter Tryz.func22, Tryz.ntmps22
  go_wp2_with fail
  go_ret
  rw [HF.out]; exact ⟨rfl, rfl⟩
set_option maxRecDepth 100000 in
theorem cmade_c {G : Nat → Prop} {e : EM} {cs : List Value} (hE : EAt w G e cs) : Calls Tryz.prog 12 #[.agg cs.toArray] w fun x w' => x = .returned (.bool (madeB e.k)) ∧ Only (fun _ => False) w w' := by
  obtain ⟨vk, vn, vs, va, vm, vc, rfl, -⟩ := hE.form
  obtain ⟨id, tm, k, a, b, nn, tt, v⟩ := e
  have HO := hid (only_new w (.cells #[.int .i64 id, .int .i64 tm, .int .i64 k, .int .i64 a, .int .i64 b, .string (strOf nn), .string (strOf tt), .int .i64 vk, .int .i64 vn, .string (strOf vs), .slice va vm vc] 31))
  clear hE
  simp only
  by_cases h11 : k = 11
  · subst h11
    have HF : Hid (madeB 11 = true) := hid rfl
    go_enter Tryz.func12, Tryz.ntmps12
    go_wp2_with fail
    go_ret
    rw [HF.out]; exact ⟨rfl, HO.out⟩
  have b11 : (k == 11) = false := by simpa using h11
  by_cases h13 : k = 13
  · subst h13
    have HF : Hid (madeB 13 = true) := hid rfl
    go_enter Tryz.func12, Tryz.ntmps12
    go_wp2_with fail
    go_ret
    rw [HF.out]; exact ⟨rfl, HO.out⟩
  have b13 : (k == 13) = false := by simpa using h13
  by_cases h7 : k = 7
  · subst h7
    have HF : Hid (madeB 7 = true) := hid rfl
    go_enter Tryz.func12, Tryz.ntmps12
    go_wp2_with fail
    go_ret
    rw [HF.out]; exact ⟨rfl, HO.out⟩
  have b7 : (k == 7) = false := by simpa using h7
  by_cases h16 : k = 16
  · subst h16
    have HF : Hid (madeB 16 = true) := hid rfl
    go_enter Tryz.func12, Tryz.ntmps12
    go_wp2_with fail
    go_ret
    rw [HF.out]; exact ⟨rfl, HO.out⟩
  have b16 : (k == 16) = false := by simpa using h16
  by_cases h17 : k = 17
  · subst h17
    have HF : Hid (madeB 17 = true) := hid rfl
    go_enter Tryz.func12, Tryz.ntmps12
    go_wp2_with fail
    go_ret
    rw [HF.out]; exact ⟨rfl, HO.out⟩
  have b17 : (k == 17) = false := by simpa using h17
  by_cases h21 : k = 21
  · subst h21
    have HF : Hid (madeB 21 = true) := hid rfl
    go_enter Tryz.func12, Tryz.ntmps12
    go_wp2_with fail
    go_ret
    rw [HF.out]; exact ⟨rfl, HO.out⟩
  have b21 : (k == 21) = false := by simpa using h21
  have HF : Hid (madeB k = false) := hid (by unfold madeB; rw [b7, b11, b13, b16, b17, b21]; rfl)
  clear h7 h11 h13 h16 h17 h21
  go_enter Tryz.func12, Tryz.ntmps12
  go_wp2_with fail
  go_ret
  rw [HF.out]; exact ⟨rfl, HO.out⟩
end
end Go.Proofs.YtihidpfkdpjdpaaGreatDoor
