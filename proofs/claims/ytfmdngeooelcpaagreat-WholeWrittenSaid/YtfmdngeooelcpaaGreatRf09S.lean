/- foliotref03.Compare, foliotref09.Same. event.Same. foliotref09.Same. -/
import Derived.Test.YtfmdngeooelcpaaGreatCmp
import Derived.Test.YtfmdngeooelcpaaGreatEvA
namespace Go.Proofs.YtfmdngeooelcpaaGreat
open Go.RowKit

end Go.Proofs.YtfmdngeooelcpaaGreat
namespace Go.Proofs.YtfmdngeooelcpaaGreat
open Go.RowKit
section
variable {w : World}
set_option maxRecDepth 100000 in
set_option maxHeartbeats 3200000 in
theorem esame_c {e f : EM} {G H : Nat → Prop} {cs ds : List Value} (hV : EAt w G e cs) (hU : EAt w H f ds) (hg : e.v.rg) (hh : f.v.rg) :
    Calls Tryz.prog 41 #[.agg cs.toArray, .agg ds.toArray] w fun x w' => x = .returned (.bool (e.same f)) ∧ Only (fun _ => False) w w' := by
  obtain ⟨k, n, s, a, m, c, rfl, hv⟩ := hV.form
  obtain ⟨k', n', s', a', m', c', rfl, hu⟩ := hU.form
  obtain ⟨id, tm, kd, ea, eb, nm, tx, v⟩ := e
  obtain ⟨id', tm', kd', ea', eb', nm', tx', v'⟩ := f
  have ho := ((only_new w (.cells #[.int .i64 id, .int .i64 tm, .int .i64 kd, .int .i64 ea, .int .i64 eb, .string (strOf nm), .string (strOf tx), .int .i64 k, .int .i64 n, .string (strOf s), .slice a m c] 43)).trans (only_new _ (.cells #[.int .i64 id', .int .i64 tm', .int .i64 kd', .int .i64 ea', .int .i64 eb', .string (strOf nm'), .string (strOf tx'), .int .i64 k', .int .i64 n', .string (strOf s'), .slice a' m' c'] 43)) (fun _ _ e => e))
  have HI := hid (vsame_c (hv.same ho) (hu.same ho) hg hh)
  have HO := hid ho
  have HS : Hid ((⟨id, tm, kd, ea, eb, nm, tx, v⟩ : EM).same ⟨id', tm', kd', ea', eb', nm', tx', v'⟩ = (id == id' && tm == tm' && kd == kd' && ea == ea' && eb == eb' && nm == nm' && tx == tx' && v.cmp v' == 0)) := hid rfl
  obtain ⟨z, hz⟩ : ∃ z, (v.cmp v' == 0) = z := ⟨_, rfl⟩
  rw [hz] at HI HS
  clear ho hV hU hg hh hv hu hz
  by_cases qid : id = id'
  · have bid : (id == id') = true := by simpa using qid
    have Sid := hid bid
    clear qid
    by_cases qtm : tm = tm'
    · have btm : (tm == tm') = true := by simpa using qtm
      have Stm := hid btm
      clear qtm
      by_cases qkd : kd = kd'
      · have bkd : (kd == kd') = true := by simpa using qkd
        have Skd := hid bkd
        clear qkd
        by_cases qea : ea = ea'
        · have bea : (ea == ea') = true := by simpa using qea
          have Sea := hid bea
          clear qea
          by_cases qeb : eb = eb'
          · have beb : (eb == eb') = true := by simpa using qeb
            have Seb := hid beb
            clear qeb
            by_cases qnm : nm = nm'
            · have bnm : ((strOf nm).toList == (strOf nm').toList) = true := by rw [strOf_list, strOf_list]; simpa using qnm
              have Snm := hid (show (nm == nm') = true by simpa using qnm)
              clear qnm
              by_cases qtx : tx = tx'
              · have btx : ((strOf tx).toList == (strOf tx').toList) = true := by rw [strOf_list, strOf_list]; simpa using qtx
                have Stx := hid (show (tx == tx') = true by simpa using qtx)
                clear qtx
                have HF := hid (show ((⟨id, tm, kd, ea, eb, nm, tx, v⟩ : EM).same ⟨id', tm', kd', ea', eb', nm', tx', v'⟩) = z by rw [HS.out, Sid.out, Stm.out, Skd.out, Sea.out, Seb.out, Snm.out, Stx.out]; simp)
                go_enter Tryz.func41, Tryz.ntmps41
                go_wp2_with fail
                refine HI.out.mono ?_
                rintro x w2 ⟨rfl, ho2⟩
                have HO2 := hid ho2
                clear ho2
                go_wp2_with fail
                go_ret
                rw [HF.out]; exact ⟨rfl, HO.out.trans HO2.out (fun _ _ e => e)⟩
              · have btx : ((strOf tx).toList == (strOf tx').toList) = false := by rw [strOf_list, strOf_list]; simpa using qtx
                have HF := hid (show ((⟨id, tm, kd, ea, eb, nm, tx, v⟩ : EM).same ⟨id', tm', kd', ea', eb', nm', tx', v'⟩) = false by rw [HS.out, show (tx == tx') = false by simpa using qtx]; simp)
                clear qtx
                go_enter Tryz.func41, Tryz.ntmps41
                go_wp2_with fail
                go_ret
                rw [HF.out]; exact ⟨rfl, HO.out⟩
            · have bnm : ((strOf nm).toList == (strOf nm').toList) = false := by rw [strOf_list, strOf_list]; simpa using qnm
              have HF := hid (show ((⟨id, tm, kd, ea, eb, nm, tx, v⟩ : EM).same ⟨id', tm', kd', ea', eb', nm', tx', v'⟩) = false by rw [HS.out, show (nm == nm') = false by simpa using qnm]; simp)
              clear qnm
              go_enter Tryz.func41, Tryz.ntmps41
              go_wp2_with fail
              go_ret
              rw [HF.out]; exact ⟨rfl, HO.out⟩
          · have beb : (eb == eb') = false := by simpa using qeb
            have HF := hid (show ((⟨id, tm, kd, ea, eb, nm, tx, v⟩ : EM).same ⟨id', tm', kd', ea', eb', nm', tx', v'⟩) = false by rw [HS.out, show (eb == eb') = false by simpa using qeb]; simp)
            clear qeb
            go_enter Tryz.func41, Tryz.ntmps41
            go_wp2_with fail
            go_ret
            rw [HF.out]; exact ⟨rfl, HO.out⟩
        · have bea : (ea == ea') = false := by simpa using qea
          have HF := hid (show ((⟨id, tm, kd, ea, eb, nm, tx, v⟩ : EM).same ⟨id', tm', kd', ea', eb', nm', tx', v'⟩) = false by rw [HS.out, show (ea == ea') = false by simpa using qea]; simp)
          clear qea
          go_enter Tryz.func41, Tryz.ntmps41
          go_wp2_with fail
          go_ret
          rw [HF.out]; exact ⟨rfl, HO.out⟩
      · have bkd : (kd == kd') = false := by simpa using qkd
        have HF := hid (show ((⟨id, tm, kd, ea, eb, nm, tx, v⟩ : EM).same ⟨id', tm', kd', ea', eb', nm', tx', v'⟩) = false by rw [HS.out, show (kd == kd') = false by simpa using qkd]; simp)
        clear qkd
        go_enter Tryz.func41, Tryz.ntmps41
        go_wp2_with fail
        go_ret
        rw [HF.out]; exact ⟨rfl, HO.out⟩
    · have btm : (tm == tm') = false := by simpa using qtm
      have HF := hid (show ((⟨id, tm, kd, ea, eb, nm, tx, v⟩ : EM).same ⟨id', tm', kd', ea', eb', nm', tx', v'⟩) = false by rw [HS.out, show (tm == tm') = false by simpa using qtm]; simp)
      clear qtm
      go_enter Tryz.func41, Tryz.ntmps41
      go_wp2_with fail
      go_ret
      rw [HF.out]; exact ⟨rfl, HO.out⟩
  · have bid : (id == id') = false := by simpa using qid
    have HF := hid (show ((⟨id, tm, kd, ea, eb, nm, tx, v⟩ : EM).same ⟨id', tm', kd', ea', eb', nm', tx', v'⟩) = false by rw [HS.out, show (id == id') = false by simpa using qid]; simp)
    clear qid
    go_enter Tryz.func41, Tryz.ntmps41
    go_wp2_with fail
    go_ret
    rw [HF.out]; exact ⟨rfl, HO.out⟩
end
end Go.Proofs.YtfmdngeooelcpaaGreat
namespace Go.Proofs.YtfmdngeooelcpaaGreat
open Go.RowKit
end Go.Proofs.YtfmdngeooelcpaaGreat
