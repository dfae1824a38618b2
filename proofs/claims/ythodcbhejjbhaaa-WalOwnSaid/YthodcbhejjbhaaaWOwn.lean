/- WalOwn's walk. -/
import Derived.Test.YthodcbhejjbhaaaWlB
import Derived.Test.YthodcbhejjbhaaaBytes
import Derived.Test.YthodcbhejjbhaaaAddb
import Derived.Test.YthodcbhejjbhaaaPg
namespace Go.Proofs.Ythodcbhejjbhaaa
open Go.RowKit
theorem info_fr : (Try.prog.info? 38).map (·.size) = some 2 := by kernel_rfl
section
variable {w : World}
set_option maxRecDepth 100000 in
set_option maxHeartbeats 6400000 in
theorem walown_c {s : List UInt8} {pa : Option Addr} {pc : Nat} (hs : Src w (.slice pa s.length pc) s) (hsl : s.length ≤ 9223372036854775807) : Calls Try.prog 4 #[.slice pa s.length pc] w fun x w' => x = .returned (.bool true) ∧ Only (fun _ => False) w w' := by
  have HS := hid hs
  have hpl : s ≠ [] → ∀ g o, pa = some ⟨g, o, none⟩ → g < w.heap.size := fun hne g o e => by
    obtain ⟨a, c, e1, h2⟩ := hs
    obtain ⟨g0, o0, e2, hc⟩ := h2 hne
    simp only [Value.slice.injEq, true_and] at e1
    rw [← e1.1, e] at e2
    simp only [Option.some.injEq, Addr.mk.injEq, and_true] at e2
    obtain ⟨rfl, rfl⟩ := e2
    have hp0 : 0 < (bytesV s).length := by simpa using List.length_pos_iff.2 hne
    exact World.block_lt_of_cell? _ _ (hc 0 _ (List.getElem?_eq_getElem hp0))
  have HPL := hid hpl
  clear hs hpl
  go_enter Try.func4, Try.ntmps4
  go_wp2_with fail
  refine logs_c.mono ?_
  rintro x w1 ⟨rfl, ho1⟩
  have HO1 := hid ho1
  clear ho1
  by_cases h5 : (500 : Int) < s.length
  · go_wp2_with fail
    go_ret
    exact ⟨rfl, HO1.out⟩
  have hs5 : s.length ≤ 500 := by omega
  have HNW : Hid (Calls Try.prog 10 #[.int .i64 34] w1 fun e w' => ∃ b F, e = .returned (.tuple #[.pointer (some ⟨b, 0, none⟩), .int .i64 0]) ∧ DiskAt w' b (DiskM.new 34) F ∧ Only (fun _ => False) w1 w' ∧ ∀ k, F k → w1.heap.size ≤ k) := hid (new_ok w1 34 (by decide) (by decide))
  go_wp2_with fail
  refine HNW.out.mono ?_
  rintro x w2 ⟨b, FD, rfl, hd, ho2, hf2⟩
  have HP0 := hid (LP.new (sg := 2) (n := 34) (by decide) (by decide) (by decide))
  have HOP := hid (lopen_c (w0 := w) hd (fun k hk => Nat.le_trans HO1.out.size (hf2 k hk)) (HO1.out.trans ho2 (fun _ _ e => e)) HP0.out (by decide))
  clear hd ho2 hf2 HNW
  go_wp2_with fail
  refine HOP.out.mono ?_
  rintro x w3 ⟨v3, l, r, lo3, F3, rfl, hl3, -, hfo3, -, -, -⟩
  obtain ⟨ao3, cap3, xs3, rfl, -⟩ := hfo3
  obtain ⟨M0, hM0⟩ : ∃ x, (⟨DiskM.new 34, RingM.opened (DiskM.new 34) 2 32 0, 0, 0, [], false⟩ : WM) = x := ⟨_, rfl⟩
  have HL3 : Hid (LgAt w w3 l b r M0 F3) := hid (by rw [← hM0]; exact hl3)
  have HP0' : Hid (LP M0 2 0 [] []) := hid (by rw [← hM0]; exact HP0.out)
  have HM0w : Hid (M0.wait = []) := hid (by rw [← hM0])
  have HM0h : Hid (M0.head = 0) := hid (by rw [← hM0])
  have HM0t : Hid (M0.tail = 0) := hid (by rw [← hM0])
  have HR0 : Hid (Row (w3.alloc (.cells #[] 5)) w3.heap.size 5 0 (bytesV [])) := hid ⟨[], blk_new w3 _, rfl⟩
  have HSd := hid (HS.out.same (HL3.out.only.trans (only_new w3 (.cells #[] 5)) (fun _ _ e => e)))
  have hz3 := HL3.out.only.size
  clear hl3 HOP hM0 HP0
  go_wp2_with ((guard_target =~ wpList _ _ _ (⟨some 37, _, _, _, _, _⟩ :: _) _ _); refine wpList_addb (o := ⟨some 37, _, _, _, _, _⟩) rfl (.tmp 35) (.tmp 36) rfl w3.heap.size 0 [] rfl HR0.out pa s pc rfl HSd.out (by simp; omega) ?_; intro g cap w4 hc4 hr4 hg4 ho4; rw [List.nil_append] at hr4; rw [List.length_nil, Nat.zero_add]; have HR4 := hid hr4; have HG4 := hid hg4; have HO4 := hid ho4; clear hc4 hr4 hg4 ho4)
  have ho34 : Only (fun _ => False) w3 w4 := (only_new w3 _).trans HO4.out (fun k hk e => by have e' : k = w3.heap.size := e; omega)
  have hg3 : w3.heap.size ≤ g := by
    rcases HG4.out with e | e
    · omega
    · rw [World.size_alloc] at e; omega
  have HL4 := hid (HL3.out.same ho34)
  have HSb := hid (submit_c HL4.out.log _ s HR4.out.src (by omega))
  obtain ⟨hp1, -, -, hh1, ht1, c1, wt1⟩ := HP0'.out.submit s
  rw [HM0w.out, if_neg (by omega), if_neg (by decide)] at c1 wt1
  rw [c1] at HSb
  obtain ⟨M1, hM1⟩ : ∃ x, (M0.submit s).1 = x := ⟨_, rfl⟩
  rw [hM1] at hp1 hh1 ht1 wt1 HSb
  have HP1 := hid hp1
  have HW1 : Hid (M1.wait = [s] ∧ M1.head = 0 ∧ M1.tail = 0) := hid ⟨wt1, hh1.trans HM0h.out, ht1.trans HM0t.out⟩
  have HGF : Hid (∀ k, F3 k → k < g) := hid fun k hk => by have := HL3.out.log.lt hk; omega
  clear ho34 hp1 hh1 ht1 c1 wt1 hM1
  go_wp2_with fail
  refine HSb.out.mono ?_
  rintro x w5 ⟨rfl, hsx⟩
  obtain ⟨F5, hlog5, hon5, hnw5⟩ := hsx
  have hgl := HR4.out.lt
  have HL5 : Hid (LgAt w w5 l b r M1 F5) := hid ⟨hlog5, fun k hk => (hnw5 k hk).elim (HL4.out.new k) (fun e => by have := HL4.out.only.size; omega), HL4.out.only.trans hon5 (fun k hk e => by have := HL4.out.new k e; omega)⟩
  have HGN : Hid (¬ F5 g) := hid fun e => (hnw5 g e).elim (fun e => by have := HGF.out g e; omega) (fun e => by omega)
  have HI := hid (IncInv.start (HR4.out.only hon5 (fun e => by have := HGF.out g e; omega)))
  clear hlog5 hon5 hnw5 HSb
  go_wp2_with fail
  try go_frame
  go_loopw [43, 9] (fun i _ wx => ∃ k : Nat, i = .int .i64 k ∧ k ≤ s.length ∧ IncInv w5 wx g cap s.length) (fun i _ _ => s.length - (intOf i).toNat)
  case atStart => exact ⟨0, rfl, Nat.zero_le _, HI.out⟩
  case round =>
    rename World => wx
    obtain ⟨k, rfl, hk, hinv⟩ := hrel
    have HI2 := hid hinv
    clear hinv HI
    by_cases hkl : k < s.length
    · have hkl' : (k : Int) < (s.length : Int) := by omega
      obtain ⟨x, hcx, hzx, hnx⟩ := HI2.out.cell k hkl
      have HN := hid hnx
      clear hnx HI2
      go_wp2
      go_roundw
      case rel => exact ⟨k + 1, by go_num, by omega, HN.out _⟩
      case measure => simp [intOf]; omega
    · obtain rfl : k = s.length := by omega
      have ho5x : Only (fun j => j = g) w5 wx := by obtain ⟨_, _, _, h⟩ := HI2.out; exact h
      have HLx := hid (⟨HL5.out.log.only ho5x (fun k hk e => HGN.out (by have e' : k = g := e; exact e' ▸ hk)), HL5.out.new, HL5.out.only.trans ho5x (fun k hk e => by have e' : k = g := e; omega)⟩ : LgAt w wx l b r M1 F5)
      obtain ⟨n2, M2, hn2, hnl2, e2, hp2, hw2⟩ := HP1.out.commit (by decide)
      rw [HW1.out.2.1, HW1.out.2.2, HW1.out.1] at hn2
      have hroom : placeN 0 s.length = 0 := by unfold placeN roomN; rw [if_neg (by omega)]
      have hn21 : n2 = 1 := by
        rw [hn2]
        show laysN (2 * 2048 - (0 - 0 / 128 * 128)) 0 [(1, s)] = 1
        rw [laysN, if_neg (by rw [hroom]; omega), laysN]
      subst hn21
      rw [HW1.out.1] at e2 hp2
      have HCM : Hid (Calls Try.prog 14 #[.pointer (some ⟨l, 0, none⟩)] wx fun e w' => (∃ n c, e = .returned (.tuple #[.int .i64 n, .int .i64 c])) ∧ LStep wx w' l b r M2 F5) := hid (by
        have h1 := commit_c HLx.out.log (by rw [HP1.out.first, HP1.out.count]; exact HP1.out.dn) (by rw [HP1.out.rs.tail, ← HP1.out.tl, HW1.out.2.2]; decide)
        rw [e2] at h1
        exact h1.mono (fun e w' ⟨a, c⟩ => ⟨⟨_, _, a⟩, c⟩))
      have HP2 : Hid (LP M2 2 1 [] [(1, s)]) := hid hp2
      clear hn2 hnl2 e2 hp2 hw2 hroom ho5x HI2
      go_wp2_with fail
      refine HCM.out.mono ?_
      rintro x w7 ⟨⟨cn, ce, rfl⟩, hs7⟩
      obtain ⟨F7, hl7⟩ := HLx.out.step hs7
      have HL7 := hid hl7
      obtain ⟨FD7, hd7, hf7⟩ := hl7.log.disk
      have HO7 := hid (lopen_c (w0 := w) hd7 (fun k hk => hl7.new k (hf7 k hk)) hl7.only HP2.out (by decide))
      clear hs7 hl7 hd7 HCM
      go_wp2_with fail
      refine HO7.out.mono ?_
      rintro x w9 ⟨v9, l9, r9, lo9, F9, rfl, -, hlo9, hfo9, -, -, ho9⟩
      obtain ⟨q9, cap9, rfl, hq9, hat9⟩ := hfo9.at (Nat.zero_lt_one)
      obtain ⟨pa9, pc9, -, z9, hb9⟩ := hat9 0 1 s rfl
      have z9 : w9.cell? ⟨q9, 1, none⟩ = some (.slice pa9 s.length pc9) := z9
      have HL9 := hid (HL7.out.same ho9)
      have HF7 : Hid (∀ k, F7 k → k < w7.heap.size) := hid fun k hk => HL7.out.log.lt hk
      rcases hb9 with ⟨rfl, rfl, hs0⟩ | ⟨g9, rfl, hg9, hr9⟩
      · have hl0 : s.length = 0 := by rw [hs0]; rfl
        have hlt : ¬ (0 : Int) < s.length := by omega
        clear hfo9 hat9 ho9 hs0 HO7 hl0
        go_wp2_with fail
        try go_frame
        go_loopw [69, 13] (fun i _ wx => i = .int .i64 0 ∧ wx = w9) (fun _ _ _ => 0)
        case atStart => exact ⟨rfl, rfl⟩
        case round =>
          rename World => wx
          obtain ⟨rfl, rfl⟩ := hrel
          have HLX := hid HL9.out
          have HSX := hid (HS.out.same HLX.out.only)
          obtain ⟨FDx, hdx, hfx⟩ := HLX.out.log.disk
          have HOX := hid (lopen_c (w0 := w) hdx (fun k hk => HLX.out.new k (hfx k hk)) HLX.out.only HP2.out (by decide))
          clear hdx
          go_wp2_with fail
          refine HOX.out.mono ?_
          rintro x w12 ⟨v12, l12, r12, lo12, F12, rfl, hl12, -, hfo12, -, -, ho12⟩
          obtain ⟨q12, cap12, rfl, -, hat12⟩ := hfo12.at (Nat.zero_lt_one)
          obtain ⟨pa2, pc2, -, z12, hb12⟩ := hat12 0 1 s rfl
          have hs12 := hb12.src
          have HS12 := hid hs12
          have HSB := hid (HSX.out.same ho12)
          have HZ : Hid (∀ W, Only (fun _ => False) w12 W → W.cell? ⟨q12, 0 + 0 * 2 + 1, none⟩ = some (.slice pa2 s.length pc2)) := hid fun W hW => (World.cell?_of_block (hW.block q12 (World.block_lt_of_cell? _ _ z12) (fun e => e))).trans z12
          have HL12 := hid (HLX.out.same ho12)
          clear hl12 hfo12 hat12 hb12 hs12 z12 ho12 HOX
          go_upto_region 28 with fail
          refine region_pg 15 [] (by kernel_rfl) (by kernel_rfl) (by kernel_rfl) [(88, fun _ v => v = .int .i64 0), (89, fun _ v => v = .bool true), (90, fun _ v => v = .bool true), (91, fun _ v => v = .slice (some ⟨q12, 0, none⟩) 1 cap12), (92, fun _ v => v = .int .i64 1), (93, fun _ v => v = .bool true), (94, fun _ v => v = .bool true), (95, fun _ v => v = .bool true), (96, fun _ v => v = .slice (some ⟨q12, 0, none⟩) 1 cap12), (97, fun _ v => v = .pointer (some ⟨q12, 0 + 0 * 2, none⟩)), (98, fun _ v => v = .pointer (some ⟨q12, 0 + 0 * 2 + 1, none⟩)), (99, fun _ v => v = .slice pa2 s.length pc2), (100, fun _ v => v = .string (strOf s)), (101, fun _ v => v = .slice pa s.length pc), (102, fun _ v => v = .string (strOf s))] (fun _ W => Only (fun _ => False) w12 W) (by show [88, 89, 90, 91, 92, 93, 94, 95, 96, 97, 98, 99, 100, 101, 102].Nodup; decide) (by show ∀ d ∈ [88, 89, 90, 91, 92, 93, 94, 95, 96, 97, 98, 99, 100, 101, 102], d < 105; decide) ((Only.refl _ _).drew) (.inl rfl) ?_ ?_ ?_
          · exact trivial
          · have hstab : PtStabs (Only (fun _ => False)) [(88, fun _ v => v = .int .i64 0), (89, fun _ v => v = .bool true), (90, fun _ v => v = .bool true), (91, fun _ v => v = .slice (some ⟨q12, 0, none⟩) 1 cap12), (92, fun _ v => v = .int .i64 1), (93, fun _ v => v = .bool true), (94, fun _ v => v = .bool true), (95, fun _ v => v = .bool true), (96, fun _ v => v = .slice (some ⟨q12, 0, none⟩) 1 cap12), (97, fun _ v => v = .pointer (some ⟨q12, 0 + 0 * 2, none⟩)), (98, fun _ v => v = .pointer (some ⟨q12, 0 + 0 * 2 + 1, none⟩)), (99, fun _ v => v = .slice pa2 s.length pc2), (100, fun _ v => v = .string (strOf s)), (101, fun _ v => v = .slice pa s.length pc), (102, fun _ v => v = .string (strOf s))] := ⟨fun _ _ _ _ h => h, fun _ _ _ _ h => h, fun _ _ _ _ h => h, fun _ _ _ _ h => h, fun _ _ _ _ h => h, fun _ _ _ _ h => h, fun _ _ _ _ h => h, fun _ _ _ _ h => h, fun _ _ _ _ h => h, fun _ _ _ _ h => h, fun _ _ _ _ h => h, fun _ _ _ _ h => h, fun _ _ _ _ h => h, fun _ _ _ _ h => h, fun _ _ _ _ h => h, trivial⟩
            refine PgAllS.cons rfl rfl (.inl ⟨rfl, rfl⟩) ?_ (PgAllS.cons rfl rfl (.inl ⟨rfl, rfl⟩) ?_ (PgAllS.cons rfl rfl (.inl ⟨rfl, rfl⟩) ?_ (PgAllS.cons rfl rfl (.inr ⟨_, _, _, _, _, rfl, rfl, rfl, rfl, by kernel_rfl⟩) ?_ (PgAllS.cons rfl rfl (.inr ⟨_, _, _, _, _, rfl, rfl, rfl, rfl, by kernel_rfl⟩) ?_ (PgAllS.cons rfl rfl (.inr ⟨_, _, _, _, _, rfl, rfl, rfl, rfl, by kernel_rfl⟩) ?_ (PgAllS.cons rfl rfl (.inl ⟨rfl, rfl⟩) ?_ (PgAllS.cons rfl rfl (.inl ⟨rfl, rfl⟩) ?_ (PgAllS.cons rfl rfl (.inr ⟨_, _, _, _, _, rfl, rfl, rfl, rfl, by kernel_rfl⟩) ?_ (PgAllS.cons rfl rfl (.inr ⟨_, _, _, _, _, rfl, rfl, rfl, rfl, by kernel_rfl⟩) ?_ (PgAllS.cons rfl rfl (.inr ⟨_, _, _, _, _, rfl, rfl, rfl, rfl, by kernel_rfl⟩) ?_ (PgAllS.cons rfl rfl (.inr ⟨_, _, _, _, _, rfl, rfl, rfl, rfl, by kernel_rfl⟩) ?_ (PgAllS.cons rfl rfl (.inr ⟨_, _, _, _, _, rfl, rfl, rfl, rfl, by kernel_rfl⟩) ?_ (PgAllS.cons rfl rfl (.inr ⟨_, _, _, _, _, rfl, rfl, rfl, rfl, by kernel_rfl⟩) ?_ (PgAllS.cons rfl rfl (.inr ⟨_, _, _, _, _, rfl, rfl, rfl, rfl, by kernel_rfl⟩) ?_ (PgAllS.nil rfl)))))))))))))))
            · intro L a W K hI hn hd hK
              have e15 : a.eval (.tmp 15) = .int .i64 0 := hI.ev 15 (by show ¬ (15 ∈ [88, 89, 90, 91, 92, 93, 94, 95, 96, 97, 98, 99, 100, 101, 102]); decide) rfl
              exact pt_move _ (by first | exact .inl rfl | exact .inr rfl) _ e15 (hK _ _ hI.j PtKeep.refl rfl)
            · intro L a W K hI hn hd hK
              have e88 : a.eval (.tmp 88) = .int .i64 0 := hI.fact 0 88 _ rfl (dep_of hd 0 (by kernel_rfl))
              exact pt_val (v := .bool true) (by unfold execOp; simp only [e88]; kernel_rfl) (hK _ _ hI.j PtKeep.refl rfl)
            · intro L a W K hI hn hd hK
              have e89 : a.eval (.tmp 89) = .bool true := hI.fact 1 89 _ rfl (dep_of hd 1 (by kernel_rfl))
              exact pt_move _ (by first | exact .inl rfl | exact .inr rfl) _ e89 (hK _ _ hI.j PtKeep.refl rfl)
            · intro L a W K hI hn hd hK
              have e11 : a.eval (.tmp 11) = .slice (some ⟨q12, 0, none⟩) 1 cap12 := hI.ev 11 (by show ¬ (11 ∈ [88, 89, 90, 91, 92, 93, 94, 95, 96, 97, 98, 99, 100, 101, 102]); decide) rfl
              exact pt_move _ (by first | exact .inl rfl | exact .inr rfl) _ e11 (hK _ _ hI.j PtKeep.refl rfl)
            · intro L a W K hI hn hd hK
              have e91 : a.eval (.tmp 91) = .slice (some ⟨q12, 0, none⟩) 1 cap12 := hI.fact 3 91 _ rfl (dep_of hd 3 (by kernel_rfl))
              exact pt_val (v := .int .i64 1) (by unfold execOp; simp only [resolve, invoke, builtin, Sem.run_bind, Sem.run_pure, Result.andThen_ok, List.map_toArray, List.map_cons, List.map_nil, e91]; kernel_rfl) (hK _ _ hI.j PtKeep.refl rfl)
            · intro L a W K hI hn hd hK
              have e92 : a.eval (.tmp 92) = .int .i64 1 := hI.fact 4 92 _ rfl (dep_of hd 4 (by kernel_rfl))
              exact pt_val (v := .bool true) (by unfold execOp; simp only [e92]; kernel_rfl) (hK _ _ hI.j PtKeep.refl rfl)
            · intro L a W K hI hn hd hK
              have e90 : a.eval (.tmp 90) = .bool true := hI.fact 2 90 _ rfl (dep_of hd 2 (by kernel_rfl))
              have e93 : a.eval (.tmp 93) = .bool true := hI.fact 5 93 _ rfl (dep_of hd 5 (by kernel_rfl))
              exact pt_val (v := .bool true) (by unfold execOp; simp only [e90, e93]; kernel_rfl) (hK _ _ hI.j PtKeep.refl rfl)
            · intro L a W K hI hn hd hK
              have e94 : a.eval (.tmp 94) = .bool true := hI.fact 6 94 _ rfl (dep_of hd 6 (by kernel_rfl))
              exact pt_move _ (by first | exact .inl rfl | exact .inr rfl) _ e94 (hK _ _ hI.j PtKeep.refl rfl)
            · intro L a W K hI hn hd hK
              have e11 : a.eval (.tmp 11) = .slice (some ⟨q12, 0, none⟩) 1 cap12 := hI.ev 11 (by show ¬ (11 ∈ [88, 89, 90, 91, 92, 93, 94, 95, 96, 97, 98, 99, 100, 101, 102]); decide) rfl
              exact pt_move _ (by first | exact .inl rfl | exact .inr rfl) _ e11 (hK _ _ hI.j PtKeep.refl rfl)
            · intro L a W K hI hn hd hK
              have e96 : a.eval (.tmp 96) = .slice (some ⟨q12, 0, none⟩) 1 cap12 := hI.fact 8 96 _ rfl (dep_of hd 8 (by kernel_rfl))
              exact pt_val (v := .pointer (some ⟨q12, 0 + 0 * 2, none⟩)) (ex_idx rfl e96 rfl Try.underlying28 info_fr (by decide)) (hK _ _ hI.j PtKeep.refl rfl)
            · intro L a W K hI hn hd hK
              have e97 : a.eval (.tmp 97) = .pointer (some ⟨q12, 0 + 0 * 2, none⟩) := hI.fact 9 97 _ rfl (dep_of hd 9 (by kernel_rfl))
              exact pt_val (v := .pointer (some ⟨q12, 0 + 0 * 2 + 1, none⟩)) (by unfold execOp; simp only [e97]; kernel_rfl) (hK _ _ hI.j PtKeep.refl rfl)
            · intro L a W K hI hn hd hK
              have e98 : a.eval (.tmp 98) = .pointer (some ⟨q12, 0 + 0 * 2 + 1, none⟩) := hI.fact 10 98 _ rfl (dep_of hd 10 (by kernel_rfl))
              exact pt_load _ (.tmp 98) rfl ⟨q12, 0 + 0 * 2 + 1, none⟩ (.slice pa2 s.length pc2) _ e98 (HZ.out _ hI.j) Try.underlying33 rfl (hK _ _ hI.j PtKeep.refl rfl)
            · intro L a W K hI hn hd hK
              have e99 : a.eval (.tmp 99) = .slice pa2 s.length pc2 := hI.fact 11 99 _ rfl (dep_of hd 11 (by kernel_rfl))
              exact pt_val (v := .string (strOf s)) (ex_conv rfl e99 (HS12.out.same hI.j)) (hK _ _ hI.j PtKeep.refl rfl)
            · intro L a W K hI hn hd hK
              have e0 : a.eval (.tmp 0) = .slice pa s.length pc := hI.ev 0 (by show ¬ (0 ∈ [88, 89, 90, 91, 92, 93, 94, 95, 96, 97, 98, 99, 100, 101, 102]); decide) rfl
              exact pt_move _ (by first | exact .inl rfl | exact .inr rfl) _ e0 (hK _ _ hI.j PtKeep.refl rfl)
            · intro L a W K hI hn hd hK
              have e101 : a.eval (.tmp 101) = .slice pa s.length pc := hI.fact 13 101 _ rfl (dep_of hd 13 (by kernel_rfl))
              exact pt_val (v := .string (strOf s)) (ex_conv rfl e101 (HSB.out.same hI.j)) (hK _ _ hI.j PtKeep.refl rfl)
          · intro L a w13 hal hj hfs
            dsimp only [PtAll] at hfs
            obtain ⟨f88, f89, f90, f91, f92, f93, f94, f95, f96, f97, f98, f99, f100, f101, f102, -⟩ := hfs
            have hA := hal.turned
            simp only [List.map_cons, List.map_nil, Act.turned, f88, f89, f90, f91, f92, f93, f94, f95, f96, f97, f98, f99, f100, f101, f102] at hA
            simp only [Act.put, List.setIfInBounds_toArray, List.set_cons_zero, List.set_cons_succ] at hA
            clear hal f88 f89 f90 f91 f92 f93 f94 f95 f96 f97 f98 f99 f100 f101 f102
            subst hA
            change wpList _ _ _ [_, _, _] _ _
            have HJ := hid (HL12.out.only.trans hj (fun _ _ e => e))
            go_wp2_with fail
            go_ret
            exact ⟨rfl, HJ.out⟩
      · have HI9 := hid (IncInv.start hr9)
        have hqg : q9 ≠ g9 := fun e => by
          obtain ⟨ao, cap, xs, e1, hg, -, -⟩ := hfo9
          simp only [Value.slice.injEq] at e1
          rcases hg.2.2 with ⟨e2, -⟩ | ⟨q, e2, pad, hq, -⟩
          · rw [e2] at e1; cases e1.1
          · rw [e2] at e1
            simp only [Option.some.injEq, Addr.mk.injEq, and_true] at e1
            obtain ⟨pad2, hp2, -⟩ := hr9
            rw [← e, e1.1, hq] at hp2
            simp only [Option.some.injEq, Obj.cells.injEq] at hp2
            exact absurd hp2.2.1 (by decide)
        clear hfo9 hat9 ho9 hr9 HO7
        have hg9w : w9.heap.size > g9 := by obtain ⟨_, hrr, _⟩ := HI9.out; exact hrr.lt
        go_wp2_with fail
        try go_frame
        go_loopw [69, 13] (fun i _ wx => ∃ k : Nat, i = .int .i64 k ∧ k ≤ s.length ∧ IncInv w9 wx g9 pc9 s.length) (fun i _ _ => s.length - (intOf i).toNat)
        case atStart => exact ⟨0, rfl, Nat.zero_le _, HI9.out⟩
        case round =>
          rename World => wx
          obtain ⟨k, rfl, hk, hinv⟩ := hrel
          have HI2 := hid hinv
          have ho9x : Only (fun j => j = g9) w9 wx := by obtain ⟨_, _, _, h⟩ := hinv; exact h
          have z9x : wx.cell? ⟨q9, 1, none⟩ = some (.slice (some ⟨g9, 0, none⟩) s.length pc9) := (World.cell?_of_block (ho9x.block q9 (World.block_lt_of_cell? _ _ z9) hqg)).trans z9
          have HO9X := hid ho9x
          clear hinv HI9 z9 ho9x
          by_cases hkl : k < s.length
          · have hkl' : (k : Int) < (s.length : Int) := by omega
            obtain ⟨x, hcx, hzx, hnx⟩ := HI2.out.cell k hkl
            have HN := hid hnx
            clear hnx HI2
            go_wp2
            go_roundw
            case rel => exact ⟨k + 1, by go_num, by omega, HN.out _⟩
            case measure => simp [intOf]; omega
          · obtain rfl : k = s.length := by omega
            have HLX := hid (⟨HL9.out.log.only HO9X.out (fun k hk e => by have := HF7.out k hk; have e' : k = g9 := e; omega), HL9.out.new, HL9.out.only.trans HO9X.out (fun k hk e => by have e' : k = g9 := e; have := HL7.out.only.size; omega)⟩ : LgAt w wx l b r M2 F7)
            have HSX := hid (HS.out.same HLX.out.only)
            clear z9x
            obtain ⟨FDx, hdx, hfx⟩ := HLX.out.log.disk
            have HOX := hid (lopen_c (w0 := w) hdx (fun k hk => HLX.out.new k (hfx k hk)) HLX.out.only HP2.out (by decide))
            clear hdx
            go_wp2_with fail
            refine HOX.out.mono ?_
            rintro x w12 ⟨v12, l12, r12, lo12, F12, rfl, hl12, -, hfo12, -, -, ho12⟩
            obtain ⟨q12, cap12, rfl, -, hat12⟩ := hfo12.at (Nat.zero_lt_one)
            obtain ⟨pa2, pc2, -, z12, hb12⟩ := hat12 0 1 s rfl
            have hs12 := hb12.src
            have HS12 := hid hs12
            have HSB := hid (HSX.out.same ho12)
            have HZ : Hid (∀ W, Only (fun _ => False) w12 W → W.cell? ⟨q12, 0 + 0 * 2 + 1, none⟩ = some (.slice pa2 s.length pc2)) := hid fun W hW => (World.cell?_of_block (hW.block q12 (World.block_lt_of_cell? _ _ z12) (fun e => e))).trans z12
            have HL12 := hid (HLX.out.same ho12)
            clear hl12 hfo12 hat12 hb12 hs12 z12 ho12 HOX
            go_upto_region 28 with fail
            refine region_pg 15 [] (by kernel_rfl) (by kernel_rfl) (by kernel_rfl) [(88, fun _ v => v = .int .i64 0), (89, fun _ v => v = .bool true), (90, fun _ v => v = .bool true), (91, fun _ v => v = .slice (some ⟨q12, 0, none⟩) 1 cap12), (92, fun _ v => v = .int .i64 1), (93, fun _ v => v = .bool true), (94, fun _ v => v = .bool true), (95, fun _ v => v = .bool true), (96, fun _ v => v = .slice (some ⟨q12, 0, none⟩) 1 cap12), (97, fun _ v => v = .pointer (some ⟨q12, 0 + 0 * 2, none⟩)), (98, fun _ v => v = .pointer (some ⟨q12, 0 + 0 * 2 + 1, none⟩)), (99, fun _ v => v = .slice pa2 s.length pc2), (100, fun _ v => v = .string (strOf s)), (101, fun _ v => v = .slice pa s.length pc), (102, fun _ v => v = .string (strOf s))] (fun _ W => Only (fun _ => False) w12 W) (by show [88, 89, 90, 91, 92, 93, 94, 95, 96, 97, 98, 99, 100, 101, 102].Nodup; decide) (by show ∀ d ∈ [88, 89, 90, 91, 92, 93, 94, 95, 96, 97, 98, 99, 100, 101, 102], d < 105; decide) ((Only.refl _ _).drew) (.inl rfl) ?_ ?_ ?_
            · exact trivial
            · have hstab : PtStabs (Only (fun _ => False)) [(88, fun _ v => v = .int .i64 0), (89, fun _ v => v = .bool true), (90, fun _ v => v = .bool true), (91, fun _ v => v = .slice (some ⟨q12, 0, none⟩) 1 cap12), (92, fun _ v => v = .int .i64 1), (93, fun _ v => v = .bool true), (94, fun _ v => v = .bool true), (95, fun _ v => v = .bool true), (96, fun _ v => v = .slice (some ⟨q12, 0, none⟩) 1 cap12), (97, fun _ v => v = .pointer (some ⟨q12, 0 + 0 * 2, none⟩)), (98, fun _ v => v = .pointer (some ⟨q12, 0 + 0 * 2 + 1, none⟩)), (99, fun _ v => v = .slice pa2 s.length pc2), (100, fun _ v => v = .string (strOf s)), (101, fun _ v => v = .slice pa s.length pc), (102, fun _ v => v = .string (strOf s))] := ⟨fun _ _ _ _ h => h, fun _ _ _ _ h => h, fun _ _ _ _ h => h, fun _ _ _ _ h => h, fun _ _ _ _ h => h, fun _ _ _ _ h => h, fun _ _ _ _ h => h, fun _ _ _ _ h => h, fun _ _ _ _ h => h, fun _ _ _ _ h => h, fun _ _ _ _ h => h, fun _ _ _ _ h => h, fun _ _ _ _ h => h, fun _ _ _ _ h => h, fun _ _ _ _ h => h, trivial⟩
              refine PgAllS.cons rfl rfl (.inl ⟨rfl, rfl⟩) ?_ (PgAllS.cons rfl rfl (.inl ⟨rfl, rfl⟩) ?_ (PgAllS.cons rfl rfl (.inl ⟨rfl, rfl⟩) ?_ (PgAllS.cons rfl rfl (.inr ⟨_, _, _, _, _, rfl, rfl, rfl, rfl, by kernel_rfl⟩) ?_ (PgAllS.cons rfl rfl (.inr ⟨_, _, _, _, _, rfl, rfl, rfl, rfl, by kernel_rfl⟩) ?_ (PgAllS.cons rfl rfl (.inr ⟨_, _, _, _, _, rfl, rfl, rfl, rfl, by kernel_rfl⟩) ?_ (PgAllS.cons rfl rfl (.inl ⟨rfl, rfl⟩) ?_ (PgAllS.cons rfl rfl (.inl ⟨rfl, rfl⟩) ?_ (PgAllS.cons rfl rfl (.inr ⟨_, _, _, _, _, rfl, rfl, rfl, rfl, by kernel_rfl⟩) ?_ (PgAllS.cons rfl rfl (.inr ⟨_, _, _, _, _, rfl, rfl, rfl, rfl, by kernel_rfl⟩) ?_ (PgAllS.cons rfl rfl (.inr ⟨_, _, _, _, _, rfl, rfl, rfl, rfl, by kernel_rfl⟩) ?_ (PgAllS.cons rfl rfl (.inr ⟨_, _, _, _, _, rfl, rfl, rfl, rfl, by kernel_rfl⟩) ?_ (PgAllS.cons rfl rfl (.inr ⟨_, _, _, _, _, rfl, rfl, rfl, rfl, by kernel_rfl⟩) ?_ (PgAllS.cons rfl rfl (.inr ⟨_, _, _, _, _, rfl, rfl, rfl, rfl, by kernel_rfl⟩) ?_ (PgAllS.cons rfl rfl (.inr ⟨_, _, _, _, _, rfl, rfl, rfl, rfl, by kernel_rfl⟩) ?_ (PgAllS.nil rfl)))))))))))))))
              · intro L a W K hI hn hd hK
                have e15 : a.eval (.tmp 15) = .int .i64 0 := hI.ev 15 (by show ¬ (15 ∈ [88, 89, 90, 91, 92, 93, 94, 95, 96, 97, 98, 99, 100, 101, 102]); decide) rfl
                exact pt_move _ (by first | exact .inl rfl | exact .inr rfl) _ e15 (hK _ _ hI.j PtKeep.refl rfl)
              · intro L a W K hI hn hd hK
                have e88 : a.eval (.tmp 88) = .int .i64 0 := hI.fact 0 88 _ rfl (dep_of hd 0 (by kernel_rfl))
                exact pt_val (v := .bool true) (by unfold execOp; simp only [e88]; kernel_rfl) (hK _ _ hI.j PtKeep.refl rfl)
              · intro L a W K hI hn hd hK
                have e89 : a.eval (.tmp 89) = .bool true := hI.fact 1 89 _ rfl (dep_of hd 1 (by kernel_rfl))
                exact pt_move _ (by first | exact .inl rfl | exact .inr rfl) _ e89 (hK _ _ hI.j PtKeep.refl rfl)
              · intro L a W K hI hn hd hK
                have e11 : a.eval (.tmp 11) = .slice (some ⟨q12, 0, none⟩) 1 cap12 := hI.ev 11 (by show ¬ (11 ∈ [88, 89, 90, 91, 92, 93, 94, 95, 96, 97, 98, 99, 100, 101, 102]); decide) rfl
                exact pt_move _ (by first | exact .inl rfl | exact .inr rfl) _ e11 (hK _ _ hI.j PtKeep.refl rfl)
              · intro L a W K hI hn hd hK
                have e91 : a.eval (.tmp 91) = .slice (some ⟨q12, 0, none⟩) 1 cap12 := hI.fact 3 91 _ rfl (dep_of hd 3 (by kernel_rfl))
                exact pt_val (v := .int .i64 1) (by unfold execOp; simp only [resolve, invoke, builtin, Sem.run_bind, Sem.run_pure, Result.andThen_ok, List.map_toArray, List.map_cons, List.map_nil, e91]; kernel_rfl) (hK _ _ hI.j PtKeep.refl rfl)
              · intro L a W K hI hn hd hK
                have e92 : a.eval (.tmp 92) = .int .i64 1 := hI.fact 4 92 _ rfl (dep_of hd 4 (by kernel_rfl))
                exact pt_val (v := .bool true) (by unfold execOp; simp only [e92]; kernel_rfl) (hK _ _ hI.j PtKeep.refl rfl)
              · intro L a W K hI hn hd hK
                have e90 : a.eval (.tmp 90) = .bool true := hI.fact 2 90 _ rfl (dep_of hd 2 (by kernel_rfl))
                have e93 : a.eval (.tmp 93) = .bool true := hI.fact 5 93 _ rfl (dep_of hd 5 (by kernel_rfl))
                exact pt_val (v := .bool true) (by unfold execOp; simp only [e90, e93]; kernel_rfl) (hK _ _ hI.j PtKeep.refl rfl)
              · intro L a W K hI hn hd hK
                have e94 : a.eval (.tmp 94) = .bool true := hI.fact 6 94 _ rfl (dep_of hd 6 (by kernel_rfl))
                exact pt_move _ (by first | exact .inl rfl | exact .inr rfl) _ e94 (hK _ _ hI.j PtKeep.refl rfl)
              · intro L a W K hI hn hd hK
                have e11 : a.eval (.tmp 11) = .slice (some ⟨q12, 0, none⟩) 1 cap12 := hI.ev 11 (by show ¬ (11 ∈ [88, 89, 90, 91, 92, 93, 94, 95, 96, 97, 98, 99, 100, 101, 102]); decide) rfl
                exact pt_move _ (by first | exact .inl rfl | exact .inr rfl) _ e11 (hK _ _ hI.j PtKeep.refl rfl)
              · intro L a W K hI hn hd hK
                have e96 : a.eval (.tmp 96) = .slice (some ⟨q12, 0, none⟩) 1 cap12 := hI.fact 8 96 _ rfl (dep_of hd 8 (by kernel_rfl))
                exact pt_val (v := .pointer (some ⟨q12, 0 + 0 * 2, none⟩)) (ex_idx rfl e96 rfl Try.underlying28 info_fr (by decide)) (hK _ _ hI.j PtKeep.refl rfl)
              · intro L a W K hI hn hd hK
                have e97 : a.eval (.tmp 97) = .pointer (some ⟨q12, 0 + 0 * 2, none⟩) := hI.fact 9 97 _ rfl (dep_of hd 9 (by kernel_rfl))
                exact pt_val (v := .pointer (some ⟨q12, 0 + 0 * 2 + 1, none⟩)) (by unfold execOp; simp only [e97]; kernel_rfl) (hK _ _ hI.j PtKeep.refl rfl)
              · intro L a W K hI hn hd hK
                have e98 : a.eval (.tmp 98) = .pointer (some ⟨q12, 0 + 0 * 2 + 1, none⟩) := hI.fact 10 98 _ rfl (dep_of hd 10 (by kernel_rfl))
                exact pt_load _ (.tmp 98) rfl ⟨q12, 0 + 0 * 2 + 1, none⟩ (.slice pa2 s.length pc2) _ e98 (HZ.out _ hI.j) Try.underlying33 rfl (hK _ _ hI.j PtKeep.refl rfl)
              · intro L a W K hI hn hd hK
                have e99 : a.eval (.tmp 99) = .slice pa2 s.length pc2 := hI.fact 11 99 _ rfl (dep_of hd 11 (by kernel_rfl))
                exact pt_val (v := .string (strOf s)) (ex_conv rfl e99 (HS12.out.same hI.j)) (hK _ _ hI.j PtKeep.refl rfl)
              · intro L a W K hI hn hd hK
                have e0 : a.eval (.tmp 0) = .slice pa s.length pc := hI.ev 0 (by show ¬ (0 ∈ [88, 89, 90, 91, 92, 93, 94, 95, 96, 97, 98, 99, 100, 101, 102]); decide) rfl
                exact pt_move _ (by first | exact .inl rfl | exact .inr rfl) _ e0 (hK _ _ hI.j PtKeep.refl rfl)
              · intro L a W K hI hn hd hK
                have e101 : a.eval (.tmp 101) = .slice pa s.length pc := hI.fact 13 101 _ rfl (dep_of hd 13 (by kernel_rfl))
                exact pt_val (v := .string (strOf s)) (ex_conv rfl e101 (HSB.out.same hI.j)) (hK _ _ hI.j PtKeep.refl rfl)
            · intro L a w13 hal hj hfs
              dsimp only [PtAll] at hfs
              obtain ⟨f88, f89, f90, f91, f92, f93, f94, f95, f96, f97, f98, f99, f100, f101, f102, -⟩ := hfs
              have hA := hal.turned
              simp only [List.map_cons, List.map_nil, Act.turned, f88, f89, f90, f91, f92, f93, f94, f95, f96, f97, f98, f99, f100, f101, f102] at hA
              simp only [Act.put, List.setIfInBounds_toArray, List.set_cons_zero, List.set_cons_succ] at hA
              clear hal f88 f89 f90 f91 f92 f93 f94 f95 f96 f97 f98 f99 f100 f101 f102
              subst hA
              change wpList _ _ _ [_, _, _] _ _
              have HJ := hid (HL12.out.only.trans hj (fun _ _ e => e))
              go_wp2_with fail
              go_ret
              exact ⟨rfl, HJ.out⟩
end
end Go.Proofs.Ythodcbhejjbhaaa
