/- A history that is written is read back; HistoryReads' walk. -/
import Derived.Test.YtnoopajedgllhaaHDecs
import Derived.Test.YtnoopajedgllhaaHsL
import Derived.Test.YtnoopajedgllhaaOpenV
import Derived.Test.YtnoopajedgllhaaRf09B
import Derived.Test.YtnoopajedgllhaaOpenS
namespace Go.Proofs.Ytnoopajedgllhaa
open Go.RowKit
theorem sum_rt {r : RdM} {s post : List UInt8} (he : r.err = 0) (hs : s.length = 32) (hr : r.rest = s ++ post) : r.sum = (s, r.adv 32) := by
  have h1 : r.take 32 = (s, r.adv 32) := by have := take_ok he hr; rw [hs] at this; exact this
  unfold RdM.sum
  rw [h1]
  simp only
  rw [if_neg (by intro e; rw [e] at hs; simp at hs)]
theorem rdEs_rt : ∀ (l : List EM) (es : List EM) (r : RdM) {post : List UInt8}, r.err = 0 → r.rest = (numb es.length l).flatMap EM.wr ++ post → HOk (es ++ numb es.length l) → hchk (closedL es) es.length (lastT 0 es) l = 0 → rdEs l.length es r = (some (es ++ numb es.length l), r.adv ((numb es.length l).flatMap EM.wr).length)
  | [], es, r, post, he, hr, hok, hc => by simp [numb, rdEs, adv_zero]
  | x :: l, es, r, post, he, hr, hok, hc => by
    rw [numb] at hr hok ⊢
    obtain ⟨e, hee⟩ : ∃ e, (x.nth es.length).cl = e := ⟨_, rfl⟩
    rw [hee] at hr hok ⊢
    have hek : e.k = x.k := by rw [← hee]; rfl
    have het : e.tm = x.tm := by rw [← hee]; rfl
    have hei : e.id = ((es.length + 1 : Nat) : Int) := by rw [← hee]; rfl
    obtain ⟨-, hgd, hrg, hcl, -⟩ := hok es.length e (by rw [List.getElem?_append_right (Nat.le_refl _), Nat.sub_self]; rfl)
    have hcl' : e.cl = e := by show ({ e with v := e.v.cl } : EM) = e; rw [hcl]
    have hnb : numb es.length [e] = [e] := by rw [numb, numb, nth_self hei, hcl']
    rw [List.flatMap_cons, List.append_assoc] at hr
    have hev := ev_rt hgd hrg he hr
    rw [hcl'] at hev
    rw [hchk] at hc
    by_cases h1 : 4096 < es.length + 1
    · rw [if_pos h1] at hc; simp at hc
    rw [if_neg h1] at hc
    by_cases h2 : x.id ≠ 0 ∧ x.id ≠ ((es.length + 1 : Nat) : Int)
    · rw [if_pos h2] at hc; simp at hc
    rw [if_neg h2] at hc
    by_cases h3 : (x.nth es.length).chk ≠ 0
    · rw [if_pos h3] at hc; exact absurd hc h3
    rw [if_neg h3] at hc
    by_cases h4 : closedL es = true
    · rw [if_pos h4] at hc; simp at hc
    rw [if_neg h4] at hc
    by_cases h5 : (es.length = 0 ∧ x.k ≠ 1) ∨ (es.length ≠ 0 ∧ x.k = 1)
    · rw [if_pos h5] at hc; simp at hc
    rw [if_neg h5] at hc
    by_cases h6 : outsideB x.k = true ∧ x.tm < lastT 0 es
    · rw [if_pos h6] at hc; simp at hc
    rw [if_neg h6] at hc
    have hch : hchk (closedL es) es.length (lastT 0 es) [e] = 0 := by
      rw [hchk, if_neg h1, if_neg (fun g => g.2 hei), nth_self hei, if_neg (fun g => g (good_chk hgd)), if_neg h4, hek, if_neg h5, het, if_neg h6, hchk]
    rw [List.length_cons, rdEs, hev]
    simp only
    rw [if_neg (by rw [adv_err]; simp [he]), if_neg (by rw [hch]; simp), hnb]
    have hl1 : (es ++ [e]).length = es.length + 1 := by simp
    have h7 := rdEs_rt l (es ++ [e]) (r.adv e.wr.length) (post := post) (by rw [adv_err]; exact he) (by rw [adv_rest' hr, hl1]) (by rw [hl1, List.append_assoc]; exact hok) (by rw [closedL_snoc, hl1, lastT_snoc, hek, het]; exact hc)
    rw [h7, hl1, List.append_assoc, adv_adv, List.flatMap_cons, List.length_append]
    rfl
/-- What is written is read back. -/
theorem rdHist_rt {r : RdM} {s post : List UInt8} {l : List EM} (he : r.err = 0) (hs : s.length = 32) (hr : r.rest = hwr s (numb 0 l) ++ post) (hok : HOk (numb 0 l)) (hc : hchk false 0 0 l = 0) (hl : l.length ≤ 4096) : rdHist r = (some (s, numb 0 l), r.adv (hwr s (numb 0 l)).length) := by
  obtain ⟨es, hes⟩ : ∃ x, numb 0 l = x := ⟨_, rfl⟩
  have hel : es.length = l.length := by rw [← hes, numb_len]
  have hsl := sumS_len hs es
  have h1 : r.rest = s ++ (numB es.length ++ (es.flatMap EM.wr ++ (sumS s es ++ post))) := by rw [hr, hes]; unfold hwr; simp only [List.append_assoc]
  have h2 := sum_rt he hs h1
  have h3 : (r.adv 32).rest = numB es.length ++ (es.flatMap EM.wr ++ (sumS s es ++ post)) := by have := adv_rest' h1; rw [hs] at this; exact this
  have h4 := num_rt (r := r.adv 32) (most := 4096) (by rw [adv_err]; exact he) (by omega) (by omega) h3
  have h5 := adv_rest' h3
  have h6 := rdEs_rt l [] ((r.adv 32).adv (numB es.length).length) (post := sumS s es ++ post) (by rw [adv_err, adv_err]; exact he) (by rw [h5]; show _ = (numb 0 l).flatMap EM.wr ++ _; rw [hes]) (by rw [List.nil_append]; exact hok) hc
  rw [List.nil_append, show numb ([] : List EM).length l = es from hes, ← hel] at h6
  have h7 := adv_rest' h5
  have h8 := sum_rt (r := ((r.adv 32).adv (numB es.length).length).adv (es.flatMap EM.wr).length) (by rw [adv_err, adv_err, adv_err]; exact he) hsl h7
  rw [hes]
  unfold rdHist
  rw [h2]
  simp only
  rw [h4]
  simp only
  rw [h6]
  simp only
  have h9 : rdEnd s es (((r.adv 32).adv (numB es.length).length).adv (es.flatMap EM.wr).length) = r.adv (hwr s es).length := by
    unfold rdEnd
    rw [h8]
    simp only
    rw [if_neg (fun g => g.2 rfl), adv_adv, adv_adv, adv_adv]
    unfold hwr
    simp only [List.length_append, hs, hsl, Nat.add_assoc]
  rw [h9, if_neg (by rw [adv_err]; simp [he])]
section
variable {w : World}
set_option maxRecDepth 100000 in
set_option maxHeartbeats 12800000 in
theorem hreads_c {s : List UInt8} (hs : s.length = 32) {v : Value} {l : List EM} (hE : EvsV w (fun k => k < w.heap.size) v l) (hg : ∀ e ∈ l, e.rg) (hll : l.length ≤ 9223372036854775807) : Calls Try.prog 10 #[.agg (bytesV s).toArray, v] w fun x w' => x = .returned (.bool true) ∧ Only (fun _ => False) w w' := by
  obtain ⟨ad, cap, rfl⟩ := hE.len
  have HNW := hid (fun W => hnew_c (w := W) hs)
  have HS32 := hid hs
  have HE := hid hE; have Hg := hid hg
  have hz0 : (w.alloc (.cells (bytesV s).toArray 29)).heap.size = w.heap.size + 1 := World.size_alloc _ _
  have HSRC : Hid (∀ W, Only (fun _ => False) (w.alloc (.cells (bytesV s).toArray 29)) W → Src W (.slice (some ⟨w.heap.size, 0, none⟩) 32 32) s) := hid fun W hW => ⟨_, 32, by rw [hs], fun _ => ⟨w.heap.size, 0, rfl, fun i u hu => by rw [Nat.zero_add]; exact cell_blk (blk_only (blk_new w _) hW (fun e => e)) i |>.trans (by simpa using hu)⟩⟩
  obtain ⟨SL, hSL⟩ : ∃ x, bytesV s = x := ⟨_, rfl⟩
  have HSL := hid hSL
  have HIS : Hid ((Try.prog.info? 29).map (·.size) = some SL.toArray.size) := hid (by rw [info32, ← hSL]; simp [hs])
  rw [hSL] at HNW HSRC hz0 ⊢
  have HB0 := hid (blk_new w (.cells SL.toArray 29))
  have HO0 := hid (only_new w (.cells SL.toArray 29))
  clear hE hg hs hSL
  go_enter Try.func10, Try.ntmps10
  go_wp2_with fail
  refine keeps_c.mono ?_
  rintro x w1 ⟨rfl, ho1⟩
  have HSM := hid (small_c (HE.out.same (HO0.out.trans ho1 (fun _ _ e => e))) (fun k hk => by have := ho1.size; omega) (fun e he => (Hg.out e he).2.2.2.2.2.2.2) hll)
  have HO1 := hid ho1
  clear ho1
  go_wp2_with fail
  refine HSM.out.mono ?_
  rintro x w2 ⟨rfl, ho2⟩
  have HO2 := hid (HO1.out.trans ho2 (fun _ _ e => e))
  clear ho2 HSM HO1
  by_cases hsm : (smB l 300 && decide (l.length ≤ 40)) = true
  rotate_left
  · have hsf : (smB l 300 && decide (l.length ≤ 40)) = false := by simpa using hsm
    rw [hsf]
    clear hsm hsf
    go_wp2_with fail
    go_ret
    exact ⟨rfl, HO0.out.trans HO2.out (fun _ _ e => e)⟩
  rw [hsm]
  have hl40 : l.length ≤ 40 := by simp only [Bool.and_eq_true, decide_eq_true_eq] at hsm; exact hsm.2
  have Hsz := hid (fun (e : EM) (he : e ∈ l) => (show e.v.sz ≤ 1000000 by
    simp only [Bool.and_eq_true] at hsm
    have := sm_sz (by decide) hsm.1 e he; omega))
  have HB2 := hid (blk_only HB0.out HO2.out (fun e => e))
  have hz2 := HO2.out.size
  clear hsm
  go_wp2_with ((guard_target =~ wpList _ _ _ (⟨some 20, _, _, _, _, _⟩ :: _) _ _); refine wpList_load_row rfl 29 (.tmp 2) rfl w.heap.size rfl 29 SL.toArray (0, 0) _ HB2.out Try.underlying29 rfl HIS.out ?_)
  refine (HNW.out w2).mono ?_
  rintro x w3 ⟨hb, rfl, hh, hsz3, ho3⟩
  have HH0 := hid hh
  have HO3 := hid (HO2.out.trans ho3 (fun _ _ e => e))
  have HO23 := hid ho3
  have hz3 := HO3.out.size
  have hb3 : hb < w3.heap.size := by obtain ⟨_, _, _, _, _, H⟩ := hh; exact H.lt hb H.fb
  have HAP := hid (happend_c HH0.out (HE.out.same (HO0.out.trans HO3.out (fun _ _ e => e))) (fun k hk => ⟨by omega, fun e => by have e' : k = hb := e; omega⟩) Hg.out Hsz.out (by omega))
  clear hh ho3 HNW
  go_wp2_with fail
  refine HAP.out.mono ?_
  rintro x w5 (⟨hck0, adA, capA, xsA, Fh, B, rfl, hh, -, -, hFh, -, ho5⟩ | ⟨hne, rfl, ho5⟩)
  rotate_left
  · have HO5 := hid (HO3.out.trans ho5 (fun _ _ e => e))
    obtain ⟨ck, hck⟩ : ∃ x, hchk (closedL []) ([] : List EM).length (lastT 0 []) l = x := ⟨_, rfl⟩
    rw [hck] at hne ⊢
    have hnb : (ck != 0) = true := by simpa using hne
    clear hne hck ho5
    go_wp2_with fail
    go_ret
    exact ⟨rfl, HO0.out.trans HO5.out (fun _ _ e => e)⟩
  have HO25 := hid ((HO23.out.trans ho5 (fun k hk e => by have e' : k = hb := e; omega) : Only (fun _ => False) w2 w5))
  have ho5' : Only (fun _ => False) (w.alloc (.cells SL.toArray 29)) w5 := HO3.out.trans ho5 (fun k hk e => by have e' : k = hb := e; omega)
  have hFh' : ∀ k, Fh k → w2.heap.size ≤ k := fun k hk => by
    rcases hFh k hk with e | e
    · have e' : k = hb := e
      omega
    · omega
  have HFH := hid hFh'
  rw [List.nil_append] at hh
  have HCK0 : Hid (hchk false 0 0 l = 0) := hid hck0
  have HOKE : Hid (HOk (numb 0 l)) := hid (by obtain ⟨_, _, _, _, _, H⟩ := hh; exact H.ok)
  have HRT : Hid (∀ (r : RdM) (post : List UInt8), r.err = 0 → r.rest = hwr s (numb 0 l) ++ post → rdHist r = (some (s, numb 0 l), r.adv (hwr s (numb 0 l)).length)) := hid fun r post h1 h2 => rdHist_rt h1 HS32.out h2 HOKE.out HCK0.out (by omega)
  obtain ⟨es, hes⟩ : ∃ es, numb 0 l = es := ⟨_, rfl⟩
  have hel : es.length = l.length := by rw [← hes, numb_len]
  have hh : HistAt w5 hb Fh s es := by rw [← hes]; exact hh
  rw [hes] at HOKE HRT
  have HKD : Hid (∀ e ∈ es, e.v.rg ∧ e.v.kd) := hid (hok_kd HOKE.out)
  have HGD : Hid (∀ e ∈ es, e.Good) := hid (hok_good HOKE.out)
  have HRG : Hid (∀ e ∈ es, e.rg) := hid (fun e he => by obtain ⟨i, hi, rfl⟩ := List.mem_iff_getElem.1 he; exact (HOKE.out i _ (List.getElem?_eq_getElem hi)).2.2.1)
  have hwl : (hwr s es).length ≤ 41000000 := by
    have h1 := flat_wr_len es HGD.out
    have h2 := numB_len es.length
    have h3 := sumS_len HS32.out es
    have h4 := HS32.out
    unfold hwr
    simp only [List.length_append]
    omega
  have HHW : Hid (hwr s es = s ++ numB l.length ++ es.flatMap EM.wr ++ sumS s es) := hid (by unfold hwr; rw [hel])
  obtain ⟨BS, hBS⟩ : ∃ x, hwr s es = x := ⟨_, rfl⟩
  have ho6 := only_new w5 (.cells #[.slice none 0 0] 78)
  have HWR := hid (hwrite_c (hh.same ho6) (Wr.new (blk_new w5 _)) (fun k hk e => by obtain ⟨_, _, _, _, _, H⟩ := hh; have := H.lt k hk; have e1 : k = w5.heap.size := e; omega) (by simp))
  have HBYT := hid (fun W hW => hbytes_c (hh.same (w' := W) hW))
  rw [List.nil_append, hBS] at HWR
  rw [hBS] at HRT HHW HBYT hwl
  have HH5 := hid hh
  have HO6 := hid (ho5'.trans ho6 (fun _ _ e => e))
  have HEL := hid hel
  have hz5 := ho5'.size
  have hhb5 : hb < w5.heap.size := by have := ho5.size; omega
  have hz6 : (w5.alloc (.cells #[.slice none 0 0] 78)).heap.size = w5.heap.size + 1 := World.size_alloc _ _
  have HO56 := hid ho6
  have HWL := hid hwl
  have HES := hid hes
  have HFL : Hid (∀ k, Fh k → k < w5.heap.size) := hid (by obtain ⟨_, _, _, _, _, H⟩ := hh; exact H.lt)
  clear hh hFh hFh' hel hes ho5 ho5' ho6 hck0 HAP hBS hwl
  go_wp2_with fail
  refine HWR.out.mono ?_
  rintro x w7 ⟨rfl, Fw, hW7, ho7, hF7⟩
  have HW7 := hid hW7
  have HH7 := hid ((HH5.out.same HO56.out).only ho7 (fun k hk e => by have e1 : k = w5.heap.size := e; have := HFL.out k hk; omega))
  have HO7 := hid (HO6.out.trans ho7 (fun k hk e => by have e1 : k = w5.heap.size := e; omega))
  have hFW : ∀ k, Fw k → w5.heap.size ≤ k := fun k hk => by
    rcases hF7 k hk with e | e
    · have e1 : k = w5.heap.size := e
      omega
    · omega
  have HFW := hid hFW
  clear hFW
  have HW57 := hid (HO56.out.trans ho7 (fun k hk e => by have e1 : k = w5.heap.size := e; omega))
  have HO27 := hid (HO25.out.trans HW57.out (fun _ _ e => e))
  have HO07 := hid HO7.out
  have hz7 := ho7.size
  have HB7 := hid (blk_only HB2.out (Only.refl (fun _ => False) w2) (fun e => e))
  have HNUM : Hid (∀ W, Only (fun _ => False) w7 W → Calls Try.prog 27 #[.int .u64 l.length] W fun x w' => x = .returned (.string (strOf (numB l.length))) ∧ Only (fun _ => False) W w') := hid fun W _ => rfnum_c l.length (by omega)
  have hnl := numB_len l.length
  obtain ⟨P1, hP1⟩ : ∃ x, s ++ numB l.length = x := ⟨_, rfl⟩
  have HCC : Hid (strOf s ++ strOf (numB l.length) = strOf P1) := hid (by rw [← hP1]; exact strOf_app' _ _)
  have HCZ : Hid (¬ 9223372036854775807 < (strOf s).size + (strOf (numB l.length)).size) := hid (by rw [strOf_size, strOf_size]; have := HS32.out; omega)
  have HP1 : Hid (P1.length ≤ 100) := hid (by rw [← hP1, List.length_append]; have := HS32.out; omega)
  rw [hP1] at HHW
  obtain ⟨NB, hNB⟩ : ∃ x, numB l.length = x := ⟨_, rfl⟩
  rw [hNB] at HNUM HCC HCZ
  clear hW7 ho7 hF7 HWR hP1 hnl hNB
  go_wp2_with fail
  refine region_pt 7 [] (by kernel_rfl) (by kernel_rfl) (by kernel_rfl) [(32, fun _ v => v = .slice (some ⟨w.heap.size, 0, none⟩) 32 32), (33, fun _ v => v = .string (strOf s)), (34, fun _ v => v = .slice ad l.length cap), (35, fun _ v => v = .int .i64 l.length), (36, fun _ v => v = .int .u64 l.length), (37, fun _ v => v = .string (strOf NB)), (38, fun _ v => v = .string (strOf P1))] (fun _ W => Only (fun _ => False) w7 W) (by show [32, 33, 34, 35, 36, 37, 38].Nodup; decide) (by show ∀ d ∈ [32, 33, 34, 35, 36, 37, 38], d < 107; decide) ((Only.refl _ _).drew) (.inl rfl) ?_ ?_ ?_
  · exact trivial
  · have hstab : PtStabs (Only (fun _ => False)) [(32, fun _ v => v = .slice (some ⟨w.heap.size, 0, none⟩) 32 32), (33, fun _ v => v = .string (strOf s)), (34, fun _ v => v = .slice ad l.length cap), (35, fun _ v => v = .int .i64 l.length), (36, fun _ v => v = .int .u64 l.length), (37, fun _ v => v = .string (strOf NB)), (38, fun _ v => v = .string (strOf P1))] := ⟨fun _ _ _ _ h => h, fun _ _ _ _ h => h, fun _ _ _ _ h => h, fun _ _ _ _ h => h, fun _ _ _ _ h => h, fun _ _ _ _ h => h, fun _ _ _ _ h => h, trivial⟩
    refine PtAllS.cons rfl ⟨rfl, rfl⟩ ?_ (PtAllS.cons rfl ⟨rfl, rfl⟩ ?_ (PtAllS.cons rfl ⟨rfl, rfl⟩ ?_ (PtAllS.cons rfl ⟨rfl, rfl⟩ ?_ (PtAllS.cons rfl ⟨rfl, rfl⟩ ?_ (PtAllS.cons rfl ⟨rfl, rfl⟩ ?_ (PtAllS.cons rfl ⟨rfl, rfl⟩ ?_ (PtAllS.nil rfl)))))))
    · intro L a W K hI hn hd hK
      have e2 : a.eval (.tmp 2) = .pointer (some ⟨w.heap.size, 0, none⟩) := hI.ev 2 (by show ¬ (2 ∈ [32, 33, 34, 35, 36, 37, 38]); decide) rfl
      exact pt_val (v := .slice (some ⟨w.heap.size, 0, none⟩) 32 32) (by unfold execOp; simp only [e2]; kernel_rfl) (hK _ _ hI.j PtKeep.refl rfl)
    · intro L a W K hI hn hd hK
      have e32 : a.eval (.tmp 32) = .slice (some ⟨w.heap.size, 0, none⟩) 32 32 := hI.fact 0 32 _ rfl (dep_of hd 0 (by kernel_rfl))
      exact pt_val (v := .string (strOf s)) (by have hcs := conv_str (HSRC.out W (HO7.out.trans hI.j (fun _ _ e => e))); unfold execOp; simp only [e32, Sem.run_bind, hcs, Result.andThen_ok, Sem.run_pure]) (hK _ _ hI.j PtKeep.refl rfl)
    · intro L a W K hI hn hd hK
      have e1 : a.eval (.tmp 1) = .slice ad l.length cap := hI.ev 1 (by show ¬ (1 ∈ [32, 33, 34, 35, 36, 37, 38]); decide) rfl
      exact pt_move _ (by first | exact .inl rfl | exact .inr rfl) _ e1 (hK _ _ hI.j PtKeep.refl rfl)
    · intro L a W K hI hn hd hK
      have e34 : a.eval (.tmp 34) = .slice ad l.length cap := hI.fact 2 34 _ rfl (dep_of hd 2 (by kernel_rfl))
      exact pt_val (v := .int .i64 l.length) (by unfold execOp; simp only [resolve, invoke, builtin, Sem.run_bind, Sem.run_pure, Result.andThen_ok, List.map_toArray, List.map_cons, List.map_nil, e34]; kernel_rfl) (hK _ _ hI.j PtKeep.refl rfl)
    · intro L a W K hI hn hd hK
      have e35 : a.eval (.tmp 35) = .int .i64 l.length := hI.fact 3 35 _ rfl (dep_of hd 3 (by kernel_rfl))
      exact pt_val (v := .int .u64 l.length) (by unfold execOp; simp only [e35]; go_simp; exact IntWalk.u64_in _ (by omega)) (hK _ _ hI.j PtKeep.refl rfl)
    · intro L a W K hI hn hd hK
      have e36 : a.eval (.tmp 36) = .int .u64 l.length := hI.fact 4 36 _ rfl (dep_of hd 4 (by kernel_rfl))
      refine wp_callc (f := 27) (args := #[a.eval (.tmp 36)]) (by kernel_rfl) ?_
      rw [e36]
      refine (HNUM.out _ hI.j).mono ?_
      rintro x W' ⟨rfl, ho⟩
      exact ⟨_, rfl, hK _ _ (hI.j.trans ho (fun _ _ e => e.elim)) (hstab.keep ho) rfl⟩
    · intro L a W K hI hn hd hK
      have e33 : a.eval (.tmp 33) = .string (strOf s) := hI.fact 1 33 _ rfl (dep_of hd 1 (by kernel_rfl))
      have e37 : a.eval (.tmp 37) = .string (strOf NB) := hI.fact 5 37 _ rfl (dep_of hd 5 (by kernel_rfl))
      exact pt_val (v := .string (strOf P1)) (by have hcc := HCC.out; have hcz := HCZ.out; unfold execOp; simp only [e33, e37]; go_simp) (hK _ _ hI.j PtKeep.refl rfl)
  · intro L a W8 hal hj hfs
    dsimp only [PtAll] at hfs
    obtain ⟨f32, f33, f34, f35, f36, f37, f38, -⟩ := hfs
    have hA := hal.turned
    simp only [List.map_cons, List.map_nil, Act.turned, f32, f33, f34, f35, f36, f37, f38] at hA
    simp only [Act.put, List.setIfInBounds_toArray, List.set_cons_zero, List.set_cons_succ] at hA
    clear hal f32 f33 f34 f35 f36 f37 f38
    subst hA
    change wpList _ _ _ [_] _ _
    have HJ := hid hj
    clear hj
    have HAL := hid (hall_c (HH7.out.same HJ.out))
    have hz8 := HJ.out.size
    go_wp2_with fail
    refine HAL.out.mono ?_
    rintro x wa ⟨ad2, cap2, xs2, rfl, hout, hoa⟩
    have HOA := hid (HJ.out.trans hoa (fun _ _ e => e))
    have hza := hoa.size
    obtain ⟨a2', c2', g, o, e2, hne2, hel2⟩ := hout.evs
    simp only [Value.slice.injEq] at e2
    obtain ⟨rfl, -, rfl⟩ := e2
    have HNE := hid hne2; have HEL2 := hid hel2
    clear hout hoa hne2 hel2 HAL
    go_wp2_with fail
    go_loopw [42, 9] (fun i v wr => ∃ (j : Nat) (p : List UInt8), i = .int .i64 j ∧ j ≤ es.length ∧ v = .string (strOf p) ∧ p = P1 ++ (es.take j).flatMap EM.wr ∧ Only (fun _ => False) wa wr) (fun i _ _ => es.length - (intOf i).toNat)
    case atStart => exact ⟨0, P1, rfl, Nat.zero_le _, rfl, by simp, Only.refl _ _⟩
    case round =>
      obtain ⟨j, p, rfl, hj, rfl, hp, ho⟩ := hrel
      obtain ⟨wy, hwy⟩ : ∃ x, x = wr := ⟨wr, rfl⟩
      subst hwy
      have HO := hid ho; have HPP := hid hp
      have hel40 : es.length ≤ 40 := by have := HEL.out; omega
      have hpl : p.length ≤ 41000000 := by
        have h1 := flat_wr_len (es.take j) (fun e he => HGD.out e (List.mem_of_mem_take he))
        have h2 := HEL.out
        have h3 := HP1.out
        rw [hp, List.length_append]
        have h4 : (es.take j).length ≤ es.length := by rw [List.length_take]; omega
        omega
      by_cases hjl : j < es.length
      · have hji : (j : Int) < es.length := by omega
        have HJL := hid hjl
        obtain ⟨e, he⟩ : ∃ t, es[j]? = some t := ⟨_, List.getElem?_eq_getElem hjl⟩
        obtain ⟨rfl, hGg⟩ := HNE.out (by rintro rfl; simp at hjl)
        obtain ⟨cs, hcs, hEe⟩ := HEL2.out j e he
        have hcw : ∀ i u, cs[i]? = some u → wy.cell? ⟨g, o + j * 11 + i, none⟩ = some u := fun i u hu => (World.cell?_of_block (HO.out.block g (World.block_lt_of_cell? _ _ (hcs i u hu)) (fun e => e))).trans (hcs i u hu)
        have hEw := hEe.same ho
        obtain ⟨vk, vn, vs, va, vm, vc, rfl, hV⟩ := hEw.form
        have e0 := hcw 0 _ rfl
        rw [Nat.add_zero] at e0
        have e1 := hcw 1 _ rfl
        have e2 := hcw 2 _ rfl
        have e3 := hcw 3 _ rfl
        have e4 := hcw 4 _ rfl
        have e5 := hcw 5 _ rfl
        have e6 := hcw 6 _ rfl
        have e7 := hcw 7 _ rfl
        have e8 := hcw 8 _ rfl
        have e9 := hcw 9 _ rfl
        have e10 := hcw 10 _ rfl
        have ho1 := only_new wy (.cells #[.int .i64 e.id, .int .i64 e.tm, .int .i64 e.k, .int .i64 e.a, .int .i64 e.b, .string (strOf e.name), .string (strOf e.text), .int .i64 vk, .int .i64 vn, .string (strOf vs), .slice va vm vc] 44)
        have HBX := hid (blk_new wy (.cells #[.int .i64 e.id, .int .i64 e.tm, .int .i64 e.k, .int .i64 e.a, .int .i64 e.b, .string (strOf e.name), .string (strOf e.text), .int .i64 vk, .int .i64 vn, .string (strOf vs), .slice va vm vc] 44))
        have HBY := hid (r9bytes_c (w := wy.alloc (.cells #[.int .i64 e.id, .int .i64 e.tm, .int .i64 e.k, .int .i64 e.a, .int .i64 e.b, .string (strOf e.name), .string (strOf e.text), .int .i64 vk, .int .i64 vn, .string (strOf vs), .slice va vm vc] 44)) (hEw.same ho1) (HRG.out e (List.mem_of_getElem? he)) (HGD.out e (List.mem_of_getElem? he)))
        have HFW : Hid ((es.take (j + 1)).flatMap EM.wr = (es.take j).flatMap EM.wr ++ e.wr) := hid (flatw_take he)
        have hwl := ewr_len (HGD.out e (List.mem_of_getElem? he))
        have HO1 := hid ho1
        obtain ⟨EW, hEW⟩ : ∃ x, e.wr = x := ⟨_, rfl⟩
        rw [hEW] at HBY HFW hwl
        have hcc : strOf p ++ strOf EW = strOf (p ++ EW) := strOf_app' _ _
        have hcz : ¬ 9223372036854775807 < (strOf p).size + (strOf EW).size := by rw [strOf_size, strOf_size]; omega
        obtain ⟨q, hq⟩ : ∃ x, p ++ EW = x := ⟨_, rfl⟩
        rw [hq] at hcc
        have HQ := hid hq
        clear hEW hV hEw hEe hcs hcw he hGg ho ho1 hq hp
        go_wp2_with ((guard_target =~ wpList _ _ _ (⟨some 47, _, _, _, _, _⟩ :: _) _ _); refine wpList_load_row rfl 44 (.tmp 11) rfl wy.heap.size rfl 44 #[.int .i64 e.id, .int .i64 e.tm, .int .i64 e.k, .int .i64 e.a, .int .i64 e.b, .string (strOf e.name), .string (strOf e.text), .int .i64 vk, .int .i64 vn, .string (strOf vs), .slice va vm vc] (0, 0) _ HBX.out Try.underlying44 rfl info_ev ?_)
        refine HBY.out.mono ?_
        rintro x wz ⟨rfl, hoz⟩
        have HOZ := hid hoz
        clear hoz
        go_wp2_with fail
        go_roundw
        case rel => exact ⟨j + 1, q, by go_num, by have := HJL.out; omega, rfl, by rw [← HQ.out, HPP.out, HFW.out, List.append_assoc], (HO.out.trans HO1.out (fun _ _ e => e)).trans HOZ.out (fun _ _ e => e)⟩
        case measure => have := HJL.out; simp [intOf]; omega
      · have hje : j = es.length := by omega
        subst hje
        have hjl2 : ¬ (es.length : Int) < es.length := by omega
        have HOY := hid (HOA.out.trans ho (fun _ _ e => e))
        have HHY := hid (HH7.out.same HOY.out)
        have HSU := hid (hsum2_c HHY.out)
        have hzy := HOY.out.size
        have ht32 := sumS_len HS32.out es
        obtain ⟨TL, hTL⟩ : ∃ x, bytesV (sumS s es) = x := ⟨_, rfl⟩
        rw [hTL] at HSU
        have HTL := hid hTL
        have HTi : Hid ((Try.prog.info? 29).map (·.size) = some TL.toArray.size) := hid (by rw [info32, ← hTL]; simp [ht32])
        have HT1 : Hid (TL.toArray.all (·.oneCell') = true) := hid (by rw [← hTL]; exact bytesV_one' _)
        have HTz : Hid (TL.toArray.size = (byA st0 0).size) := hid (by rw [← hTL]; simp [ht32]; rfl)
        have HSRT : Hid (∀ (W : World) (G : Nat), W.heap[G]? = some (.cells TL.toArray 29 (0, 0)) → Src W (.slice (some ⟨G, 0, none⟩) 32 32) (sumS s es)) := hid fun W G hW => ⟨_, 32, by rw [ht32], fun _ => ⟨G, 0, rfl, fun i u hu => by rw [Nat.zero_add]; exact cell_blk hW i |>.trans (by rw [← hTL]; simpa using hu)⟩⟩
        have hHW := HHW.out
        rw [List.take_length] at hp
        rw [← hp] at hHW
        have HCC2 : Hid (strOf p ++ strOf (sumS s es) = strOf BS) := hid (by rw [hHW]; exact strOf_app' _ _)
        have HCZ2 : Hid (¬ 9223372036854775807 < (strOf p).size + (strOf (sumS s es)).size) := hid (by rw [strOf_size, strOf_size]; omega)
        have HTS := hid ht32
        obtain ⟨LS, hLS⟩ : ∃ x, sumS s es = x := ⟨_, rfl⟩
        rw [hLS] at HCC2 HCZ2 HSRT
        have HLS := hid hLS
        clear hTL ht32 hp hHW hLS ho hjl
        go_wp2_with fail
        refine HSU.out.mono ?_
        rintro x wv ⟨rfl, hov⟩
        have HOV := hid (HOY.out.trans hov (fun _ _ e => e))
        have hzv := hov.size
        have HBZ := hid (blk_new wv (.cells (byA st0 0) 29))
        clear hov HSU
        go_wp2_with ((guard_target =~ wpList _ _ _ (⟨none, .store 29 (.tmp 12) _, _, _, _, _⟩ :: _) _ _); refine wpList_store_all rfl 29 (.tmp 12) (.tmp 52) rfl wv.heap.size TL.toArray rfl rfl (byA st0 0) 29 HBZ.out HTz.out HTi.out HT1.out ?_; intro wd hbd hod hsd; have hcvS := conv_str (HSRT.out wd wv.heap.size hbd); have hcc2 := HCC2.out; have hcz2 := HCZ2.out; have HBD := hid hbd; have HOD := hid hod; have HSD := hid hsd; clear hbd hod hsd)
        have hod : Only (fun _ => False) w7 wd := (HOV.out.trans (only_new wv (.cells (byA st0 0) 29)) (fun _ _ e => e)).trans HOD.out (fun k hk e => by have e1 : k = wv.heap.size := e; omega)
        have HOD7 := hid hod
        have hzd := hod.size
        have HWB := hid (wbytes_c (HW7.out.same hod) (by have := HWL.out; omega))
        clear hod hcvS hcc2 hcz2
        refine HWB.out.mono ?_
        rintro x we ⟨v1, rfl, ao1, cp1, rfl, hg1, -, hoe⟩
        have hcs1 := conv_str hg1.src
        have HOE := hid (HOD7.out.trans hoe (fun _ _ e => e))
        have HBE := hid (blk_only HBD.out hoe (fun e => e))
        have HO57 : Hid (Only (fun _ => False) w5 w7) := hid HW57.out
        have HBYc := hid (HBYT.out we (HO57.out.trans HOE.out (fun _ _ e => e)))
        have hsz1 : (strOf BS).size = BS.length := rfl
        clear hg1 hoe HWB
        go_wp2_with fail
        refine HBYc.out.mono ?_
        rintro x wf ⟨rfl, hof⟩
        have HOF := hid (HOE.out.trans hof (fun _ _ e => e))
        have HBF := hid (blk_only HBE.out hof (fun e => e))
        have HWB := hid (wbytes_c (HW7.out.same HOF.out) (by have := HWL.out; omega))
        clear hof hcs1 HBYc
        go_wp2_with fail
        refine HWB.out.mono ?_
        rintro x wg ⟨v2, rfl, ao2, cp2, rfl, hg2, hn2, hog⟩
        have HG2 := hid hg2
        have HOG := hid (HOF.out.trans hog (fun _ _ e => e))
        have HBG := hid (blk_only HBF.out hog (fun e => e))
        have hzf := HOF.out.size
        have hzg := hog.size
        have HN2 := hid hn2
        have HOFG := hid hog
        have hwl := HWL.out
        clear hg2 hog HWB hn2 hsz1
        go_wp2_with ((guard_target =~ wpList _ _ _ (⟨some 70, _, _, _, _, _⟩ :: _) _ _); refine wpList_gr rfl el8 (.tmp 68) (.tmp 69) rfl (HG2.out.only (only_new wg (.cells #[.int .u8 1, .int .u8 2] 5)) (fun _ _ e => e)) rfl (some ⟨wg.heap.size, 0, none⟩) 2 2 rfl [.int .u8 1, .int .u8 2] (SrcG.new (blk_new wg _) rfl (by simp [Value.oneCell'])) (by omega) (by omega) ?_; intro ao3 cp3 wh hgh hah hoh; have HGH := hid hgh; have HOH := hid hoh; clear hgh hah hoh)
        have hoh : Only (fun _ => False) wf wh := ((Only.refl (fun _ => False) wf).trans (show Only (fun _ => False) wf (wg.alloc (.cells #[.int .u8 1, .int .u8 2] 5)) from HOFG.out.trans (only_new _ _) (fun _ _ e => e)) (fun _ _ e => e)).trans HOH.out (fun k hk e => by have := HN2.out k e; omega)
        obtain ⟨l2, hl2⟩ : ∃ x, BS ++ [1, 2] = x := ⟨_, rfl⟩
        have hl2l : l2.length = BS.length + 2 := by rw [← hl2]; simp
        have hgh := HGH.out
        rw [show bytesV BS ++ [.int .u8 1, .int .u8 2] = bytesV l2 from by rw [← hl2]; simp [bytesV]] at hgh
        have hsrc : Src wh (.slice ao3 (BS.length + 2) cp3) l2 := by rw [← hl2l] at hgh ⊢; exact hgh.src
        have HRD := hid (read_c (w := wh) _ l2 hsrc (by omega))
        have HH2 := hid hl2; have HL2 := hid hl2l
        have HOH7 := hid (HOF.out.trans hoh (fun _ _ e => e))
        have HBH := hid (blk_only HBF.out hoh (fun e => e))
        clear hgh hsrc hl2 hoh HGH
        refine HRD.out.mono ?_
        rintro x wi ⟨b, gg, rfl, hr, hbb, hgg, hoi⟩
        have HRH : Hid (rdHist (RdM.of l2) = (some (s, es), (RdM.of l2).adv BS.length)) := hid (HRT.out _ [1, 2] rfl (by show l2.drop 0 = _; rw [List.drop_zero, ← HH2.out]))
        have HHR := hid (hread_c hr)
        rw [HRH.out] at HHR
        have HOI := hid (HOH7.out.trans hoi (fun _ _ e => e))
        have HBI := hid (blk_only HBH.out hoi (fun e => e))
        have hbl := hr.lt
        have hzh := HOH7.out.size
        clear hr hoi HRD
        go_wp2_with fail
        refine HHR.out.mono ?_
        rintro x w9 ⟨hr9, ho9, hx⟩
        rcases hx with ⟨h1, -⟩ | ⟨s', es', kb, F9, h1, rfl, hk, -⟩
        · simp at h1
        simp only [Option.some.injEq, Prod.mk.injEq] at h1
        obtain ⟨rfl, rfl⟩ := h1
        have ho79 : Only (fun _ => False) w7 w9 := HOI.out.trans ho9 (fun k hk e => by have e1 : k = b := e; omega)
        have HO9 := hid ho79
        have HBT := hid (blk_only HBI.out ho9 (fun e => by have e1 : wv.heap.size = b := e; have := blk_lt HBH.out; omega))
        have HBS := hid (blk_only HB2.out (((HO27.out.trans ho79 (fun _ _ e => e)))) (fun e => e))
        have HH9 := hid (HH7.out.same ho79)
        have HK9 := hid hk
        simp only at hr9
        have h9e : ((RdM.of l2).adv BS.length).err = 0 := rfl
        have h9l : ((RdM.of l2).adv BS.length).b.length - ((RdM.of l2).adv BS.length).at' = 2 := by
          have h3 := HL2.out
          simp only [RdM.adv, RdM.of]
          omega
        obtain ⟨r9, hr9e⟩ : ∃ r, (RdM.of l2).adv BS.length = r := ⟨_, rfl⟩
        rw [hr9e] at hr9 h9e h9l
        have HR9 := hid hr9
        have HEG : Hid (Try.prog.eqGuardType Try.prog.depth 29 = false) := hid (by kernel_rfl)
        have HLFT : Hid (∀ W, Only (fun _ => False) w9 W → Calls Try.prog 47 #[.pointer (some ⟨b, 0, none⟩)] W fun x w' => x = .returned (.int .i64 2) ∧ Only (fun _ => False) W w') := hid fun W hW => (rleft_c (HR9.out.same hW) h9e).mono fun x w' ⟨h1, n, h2⟩ => ⟨by rw [h1, h9l]; rfl, by rw [h2]; exact only_drewN W n⟩
        have HALK : Hid (∀ W, Only (fun _ => False) w9 W → Calls Try.prog 17 #[.pointer (some ⟨kb, 0, none⟩)] W fun x w' => ∃ a1 a2 a3, x = .returned (.slice a1 es.length a2) ∧ OutE (fun _ => True) w' a1 es.length a2 a3 es ∧ Only (fun _ => False) W w') := hid fun W hW => (hall_c (HK9.out.same hW)).mono fun x w' ⟨a1, a2, a3, h1, h2, h3⟩ => ⟨a1, a2, a3, h1, h2.turn (fun _ _ _ => trivial), h3⟩
        have HALH : Hid (∀ W, Only (fun _ => False) w9 W → Calls Try.prog 17 #[.pointer (some ⟨hb, 0, none⟩)] W fun x w' => ∃ a1 a2 a3, x = .returned (.slice a1 es.length a2) ∧ OutE (fun _ => True) w' a1 es.length a2 a3 es ∧ Only (fun _ => False) W w') := hid fun W hW => (hall_c (HH9.out.same hW)).mono fun x w' ⟨a1, a2, a3, h1, h2, h3⟩ => ⟨a1, a2, a3, h1, h2.turn (fun _ _ _ => trivial), h3⟩
        have HSUK : Hid (∀ W, Only (fun _ => False) w9 W → Calls Try.prog 19 #[.pointer (some ⟨kb, 0, none⟩)] W fun x w' => x = .returned (.agg TL.toArray) ∧ Only (fun _ => False) W w') := hid fun W hW => by rw [← HTL.out]; exact hsum2_c (HK9.out.same hW)
        have HSEK : Hid (∀ W, Only (fun _ => False) w9 W → Calls Try.prog 38 #[.pointer (some ⟨kb, 0, none⟩)] W fun x w' => x = .returned (.agg SL.toArray) ∧ Only (fun _ => False) W w') := hid fun W hW => by rw [← HSL.out]; exact hseed_c (HK9.out.same hW)
        have HCLK : Hid (∀ W, Only (fun _ => False) w9 W → Calls Try.prog 30 #[.pointer (some ⟨kb, 0, none⟩)] W fun x w' => x = .returned (.bool (closedL es)) ∧ Only (fun _ => False) W w') := hid fun W hW => hclosed_c (HK9.out.same hW)
        have HCLH : Hid (∀ W, Only (fun _ => False) w9 W → Calls Try.prog 30 #[.pointer (some ⟨hb, 0, none⟩)] W fun x w' => x = .returned (.bool (closedL es)) ∧ Only (fun _ => False) W w') := hid fun W hW => hclosed_c (HH9.out.same hW)
        have HQT : Hid (∀ W : World, (binOp .eql 29 (.agg TL.toArray) (.agg TL.toArray)).run Try.prog W = .ok (.bool true) W) := hid fun W => by rw [← HTL.out, eql_sum W (sumS_len HS32.out es) (sumS_len HS32.out es)]; simp
        have HQS : Hid (∀ W : World, (binOp .eql 29 (.agg SL.toArray) (.agg SL.toArray)).run Try.prog W = .ok (.bool true) W) := hid fun W => by rw [← HSL.out, eql_sum W HS32.out HS32.out]; simp
        clear hr9 ho9 hk ho79 HHR
        go_wp2_with fail
        refine region_pg 33 [] (by kernel_rfl) (by kernel_rfl) (by kernel_rfl) [(74, fun _ v => v = .pointer (some ⟨kb, 0, none⟩)), (75, fun _ v => v = .bool true), (76, fun _ v => v = .bool true), (77, fun _ v => v = .pointer (some ⟨b, 0, none⟩)), (78, fun _ v => v = .int .i64 2), (79, fun _ v => v = .bool true), (80, fun _ v => v = .bool true), (81, fun _ v => v = .bool true), (82, fun _ v => v = .pointer (some ⟨kb, 0, none⟩)), (83, fun W v => ∃ ad cap xs, v = .slice ad es.length cap ∧ OutE (fun _ => True) W ad es.length cap xs es), (84, fun _ v => v = .pointer (some ⟨hb, 0, none⟩)), (85, fun W v => ∃ ad cap xs, v = .slice ad es.length cap ∧ OutE (fun _ => True) W ad es.length cap xs es), (86, fun _ v => v = .bool true), (87, fun _ v => v = .bool true), (88, fun _ v => v = .bool true), (89, fun _ v => v = .pointer (some ⟨kb, 0, none⟩)), (90, fun _ v => v = .agg TL.toArray), (91, fun _ v => v = .agg TL.toArray), (92, fun _ v => v = .bool true), (93, fun _ v => v = .bool true), (94, fun _ v => v = .bool true), (95, fun _ v => v = .pointer (some ⟨kb, 0, none⟩)), (96, fun _ v => v = .agg SL.toArray), (97, fun _ v => v = .agg SL.toArray), (98, fun _ v => v = .bool true), (99, fun _ v => v = .bool true), (100, fun _ v => v = .bool true), (101, fun _ v => v = .pointer (some ⟨kb, 0, none⟩)), (102, fun _ v => v = .bool (closedL es)), (103, fun _ v => v = .pointer (some ⟨hb, 0, none⟩)), (104, fun _ v => v = .bool (closedL es)), (105, fun _ v => v = .bool true), (106, fun _ v => v = .bool true)] (fun _ W => Only (fun _ => False) w9 W) (by show [74, 75, 76, 77, 78, 79, 80, 81, 82, 83, 84, 85, 86, 87, 88, 89, 90, 91, 92, 93, 94, 95, 96, 97, 98, 99, 100, 101, 102, 103, 104, 105, 106].Nodup; decide) (by show ∀ d ∈ [74, 75, 76, 77, 78, 79, 80, 81, 82, 83, 84, 85, 86, 87, 88, 89, 90, 91, 92, 93, 94, 95, 96, 97, 98, 99, 100, 101, 102, 103, 104, 105, 106], d < 107; decide) ((Only.refl _ _).drew) (.inl rfl) ?_ ?_ ?_
        · exact trivial
        · have hstab : PtStabs (Only (fun _ => False)) [(74, fun _ v => v = .pointer (some ⟨kb, 0, none⟩)), (75, fun _ v => v = .bool true), (76, fun _ v => v = .bool true), (77, fun _ v => v = .pointer (some ⟨b, 0, none⟩)), (78, fun _ v => v = .int .i64 2), (79, fun _ v => v = .bool true), (80, fun _ v => v = .bool true), (81, fun _ v => v = .bool true), (82, fun _ v => v = .pointer (some ⟨kb, 0, none⟩)), (83, fun W v => ∃ ad cap xs, v = .slice ad es.length cap ∧ OutE (fun _ => True) W ad es.length cap xs es), (84, fun _ v => v = .pointer (some ⟨hb, 0, none⟩)), (85, fun W v => ∃ ad cap xs, v = .slice ad es.length cap ∧ OutE (fun _ => True) W ad es.length cap xs es), (86, fun _ v => v = .bool true), (87, fun _ v => v = .bool true), (88, fun _ v => v = .bool true), (89, fun _ v => v = .pointer (some ⟨kb, 0, none⟩)), (90, fun _ v => v = .agg TL.toArray), (91, fun _ v => v = .agg TL.toArray), (92, fun _ v => v = .bool true), (93, fun _ v => v = .bool true), (94, fun _ v => v = .bool true), (95, fun _ v => v = .pointer (some ⟨kb, 0, none⟩)), (96, fun _ v => v = .agg SL.toArray), (97, fun _ v => v = .agg SL.toArray), (98, fun _ v => v = .bool true), (99, fun _ v => v = .bool true), (100, fun _ v => v = .bool true), (101, fun _ v => v = .pointer (some ⟨kb, 0, none⟩)), (102, fun _ v => v = .bool (closedL es)), (103, fun _ v => v = .pointer (some ⟨hb, 0, none⟩)), (104, fun _ v => v = .bool (closedL es)), (105, fun _ v => v = .bool true), (106, fun _ v => v = .bool true)] := ⟨fun _ _ _ _ h => h, fun _ _ _ _ h => h, fun _ _ _ _ h => h, fun _ _ _ _ h => h, fun _ _ _ _ h => h, fun _ _ _ _ h => h, fun _ _ _ _ h => h, fun _ _ _ _ h => h, fun _ _ _ _ h => h, fun W W' v hr ⟨a1, a2, a3, h1, h2⟩ => ⟨a1, a2, a3, h1, h2.only hr (fun _ _ _ e => e)⟩, fun _ _ _ _ h => h, fun W W' v hr ⟨a1, a2, a3, h1, h2⟩ => ⟨a1, a2, a3, h1, h2.only hr (fun _ _ _ e => e)⟩, fun _ _ _ _ h => h, fun _ _ _ _ h => h, fun _ _ _ _ h => h, fun _ _ _ _ h => h, fun _ _ _ _ h => h, fun _ _ _ _ h => h, fun _ _ _ _ h => h, fun _ _ _ _ h => h, fun _ _ _ _ h => h, fun _ _ _ _ h => h, fun _ _ _ _ h => h, fun _ _ _ _ h => h, fun _ _ _ _ h => h, fun _ _ _ _ h => h, fun _ _ _ _ h => h, fun _ _ _ _ h => h, fun _ _ _ _ h => h, fun _ _ _ _ h => h, fun _ _ _ _ h => h, fun _ _ _ _ h => h, fun _ _ _ _ h => h, trivial⟩
          refine PgAllS.cons rfl rfl (.inl ⟨rfl, rfl⟩) ?_ (PgAllS.cons rfl rfl (.inl ⟨rfl, rfl⟩) ?_ (PgAllS.cons rfl rfl (.inl ⟨rfl, rfl⟩) ?_ (PgAllS.cons rfl rfl (.inr ⟨_, _, _, _, _, rfl, rfl, rfl, rfl, by kernel_rfl⟩) ?_ (PgAllS.cons rfl rfl (.inr ⟨_, _, _, _, _, rfl, rfl, rfl, rfl, by kernel_rfl⟩) ?_ (PgAllS.cons rfl rfl (.inr ⟨_, _, _, _, _, rfl, rfl, rfl, rfl, by kernel_rfl⟩) ?_ (PgAllS.cons rfl rfl (.inl ⟨rfl, rfl⟩) ?_ (PgAllS.cons rfl rfl (.inl ⟨rfl, rfl⟩) ?_ (PgAllS.cons rfl rfl (.inr ⟨_, _, _, _, _, rfl, rfl, rfl, rfl, by kernel_rfl⟩) ?_ (PgAllS.cons rfl rfl (.inr ⟨_, _, _, _, _, rfl, rfl, rfl, rfl, by kernel_rfl⟩) ?_ (PgAllS.cons rfl rfl (.inr ⟨_, _, _, _, _, rfl, rfl, rfl, rfl, by kernel_rfl⟩) ?_ (PgAllS.cons rfl rfl (.inr ⟨_, _, _, _, _, rfl, rfl, rfl, rfl, by kernel_rfl⟩) ?_ (PgAllS.cons rfl rfl (.inr ⟨_, _, _, _, _, rfl, rfl, rfl, rfl, by kernel_rfl⟩) ?_ (PgAllS.cons rfl rfl (.inl ⟨rfl, rfl⟩) ?_ (PgAllS.cons rfl rfl (.inl ⟨rfl, rfl⟩) ?_ (PgAllS.cons rfl rfl (.inr ⟨_, _, _, _, _, rfl, rfl, rfl, rfl, by kernel_rfl⟩) ?_ (PgAllS.cons rfl rfl (.inr ⟨_, _, _, _, _, rfl, rfl, rfl, rfl, by kernel_rfl⟩) ?_ (PgAllS.cons rfl rfl (.inr ⟨_, _, _, _, _, rfl, rfl, rfl, rfl, by kernel_rfl⟩) ?_ (PgAllS.cons rfl rfl (.inr ⟨_, _, _, _, _, rfl, rfl, rfl, rfl, by kernel_rfl⟩) ?_ (PgAllS.cons rfl rfl (.inl ⟨rfl, rfl⟩) ?_ (PgAllS.cons rfl rfl (.inl ⟨rfl, rfl⟩) ?_ (PgAllS.cons rfl rfl (.inr ⟨_, _, _, _, _, rfl, rfl, rfl, rfl, by kernel_rfl⟩) ?_ (PgAllS.cons rfl rfl (.inr ⟨_, _, _, _, _, rfl, rfl, rfl, rfl, by kernel_rfl⟩) ?_ (PgAllS.cons rfl rfl (.inr ⟨_, _, _, _, _, rfl, rfl, rfl, rfl, by kernel_rfl⟩) ?_ (PgAllS.cons rfl rfl (.inr ⟨_, _, _, _, _, rfl, rfl, rfl, rfl, by kernel_rfl⟩) ?_ (PgAllS.cons rfl rfl (.inl ⟨rfl, rfl⟩) ?_ (PgAllS.cons rfl rfl (.inl ⟨rfl, rfl⟩) ?_ (PgAllS.cons rfl rfl (.inr ⟨_, _, _, _, _, rfl, rfl, rfl, rfl, by kernel_rfl⟩) ?_ (PgAllS.cons rfl rfl (.inr ⟨_, _, _, _, _, rfl, rfl, rfl, rfl, by kernel_rfl⟩) ?_ (PgAllS.cons rfl rfl (.inr ⟨_, _, _, _, _, rfl, rfl, rfl, rfl, by kernel_rfl⟩) ?_ (PgAllS.cons rfl rfl (.inr ⟨_, _, _, _, _, rfl, rfl, rfl, rfl, by kernel_rfl⟩) ?_ (PgAllS.cons rfl rfl (.inr ⟨_, _, _, _, _, rfl, rfl, rfl, rfl, by kernel_rfl⟩) ?_ (PgAllS.cons rfl rfl (.inl ⟨rfl, rfl⟩) ?_ (PgAllS.nil rfl)))))))))))))))))))))))))))))))))
          · intro L a W K hI hn hd hK
            have e14 : a.eval (.tmp 14) = .pointer (some ⟨kb, 0, none⟩) := hI.ev 14 (by show ¬ (14 ∈ [74, 75, 76, 77, 78, 79, 80, 81, 82, 83, 84, 85, 86, 87, 88, 89, 90, 91, 92, 93, 94, 95, 96, 97, 98, 99, 100, 101, 102, 103, 104, 105, 106]); decide) rfl
            exact pt_move _ (by first | exact .inl rfl | exact .inr rfl) _ e14 (hK _ _ hI.j PtKeep.refl rfl)
          · intro L a W K hI hn hd hK
            have e74 : a.eval (.tmp 74) = .pointer (some ⟨kb, 0, none⟩) := hI.fact 0 74 _ rfl (dep_of hd 0 (by kernel_rfl))
            exact pt_val (v := .bool true) (by unfold execOp; simp only [e74]; kernel_rfl) (hK _ _ hI.j PtKeep.refl rfl)
          · intro L a W K hI hn hd hK
            have e75 : a.eval (.tmp 75) = .bool true := hI.fact 1 75 _ rfl (dep_of hd 1 (by kernel_rfl))
            exact pt_move _ (by first | exact .inl rfl | exact .inr rfl) _ e75 (hK _ _ hI.j PtKeep.refl rfl)
          · intro L a W K hI hn hd hK
            have e13 : a.eval (.tmp 13) = .pointer (some ⟨b, 0, none⟩) := hI.ev 13 (by show ¬ (13 ∈ [74, 75, 76, 77, 78, 79, 80, 81, 82, 83, 84, 85, 86, 87, 88, 89, 90, 91, 92, 93, 94, 95, 96, 97, 98, 99, 100, 101, 102, 103, 104, 105, 106]); decide) rfl
            exact pt_move _ (by first | exact .inl rfl | exact .inr rfl) _ e13 (hK _ _ hI.j PtKeep.refl rfl)
          · intro L a W K hI hn hd hK
            have e77 : a.eval (.tmp 77) = .pointer (some ⟨b, 0, none⟩) := hI.fact 3 77 _ rfl (dep_of hd 3 (by kernel_rfl))
            refine wp_callc (f := 47) (args := #[a.eval (.tmp 77)]) (by kernel_rfl) ?_
            rw [e77]
            refine (HLFT.out _ hI.j).mono ?_
            rintro x W' ⟨rfl, ho⟩
            exact ⟨_, rfl, hK _ _ (hI.j.trans ho (fun _ _ e => e.elim)) (hstab.keep ho) rfl⟩
          · intro L a W K hI hn hd hK
            have e78 : a.eval (.tmp 78) = .int .i64 2 := hI.fact 4 78 _ rfl (dep_of hd 4 (by kernel_rfl))
            exact pt_val (v := .bool true) (by unfold execOp; simp only [e78]; kernel_rfl) (hK _ _ hI.j PtKeep.refl rfl)
          · intro L a W K hI hn hd hK
            have e76 : a.eval (.tmp 76) = .bool true := hI.fact 2 76 _ rfl (dep_of hd 2 (by kernel_rfl))
            have e79 : a.eval (.tmp 79) = .bool true := hI.fact 5 79 _ rfl (dep_of hd 5 (by kernel_rfl))
            exact pt_val (v := .bool true) (by unfold execOp; simp only [e76, e79]; kernel_rfl) (hK _ _ hI.j PtKeep.refl rfl)
          · intro L a W K hI hn hd hK
            have e80 : a.eval (.tmp 80) = .bool true := hI.fact 6 80 _ rfl (dep_of hd 6 (by kernel_rfl))
            exact pt_move _ (by first | exact .inl rfl | exact .inr rfl) _ e80 (hK _ _ hI.j PtKeep.refl rfl)
          · intro L a W K hI hn hd hK
            have e14 : a.eval (.tmp 14) = .pointer (some ⟨kb, 0, none⟩) := hI.ev 14 (by show ¬ (14 ∈ [74, 75, 76, 77, 78, 79, 80, 81, 82, 83, 84, 85, 86, 87, 88, 89, 90, 91, 92, 93, 94, 95, 96, 97, 98, 99, 100, 101, 102, 103, 104, 105, 106]); decide) rfl
            exact pt_move _ (by first | exact .inl rfl | exact .inr rfl) _ e14 (hK _ _ hI.j PtKeep.refl rfl)
          · intro L a W K hI hn hd hK
            have e82 : a.eval (.tmp 82) = .pointer (some ⟨kb, 0, none⟩) := hI.fact 8 82 _ rfl (dep_of hd 8 (by kernel_rfl))
            refine wp_callc (f := 17) (args := #[a.eval (.tmp 82)]) (by kernel_rfl) ?_
            rw [e82]
            refine (HALK.out _ hI.j).mono ?_
            rintro x W' ⟨a1, a2, a3, rfl, hv, ho⟩
            exact ⟨_, rfl, hK _ _ (hI.j.trans ho (fun _ _ e => e)) (hstab.keep ho) ⟨a1, a2, a3, rfl, hv⟩⟩
          · intro L a W K hI hn hd hK
            have e5 : a.eval (.tmp 5) = .pointer (some ⟨hb, 0, none⟩) := hI.ev 5 (by show ¬ (5 ∈ [74, 75, 76, 77, 78, 79, 80, 81, 82, 83, 84, 85, 86, 87, 88, 89, 90, 91, 92, 93, 94, 95, 96, 97, 98, 99, 100, 101, 102, 103, 104, 105, 106]); decide) rfl
            exact pt_move _ (by first | exact .inl rfl | exact .inr rfl) _ e5 (hK _ _ hI.j PtKeep.refl rfl)
          · intro L a W K hI hn hd hK
            have e84 : a.eval (.tmp 84) = .pointer (some ⟨hb, 0, none⟩) := hI.fact 10 84 _ rfl (dep_of hd 10 (by kernel_rfl))
            refine wp_callc (f := 17) (args := #[a.eval (.tmp 84)]) (by kernel_rfl) ?_
            rw [e84]
            refine (HALH.out _ hI.j).mono ?_
            rintro x W' ⟨a1, a2, a3, rfl, hv, ho⟩
            exact ⟨_, rfl, hK _ _ (hI.j.trans ho (fun _ _ e => e)) (hstab.keep ho) ⟨a1, a2, a3, rfl, hv⟩⟩
          · intro L a W K hI hn hd hK
            have f83 := hI.fact 9 83 _ rfl (dep_of hd 9 (by kernel_rfl))
            have f85 := hI.fact 11 85 _ rfl (dep_of hd 11 (by kernel_rfl))
            obtain ⟨p1, p2, p3, q1, q2⟩ := f83
            obtain ⟨r1, r2, r3, t1, t2⟩ := f85
            refine wp_callc (f := 16) (args := #[a.eval (.tmp 83), a.eval (.tmp 85)]) (by kernel_rfl) ?_
            rw [q1, t1]
            have hsame := same_c q2.evs t2.evs HKD.out HKD.out (by have := HEL.out; omega)
            rw [samL_self] at hsame
            refine hsame.mono ?_
            rintro x W' ⟨rfl, ho⟩
            exact ⟨_, rfl, hK _ _ (hI.j.trans ho (fun _ _ e => e)) (hstab.keep ho) rfl⟩
          · intro L a W K hI hn hd hK
            have e81 : a.eval (.tmp 81) = .bool true := hI.fact 7 81 _ rfl (dep_of hd 7 (by kernel_rfl))
            have f86 := hI.fact 12 86 _ rfl (dep_of hd 12 (by kernel_rfl))
            exact pt_val (v := .bool true) (by unfold execOp; simp only [e81, f86]; kernel_rfl) (hK _ _ hI.j PtKeep.refl rfl)
          · intro L a W K hI hn hd hK
            have e87 : a.eval (.tmp 87) = .bool true := hI.fact 13 87 _ rfl (dep_of hd 13 (by kernel_rfl))
            exact pt_move _ (by first | exact .inl rfl | exact .inr rfl) _ e87 (hK _ _ hI.j PtKeep.refl rfl)
          · intro L a W K hI hn hd hK
            have e14 : a.eval (.tmp 14) = .pointer (some ⟨kb, 0, none⟩) := hI.ev 14 (by show ¬ (14 ∈ [74, 75, 76, 77, 78, 79, 80, 81, 82, 83, 84, 85, 86, 87, 88, 89, 90, 91, 92, 93, 94, 95, 96, 97, 98, 99, 100, 101, 102, 103, 104, 105, 106]); decide) rfl
            exact pt_move _ (by first | exact .inl rfl | exact .inr rfl) _ e14 (hK _ _ hI.j PtKeep.refl rfl)
          · intro L a W K hI hn hd hK
            have e89 : a.eval (.tmp 89) = .pointer (some ⟨kb, 0, none⟩) := hI.fact 15 89 _ rfl (dep_of hd 15 (by kernel_rfl))
            refine wp_callc (f := 19) (args := #[a.eval (.tmp 89)]) (by kernel_rfl) ?_
            rw [e89]
            refine (HSUK.out _ hI.j).mono ?_
            rintro x W' ⟨rfl, ho⟩
            exact ⟨_, rfl, hK _ _ (hI.j.trans ho (fun _ _ e => e.elim)) (hstab.keep ho) rfl⟩
          · intro L a W K hI hn hd hK
            have e12 : a.eval (.tmp 12) = .pointer (some ⟨wv.heap.size, 0, none⟩) := hI.ev 12 (by show ¬ (12 ∈ [74, 75, 76, 77, 78, 79, 80, 81, 82, 83, 84, 85, 86, 87, 88, 89, 90, 91, 92, 93, 94, 95, 96, 97, 98, 99, 100, 101, 102, 103, 104, 105, 106]); decide) rfl
            exact wp_load_row _ (.tmp 12) rfl (wv.heap.size) e12 29 (TL.toArray) (0, 0) _ (blk_only HBT.out hI.j (fun e => e)) Try.underlying29 rfl (HTi.out) (hK _ _ hI.j PtKeep.refl rfl)
          · intro L a W K hI hn hd hK
            have e90 : a.eval (.tmp 90) = .agg TL.toArray := hI.fact 16 90 _ rfl (dep_of hd 16 (by kernel_rfl))
            have e91 : a.eval (.tmp 91) = .agg TL.toArray := hI.fact 17 91 _ rfl (dep_of hd 17 (by kernel_rfl))
            exact pt_val (v := .bool true) (by unfold execOp; simp only [e90, e91, Sem.run_bind, run_eqGuard_agg _ _ _ _ _ _ _ HEG.out, HQT.out, Result.andThen_ok, Sem.run_pure]) (hK _ _ hI.j PtKeep.refl rfl)
          · intro L a W K hI hn hd hK
            have e88 : a.eval (.tmp 88) = .bool true := hI.fact 14 88 _ rfl (dep_of hd 14 (by kernel_rfl))
            have e92 : a.eval (.tmp 92) = .bool true := hI.fact 18 92 _ rfl (dep_of hd 18 (by kernel_rfl))
            exact pt_val (v := .bool true) (by unfold execOp; simp only [e88, e92]; kernel_rfl) (hK _ _ hI.j PtKeep.refl rfl)
          · intro L a W K hI hn hd hK
            have e93 : a.eval (.tmp 93) = .bool true := hI.fact 19 93 _ rfl (dep_of hd 19 (by kernel_rfl))
            exact pt_move _ (by first | exact .inl rfl | exact .inr rfl) _ e93 (hK _ _ hI.j PtKeep.refl rfl)
          · intro L a W K hI hn hd hK
            have e14 : a.eval (.tmp 14) = .pointer (some ⟨kb, 0, none⟩) := hI.ev 14 (by show ¬ (14 ∈ [74, 75, 76, 77, 78, 79, 80, 81, 82, 83, 84, 85, 86, 87, 88, 89, 90, 91, 92, 93, 94, 95, 96, 97, 98, 99, 100, 101, 102, 103, 104, 105, 106]); decide) rfl
            exact pt_move _ (by first | exact .inl rfl | exact .inr rfl) _ e14 (hK _ _ hI.j PtKeep.refl rfl)
          · intro L a W K hI hn hd hK
            have e95 : a.eval (.tmp 95) = .pointer (some ⟨kb, 0, none⟩) := hI.fact 21 95 _ rfl (dep_of hd 21 (by kernel_rfl))
            refine wp_callc (f := 38) (args := #[a.eval (.tmp 95)]) (by kernel_rfl) ?_
            rw [e95]
            refine (HSEK.out _ hI.j).mono ?_
            rintro x W' ⟨rfl, ho⟩
            exact ⟨_, rfl, hK _ _ (hI.j.trans ho (fun _ _ e => e.elim)) (hstab.keep ho) rfl⟩
          · intro L a W K hI hn hd hK
            have e2 : a.eval (.tmp 2) = .pointer (some ⟨w.heap.size, 0, none⟩) := hI.ev 2 (by show ¬ (2 ∈ [74, 75, 76, 77, 78, 79, 80, 81, 82, 83, 84, 85, 86, 87, 88, 89, 90, 91, 92, 93, 94, 95, 96, 97, 98, 99, 100, 101, 102, 103, 104, 105, 106]); decide) rfl
            exact wp_load_row _ (.tmp 2) rfl (w.heap.size) e2 29 (SL.toArray) (0, 0) _ (blk_only HBS.out hI.j (fun e => e)) Try.underlying29 rfl (HIS.out) (hK _ _ hI.j PtKeep.refl rfl)
          · intro L a W K hI hn hd hK
            have e96 : a.eval (.tmp 96) = .agg SL.toArray := hI.fact 22 96 _ rfl (dep_of hd 22 (by kernel_rfl))
            have e97 : a.eval (.tmp 97) = .agg SL.toArray := hI.fact 23 97 _ rfl (dep_of hd 23 (by kernel_rfl))
            exact pt_val (v := .bool true) (by unfold execOp; simp only [e96, e97, Sem.run_bind, run_eqGuard_agg _ _ _ _ _ _ _ HEG.out, HQS.out, Result.andThen_ok, Sem.run_pure]) (hK _ _ hI.j PtKeep.refl rfl)
          · intro L a W K hI hn hd hK
            have e94 : a.eval (.tmp 94) = .bool true := hI.fact 20 94 _ rfl (dep_of hd 20 (by kernel_rfl))
            have e98 : a.eval (.tmp 98) = .bool true := hI.fact 24 98 _ rfl (dep_of hd 24 (by kernel_rfl))
            exact pt_val (v := .bool true) (by unfold execOp; simp only [e94, e98]; kernel_rfl) (hK _ _ hI.j PtKeep.refl rfl)
          · intro L a W K hI hn hd hK
            have e99 : a.eval (.tmp 99) = .bool true := hI.fact 25 99 _ rfl (dep_of hd 25 (by kernel_rfl))
            exact pt_move _ (by first | exact .inl rfl | exact .inr rfl) _ e99 (hK _ _ hI.j PtKeep.refl rfl)
          · intro L a W K hI hn hd hK
            have e14 : a.eval (.tmp 14) = .pointer (some ⟨kb, 0, none⟩) := hI.ev 14 (by show ¬ (14 ∈ [74, 75, 76, 77, 78, 79, 80, 81, 82, 83, 84, 85, 86, 87, 88, 89, 90, 91, 92, 93, 94, 95, 96, 97, 98, 99, 100, 101, 102, 103, 104, 105, 106]); decide) rfl
            exact pt_move _ (by first | exact .inl rfl | exact .inr rfl) _ e14 (hK _ _ hI.j PtKeep.refl rfl)
          · intro L a W K hI hn hd hK
            have e101 : a.eval (.tmp 101) = .pointer (some ⟨kb, 0, none⟩) := hI.fact 27 101 _ rfl (dep_of hd 27 (by kernel_rfl))
            refine wp_callc (f := 30) (args := #[a.eval (.tmp 101)]) (by kernel_rfl) ?_
            rw [e101]
            refine (HCLK.out _ hI.j).mono ?_
            rintro x W' ⟨rfl, ho⟩
            exact ⟨_, rfl, hK _ _ (hI.j.trans ho (fun _ _ e => e.elim)) (hstab.keep ho) rfl⟩
          · intro L a W K hI hn hd hK
            have e5 : a.eval (.tmp 5) = .pointer (some ⟨hb, 0, none⟩) := hI.ev 5 (by show ¬ (5 ∈ [74, 75, 76, 77, 78, 79, 80, 81, 82, 83, 84, 85, 86, 87, 88, 89, 90, 91, 92, 93, 94, 95, 96, 97, 98, 99, 100, 101, 102, 103, 104, 105, 106]); decide) rfl
            exact pt_move _ (by first | exact .inl rfl | exact .inr rfl) _ e5 (hK _ _ hI.j PtKeep.refl rfl)
          · intro L a W K hI hn hd hK
            have e103 : a.eval (.tmp 103) = .pointer (some ⟨hb, 0, none⟩) := hI.fact 29 103 _ rfl (dep_of hd 29 (by kernel_rfl))
            refine wp_callc (f := 30) (args := #[a.eval (.tmp 103)]) (by kernel_rfl) ?_
            rw [e103]
            refine (HCLH.out _ hI.j).mono ?_
            rintro x W' ⟨rfl, ho⟩
            exact ⟨_, rfl, hK _ _ (hI.j.trans ho (fun _ _ e => e.elim)) (hstab.keep ho) rfl⟩
          · intro L a W K hI hn hd hK
            have e102 : a.eval (.tmp 102) = .bool (closedL es) := hI.fact 28 102 _ rfl (dep_of hd 28 (by kernel_rfl))
            have e104 : a.eval (.tmp 104) = .bool (closedL es) := hI.fact 30 104 _ rfl (dep_of hd 30 (by kernel_rfl))
            exact pt_val (v := .bool true) (by unfold execOp; simp only [e102, e104]; cases closedL es <;> kernel_rfl) (hK _ _ hI.j PtKeep.refl rfl)
          · intro L a W K hI hn hd hK
            have e100 : a.eval (.tmp 100) = .bool true := hI.fact 26 100 _ rfl (dep_of hd 26 (by kernel_rfl))
            have e105 : a.eval (.tmp 105) = .bool true := hI.fact 31 105 _ rfl (dep_of hd 31 (by kernel_rfl))
            exact pt_val (v := .bool true) (by unfold execOp; simp only [e100, e105]; kernel_rfl) (hK _ _ hI.j PtKeep.refl rfl)
        · intro L a WZ hal hj hfs
          dsimp only [PtAll] at hfs
          obtain ⟨f74, f75, f76, f77, f78, f79, f80, f81, f82, f83, f84, f85, f86, f87, f88, f89, f90, f91, f92, f93, f94, f95, f96, f97, f98, f99, f100, f101, f102, f103, f104, f105, f106, -⟩ := hfs
          obtain ⟨b1, b2, b3, f83, -⟩ := f83
          obtain ⟨c1, c2, c3, f85, -⟩ := f85
          have hA := hal.turned
          simp only [List.map_cons, List.map_nil, Act.turned, f74, f75, f76, f77, f78, f79, f80, f81, f82, f83, f84, f85, f86, f87, f88, f89, f90, f91, f92, f93, f94, f95, f96, f97, f98, f99, f100, f101, f102, f103, f104, f105, f106] at hA
          simp only [Act.put, List.setIfInBounds_toArray, List.set_cons_zero, List.set_cons_succ] at hA
          clear hal f74 f75 f76 f77 f78 f79 f80 f81 f82 f83 f84 f85 f86 f87 f88 f89 f90 f91 f92 f93 f94 f95 f96 f97 f98 f99 f100 f101 f102 f103 f104 f105 f106
          subst hA
          change wpList _ _ _ [_] _ _
          have HJ2 := hid hj
          clear hj
          go_wp2_with fail
          go_ret
          exact ⟨rfl, HO0.out.trans (HO07.out.trans (HO9.out.trans HJ2.out (fun _ _ e => e)) (fun _ _ e => e)) (fun _ _ e => e)⟩
end
end Go.Proofs.Ytnoopajedgllhaa
