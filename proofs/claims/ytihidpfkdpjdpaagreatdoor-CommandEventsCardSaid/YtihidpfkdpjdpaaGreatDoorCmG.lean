/- command.read. -/
import Derived.Test.YtihidpfkdpjdpaaGreatDoorCmW
import Derived.Test.YtihidpfkdpjdpaaGreatDoorValH
namespace Go.Proofs.YtihidpfkdpjdpaaGreatDoor
open Go.RowKit
abbrev czero : Array Value := #[.int .i64 0, .int .i64 0, .int .i64 0, .int .i64 0, .string (strOf []), .int .i64 0, .int .i64 0, .string (strOf []), .slice none 0 0]
/-- In the middle of reading a command. -/
structure CMid (w wr : World) (b g n0 n1 n2 : Nat) (fs : Array Value) (x : EM × RdM) : Prop where
  rd : Rd wr b g x.2
  h0 : wr.heap[n0]? = some (.cells czero 26 (0, 0))
  h1 : ∃ vc, wr.heap[n1]? = some (.cells (x.1.ccells vc).toArray 26 (0, 0)) ∧ VAt wr (fun q => n2 < q ∧ q < wr.heap.size) x.1.v vc
  h2 : wr.heap[n2]? = some (.cells fs 72 (0, 0))
  o : Only (fun j => j = b) w wr
  hn0 : w.heap.size ≤ n0
  hnn : n0 < n1
  hn2 : n1 < n2
  hb : b < w.heap.size ∧ g < w.heap.size
theorem CMid.step {w wr wy : World} {b g n0 n1 n2 : Nat} {fs : Array Value} {x : EM × RdM} {r' : RdM} (h : CMid w wr b g n0 n1 n2 fs x) (hr : Rd wy b g r') (ho : Only (fun j => j = b) wr wy) : CMid w wy b g n0 n1 n2 fs (x.1, r') := by
  obtain ⟨vc, h1, h2⟩ := h.h1
  have := h.hn0; have := h.hnn; have := h.hn2; have := h.hb
  exact ⟨hr, blk_only h.h0 ho (by show ¬ n0 = b; omega), ⟨vc, blk_only h1 ho (by show ¬ n1 = b; omega), (h2.only ho (fun k hk e => by have e' : k = b := e; omega)).mono (fun k hk => ⟨hk.1, Nat.lt_of_lt_of_le hk.2 ho.size⟩)⟩, blk_only h.h2 ho (by show ¬ n2 = b; omega), h.o.trans ho (fun _ _ e => e), h.hn0, h.hnn, h.hn2, h.hb⟩
theorem CMid.set {w wr : World} {b g n0 n1 n2 : Nat} {fs : Array Value} {x : EM × RdM} (h : CMid w wr b g n0 n1 n2 fs x) (i : Nat) (v : Value) (e' : EM) (hv : e'.v = x.1.v) (hc : ∀ vc, ((x.1.ccells vc).toArray.setIfInBounds i v) = (e'.ccells vc).toArray) : CMid w (wr.setCell ⟨n1, i, none⟩ v) b g n0 n1 n2 fs (e', x.2) := by
  obtain ⟨vc, h1, h2⟩ := h.h1
  have := h.hn0; have := h.hnn; have := h.hn2; have := h.hb
  refine ⟨h.rd.only (only_set n1 i v) (by show ¬ b = n1; omega) (by show ¬ g = n1; omega), blk_only h.h0 (only_set n1 i v) (by show ¬ n0 = n1; omega), ⟨vc, ?_, ?_⟩, blk_only h.h2 (only_set n1 i v) (by show ¬ n2 = n1; omega), h.o.trans (only_set n1 i v) (fun k hk e => by have e' : k = n1 := e; omega), h.hn0, h.hnn, h.hn2, h.hb⟩
  · rw [← hc vc]; exact blk_set h1 i v
  · rw [hv]; exact (h2.only (only_set n1 i v) (fun k hk e => by have e' : k = n1 := e; omega)).mono (fun k hk => ⟨hk.1, by simp; exact hk.2⟩)
theorem CMid.form {w wr : World} {b g n0 n1 n2 : Nat} {fs : Array Value} {x : EM × RdM} (h : CMid w wr b g n0 n1 n2 fs x) : ∃ k n s a m c, wr.heap[n1]? = some (.cells #[.int .i64 x.1.k, .int .i64 x.1.tm, .int .i64 x.1.a, .int .i64 x.1.b, .string (strOf x.1.name), .int .i64 k, .int .i64 n, .string (strOf s), .slice a m c] 26 (0, 0)) ∧ VAt wr (fun q => n2 < q ∧ q < wr.heap.size) x.1.v [.int .i64 k, .int .i64 n, .string (strOf s), .slice a m c] := by
  obtain ⟨vc, h1, h2⟩ := h.h1
  obtain ⟨k, n, s, a, m, c, rfl⟩ := h2.form
  exact ⟨k, n, s, a, m, c, h1, h2⟩
theorem info_cmd : (Tryz.prog.info? 26).map (·.size) = some 9 := by kernel_rfl
theorem cmd_one (k t a b : Int) (n : ByteArray) (vk vn : Int) (vs : ByteArray) (va : Option Addr) (vm vc : Nat) : (#[Value.int .i64 k, .int .i64 t, .int .i64 a, .int .i64 b, .string n, .int .i64 vk, .int .i64 vn, .string vs, .slice va vm vc] : Array Value).all (·.oneCell') = true := by simp [Value.oneCell']
theorem ctext_le (r : RdM) : r.text.1.length ≤ 4096 := by
  have h := num_le (r := r) (most := 4096)
  unfold RdM.text RdM.take
  split
  · simp
  · split
    · simp
    · simp only [List.length_take]; omega
theorem cval_rg (r : RdM) : r.val.1.rg := by
  have hn : VT.nil.rg := by unfold VT.nil; rw [VT.rg, VT.rgL]; simp
  by_cases he : r.err = 0
  · by_cases h : r.val.2.err = 0
    · obtain ⟨t, post, e1, -, -, -, e5⟩ := val_inv he h
      rw [e1]; exact e5
    · have : r.val.1 = .nil := if_pos h
      rw [this]; exact hn
  · rw [val_bad he]; exact hn
theorem flds_of (k : Int) : cFlds k = (if fA k then [65] else []) ++ ((if fB k then [66] else []) ++ ((if fN k then [78] else []) ++ (if fV k then [86] else []))) := by
  rcases c_k7 k with rfl | rfl | rfl | rfl | rfl | rfl | h
  all_goals try decide
  have hA := (fA_mem k).1; have hB := (fB_mem k).1; have hN := (fN_mem k).1; have hV := (fV_mem k).1
  have h0 : cFlds k = [] := by unfold cFlds; rw [if_neg h]
  rw [h0] at hA hB hN hV ⊢
  rw [hA (by simp), hB (by simp), hN (by simp), hV (by simp)]; rfl
theorem nil_vrg : VT.nil.rg := by unfold VT.nil; rw [VT.rg, VT.rgL]; simp
/-- What command.read leaves. -/
def CmRead (w : World) (b g : Nat) (x : EM × RdM) (e : Ending) (w' : World) : Prop := ∃ cs, e = .returned (.agg cs.toArray) ∧ CAt w' (New w w') x.1 cs ∧ Rd w' b g x.2 ∧ Only (fun k => k = b) w w'
section
variable {w : World} {b g : Nat} {r : RdM}
set_option maxRecDepth 100000 in
set_option maxHeartbeats 6400000 in
theorem cread_c (h : Rd w b g r) : Calls Tryz.prog 46 #[.pointer (some ⟨b, 0, none⟩)] w fun e w' => CmRead w b g r.cm e w' ∧ r.cm.1.rg ∧ r.cm.1.isC := by
  have hlt := h.lt
  have HE : Hid (r.cm = ((rdFs (cFlds r.byte.1) (⟨0, ((rdCk r).num 4611686018427387903).1, r.byte.1, 0, 0, [], [], .nil⟩, ((rdCk r).num 4611686018427387903).2)).1, cEnd (rdFs (cFlds r.byte.1) (⟨0, ((rdCk r).num 4611686018427387903).1, r.byte.1, 0, 0, [], [], .nil⟩, ((rdCk r).num 4611686018427387903).2)))) := hid rfl
  have hkd : rdCk r = if fK r.byte.1 = false then r.byte.2.fail 9 else r.byte.2 := by unfold rdCk; simp only [fK_name]
  have HB := hid (rbyte_c (h.same (only_new w (.cells czero 26))))
  have hk := byte_lt r
  obtain ⟨k, hke⟩ : ∃ x, r.byte.1 = x := ⟨_, rfl⟩
  obtain ⟨r1, hre⟩ : ∃ x, r.byte.2 = x := ⟨_, rfl⟩
  rw [hke] at hk HE hkd HB
  rw [hre] at hkd HB
  have HFD := fun wc => hid (fields_c (w := wc) (k : Int))
  obtain ⟨rk, hrk⟩ : ∃ x, rdCk r = x := ⟨_, rfl⟩
  rw [hrk] at HE hkd
  obtain ⟨mA, hmA⟩ : ∃ m : Bool, fA k = m := ⟨_, rfl⟩
  obtain ⟨mB, hmB⟩ : ∃ m : Bool, fB k = m := ⟨_, rfl⟩
  obtain ⟨mN, hmN⟩ : ∃ m : Bool, fN k = m := ⟨_, rfl⟩
  obtain ⟨mV, hmV⟩ : ∃ m : Bool, fV k = m := ⟨_, rfl⟩
  obtain ⟨mK, hmK⟩ : ∃ m : Bool, fK k = m := ⟨_, rfl⟩
  simp only [hmA, hmB, hmN, hmV, hmK] at HFD
  rw [hmK] at hkd
  have HKD := hid hkd
  have MA := hid hmA; have MB := hid hmB; have MN := hid hmN; have MV := hid hmV
  clear hke hre hrk hkd h hmA hmB hmN hmV hmK
  go_enter Tryz.func46, Tryz.ntmps46
  go_wp2_with fail
  refine HB.out.mono ?_
  rintro e w1 ⟨rfl, hr1, ho1⟩
  have HR1 := hid hr1; have HO1 := hid ho1
  have hz1 := blk_only (blk_new w (.cells czero 26)) ho1 (by show ¬ w.heap.size = b; omega)
  have HZ1 := hid hz1
  have hs1 : w.heap.size + 1 ≤ w1.heap.size := by have := ho1.size; simpa using this
  clear hr1 ho1 hz1 HB
  go_wp2_with fail
  refine (HFD _).out.mono ?_
  rintro x w2 ⟨rfl, ho2⟩
  clear HFD
  have hs2 : w1.heap.size + 1 ≤ w2.heap.size := by have := ho2.size; simpa using this
  obtain ⟨wb, hwb⟩ : ∃ wb, w2.alloc (.cells #[.bool mA, .bool mB, .bool mN, .bool mV] 72) = wb := ⟨_, rfl⟩
  have ho12 := ((only_new w1 (.cells #[.int .i64 k, .int .i64 0, .int .i64 0, .int .i64 0, .string (strOf []), .int .i64 0, .int .i64 0, .string (strOf []), .slice none 0 0] 26)).trans ho2 (fun _ _ e => e)).trans (only_new w2 (.cells #[.bool mA, .bool mB, .bool mN, .bool mV] 72)) (fun _ _ e => e)
  rw [hwb] at ho12
  have hmb : CMid w wb b g w.heap.size w1.heap.size w2.heap.size #[.bool mA, .bool mB, .bool mN, .bool mV] (⟨0, 0, k, 0, 0, [], [], .nil⟩, r1) :=
    ⟨HR1.out.same ho12, blk_only HZ1.out ho12 (fun e => e), ⟨_, by rw [← hwb]; exact blk_alloc (blk_only (blk_new w1 _) ho2 (fun e => e)), novls _ _ 0 0 []⟩, by rw [← hwb]; exact blk_new w2 _, ((((only_new w _).mono (fun _ _ e => e.elim)).trans HO1.out (fun _ _ e => e)).trans (ho12.mono (fun _ _ e => e.elim)) (fun _ _ e => e)), Nat.le_refl _, by omega, by omega, hlt⟩
  obtain ⟨n1, hn1⟩ : ∃ x, w1.heap.size = x := ⟨_, rfl⟩
  obtain ⟨n2, hn2⟩ : ∃ x, w2.heap.size = x := ⟨_, rfl⟩
  rw [hn1] at hs1 hs2
  rw [hn2] at hs2
  rw [hn1, hn2] at hmb
  rw [hn1]
  have HMB := hid hmb
  clear hmb ho12 ho2 HR1 HO1 HZ1 hn1
  go_upto_if 17 with fail
  clear hwb hn2
  go_cut [3] from 16 to 19 (fun v wx => v = .pointer (some ⟨n1, 0, none⟩) ∧ CMid w wx b g w.heap.size n1 n2 #[.bool mA, .bool mB, .bool mN, .bool mV] (⟨0, 0, k, 0, 0, [], [], .nil⟩, rk))
  case first =>
    cases mK with
    | false =>
      have HF := hid (rfail_c HMB.out.rd 9)
      have HK := hid (HKD.out.trans (if_pos rfl))
      go_wp2_with fail
      refine HF.out.mono ?_
      rintro e w2 ⟨rfl, hr2, ho2⟩
      have HM2 := hid (HMB.out.step hr2 ho2)
      clear hr2 ho2
      go_wp2_with fail
      go_meet
      case rel => exact ⟨rfl, by rw [HK.out]; exact HM2.out⟩
    | true =>
      have HK := hid (HKD.out.trans (if_neg (by decide)))
      go_wp2_with fail
      go_meet
      case rel => exact ⟨rfl, by rw [HK.out]; exact HMB.out⟩
  case rest =>
  obtain ⟨rfl, hm⟩ := hcut
  have HNB := hid (rnum_c hm.rd 4611686018427387903 (by decide))
  have hle2 := num_le (r := rk) (most := 4611686018427387903)
  simp only at HNB
  obtain ⟨⟨tmn, rb⟩, hx⟩ : ∃ x, rk.num 4611686018427387903 = x := ⟨_, rfl⟩
  rw [hx] at HNB HE hle2
  simp only at HNB HE hle2
  have HM := hid hm
  clear hx hm HMB
  have hi2 : (tmn : Int) ≤ 4611686018427387903 := by omega
  go_wp2_with fail
  refine HNB.out.mono ?_
  rintro e w3 ⟨rfl, hr3, ho3⟩
  have hm3 := HM.out.step hr3 ho3
  obtain ⟨vk, vn, vs, va, vm, vc, hb3, -⟩ := hm3.form
  have c1 : w3.cell? ⟨n1, 1, none⟩ = some (.int .i64 0) := cell_blk hb3 1
  have cz := frozen_blk hb3
  have hlb := blk_lt hb3
  have hm4 := hm3.set 1 (.int .i64 tmn) ⟨0, tmn, k, 0, 0, [], [], .nil⟩ rfl (fun _ => rfl)
  obtain ⟨w4, hw4⟩ : ∃ x, w3.setCell ⟨n1, 1, none⟩ (.int .i64 tmn) = x := ⟨_, rfl⟩
  rw [hw4] at hm4
  have HM4 := hid hm4
  clear hr3 ho3 hm3 hb3 hm4 HM HNB
  obtain ⟨fl, hfl⟩ : ∃ x, cFlds (k : Int) = x := ⟨_, rfl⟩
  rw [hfl] at HE
  have hfs := flds_of (k : Int)
  rw [hfl, MA.out, MB.out, MN.out, MV.out] at hfs
  have hrd : rdFs fl ((⟨0, tmn, k, 0, 0, [], [], .nil⟩ : EM), rb) = rdFs ((if mA then [65] else []) ++ ((if mB then [66] else []) ++ ((if mN then [78] else []) ++ (if mV then [86] else [])))) ((⟨0, tmn, k, 0, 0, [], [], .nil⟩ : EM), rb) := by rw [hfs]
  have HRD := hid hrd
  have hxg0 : EM.rg (⟨0, tmn, k, 0, 0, [], [], .nil⟩ : EM) := by unfold EM.rg; simp only [List.length_nil]; exact ⟨by omega, by omega, by omega, by omega, by omega, by omega, by omega, nil_vrg⟩
  have HXG := hid hxg0
  have HXC : Hid (EM.isC (⟨0, tmn, k, 0, 0, [], [], .nil⟩ : EM)) := hid ⟨rfl, rfl⟩
  clear hfl hfs hrd hxg0
  obtain ⟨x0, hx0⟩ : ∃ x, (⟨0, tmn, k, 0, 0, [], [], .nil⟩ : EM) = x := ⟨_, rfl⟩
  rw [hx0] at HM4 HRD HXG HXC HE
  clear hx0
  have hbf := HM4.out.h2
  have hlf := blk_lt hbf
  have g0 : w4.cell? ⟨n2, 0, none⟩ = some (.bool mA) := cell_blk hbf 0
  have g1 : w4.cell? ⟨n2, 1, none⟩ = some (.bool mB) := cell_blk hbf 1
  have g2 : w4.cell? ⟨n2, 2, none⟩ = some (.bool mN) := cell_blk hbf 2
  have g3 : w4.cell? ⟨n2, 3, none⟩ = some (.bool mV) := cell_blk hbf 3
  clear hbf
  go_upto_if 25 with fail
  clear hw4 c1 cz hlb

  go_cut [3] from 25 to 29 (fun v wx => v = .pointer (some ⟨n1, 0, none⟩) ∧ ∃ x rx, CMid w wx b g w.heap.size n1 n2 #[.bool mA, .bool mB, .bool mN, .bool mV] (x, rx) ∧ x.rg ∧ x.isC ∧ rdFs fl (x0, rb) = rdFs ((if mB then [66] else []) ++ ((if mN then [78] else []) ++ (if mV then [86] else []))) (x, rx))
  case first =>
    cases mA with
    | false =>
      go_wp2_with fail
      go_meet
      case rel => exact ⟨rfl, _, _, HM4.out, HXG.out, HXC.out, HRD.out⟩
    | true =>
      have HN := hid (rnum_c HM4.out.rd 9223372036854775807 (by decide))
      have hle := num_le (r := rb) (most := 9223372036854775807)
      have hrf : rdF 65 (x0, rb) = ({ x0 with a := ((rb.num 9223372036854775807).1 : Nat) }, (rb.num 9223372036854775807).2) := by simp [rdF]
      have hrd := HRD.out
      simp only [if_true] at hrd
      rw [show ∀ l : List UInt8, rdFs ([65] ++ l) (x0, rb) = rdFs l (rdF 65 (x0, rb)) from fun _ => rfl, hrf] at hrd
      simp only at HN
      obtain ⟨⟨an, r5⟩, hx⟩ : ∃ x, rb.num 9223372036854775807 = x := ⟨_, rfl⟩
      rw [hx] at HN hrd hle
      simp only at HN hrd hle
      have hia : (an : Int) ≤ 9223372036854775807 := by omega
      have HRD2 := hid hrd
      clear hx hrf hrd
      go_wp2_with fail
      refine HN.out.mono ?_
      rintro e w5 ⟨rfl, hr5, ho5⟩
      have hm5 := HM4.out.step hr5 ho5
      obtain ⟨uk, un, us, ua, um, uc, hb5, -⟩ := hm5.form
      have d : w5.cell? ⟨n1, 2, none⟩ = some (.int .i64 x0.a) := cell_blk hb5 2
      have dz := frozen_blk hb5
      have hlb5 := blk_lt hb5
      have HM5 := hid hm5
      clear hr5 ho5 hm5 hb5
      go_wp2_with fail
      go_meet
      case rel => exact ⟨rfl, _, _, HM5.out.set 2 (.int .i64 an) { x0 with a := an } rfl (fun _ => rfl), by have := HXG.out; unfold EM.rg at this ⊢; simp only at this ⊢; obtain ⟨q1, q2, q3, q4, q5, q6, q7, q8⟩ := this; exact ⟨q1, q2, q3, ⟨by omega, by omega⟩, q5, q6, q7, q8⟩, HXC.out, HRD2.out⟩
  case rest =>
  obtain ⟨rfl, x1, rx1, hmx, hxg, hxc, hrd⟩ := hcut
  skip
  have hbf := hmx.h2
  have hlf := blk_lt hbf
  have g0 : wc.cell? ⟨n2, 0, none⟩ = some (.bool mA) := cell_blk hbf 0
  have g1 : wc.cell? ⟨n2, 1, none⟩ = some (.bool mB) := cell_blk hbf 1
  have g2 : wc.cell? ⟨n2, 2, none⟩ = some (.bool mN) := cell_blk hbf 2
  have g3 : wc.cell? ⟨n2, 3, none⟩ = some (.bool mV) := cell_blk hbf 3
  have HMX := hid hmx; have HXG := hid hxg; have HXC := hid hxc; have HRD := hid hrd
  clear hmx hxg hxc hrd hbf
  go_upto_if 31 with fail
  go_cut [3] from 31 to 35 (fun v wx => v = .pointer (some ⟨n1, 0, none⟩) ∧ ∃ x rx, CMid w wx b g w.heap.size n1 n2 #[.bool mA, .bool mB, .bool mN, .bool mV] (x, rx) ∧ x.rg ∧ x.isC ∧ rdFs fl (x0, rb) = rdFs ((if mN then [78] else []) ++ (if mV then [86] else [])) (x, rx))
  case first =>
    cases mB with
    | false =>
      go_wp2_with fail
      go_meet
      case rel => exact ⟨rfl, _, _, HMX.out, HXG.out, HXC.out, HRD.out⟩
    | true =>
      have HN := hid (rnum_c HMX.out.rd 9223372036854775807 (by decide))
      have hle := num_le (r := rx1) (most := 9223372036854775807)
      have hrf : rdF 66 (x1, rx1) = ({ x1 with b := ((rx1.num 9223372036854775807).1 : Nat) }, (rx1.num 9223372036854775807).2) := by simp [rdF]
      have hrd := HRD.out
      simp only [if_true] at hrd
      rw [show ∀ l : List UInt8, rdFs ([66] ++ l) (x1, rx1) = rdFs l (rdF 66 (x1, rx1)) from fun _ => rfl, hrf] at hrd
      simp only at HN
      obtain ⟨⟨an, r5⟩, hx⟩ : ∃ x, rx1.num 9223372036854775807 = x := ⟨_, rfl⟩
      rw [hx] at HN hrd hle
      simp only at HN hrd hle
      have hia : (an : Int) ≤ 9223372036854775807 := by omega
      have HRD2 := hid hrd
      clear hx hrf hrd
      go_wp2_with fail
      refine HN.out.mono ?_
      rintro e w5 ⟨rfl, hr5, ho5⟩
      have hm5 := HMX.out.step hr5 ho5
      obtain ⟨uk, un, us, ua, um, uc, hb5, -⟩ := hm5.form
      have d : w5.cell? ⟨n1, 3, none⟩ = some (.int .i64 x1.b) := cell_blk hb5 3
      have dz := frozen_blk hb5
      have hlb5 := blk_lt hb5
      have HM5 := hid hm5
      clear hr5 ho5 hm5 hb5
      go_wp2_with fail
      go_meet
      case rel => exact ⟨rfl, _, _, HM5.out.set 3 (.int .i64 an) { x1 with b := an } rfl (fun _ => rfl), by have := HXG.out; unfold EM.rg at this ⊢; simp only at this ⊢; obtain ⟨q1, q2, q3, q4, q5, q6, q7, q8⟩ := this; exact ⟨q1, q2, q3, q4, ⟨by omega, by omega⟩, q6, q7, q8⟩, HXC.out, HRD2.out⟩
  case rest =>
  obtain ⟨rfl, x2, rx2, hmx, hxg, hxc, hrd⟩ := hcut
  skip
  have hbf := hmx.h2
  have hlf := blk_lt hbf
  have g0 : wc.cell? ⟨n2, 0, none⟩ = some (.bool mA) := cell_blk hbf 0
  have g1 : wc.cell? ⟨n2, 1, none⟩ = some (.bool mB) := cell_blk hbf 1
  have g2 : wc.cell? ⟨n2, 2, none⟩ = some (.bool mN) := cell_blk hbf 2
  have g3 : wc.cell? ⟨n2, 3, none⟩ = some (.bool mV) := cell_blk hbf 3
  have HMX := hid hmx; have HXG := hid hxg; have HXC := hid hxc; have HRD := hid hrd
  clear hmx hxg hxc hrd hbf
  go_upto_if 37 with fail
  go_cut [3] from 37 to 40 (fun v wx => v = .pointer (some ⟨n1, 0, none⟩) ∧ ∃ x rx, CMid w wx b g w.heap.size n1 n2 #[.bool mA, .bool mB, .bool mN, .bool mV] (x, rx) ∧ x.rg ∧ x.isC ∧ rdFs fl (x0, rb) = rdFs (if mV then [86] else []) (x, rx))
  case first =>
    cases mN with
    | false =>
      go_wp2_with fail
      go_meet
      case rel => exact ⟨rfl, _, _, HMX.out, HXG.out, HXC.out, HRD.out⟩
    | true =>
      have HN := hid (rtext_c HMX.out.rd)
      have hle := ctext_le rx2
      have hrf : rdF 78 (x2, rx2) = ({ x2 with name := rx2.text.1 }, rx2.text.2) := by simp [rdF]
      have hrd := HRD.out
      simp only [if_true] at hrd
      rw [show ∀ l : List UInt8, rdFs ([78] ++ l) (x2, rx2) = rdFs l (rdF 78 (x2, rx2)) from fun _ => rfl, hrf] at hrd
      simp only at HN
      obtain ⟨⟨s1, r5⟩, hx⟩ : ∃ x, rx2.text = x := ⟨_, rfl⟩
      rw [hx] at HN hrd hle
      simp only at HN hrd hle
      have HRD2 := hid hrd
      have HLE := hid hle
      clear hx hrf hrd hle
      go_wp2_with fail
      refine HN.out.mono ?_
      rintro e w5 ⟨rfl, hr5, ho5⟩
      have hm5 := HMX.out.step hr5 ho5
      obtain ⟨uk, un, us, ua, um, uc, hb5, -⟩ := hm5.form
      have d : w5.cell? ⟨n1, 4, none⟩ = some (.string (strOf x2.name)) := cell_blk hb5 4
      have dz := frozen_blk hb5
      have hlb5 := blk_lt hb5
      have HM5 := hid hm5
      clear hr5 ho5 hm5 hb5
      go_wp2_with fail
      go_meet
      case rel => exact ⟨rfl, _, _, HM5.out.set 4 (.string (strOf s1)) { x2 with name := s1 } rfl (fun _ => rfl), by have := HXG.out; have h2 := HLE.out; unfold EM.rg at this ⊢; simp only at this ⊢; obtain ⟨q1, q2, q3, q4, q5, q6, q7, q8⟩ := this; exact ⟨q1, q2, q3, q4, q5, by omega, q7, q8⟩, HXC.out, HRD2.out⟩
  case rest =>
  obtain ⟨rfl, x3, rx3, hmx, hxg, hxc, hrd⟩ := hcut
  skip
  have hbf := hmx.h2
  have hlf := blk_lt hbf
  have g0 : wc.cell? ⟨n2, 0, none⟩ = some (.bool mA) := cell_blk hbf 0
  have g1 : wc.cell? ⟨n2, 1, none⟩ = some (.bool mB) := cell_blk hbf 1
  have g2 : wc.cell? ⟨n2, 2, none⟩ = some (.bool mN) := cell_blk hbf 2
  have g3 : wc.cell? ⟨n2, 3, none⟩ = some (.bool mV) := cell_blk hbf 3
  have HMX := hid hmx; have HXG := hid hxg; have HXC := hid hxc; have HRD := hid hrd
  clear hmx hxg hxc hrd hbf
  go_upto_if 42 with fail
  go_cut [3] from 42 to 45 (fun v wx => v = .pointer (some ⟨n1, 0, none⟩) ∧ ∃ x rx, CMid w wx b g w.heap.size n1 n2 #[.bool mA, .bool mB, .bool mN, .bool mV] (x, rx) ∧ x.rg ∧ x.isC ∧ rdFs fl (x0, rb) = rdFs [] (x, rx))
  case first =>
    cases mV with
    | false =>
      go_wp2_with fail
      go_meet
      case rel => exact ⟨rfl, _, _, HMX.out, HXG.out, HXC.out, HRD.out⟩
    | true =>
      have HN := hid (vread_c HMX.out.rd)
      have htg := cval_rg rx3
      have hrf : rdF 86 (x3, rx3) = ({ x3 with v := rx3.val.1 }, rx3.val.2) := by simp [rdF]
      have hrd := HRD.out
      simp only [if_true] at hrd
      rw [show rdFs [86] (x3, rx3) = rdFs [] (rdF 86 (x3, rx3)) from rfl, hrf] at hrd
      simp only at HN
      obtain ⟨⟨t2, r5⟩, hx⟩ : ∃ x, rx3.val = x := ⟨_, rfl⟩
      rw [hx] at HN hrd htg
      simp only at HN hrd htg
      have HTG := hid htg
      have HRD2 := hid hrd
      clear hx hrf htg hrd
      go_wp2_with fail
      refine HN.out.mono ?_
      rintro e w5 ⟨cs5, rfl, hv5, hr5, ho5⟩
      have hm5 := HMX.out.step hr5 ho5
      obtain ⟨yk, yn, ys, ya, ym, yc, rfl⟩ := hv5.form
      obtain ⟨uk, un, us, ua, um, uc, hb5, -⟩ := hm5.form
      have d5 : w5.cell? ⟨n1, 5, none⟩ = some (.int .i64 uk) := cell_blk hb5 5
      have d6 : w5.cell? ⟨n1, 6, none⟩ = some (.int .i64 un) := cell_blk hb5 6
      have d7 : w5.cell? ⟨n1, 7, none⟩ = some (.string (strOf us)) := cell_blk hb5 7
      have d8 : w5.cell? ⟨n1, 8, none⟩ = some (.slice ua um uc) := cell_blk hb5 8
      have dz := frozen_blk hb5
      have hlb5 := blk_lt hb5
      have HM5 := hid hm5; have HB5 := hid hb5; have HV5 := hid hv5; have HO5 := hid ho5
      clear hr5 ho5 hm5 hb5 hv5
      go_wp2_with fail
      go_meet
      case rel =>
        refine ⟨rfl, { x3 with v := t2 }, r5, ?_, by have := HXG.out; have h2 := HTG.out; unfold EM.rg at this ⊢; simp only at this ⊢; obtain ⟨q1, q2, q3, q4, q5, q6, q7, q8⟩ := this; exact ⟨q1, q2, q3, q4, q5, q6, q7, h2⟩, HXC.out, HRD2.out⟩
        have hnn := HM5.out.hnn
        have hn2 := HM5.out.hn2
        have hh0 := HM5.out.hn0
        have hbg := HM5.out.hb
        have hon := (((only_set (w := w5) n1 5 (.int .i64 yk)).trans (only_set n1 6 (.int .i64 yn)) (fun _ _ e => e)).trans (only_set n1 7 (.string (strOf ys))) (fun _ _ e => e)).trans (only_set n1 8 (.slice ya ym yc)) (fun _ _ e => e)
        have hsz : ((((w5.setCell ⟨n1, 5, none⟩ (.int .i64 yk)).setCell ⟨n1, 6, none⟩ (.int .i64 yn)).setCell ⟨n1, 7, none⟩ (.string (strOf ys))).setCell ⟨n1, 8, none⟩ (.slice ya ym yc)).heap.size = w5.heap.size := by simp
        have hn2l := blk_lt HMX.out.h2
        refine ⟨HM5.out.rd.only hon (by show ¬ b = n1; omega) (by show ¬ g = n1; omega), blk_only HM5.out.h0 hon (by show ¬ w.heap.size = n1; omega), ⟨[.int .i64 yk, .int .i64 yn, .string (strOf ys), .slice ya ym yc], ?_, ?_⟩, blk_only HM5.out.h2 hon (by show ¬ n2 = n1; omega), HM5.out.o.trans hon (fun i hi e => by have e' : i = n1 := e; omega), hh0, hnn, hn2, hbg⟩
        · have := blk_set (blk_set (blk_set (blk_set HB5.out 5 (.int .i64 yk)) 6 (.int .i64 yn)) 7 (.string (strOf ys))) 8 (.slice ya ym yc)
          simpa [EM.ccells] using this
        · exact (HV5.out.only hon (fun i hi e => by have e' : i = n1 := e; have := hi.1; omega)).mono (fun i hi => ⟨by have := hi.1; omega, by have := hi.2; omega⟩)
  case rest =>
  obtain ⟨rfl, x, rx, hmx, hxg, hxc, hrd⟩ := hcut
  obtain ⟨vk, vn, vs, va, vm, vc, hbx, hvx⟩ := hmx.form
  simp only at hbx hvx
  have hlb := blk_lt hbx
  have hrd := hrd.trans (show rdFs [] (x, rx) = (x, rx) from rfl)
  skip
  have hcm : r.cm = (x, cEnd (x, rx)) := by rw [HE.out, hrd]
  have HCM := hid hcm; have HMX := hid hmx; have HBX := hid hbx; have HVX := hid hvx; have HXG := hid hxg; have HXC := hid hxc
  have HEE : Hid (cEnd (x, rx) = if rx.err = 0 then rx.fail x.cchk else rx) := hid rfl
  obtain ⟨id, tm, kk, a, bb, nn, tt, v⟩ := x
  simp only at HBX HVX
  have HCK := hid (ccheck_c (w := wc) (G := fun q => n2 < q ∧ q < wc.heap.size) (e := ⟨id, tm, kk, a, bb, nn, tt, v⟩) (cs := [.int .i64 kk, .int .i64 tm, .int .i64 a, .int .i64 bb, .string (strOf nn), .int .i64 vk, .int .i64 vn, .string (strOf vs), .slice va vm vc]) ⟨_, rfl, HVX.out⟩ (fun q hq => hq.2) hxg)
  have HER := hid (rerr_c HMX.out.rd)
  obtain ⟨ck, hck⟩ : ∃ y, (⟨id, tm, kk, a, bb, nn, tt, v⟩ : EM).cchk = y := ⟨_, rfl⟩
  rw [hck] at HCK HEE
  have hn0 := HMX.out.hn0
  have hnn := HMX.out.hnn
  have hn2 := HMX.out.hn2
  clear hck hmx hbx hvx hxg hxc hrd hcm HE HM4
  have c0 : wc.cell? ⟨n1, 0, none⟩ = some (.int .i64 kk) := cell_blk HBX.out 0
  have c1 : wc.cell? ⟨n1, 1, none⟩ = some (.int .i64 tm) := cell_blk HBX.out 1
  have c2 : wc.cell? ⟨n1, 2, none⟩ = some (.int .i64 a) := cell_blk HBX.out 2
  have c3 : wc.cell? ⟨n1, 3, none⟩ = some (.int .i64 bb) := cell_blk HBX.out 3
  have c4 : wc.cell? ⟨n1, 4, none⟩ = some (.string (strOf nn)) := cell_blk HBX.out 4
  have c5 : wc.cell? ⟨n1, 5, none⟩ = some (.int .i64 vk) := cell_blk HBX.out 5
  have c6 : wc.cell? ⟨n1, 6, none⟩ = some (.int .i64 vn) := cell_blk HBX.out 6
  have c7 : wc.cell? ⟨n1, 7, none⟩ = some (.string (strOf vs)) := cell_blk HBX.out 7
  have c8 : wc.cell? ⟨n1, 8, none⟩ = some (.slice va vm vc) := cell_blk HBX.out 8
  by_cases he : rx.err = 0
  · have hb : (rx.err == 0) = true := by simp [he]
    have hee : cEnd (⟨id, tm, kk, a, bb, nn, tt, v⟩, rx) = rx.fail ck := by rw [HEE.out, if_pos he]
    have HF : Hid (r.cm = (⟨id, tm, kk, a, bb, nn, tt, v⟩, rx.fail ck)) := hid (by rw [HCM.out, hee])
    clear he hee
    go_wp2_with fail
    refine HER.out.mono ?_
    rintro e w2 ⟨rfl, rfl⟩
    go_wp2_with fail
    refine HCK.out.mono ?_
    rintro e w5 ⟨rfl, ho5⟩
    have HM5 := hid (HMX.out.step (HMX.out.rd.same ho5) (ho5.mono (fun _ _ e => e.elim)))
    have HB5 := hid (blk_only HBX.out ho5 (fun e => e))
    have HV5 := hid (HVX.out.same ho5)
    have HFL := hid (rfail_c HM5.out.rd ck)
    have HO5 := hid ho5
    clear ho5 c0 c1 c2 c3 c4 c5 c6 c7 c8 hlb
    go_wp2_with fail
    refine HFL.out.mono ?_
    rintro e w6 ⟨rfl, hr6, ho6⟩
    have hm6 := HM5.out.step hr6 ho6
    have hb6 := blk_only HB5.out ho6 (by have := hm6.hb; show ¬ n1 = b; omega)
    have hv6 := (HV5.out.only ho6 (fun i hi e => by have e' : i = b := e; have := hi.1; have := hm6.hb; omega))
    have c0 : w6.cell? ⟨n1, 0, none⟩ = some (.int .i64 kk) := cell_blk hb6 0
    have c1 : w6.cell? ⟨n1, 1, none⟩ = some (.int .i64 tm) := cell_blk hb6 1
    have c2 : w6.cell? ⟨n1, 2, none⟩ = some (.int .i64 a) := cell_blk hb6 2
    have c3 : w6.cell? ⟨n1, 3, none⟩ = some (.int .i64 bb) := cell_blk hb6 3
    have c4 : w6.cell? ⟨n1, 4, none⟩ = some (.string (strOf nn)) := cell_blk hb6 4
    have c5 : w6.cell? ⟨n1, 5, none⟩ = some (.int .i64 vk) := cell_blk hb6 5
    have c6 : w6.cell? ⟨n1, 6, none⟩ = some (.int .i64 vn) := cell_blk hb6 6
    have c7 : w6.cell? ⟨n1, 7, none⟩ = some (.string (strOf vs)) := cell_blk hb6 7
    have c8 : w6.cell? ⟨n1, 8, none⟩ = some (.slice va vm vc) := cell_blk hb6 8
    have HM6 := hid hm6; have HV6 := hid hv6; have HZ5 := hid hm6.h0; have HOW := hid hm6.o
    have hsz56 := ho6.size
    have hsz5 := HO5.out.size
    have hlb6 := blk_lt hb6
    have hbg := hm6.hb
    clear hr6 ho6 hm6 hb6 hv6
    go_wp2_with (refine wpList_store_all rfl 26 (.tmp 2) (.tmp 53) rfl w.heap.size #[.int .i64 kk, .int .i64 tm, .int .i64 a, .int .i64 bb, .string (strOf nn), .int .i64 vk, .int .i64 vn, .string (strOf vs), .slice va vm vc] rfl rfl czero 26 HZ5.out rfl info_cmd (cmd_one _ _ _ _ _ _ _ _ _ _ _) ?_; intro w9 hb9 ho9 hs9; have HB9 := hid hb9; have HO9 := hid ho9; have HS9 := hid hs9; clear hb9 ho9 hs9)
    refine bodyPost_ret (results_cell_row rfl _ _ w.heap.size 26 #[.int .i64 kk, .int .i64 tm, .int .i64 a, .int .i64 bb, .string (strOf nn), .int .i64 vk, .int .i64 vn, .string (strOf vs), .slice va vm vc] (0, 0) _ rfl HB9.out Tryz.underlying26 rfl info_cmd) rfl ?_
    rw [HF.out]
    exact ⟨⟨[.int .i64 kk, .int .i64 tm, .int .i64 a, .int .i64 bb, .string (strOf nn), .int .i64 vk, .int .i64 vn, .string (strOf vs), .slice va vm vc], rfl, ⟨_, rfl, (HV6.out.only HO9.out (fun i hi e => by have e' : i = w.heap.size := e; have := hi.1; omega)).mono (fun i hi => ⟨by have := hi.1; omega, by have := hi.2; have := HS9.out; omega⟩)⟩, HM6.out.rd.only HO9.out (by show ¬ b = w.heap.size; omega) (by show ¬ g = w.heap.size; omega), HOW.out.trans HO9.out (fun i hi e => by have e' : i = w.heap.size := e; omega)⟩, HXG.out, HXC.out⟩
  · have hb : (rx.err == 0) = false := by simpa using he
    have HF : Hid (r.cm = (⟨id, tm, kk, a, bb, nn, tt, v⟩, rx)) := hid (by rw [HCM.out, HEE.out, if_neg he])
    have HZ5 := hid HMX.out.h0; have HOW := hid HMX.out.o
    have hbg := HMX.out.hb
    clear he
    go_wp2_with fail
    refine HER.out.mono ?_
    rintro e w2 ⟨rfl, rfl⟩
    go_wp2_with (refine wpList_store_all rfl 26 (.tmp 2) (.tmp 53) rfl w.heap.size #[.int .i64 kk, .int .i64 tm, .int .i64 a, .int .i64 bb, .string (strOf nn), .int .i64 vk, .int .i64 vn, .string (strOf vs), .slice va vm vc] rfl rfl czero 26 HZ5.out rfl info_cmd (cmd_one _ _ _ _ _ _ _ _ _ _ _) ?_; intro w9 hb9 ho9 hs9; have HB9 := hid hb9; have HO9 := hid ho9; have HS9 := hid hs9; clear hb9 ho9 hs9)
    refine bodyPost_ret (results_cell_row rfl _ _ w.heap.size 26 #[.int .i64 kk, .int .i64 tm, .int .i64 a, .int .i64 bb, .string (strOf nn), .int .i64 vk, .int .i64 vn, .string (strOf vs), .slice va vm vc] (0, 0) _ rfl HB9.out Tryz.underlying26 rfl info_cmd) rfl ?_
    rw [HF.out]
    exact ⟨⟨[.int .i64 kk, .int .i64 tm, .int .i64 a, .int .i64 bb, .string (strOf nn), .int .i64 vk, .int .i64 vn, .string (strOf vs), .slice va vm vc], rfl, ⟨_, rfl, (HVX.out.only HO9.out (fun i hi e => by have e' : i = w.heap.size := e; have := hi.1; omega)).mono (fun i hi => ⟨by have := hi.1; omega, by have := hi.2; have := HS9.out; omega⟩)⟩, HMX.out.rd.only HO9.out (by show ¬ b = w.heap.size; omega) (by show ¬ g = w.heap.size; omega), HOW.out.trans HO9.out (fun i hi e => by have e' : i = w.heap.size := e; omega)⟩, HXG.out, HXC.out⟩
end
end Go.Proofs.YtihidpfkdpjdpaaGreatDoor
