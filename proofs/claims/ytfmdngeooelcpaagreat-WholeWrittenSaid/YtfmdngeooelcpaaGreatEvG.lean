/- event.Read. -/
import Derived.Test.YtfmdngeooelcpaaGreatEvW
import Derived.Test.YtfmdngeooelcpaaGreatValH
namespace Go.Proofs.YtfmdngeooelcpaaGreat
open Go.RowKit

abbrev ezero : Array Value := #[.int .i64 0, .int .i64 0, .int .i64 0, .int .i64 0, .int .i64 0, .string (strOf []), .string (strOf []), .int .i64 0, .int .i64 0, .string (strOf []), .slice none 0 0]
/-- In the middle of reading an event. -/
structure EvMid (w wr : World) (b g n0 n1 : Nat) (x : EM × RdM) : Prop where
  rd : Rd wr b g x.2
  h0 : wr.heap[n0]? = some (.cells ezero 43 (0, 0))
  h1 : ∃ vc, wr.heap[n1]? = some (.cells (x.1.cells vc).toArray 43 (0, 0)) ∧ VAt wr (fun q => n1 < q ∧ q < wr.heap.size) x.1.v vc
  o : Only (fun j => j = b) w wr
  hn0 : w.heap.size ≤ n0
  hnn : n0 < n1
  hb : b < w.heap.size ∧ g < w.heap.size
theorem EvMid.step {w wr wy : World} {b g n0 n1 : Nat} {x : EM × RdM} {r' : RdM} (h : EvMid w wr b g n0 n1 x) (hr : Rd wy b g r') (ho : Only (fun j => j = b) wr wy) : EvMid w wy b g n0 n1 (x.1, r') := by
  obtain ⟨vc, h1, h2⟩ := h.h1
  have := h.hn0; have := h.hnn; have := h.hb
  exact ⟨hr, blk_only h.h0 ho (by show ¬ n0 = b; omega), ⟨vc, blk_only h1 ho (by show ¬ n1 = b; omega), (h2.only ho (fun k hk e => by have e' : k = b := e; omega)).mono (fun k hk => ⟨hk.1, Nat.lt_of_lt_of_le hk.2 ho.size⟩)⟩, h.o.trans ho (fun _ _ e => e), h.hn0, h.hnn, h.hb⟩
theorem EvMid.set {w wr : World} {b g n0 n1 : Nat} {x : EM × RdM} (h : EvMid w wr b g n0 n1 x) (i : Nat) (v : Value) (e' : EM) (hv : e'.v = x.1.v) (hc : ∀ vc, ((x.1.cells vc).toArray.setIfInBounds i v) = (e'.cells vc).toArray) : EvMid w (wr.setCell ⟨n1, i, none⟩ v) b g n0 n1 (e', x.2) := by
  obtain ⟨vc, h1, h2⟩ := h.h1
  have := h.hn0; have := h.hnn; have := h.hb
  refine ⟨h.rd.only (only_set n1 i v) (by show ¬ b = n1; omega) (by show ¬ g = n1; omega), blk_only h.h0 (only_set n1 i v) (by show ¬ n0 = n1; omega), ⟨vc, ?_, ?_⟩, h.o.trans (only_set n1 i v) (fun k hk e => by have e' : k = n1 := e; omega), h.hn0, h.hnn, h.hb⟩
  · rw [← hc vc]; exact blk_set h1 i v
  · rw [hv]; exact (h2.only (only_set n1 i v) (fun k hk e => by have e' : k = n1 := e; omega)).mono (fun k hk => ⟨hk.1, by simp; exact hk.2⟩)
theorem EvMid.form {w wr : World} {b g n0 n1 : Nat} {x : EM × RdM} (h : EvMid w wr b g n0 n1 x) : ∃ k n s a m c, wr.heap[n1]? = some (.cells #[.int .i64 x.1.id, .int .i64 x.1.tm, .int .i64 x.1.k, .int .i64 x.1.a, .int .i64 x.1.b, .string (strOf x.1.name), .string (strOf x.1.text), .int .i64 k, .int .i64 n, .string (strOf s), .slice a m c] 43 (0, 0)) ∧ VAt wr (fun q => n1 < q ∧ q < wr.heap.size) x.1.v [.int .i64 k, .int .i64 n, .string (strOf s), .slice a m c] := by
  obtain ⟨vc, h1, h2⟩ := h.h1
  obtain ⟨k, n, s, a, m, c, rfl⟩ := h2.form
  exact ⟨k, n, s, a, m, c, h1, h2⟩
theorem rdFs_cons (c : UInt8) (cs : List UInt8) (x : EM × RdM) : rdFs (c :: cs) x = rdFs cs (rdF c x) := rfl
theorem info_ev : (Tryz.prog.info? 43).map (·.size) = some 11 := by kernel_rfl
theorem drop_get {α : Type} {l : List α} {j : Nat} {c : α} (h : l[j]? = some c) : l.drop j = c :: l.drop (j + 1) := by
  have hl : j < l.length := by
    rcases Nat.lt_or_ge j l.length with g | g
    · exact g
    · rw [List.getElem?_eq_none g] at h; cases h
  rw [List.drop_eq_getElem_cons hl]; congr 1; rw [List.getElem?_eq_getElem hl] at h; exact Option.some.inj h
theorem ev_one (i t k a b : Int) (n x : ByteArray) (vk vn : Int) (vs : ByteArray) (va : Option Addr) (vm vc : Nat) : (#[Value.int .i64 i, .int .i64 t, .int .i64 k, .int .i64 a, .int .i64 b, .string n, .string x, .int .i64 vk, .int .i64 vn, .string vs, .slice va vm vc] : Array Value).all (·.oneCell') = true := by simp [Value.oneCell']
theorem text_le (r : RdM) : r.text.1.length ≤ 4096 := by
  have h := num_le (r := r) (most := 4096)
  unfold RdM.text RdM.take
  split
  · simp
  · split
    · simp
    · simp only [List.length_take]; omega
theorem val_rg (r : RdM) : r.val.1.rg := by
  have hn : VT.nil.rg := by unfold VT.nil; rw [VT.rg, VT.rgL]; simp
  by_cases he : r.err = 0
  · by_cases h : r.val.2.err = 0
    · obtain ⟨t, post, e1, -, -, -, e5⟩ := val_inv he h
      rw [e1]; exact e5
    · have : r.val.1 = .nil := if_pos h
      rw [this]; exact hn
  · rw [val_bad he]; exact hn
/-- What event.Read leaves. -/
def EvRead (w : World) (b g : Nat) (x : EM × RdM) (e : Ending) (w' : World) : Prop := ∃ cs, e = .returned (.agg cs.toArray) ∧ EAt w' (New w w') x.1 cs ∧ Rd w' b g x.2 ∧ Only (fun k => k = b) w w'
section
variable {w : World} {b g : Nat} {r : RdM}
set_option maxRecDepth 100000 in
set_option maxHeartbeats 3200000 in
theorem eread_c (h : Rd w b g r) : Calls Tryz.prog 39 #[.pointer (some ⟨b, 0, none⟩)] w (EvRead w b g r.ev) := by
  have hlt := h.lt
  have HE : Hid (r.ev = evOver (rdFs (evFlds r.byte.1) (⟨((rdKd r).num 1048576).1, (((rdKd r).num 1048576).2.num 4611686018427387903).1, r.byte.1, 0, 0, [], [], .nil⟩, (((rdKd r).num 1048576).2.num 4611686018427387903).2))) := hid rfl
  have hkd : rdKd r = if evName r.byte.1 = [] then r.byte.2.fail 9 else r.byte.2 := rfl
  have HB := hid (rbyte_c (h.same (only_new w (.cells ezero 43))))
  have hk := byte_lt r
  have hfm := fun c => @evFlds_mem r.byte.1 c
  have hfl := evFlds_len r.byte.1
  obtain ⟨k, hke⟩ : ∃ x, r.byte.1 = x := ⟨_, rfl⟩
  obtain ⟨r1, hre⟩ : ∃ x, r.byte.2 = x := ⟨_, rfl⟩
  rw [hke] at hk HE hkd HB hfl
  simp only [hke] at hfm
  rw [hre] at hkd HB
  have HEN := fun w1 => hid (entry_c (w := w1) (k : Int) (by omega) (by omega))
  obtain ⟨nm, hnm⟩ : ∃ x, evName (k : Int) = x := ⟨_, rfl⟩
  obtain ⟨fl, hfl'⟩ : ∃ x, evFlds (k : Int) = x := ⟨_, rfl⟩
  rw [hnm] at hkd
  rw [hfl'] at HE hfl
  simp only [hfl'] at hfm
  simp only [hnm, hfl'] at HEN
  obtain ⟨rk, hrk⟩ : ∃ x, rdKd r = x := ⟨_, rfl⟩
  rw [hrk] at HE hkd
  have HKD := hid hkd; have HFM := hid hfm
  clear hke hre hnm hfl' hrk hkd hfm h
  go_enter Tryz.func39, Tryz.ntmps39
  go_wp2_with fail
  refine HB.out.mono ?_
  rintro e w1 ⟨rfl, hr1, ho1⟩
  have hm1 : EvMid w (w1.alloc (.cells #[.int .i64 0, .int .i64 0, .int .i64 k, .int .i64 0, .int .i64 0, .string (strOf []), .string (strOf []), .int .i64 0, .int .i64 0, .string (strOf []), .slice none 0 0] 43)) b g w.heap.size w1.heap.size (⟨0, 0, k, 0, 0, [], [], .nil⟩, r1) :=
    ⟨hr1.same (only_new _ _), blk_alloc (blk_only (blk_new w _) ho1 (by show ¬ w.heap.size = b; omega)), ⟨_, blk_new _ _, novls _ _ 0 0 []⟩, (((only_new w _).mono (fun _ _ e => e.elim)).trans ho1 (fun _ _ e => e)).trans ((only_new _ _).mono (G := fun j => j = b) (fun _ _ e => e.elim)) (fun _ _ e => e), Nat.le_refl _, by have := ho1.size; simp at this; omega, hlt⟩
  have hb1 : (w1.alloc (.cells #[.int .i64 0, .int .i64 0, .int .i64 k, .int .i64 0, .int .i64 0, .string (strOf []), .string (strOf []), .int .i64 0, .int .i64 0, .string (strOf []), .slice none 0 0] 43)).heap[w1.heap.size]? = some (.cells #[.int .i64 0, .int .i64 0, .int .i64 k, .int .i64 0, .int .i64 0, .string (strOf []), .string (strOf []), .int .i64 0, .int .i64 0, .string (strOf []), .slice none 0 0] 43 (0, 0)) := blk_new _ _
  have HM1 := hid hm1
  clear hr1 ho1 hb1 hm1
  go_wp2_with fail
  refine (HEN _).out.mono ?_
  rintro x w2 ⟨rfl, n, rfl⟩
  clear HEN
  obtain ⟨wb, hwb⟩ : ∃ wb, ((w1.alloc (.cells #[.int .i64 0, .int .i64 0, .int .i64 k, .int .i64 0, .int .i64 0, .string ⟨#[]⟩, .string ⟨#[]⟩, .int .i64 0, .int .i64 0, .string ⟨#[]⟩, .slice none 0 0] 43)).drewN n) = wb := ⟨_, rfl⟩
  have hmb : EvMid w wb b g w.heap.size w1.heap.size (⟨0, 0, k, 0, 0, [], [], .nil⟩, r1) := by rw [← hwb]; exact HM1.out.step (HM1.out.rd.same (only_drewN _ _)) ((only_drewN _ _).mono (fun _ _ e => e.elim))
  rw [hwb]
  obtain ⟨n1, hn1⟩ : ∃ x, w1.heap.size = x := ⟨_, rfl⟩
  rw [hn1] at hmb ⊢
  have HMB := hid hmb
  clear hwb hmb HM1 hn1
  obtain ⟨B, hB⟩ : ∃ B : Bool, (strOf nm).toList.isEmpty = B := ⟨_, rfl⟩
  have hBn : B = true ↔ nm = [] := by rw [← hB, strOf_list]; simp
  have HBN := hid hBn
  clear hBn
  go_upto_if 18 with fail
  clear hB
  go_cut [3] from 17 to 20 (fun v wx => v = .pointer (some ⟨n1, 0, none⟩) ∧ EvMid w wx b g w.heap.size n1 (⟨0, 0, k, 0, 0, [], [], .nil⟩, rk))
  case first =>
    cases B with
    | true =>
      have HF := hid (rfail_c HMB.out.rd 9)
      have HK := hid (HKD.out.trans (if_pos (HBN.out.1 rfl)))
      go_wp2_with fail
      refine HF.out.mono ?_
      rintro e w2 ⟨rfl, hr2, ho2⟩
      have HM2 := hid (HMB.out.step hr2 ho2)
      clear hr2 ho2
      go_wp2_with fail
      go_meet
      case rel => exact ⟨rfl, by rw [HK.out]; exact HM2.out⟩
    | false =>
      have HK := hid (HKD.out.trans (if_neg (fun e => by have := HBN.out.2 e; cases this)))
      go_wp2_with fail
      go_meet
      case rel => exact ⟨rfl, by rw [HK.out]; exact HMB.out⟩
  case rest =>
  obtain ⟨rfl, hm⟩ := hcut
  have HNA := hid (rnum_c hm.rd 1048576 (by decide))
  have hle1 := num_le (r := rk) (most := 1048576)
  obtain ⟨⟨idn, ra⟩, hx⟩ : ∃ x, rk.num 1048576 = x := ⟨_, rfl⟩
  rw [hx] at HNA HE hle1
  simp only at HNA HE hle1
  have HM := hid hm
  clear hx hm HMB
  go_wp2_with fail
  refine HNA.out.mono ?_
  rintro e w2 ⟨rfl, hr2, ho2⟩
  have hm2 := HM.out.step hr2 ho2
  have HNB := hid (rnum_c hm2.rd 4611686018427387903 (by decide))
  have hle2 := num_le (r := ra) (most := 4611686018427387903)
  obtain ⟨⟨tmn, rb⟩, hx⟩ : ∃ x, ra.num 4611686018427387903 = x := ⟨_, rfl⟩
  simp only at HNB
  rw [hx] at HNB HE hle2
  simp only at HNB HE hle2
  have HM2 := hid hm2
  clear hx hm2 hr2 ho2 HM HNA
  have hi1 : (idn : Int) ≤ 1048576 := by omega
  have hi2 : (tmn : Int) ≤ 4611686018427387903 := by omega
  go_wp2_with fail
  refine HNB.out.mono ?_
  rintro e w3 ⟨rfl, hr3, ho3⟩
  have hm3 := HM2.out.step hr3 ho3
  obtain ⟨vk, vn, vs, va, vm, vc, hb3, -⟩ := hm3.form
  have c0 : w3.cell? ⟨n1, 0, none⟩ = some (.int .i64 0) := cell_blk hb3 0
  have c1 : w3.cell? ⟨n1, 1, none⟩ = some (.int .i64 0) := cell_blk hb3 1
  have cz := frozen_blk hb3
  have hlb := blk_lt hb3
  have hm4 := (hm3.set 0 (.int .i64 idn) ⟨idn, 0, k, 0, 0, [], [], .nil⟩ rfl (fun _ => rfl)).set 1 (.int .i64 tmn) ⟨idn, tmn, k, 0, 0, [], [], .nil⟩ rfl (fun _ => rfl)
  have HM4 := hid hm4
  clear hr3 ho3 hm3 hb3 hm4 HM2 HNB
  have hszl : (strOf fl).size = fl.length := rfl
  go_wp2_with fail
  go_loopw [31] (fun i wr => ∃ (j : Nat) (x : EM × RdM), i = .int .i64 j ∧ j ≤ (strOf fl).size ∧ EvMid w wr b g w.heap.size n1 x ∧ x.1.rg ∧ rdFs fl (⟨idn, tmn, k, 0, 0, [], [], .nil⟩, rb) = rdFs (fl.drop j) x) (fun i _ => (strOf fl).size - (intOf i).toNat)
  case atStart => exact ⟨0, _, rfl, Nat.zero_le _, HM4.out, by unfold EM.rg; simp only [List.length_nil]; exact ⟨by omega, by omega, by omega, by omega, by omega, by omega, by omega, by unfold VT.nil; rw [VT.rg, VT.rgL]; simp⟩, rfl⟩
  case round =>
    obtain ⟨j, ⟨x, rx⟩, rfl, hj, hmx, hxg, hrd⟩ := hrel
    have HXG := hid hxg
    clear hxg
    clear HM4 c0 c1 cz hlb
    obtain ⟨vk, vn, vs, va, vm, vc, hbx, hvx⟩ := hmx.form
    simp only at hbx hvx
    have hlb := blk_lt hbx
    have cz := frozen_blk hbx
    have c0 : wr.cell? ⟨n1, 0, none⟩ = some (.int .i64 x.id) := cell_blk hbx 0
    have c1 : wr.cell? ⟨n1, 1, none⟩ = some (.int .i64 x.tm) := cell_blk hbx 1
    have c2 : wr.cell? ⟨n1, 2, none⟩ = some (.int .i64 x.k) := cell_blk hbx 2
    have c3 : wr.cell? ⟨n1, 3, none⟩ = some (.int .i64 x.a) := cell_blk hbx 3
    have c4 : wr.cell? ⟨n1, 4, none⟩ = some (.int .i64 x.b) := cell_blk hbx 4
    have c5 : wr.cell? ⟨n1, 5, none⟩ = some (.string (strOf x.name)) := cell_blk hbx 5
    have c6 : wr.cell? ⟨n1, 6, none⟩ = some (.string (strOf x.text)) := cell_blk hbx 6
    have c7 : wr.cell? ⟨n1, 7, none⟩ = some (.int .i64 vk) := cell_blk hbx 7
    have c8 : wr.cell? ⟨n1, 8, none⟩ = some (.int .i64 vn) := cell_blk hbx 8
    have c9 : wr.cell? ⟨n1, 9, none⟩ = some (.string (strOf vs)) := cell_blk hbx 9
    have c10 : wr.cell? ⟨n1, 10, none⟩ = some (.slice va vm vc) := cell_blk hbx 10
    have HMX := hid hmx; have HRD := hid hrd; have HBX := hid hbx; have HVX := hid hvx
    clear hmx hrd hbx hvx
    by_cases hjl : j < (strOf fl).size
    · clear c0 c1 c2 c3 c4 c5 c6 c7 c8 c9 c10 cz
      have hjl' : j < fl.length := hjl
      obtain ⟨c, hc⟩ : ∃ c, fl[j]? = some c := ⟨_, List.getElem?_eq_getElem hjl'⟩
      have hsc := strOf_at hc hjl
      have hcm := HFM.out c (List.mem_of_getElem? hc)
      have hnx : rdFs fl (⟨idn, tmn, k, 0, 0, [], [], .nil⟩, rb) = rdFs (fl.drop (j + 1)) (rdF c (x, rx)) := by rw [HRD.out, drop_get hc, rdFs_cons]
      clear hc
      rcases hcm with rfl | rfl | rfl | rfl | rfl
      · have hcv : ((((strOf fl)[j]'hjl).toNat : Nat) : Int) = 65 := by rw [hsc]; rfl
        clear hsc
        have HN := hid (rnum_c HMX.out.rd 9223372036854775807 (by decide))
        have hle := num_le (r := rx) (most := 9223372036854775807)
        have hrf : rdF 65 (x, rx) = ({ x with a := ((rx.num 9223372036854775807).1 : Nat) }, (rx.num 9223372036854775807).2) := by simp [rdF]
        rw [hrf] at hnx
        obtain ⟨⟨n2, r2⟩, hx⟩ : ∃ x, rx.num 9223372036854775807 = x := ⟨_, rfl⟩
        simp only at HN
        rw [hx] at HN hle hnx
        simp only at HN hle hnx
        have HNX := hid hnx
        have hi : (n2 : Int) ≤ 9223372036854775807 := by omega
        clear hx hnx hrf hle
        go_wp2_with fail
        refine HN.out.mono ?_
        rintro e w5 ⟨rfl, hr5, ho5⟩
        have hm5 := HMX.out.step hr5 ho5
        obtain ⟨uk, un, us, ua, um, uc, hb5, -⟩ := hm5.form
        have d3 : w5.cell? ⟨n1, 3, none⟩ = some (.int .i64 x.a) := cell_blk hb5 3
        have dz := frozen_blk hb5
        have hlb5 := blk_lt hb5
        have HM5 := hid hm5
        clear hr5 ho5 hm5 hb5
        go_wp2_with fail
        go_roundw
        case rel => exact ⟨j + 1, _, by go_num, by omega, HM5.out.set 3 (.int .i64 n2) { x with a := (n2 : Int) } rfl (fun _ => rfl), by have := HXG.out; unfold EM.rg at this ⊢; simp only at this ⊢; exact ⟨this.1, this.2.1, this.2.2.1, ⟨by omega, hi⟩, this.2.2.2.2.1, this.2.2.2.2.2.1, this.2.2.2.2.2.2.1, this.2.2.2.2.2.2.2⟩, HNX.out⟩
        case measure => simp [intOf]; omega
      · have hcv : ((((strOf fl)[j]'hjl).toNat : Nat) : Int) = 66 := by rw [hsc]; rfl
        clear hsc
        have HN := hid (rnum_c HMX.out.rd 9223372036854775807 (by decide))
        have hle := num_le (r := rx) (most := 9223372036854775807)
        have hrf : rdF 66 (x, rx) = ({ x with b := ((rx.num 9223372036854775807).1 : Nat) }, (rx.num 9223372036854775807).2) := by simp [rdF]
        rw [hrf] at hnx
        obtain ⟨⟨n2, r2⟩, hx⟩ : ∃ x, rx.num 9223372036854775807 = x := ⟨_, rfl⟩
        simp only at HN
        rw [hx] at HN hle hnx
        simp only at HN hle hnx
        have HNX := hid hnx
        have hi : (n2 : Int) ≤ 9223372036854775807 := by omega
        clear hx hnx hrf hle
        go_wp2_with fail
        refine HN.out.mono ?_
        rintro e w5 ⟨rfl, hr5, ho5⟩
        have hm5 := HMX.out.step hr5 ho5
        obtain ⟨uk, un, us, ua, um, uc, hb5, -⟩ := hm5.form
        have d4 : w5.cell? ⟨n1, 4, none⟩ = some (.int .i64 x.b) := cell_blk hb5 4
        have dz := frozen_blk hb5
        have hlb5 := blk_lt hb5
        have HM5 := hid hm5
        clear hr5 ho5 hm5 hb5
        go_wp2_with fail
        go_roundw
        case rel => exact ⟨j + 1, _, by go_num, by omega, HM5.out.set 4 (.int .i64 n2) { x with b := (n2 : Int) } rfl (fun _ => rfl), by have := HXG.out; unfold EM.rg at this ⊢; simp only at this ⊢; exact ⟨this.1, this.2.1, this.2.2.1, this.2.2.2.1, ⟨by omega, hi⟩, this.2.2.2.2.2.1, this.2.2.2.2.2.2.1, this.2.2.2.2.2.2.2⟩, HNX.out⟩
        case measure => simp [intOf]; omega
      · have hcv : ((((strOf fl)[j]'hjl).toNat : Nat) : Int) = 78 := by rw [hsc]; rfl
        clear hsc
        have HN := hid (rtext_c HMX.out.rd)
        have htl := text_le rx
        have hrf : rdF 78 (x, rx) = ({ x with name := rx.text.1 }, rx.text.2) := by simp [rdF]
        rw [hrf] at hnx
        obtain ⟨⟨s2, r2⟩, hx⟩ : ∃ x, rx.text = x := ⟨_, rfl⟩
        simp only at HN
        rw [hx] at HN hnx htl
        simp only at HN hnx htl
        have HTL : Hid (s2.length ≤ 9223372036854775807) := hid (by omega)
        clear htl
        have HNX := hid hnx
        clear hx hnx hrf
        go_wp2_with fail
        refine HN.out.mono ?_
        rintro e w5 ⟨rfl, hr5, ho5⟩
        have hm5 := HMX.out.step hr5 ho5
        obtain ⟨uk, un, us, ua, um, uc, hb5, -⟩ := hm5.form
        have d5 : w5.cell? ⟨n1, 5, none⟩ = some (.string (strOf x.name)) := cell_blk hb5 5
        have dz := frozen_blk hb5
        have hlb5 := blk_lt hb5
        have HM5 := hid hm5
        clear hr5 ho5 hm5 hb5
        go_wp2_with fail
        go_roundw
        case rel => exact ⟨j + 1, _, by go_num, by omega, HM5.out.set 5 (.string (strOf s2)) { x with name := s2 } rfl (fun _ => rfl), by have := HXG.out; unfold EM.rg at this ⊢; simp only at this ⊢; exact ⟨this.1, this.2.1, this.2.2.1, this.2.2.2.1, this.2.2.2.2.1, HTL.out, this.2.2.2.2.2.2.1, this.2.2.2.2.2.2.2⟩, HNX.out⟩
        case measure => simp [intOf]; omega
      · have hcv : ((((strOf fl)[j]'hjl).toNat : Nat) : Int) = 84 := by rw [hsc]; rfl
        clear hsc
        have HN := hid (rtext_c HMX.out.rd)
        have htl := text_le rx
        have hrf : rdF 84 (x, rx) = ({ x with text := rx.text.1 }, rx.text.2) := by simp [rdF]
        rw [hrf] at hnx
        obtain ⟨⟨s2, r2⟩, hx⟩ : ∃ x, rx.text = x := ⟨_, rfl⟩
        simp only at HN
        rw [hx] at HN hnx htl
        simp only at HN hnx htl
        have HTL : Hid (s2.length ≤ 9223372036854775807) := hid (by omega)
        clear htl
        have HNX := hid hnx
        clear hx hnx hrf
        go_wp2_with fail
        refine HN.out.mono ?_
        rintro e w5 ⟨rfl, hr5, ho5⟩
        have hm5 := HMX.out.step hr5 ho5
        obtain ⟨uk, un, us, ua, um, uc, hb5, -⟩ := hm5.form
        have d6 : w5.cell? ⟨n1, 6, none⟩ = some (.string (strOf x.text)) := cell_blk hb5 6
        have dz := frozen_blk hb5
        have hlb5 := blk_lt hb5
        have HM5 := hid hm5
        clear hr5 ho5 hm5 hb5
        go_wp2_with fail
        go_roundw
        case rel => exact ⟨j + 1, _, by go_num, by omega, HM5.out.set 6 (.string (strOf s2)) { x with text := s2 } rfl (fun _ => rfl), by have := HXG.out; unfold EM.rg at this ⊢; simp only at this ⊢; exact ⟨this.1, this.2.1, this.2.2.1, this.2.2.2.1, this.2.2.2.2.1, this.2.2.2.2.2.1, HTL.out, this.2.2.2.2.2.2.2⟩, HNX.out⟩
        case measure => simp [intOf]; omega
      · have hcv : ((((strOf fl)[j]'hjl).toNat : Nat) : Int) = 86 := by rw [hsc]; rfl
        clear hsc
        have HN := hid (vread_c HMX.out.rd)
        have htg := val_rg rx
        have hrf : rdF 86 (x, rx) = ({ x with v := rx.val.1 }, rx.val.2) := by simp [rdF]
        rw [hrf] at hnx
        obtain ⟨⟨t2, r2⟩, hx⟩ : ∃ x, rx.val = x := ⟨_, rfl⟩
        simp only at HN
        rw [hx] at HN hnx htg
        simp only at HN hnx htg
        have HTG := hid htg
        clear htg
        have HNX := hid hnx
        clear hx hnx hrf
        go_wp2_with fail
        refine HN.out.mono ?_
        rintro e w5 ⟨cs5, rfl, hv5, hr5, ho5⟩
        have hm5 := HMX.out.step hr5 ho5
        obtain ⟨yk, yn, ys, ya, ym, yc, rfl⟩ := hv5.form
        obtain ⟨uk, un, us, ua, um, uc, hb5, -⟩ := hm5.form
        have d7 : w5.cell? ⟨n1, 7, none⟩ = some (.int .i64 uk) := cell_blk hb5 7
        have d8 : w5.cell? ⟨n1, 8, none⟩ = some (.int .i64 un) := cell_blk hb5 8
        have d9 : w5.cell? ⟨n1, 9, none⟩ = some (.string (strOf us)) := cell_blk hb5 9
        have d10 : w5.cell? ⟨n1, 10, none⟩ = some (.slice ua um uc) := cell_blk hb5 10
        have dz := frozen_blk hb5
        have hlb5 := blk_lt hb5
        have HM5 := hid hm5; have HB5 := hid hb5; have HV5 := hid hv5; have HO5 := hid ho5
        clear hr5 ho5 hm5 hb5 hv5
        go_wp2_with fail
        go_roundw
        case rel =>
          refine ⟨j + 1, _, by go_num, by omega, ?_, by have := HXG.out; unfold EM.rg at this ⊢; simp only at this ⊢; exact ⟨this.1, this.2.1, this.2.2.1, this.2.2.2.1, this.2.2.2.2.1, this.2.2.2.2.2.1, this.2.2.2.2.2.2.1, HTG.out⟩, HNX.out⟩
          have hnn := HM5.out.hnn
          have hh0 := HM5.out.hn0
          have hbg := HM5.out.hb
          have hon := (((only_set (w := w5) n1 7 (.int .i64 yk)).trans (only_set n1 8 (.int .i64 yn)) (fun _ _ e => e)).trans (only_set n1 9 (.string (strOf ys))) (fun _ _ e => e)).trans (only_set n1 10 (.slice ya ym yc)) (fun _ _ e => e)
          have hsz : ((((w5.setCell ⟨n1, 7, none⟩ (.int .i64 yk)).setCell ⟨n1, 8, none⟩ (.int .i64 yn)).setCell ⟨n1, 9, none⟩ (.string (strOf ys))).setCell ⟨n1, 10, none⟩ (.slice ya ym yc)).heap.size = w5.heap.size := by simp
          refine ⟨HM5.out.rd.only hon (by show ¬ b = n1; omega) (by show ¬ g = n1; omega), blk_only HM5.out.h0 hon (by show ¬ w.heap.size = n1; omega), ⟨[.int .i64 yk, .int .i64 yn, .string (strOf ys), .slice ya ym yc], ?_, ?_⟩, HM5.out.o.trans hon (fun i hi e => by have e' : i = n1 := e; omega), hh0, hnn, hbg⟩
          · have := blk_set (blk_set (blk_set (blk_set HB5.out 7 (.int .i64 yk)) 8 (.int .i64 yn)) 9 (.string (strOf ys))) 10 (.slice ya ym yc)
            simpa [EM.cells] using this
          · exact (HV5.out.only hon (fun i hi e => by have e' : i = n1 := e; have := hi.1; omega)).mono (fun i hi => ⟨by have := hi.1; omega, by have := hi.2; omega⟩)
        case measure => simp [intOf]; omega
    · have hje : fl.drop j = [] := List.drop_eq_nil_of_le (by omega)
      have hr : rdFs fl (⟨idn, tmn, k, 0, 0, [], [], .nil⟩, rb) = (x, rx) := by rw [HRD.out, hje]; rfl
      have hxg := HXG.out
      have HE2 : Hid (r.ev = (if (evEnd (x, rx)).err ≠ 0 then .zero else x, evEnd (x, rx))) := hid (by rw [HE.out, hr]; rfl)
      have HEE : Hid (evEnd (x, rx) = if rx.err = 0 then rx.fail x.chk else rx) := hid rfl
      obtain ⟨id, tm, kk, a, bb, nn, tt, v⟩ := x
      simp only at HBX HVX c0 c1 c2 c3 c4 c5 c6
      have HCK := hid (echeck_c (w := wr) (G := fun q => n1 < q ∧ q < wr.heap.size) (e := ⟨id, tm, kk, a, bb, nn, tt, v⟩) (cs := [.int .i64 id, .int .i64 tm, .int .i64 kk, .int .i64 a, .int .i64 bb, .string (strOf nn), .string (strOf tt), .int .i64 vk, .int .i64 vn, .string (strOf vs), .slice va vm vc]) ⟨_, rfl, HVX.out⟩ (fun q hq => hq.2) hxg)
      have HER := hid (rerr_c HMX.out.rd)
      clear hje hr HE HRD hxg
      obtain ⟨ck, hck⟩ : ∃ y, (⟨id, tm, kk, a, bb, nn, tt, v⟩ : EM).chk = y := ⟨_, rfl⟩
      rw [hck] at HCK HEE
      clear hck
      have hn0 := HMX.out.hn0
      have hnn := HMX.out.hnn
      by_cases he : rx.err = 0
      · have hb : (rx.err == 0) = true := by simp [he]
        have hee : evEnd (⟨id, tm, kk, a, bb, nn, tt, v⟩, rx) = rx.fail ck := by rw [HEE.out, if_pos he]
        have hfe : (rx.fail ck).err = ck := by rw [fail_err, if_pos he]
        have HEE2 := hid hee; have HFE := hid hfe
        clear he hee hfe
        go_wp2_with fail
        refine HER.out.mono ?_
        rintro e w2 ⟨rfl, rfl⟩
        go_wp2_with fail
        refine HCK.out.mono ?_
        rintro e w5 ⟨rfl, ho5⟩
        have HM5 := hid (HMX.out.step (HMX.out.rd.same ho5) (ho5.mono (fun _ _ e => e.elim)))
        have HB5 := hid (blk_only HBX.out ho5 (fun e => e))
        have HV5 := hid (HVX.out.same ho5)
        have HFL := hid (rfail_c HM5.out.rd ck)
        have HO5 := hid ho5
        clear ho5 c0 c1 c2 c3 c4 c5 c6 c7 c8 c9 c10 cz hlb
        go_wp2_with fail
        refine HFL.out.mono ?_
        rintro e w6 ⟨rfl, hr6, ho6⟩
        have hm6 := HM5.out.step hr6 ho6
        have hb6 := blk_only HB5.out ho6 (by show ¬ n1 = b; omega)
        have hv6 := (HV5.out.only ho6 (fun i hi e => by have e' : i = b := e; have := hi.1; omega))
        have HER6 := hid (rerr_c hr6)
        rw [HFE.out] at HER6
        have c0 : w6.cell? ⟨n1, 0, none⟩ = some (.int .i64 id) := cell_blk hb6 0
        have c1 : w6.cell? ⟨n1, 1, none⟩ = some (.int .i64 tm) := cell_blk hb6 1
        have c2 : w6.cell? ⟨n1, 2, none⟩ = some (.int .i64 kk) := cell_blk hb6 2
        have c3 : w6.cell? ⟨n1, 3, none⟩ = some (.int .i64 a) := cell_blk hb6 3
        have c4 : w6.cell? ⟨n1, 4, none⟩ = some (.int .i64 bb) := cell_blk hb6 4
        have c5 : w6.cell? ⟨n1, 5, none⟩ = some (.string (strOf nn)) := cell_blk hb6 5
        have c6 : w6.cell? ⟨n1, 6, none⟩ = some (.string (strOf tt)) := cell_blk hb6 6
        have c7 : w6.cell? ⟨n1, 7, none⟩ = some (.int .i64 vk) := cell_blk hb6 7
        have c8 : w6.cell? ⟨n1, 8, none⟩ = some (.int .i64 vn) := cell_blk hb6 8
        have c9 : w6.cell? ⟨n1, 9, none⟩ = some (.string (strOf vs)) := cell_blk hb6 9
        have c10 : w6.cell? ⟨n1, 10, none⟩ = some (.slice va vm vc) := cell_blk hb6 10
        have HM6 := hid hm6; have HV6 := hid hv6; have HZ5 := hid hm6.h0; have HOW := hid hm6.o
        have hsz56 := ho6.size
        have hsz5 := HO5.out.size
        clear hr6 ho6 hm6 hb6 hv6
        by_cases hc0 : ck = 0
        · subst hc0
          have HF : Hid (r.ev = (⟨id, tm, kk, a, bb, nn, tt, v⟩, rx.fail 0)) := hid (by rw [HE2.out, HEE2.out, HFE.out]; simp)
          go_wp2_with fail
          refine HER6.out.mono ?_
          rintro e w7 ⟨rfl, rfl⟩
          go_wp2_with (refine wpList_store_all rfl 43 (.tmp 2) (.tmp 76) rfl w.heap.size #[.int .i64 id, .int .i64 tm, .int .i64 kk, .int .i64 a, .int .i64 bb, .string (strOf nn), .string (strOf tt), .int .i64 vk, .int .i64 vn, .string (strOf vs), .slice va vm vc] rfl rfl ezero 43 HZ5.out rfl info_ev (ev_one _ _ _ _ _ _ _ _ _ _ _ _ _) ?_; intro w9 hb9 ho9 hs9; have HB9 := hid hb9; have HO9 := hid ho9; have HS9 := hid hs9; clear hb9 ho9 hs9)
          refine bodyPost_ret (results_cell_row rfl _ _ w.heap.size 43 #[.int .i64 id, .int .i64 tm, .int .i64 kk, .int .i64 a, .int .i64 bb, .string (strOf nn), .string (strOf tt), .int .i64 vk, .int .i64 vn, .string (strOf vs), .slice va vm vc] (0, 0) _ rfl HB9.out Tryz.underlying43 rfl info_ev) rfl ?_
          rw [HF.out]
          exact ⟨[.int .i64 id, .int .i64 tm, .int .i64 kk, .int .i64 a, .int .i64 bb, .string (strOf nn), .string (strOf tt), .int .i64 vk, .int .i64 vn, .string (strOf vs), .slice va vm vc], rfl, ⟨_, rfl, (HV6.out.only HO9.out (fun i hi e => by have e' : i = w.heap.size := e; have := hi.1; omega)).mono (fun i hi => ⟨by have := hi.1; omega, by have := hi.2; have := HS9.out; omega⟩)⟩, HM6.out.rd.only HO9.out (by show ¬ b = w.heap.size; omega) (by show ¬ g = w.heap.size; omega), HOW.out.trans HO9.out (fun i hi e => by have e' : i = w.heap.size := e; omega)⟩
        · have hcb : (ck != 0) = true := by simpa using hc0
          have HF : Hid (r.ev = (.zero, rx.fail ck)) := hid (by rw [HE2.out, HEE2.out, HFE.out, if_pos hc0])
          clear hc0
          go_wp2_with fail
          refine HER6.out.mono ?_
          rintro e w7 ⟨rfl, rfl⟩
          go_wp2_with (refine wpList_store_all rfl 43 (.tmp 2) (.tmp 75) rfl w.heap.size ezero rfl rfl ezero 43 HZ5.out rfl info_ev (ev_one _ _ _ _ _ _ _ _ _ _ _ _ _) ?_; intro w9 hb9 ho9 hs9; have HB9 := hid hb9; have HO9 := hid ho9; have HS9 := hid hs9; clear hb9 ho9 hs9)
          refine bodyPost_ret (results_cell_row rfl _ _ w.heap.size 43 ezero (0, 0) _ rfl HB9.out Tryz.underlying43 rfl info_ev) rfl ?_
          rw [HF.out]
          exact ⟨ezero.toList, rfl, ⟨_, rfl, novls _ _ 0 0 []⟩, HM6.out.rd.only HO9.out (by show ¬ b = w.heap.size; omega) (by show ¬ g = w.heap.size; omega), HOW.out.trans HO9.out (fun i hi e => by have e' : i = w.heap.size := e; omega)⟩
      · have hb : (rx.err == 0) = false := by simpa using he
        have hb2 : (rx.err != 0) = true := by simpa using he
        have HF : Hid (r.ev = (.zero, rx)) := hid (by rw [HE2.out, HEE.out, if_neg he, if_pos he])
        have HZ5 := hid HMX.out.h0; have HOW := hid HMX.out.o
        clear he
        go_wp2_with fail
        refine HER.out.mono ?_
        rintro e w2 ⟨rfl, rfl⟩
        go_wp2_with fail
        refine HER.out.mono ?_
        rintro e w3 ⟨rfl, rfl⟩
        go_wp2_with (refine wpList_store_all rfl 43 (.tmp 2) (.tmp 75) rfl w.heap.size ezero rfl rfl ezero 43 HZ5.out rfl info_ev (ev_one _ _ _ _ _ _ _ _ _ _ _ _ _) ?_; intro w9 hb9 ho9 hs9; have HB9 := hid hb9; have HO9 := hid ho9; have HS9 := hid hs9; clear hb9 ho9 hs9)
        refine bodyPost_ret (results_cell_row rfl _ _ w.heap.size 43 ezero (0, 0) _ rfl HB9.out Tryz.underlying43 rfl info_ev) rfl ?_
        rw [HF.out]
        exact ⟨ezero.toList, rfl, ⟨_, rfl, novls _ _ 0 0 []⟩, HMX.out.rd.only HO9.out (by show ¬ b = w.heap.size; omega) (by show ¬ g = w.heap.size; omega), HOW.out.trans HO9.out (fun i hi e => by have e' : i = w.heap.size := e; omega)⟩
end
end Go.Proofs.YtfmdngeooelcpaaGreat
