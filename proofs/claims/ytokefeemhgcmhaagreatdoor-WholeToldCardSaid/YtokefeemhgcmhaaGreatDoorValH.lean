/- count.read and value.Read. wire.Reader.End, value.Read. -/
import Derived.Test.YtokefeemhgcmhaaGreatDoorValM
import Derived.Deep.Cut
import Derived.Deep.CutRange
import Derived.Deep.CutBlock
namespace Go.Proofs.YtokefeemhgcmhaaGreatDoor
open Go.RowKit

def vcells (k n : Int) (s : List UInt8) (a : Option Addr) (m c : Nat) : Array Value := #[.int .i64 k, .int .i64 n, .string (strOf s), .slice a m c]
/-- The zero value's cells. -/
abbrev vzero : Array Value := #[.int .i64 0, .int .i64 0, .string (strOf []), .slice none 0 0]
theorem rdV_p : ∀ (f : Nat) (r : RdM) (p : Nat), (rdV f r p).p ≤ p + 65 ^ f := by
  intro f
  induction f with
  | zero => intro r p; rw [rdV]; exact Nat.le_add_right _ _
  | succ f ih =>
    intro r p
    rw [rdV]
    generalize (if 256 < p + 1 then r.byte.2.fail 2 else r.byte.2) = r1
    have hL : ∀ (n : Nat) (r : RdM) (p : Nat), (rdL (rdV f) n r p).2.2 ≤ p + n * 65 ^ f := by
      intro n
      induction n with
      | zero => intro r p; simp [rdL]
      | succ n ihn =>
        intro r p
        rw [rdL]
        have h1 := ihn (rdV f r p).r (rdV f r p).p
        have h2 := ih r p
        rw [Nat.add_mul, Nat.one_mul]
        simp only; omega
    have hpos : 1 ≤ 65 ^ f := Nat.one_le_pow _ _ (by omega)
    have hs : p + 1 ≤ p + 65 ^ (f + 1) := by rw [Nat.pow_succ]; omega
    unfold rdK
    by_cases h0 : r.byte.1 = 0
    · rw [if_pos h0]; exact hs
    rw [if_neg h0]
    by_cases h1 : r.byte.1 = 1
    · rw [if_pos h1]; exact hs
    rw [if_neg h1]
    by_cases h2 : r.byte.1 = 2
    · rw [if_pos h2]; exact hs
    rw [if_neg h2]
    by_cases h3 : r.byte.1 = 3
    · rw [if_pos h3]
      have hn : ((if f = 0 then r1.fail 30 else r1).num 64).1 ≤ 64 := num_le
      have h1 := hL ((if f = 0 then r1.fail 30 else r1).num 64).1 ((if f = 0 then r1.fail 30 else r1).num 64).2 (p + 1)
      have h2 : ((if f = 0 then r1.fail 30 else r1).num 64).1 * 65 ^ f ≤ 64 * 65 ^ f := Nat.mul_le_mul_right _ hn
      show (rdL (rdV f) _ _ (p + 1)).2.2 ≤ _
      rw [Nat.pow_succ]; omega
    · rw [if_neg h3]; exact hs
/-- What reading a value leaves. -/
def ReadS (w : World) (b g c : Nat) (x : VS) (e : Ending) (w' : World) : Prop := ∃ cs, e = .returned (.agg cs.toArray) ∧ VAt w' (New w w') x.t cs ∧ Rd w' b g x.r ∧ Cnt w' c x.p 0 ∧ Only (fun k => k = b ∨ k = c) w w'
def ReadC (f : Nat) : Prop := ∀ (w : World) (b g c : Nat) (r : RdM) (p d : Nat), Rd w b g r → Cnt w c p 0 → c ≠ b → c ≠ g → d + f = 9 → p + 65 ^ f ≤ 1000000000000000000 →
    Calls Tryz.prog 45 #[.pointer (some ⟨c, 0, none⟩), .pointer (some ⟨b, 0, none⟩), .int .i64 d] w (ReadS w b g c (rdV f r p))
/-- In the middle of reading: the kind is read. -/
structure RMid (w wx : World) (b g c n0 nv : Nat) (r : RdM) (q k : Nat) : Prop where
  rd : Rd wx b g r
  cnt : Cnt wx c q 0
  h0 : wx.heap[n0]? = some (.cells vzero 24 (0, 0))
  hv : wx.heap[nv]? = some (.cells #[.int .i64 k, .int .i64 0, .string (strOf []), .slice none 0 0] 24 (0, 0))
  o : Only (fun j => j = b ∨ j = c) w wx
  hn0 : w.heap.size ≤ n0
  hnv : n0 < nv
theorem novls (w : World) (G : Nat → Prop) (k n : Int) (s : List UInt8) : VAt w G (.mk k n s []) [.int .i64 k, .int .i64 n, .string (strOf s), .slice none 0 0] := by
  rw [VAt]; exact ⟨none, 0, 0, 0, rfl, by simp, by rw [VLs]; trivial⟩
theorem RMid.fin {w wx w9 : World} {b g c n0 nv : Nat} {r : RdM} {q k : Nat} (h : RMid w wx b g c n0 nv r q k) {G : Nat → Prop} (ho : Only G wx w9) (hb : ¬ G b) (hg : ¬ G g) (hc : ¬ G c) (hG : ∀ j, j < w.heap.size → ¬ G j) {t : VT} {cs : List Value} (hv : VAt w9 (New w w9) t cs) : ReadS w b g c ⟨t, r, q⟩ (.returned (.agg cs.toArray)) w9 :=
  ⟨cs, rfl, hv, h.rd.only ho hb hg, blk_only h.cnt ho hc, h.o.trans ho (fun j hj e => (hG j hj e).elim)⟩
theorem RMid.only {w wx wy : World} {b g c n0 nv : Nat} {r r' : RdM} {q k : Nat} (h : RMid w wx b g c n0 nv r q k) (hr : Rd wy b g r') (ho : Only (fun j => j = b) wx wy) (hc : c ≠ b) (hb : b < w.heap.size) : RMid w wy b g c n0 nv r' q k :=
  ⟨hr, blk_only h.cnt ho hc, blk_only h.h0 ho (by have := h.hn0; omega), blk_only h.hv ho (by have := h.hn0; have := h.hnv; omega), h.o.trans ho (fun _ _ e => .inl e), h.hn0, h.hnv⟩
section
variable {w : World}
set_option maxRecDepth 100000 in
set_option maxHeartbeats 3200000 in
theorem read_step (f : Nat) (ih : 0 < f → ReadC f) : ReadC (f + 1) := by
  intro w b g c r p d hR hC hcb hcg hd hp
  have hlt := hR.lt
  have hcl := blk_lt hC
  have HRV : Hid (rdV (f + 1) r p = rdK (rdV f) f r.byte.1 (if 256 < p + 1 then r.byte.2.fail 2 else r.byte.2) (p + 1)) := hid (by rw [rdV])
  have HB := hid (rbyte_c (hR.same (only_new w (.cells vzero 24))))
  have HC := hid hC; have HP := hid hp
  have hk := byte_lt r
  obtain ⟨k, hke⟩ : ∃ x, r.byte.1 = x := ⟨_, rfl⟩
  obtain ⟨r1, hre⟩ : ∃ x, r.byte.2 = x := ⟨_, rfl⟩
  rw [hke, hre] at HRV HB
  rw [hke] at hk
  have hp2 : p ≤ 1000000000000000000 := Nat.le_trans (Nat.le_add_right _ _) hp
  have hpi : (p : Int) ≤ 1000000000000000000 := by omega
  clear hke hre hR hC hp
  go_enter Tryz.func45, Tryz.ntmps45
  go_wp2_with fail
  refine HB.out.mono ?_
  rintro e w1 ⟨rfl, hr1, ho1⟩
  have hb0 : w1.heap[w.heap.size]? = some (.cells vzero 24 (0, 0)) := blk_only (blk_new w (.cells vzero 24)) ho1 (by show ¬ w.heap.size = b; omega)
  have hc1 : Cnt w1 c p 0 := blk_only (blk_alloc HC.out) ho1 hcb
  have q0 : w1.cell? ⟨c, 0, none⟩ = some (.int .i64 p) := cell_blk hc1 0
  have qz := frozen_blk hc1
  have hc1l := blk_lt hc1
  have hb0l := blk_lt hb0
  have hor : Only (fun j => j = b ∨ j = c) w w1 := ((only_new w (.cells vzero 24)).mono (G := fun j => j = b ∨ j = c) (fun _ _ e => e.elim)).trans ho1 (fun _ _ e => .inl e)
  have HMD : Hid (RMid w ((w1.setCell ⟨c, 0, none⟩ (.int .i64 ((p + 1 : Nat) : Int))).alloc (.cells #[.int .i64 k, .int .i64 0, .string (strOf []), .slice none 0 0] 24)) b g c w.heap.size w1.heap.size r1 (p + 1) k) := hid (by
    have ho : Only (fun j => j = c) w1 ((w1.setCell ⟨c, 0, none⟩ (.int .i64 ((p + 1 : Nat) : Int))).alloc (.cells #[.int .i64 k, .int .i64 0, .string (strOf []), .slice none 0 0] 24)) := (only_set _ _ _).trans (only_new _ _) (fun _ _ e => e.elim)
    refine ⟨hr1.only ho (fun e => hcb e.symm) (fun e => hcg e.symm), blk_alloc (hc1.set0 (p + 1)), blk_only hb0 ho (by show ¬ w.heap.size = c; omega), ?_, hor.trans ho (fun _ _ e => .inr e), Nat.le_refl _, hb0l⟩
    have := blk_new (w1.setCell ⟨c, 0, none⟩ (.int .i64 ((p + 1 : Nat) : Int))) (.cells #[.int .i64 k, .int .i64 0, .string (strOf []), .slice none 0 0] 24)
    simpa using this)
  have hpp : ((p : Int) + 1) = ((p + 1 : Nat) : Int) := by omega
  obtain ⟨nv, hnv⟩ : ∃ x, w1.heap.size = x := ⟨_, rfl⟩
  rw [hnv] at HMD
  have HPP := hid hpp; have HNV := hid hnv
  clear hr1 ho1 hb0 hc1 hor hpp hnv
  go_upto_if 23 with fail
  go_cut [7] from 23 to 25 (fun v wx => v = .pointer (some ⟨nv, 0, none⟩) ∧ RMid w wx b g c w.heap.size nv (if 256 < p + 1 then r1.fail 2 else r1) (p + 1) k)
  case first =>
    have HM1 := HMD.out
    rw [← HPP.out] at HM1
    by_cases h256 : 256 < (p : Int) + 1
    · have e2 : (if 256 < p + 1 then r1.fail 2 else r1) = r1.fail 2 := if_pos (by omega)
      have HE2 := hid e2
      have HF := hid (rfail_c HM1.rd 2)
      have HM := hid HM1
      clear e2 HM1
      go_wp2_with fail
      refine HF.out.mono ?_
      rintro e w2 ⟨rfl, hr2, ho2⟩
      have HR2 := hid hr2; have HO2 := hid ho2
      clear hr2 ho2
      go_wp2_with fail
      go_meet
      case rel => exact ⟨by rw [HNV.out], by rw [HE2.out]; exact HM.out.only HR2.out HO2.out hcb hlt.1⟩
    · have e2 : (if 256 < p + 1 then r1.fail 2 else r1) = r1 := if_neg (by omega)
      have HE2 := hid e2
      have HM := hid HM1
      clear e2 HM1
      go_wp2_with fail
      go_meet
      case rel => exact ⟨by rw [HNV.out], by rw [HE2.out]; exact HM.out⟩
  case rest =>
  obtain ⟨rfl, hm⟩ := hcut
  obtain ⟨r2, hr2⟩ : ∃ x, (if 256 < p + 1 then r1.fail 2 else r1) = x := ⟨_, rfl⟩
  rw [hr2] at hm HRV
  clear hr2 HMD HPP HNV
  have v0 : wc.cell? ⟨nv, 0, none⟩ = some (.int .i64 k) := cell_blk hm.hv 0
  have v1 : wc.cell? ⟨nv, 1, none⟩ = some (.int .i64 0) := cell_blk hm.hv 1
  have v2 : wc.cell? ⟨nv, 2, none⟩ = some (.string (strOf [])) := cell_blk hm.hv 2
  have v3 : wc.cell? ⟨nv, 3, none⟩ = some (.slice none 0 0) := cell_blk hm.hv 3
  have vz := frozen_blk hm.hv
  have hnv0 := blk_lt hm.hv
  have hnvn := hm.hnv
  have hn0 := hm.hn0
  have HM := hid hm
  clear hm
  by_cases hk0 : k = 0
  · subst hk0
    have HF : Hid (rdV (f + 1) r p = ⟨.mk 0 0 [] [], r2, p + 1⟩) := hid (by rw [HRV.out]; unfold rdK; rw [if_pos rfl])
    go_wp2_with (refine wpList_store_all rfl 24 (.tmp 6) (.tmp 69) rfl w.heap.size #[.int .i64 0, .int .i64 0, .string (strOf []), .slice none 0 0] rfl rfl vzero 24 HM.out.h0 rfl info_val (val_one _ _ _ _ _ _) ?_; intro w9 hb9 ho9 hs9; have HB9 := hid hb9; have HO9 := hid ho9; have HS9 := hid hs9; clear hb9 ho9 hs9)
    refine bodyPost_ret (results_cell_row rfl _ _ w.heap.size 24 #[.int .i64 0, .int .i64 0, .string (strOf []), .slice none 0 0] (0, 0) _ rfl HB9.out Tryz.underlying24 rfl info_val) rfl ?_
    rw [HF.out]
    exact HM.out.fin HO9.out (by show ¬ b = w.heap.size; omega) (by show ¬ g = w.heap.size; omega) (by show ¬ c = w.heap.size; omega) (fun j hj e => by have e' : j = w.heap.size := e; omega) (novls _ _ 0 0 [])
  have kb0 : ((k : Int) == 0) = false := by simpa using hk0
  by_cases hk1 : k = 1
  · subst hk1
    have HF : Hid (rdV (f + 1) r p = ⟨.mk 1 r2.int.1 [] [], r2.int.2, p + 1⟩) := hid (by rw [HRV.out]; unfold rdK; rw [if_neg (by decide), if_pos rfl])
    have HI := hid (rint_c HM.out.rd)
    go_wp2_with fail
    refine HI.out.mono ?_
    rintro e w2 ⟨rfl, hr3, ho3⟩
    have hm3 := HM.out.only hr3 ho3 hcb hlt.1
    clear v0 v1 v2 v3 vz hnv0
    have v0 : w2.cell? ⟨nv, 0, none⟩ = some (.int .i64 1) := cell_blk hm3.hv 0
    have v1 : w2.cell? ⟨nv, 1, none⟩ = some (.int .i64 0) := cell_blk hm3.hv 1
    have v2 : w2.cell? ⟨nv, 2, none⟩ = some (.string (strOf [])) := cell_blk hm3.hv 2
    have v3 : w2.cell? ⟨nv, 3, none⟩ = some (.slice none 0 0) := cell_blk hm3.hv 3
    have vz := frozen_blk hm3.hv
    have hnv0 := blk_lt hm3.hv
    have HM3 := hid hm3
    clear hm3 hr3 ho3
    obtain ⟨x, hx⟩ : ∃ x, r2.int.1 = x := ⟨_, rfl⟩
    rw [hx] at HF
    have HX := hid hx
    have HZ3 := hid (blk_only HM3.out.h0 (only_set nv 1 (.int .i64 x)) (by show ¬ w.heap.size = nv; omega))
    go_wp2_with (refine wpList_store_all rfl 24 (.tmp 6) (.tmp 69) rfl w.heap.size #[.int .i64 1, .int .i64 x, .string (strOf []), .slice none 0 0] rfl rfl vzero 24 HZ3.out rfl info_val (val_one _ _ _ _ _ _) ?_; intro w9 hb9 ho9 hs9; have HB9 := hid hb9; have HO9 := hid ho9; have HS9 := hid hs9; clear hb9 ho9 hs9)
    refine bodyPost_ret (results_cell_row rfl _ _ w.heap.size 24 #[.int .i64 1, .int .i64 x, .string (strOf []), .slice none 0 0] (0, 0) _ rfl HB9.out Tryz.underlying24 rfl info_val) rfl ?_
    rw [HF.out]
    have hoo : Only (fun j => j = nv ∨ j = w.heap.size) w2 w9 := ((only_set nv 1 _).mono (fun _ _ e => .inl e)).trans HO9.out (fun _ _ e => .inr e)
    exact HM3.out.fin hoo (by show ¬ (b = nv ∨ b = w.heap.size); omega) (by show ¬ (g = nv ∨ g = w.heap.size); omega) (by show ¬ (c = nv ∨ c = w.heap.size); omega) (fun j hj e => by have e' : j = nv ∨ j = w.heap.size := e; omega) (novls _ _ 1 x [])
  have kb1 : ((k : Int) == 1) = false := by simp; omega
  by_cases hk2 : k = 2
  · subst hk2
    have HF : Hid (rdV (f + 1) r p = ⟨.mk 2 0 r2.text.1 [], if 256 < r2.text.1.length then r2.text.2.fail 2 else r2.text.2, p + 1⟩) := hid (by rw [HRV.out]; unfold rdK; rw [if_neg (by decide), if_neg (by decide), if_pos rfl])
    have HI := hid (rtext_c HM.out.rd)
    obtain ⟨s, hs⟩ : ∃ x, r2.text.1 = x := ⟨_, rfl⟩
    obtain ⟨r3, hr3e⟩ : ∃ x, r2.text.2 = x := ⟨_, rfl⟩
    rw [hs, hr3e] at HF HI
    clear hs hr3e
    have hsl : (strOf s).size = s.length := rfl
    go_wp2_with fail
    refine HI.out.mono ?_
    rintro e w2 ⟨rfl, hr3, ho3⟩
    have hm3 := HM.out.only hr3 ho3 hcb hlt.1
    clear v0 v1 v2 v3 vz hnv0
    have v0 : w2.cell? ⟨nv, 0, none⟩ = some (.int .i64 2) := cell_blk hm3.hv 0
    have v1 : w2.cell? ⟨nv, 1, none⟩ = some (.int .i64 0) := cell_blk hm3.hv 1
    have v2 : w2.cell? ⟨nv, 2, none⟩ = some (.string (strOf [])) := cell_blk hm3.hv 2
    have v3 : w2.cell? ⟨nv, 3, none⟩ = some (.slice none 0 0) := cell_blk hm3.hv 3
    have vz := frozen_blk hm3.hv
    have hnv0 := blk_lt hm3.hv
    have HM3 := hid hm3
    clear hm3 hr3 ho3
    have HZ3 := hid (blk_only HM3.out.h0 (only_set nv 2 (.string (strOf s))) (by show ¬ w.heap.size = nv; omega))
    by_cases hs256 : 256 < (s.length : Int)
    · have HR4 := hid (rfail_c (HM3.out.rd.only (only_set nv 2 (.string (strOf s))) (by show ¬ b = nv; omega) (by show ¬ g = nv; omega)) 2)
      have HF2 : Hid (rdV (f + 1) r p = ⟨.mk 2 0 s [], r3.fail 2, p + 1⟩) := hid (by rw [HF.out, if_pos (by omega)])
      go_wp2_with fail
      refine HR4.out.mono ?_
      rintro e w4 ⟨rfl, hr4, ho4⟩
      have hm4b : w4.heap[nv]? = some (.cells #[.int .i64 2, .int .i64 0, .string (strOf s), .slice none 0 0] 24 (0, 0)) := blk_only (by have := blk_set HM3.out.hv 2 (.string (strOf s)); simpa using this) ho4 (by show ¬ nv = b; omega)
      have hz4 := blk_only HZ3.out ho4 (by show ¬ w.heap.size = b; omega)
      clear v0 v1 v2 v3 vz
      have v0 : w4.cell? ⟨nv, 0, none⟩ = some (.int .i64 2) := cell_blk hm4b 0
      have v1 : w4.cell? ⟨nv, 1, none⟩ = some (.int .i64 0) := cell_blk hm4b 1
      have v2 : w4.cell? ⟨nv, 2, none⟩ = some (.string (strOf s)) := cell_blk hm4b 2
      have v3 : w4.cell? ⟨nv, 3, none⟩ = some (.slice none 0 0) := cell_blk hm4b 3
      have HZ4 := hid hz4
      have HR5 := hid hr4
      have HO4 := hid ho4
      clear hm4b hz4 hr4 ho4
      go_wp2_with (refine wpList_store_all rfl 24 (.tmp 6) (.tmp 69) rfl w.heap.size #[.int .i64 2, .int .i64 0, .string (strOf s), .slice none 0 0] rfl rfl vzero 24 HZ4.out rfl info_val (val_one _ _ _ _ _ _) ?_; intro w9 hb9 ho9 hs9; have HB9 := hid hb9; have HO9 := hid ho9; have HS9 := hid hs9; clear hb9 ho9 hs9)
      refine bodyPost_ret (results_cell_row rfl _ _ w.heap.size 24 #[.int .i64 2, .int .i64 0, .string (strOf s), .slice none 0 0] (0, 0) _ rfl HB9.out Tryz.underlying24 rfl info_val) rfl ?_
      rw [HF2.out]
      have hoo : Only (fun j => j = nv ∨ j = w.heap.size ∨ j = b) w2 w9 := (((only_set nv 2 _).mono (fun _ _ e => .inl e)).trans HO4.out (fun _ _ e => .inr (.inr e))).trans HO9.out (fun _ _ e => .inr (.inl e))
      exact ⟨_, rfl, novls _ _ 2 0 s, HR5.out.only HO9.out (by show ¬ b = w.heap.size; omega) (by show ¬ g = w.heap.size; omega), blk_only HM3.out.cnt hoo (by show ¬ (c = nv ∨ c = w.heap.size ∨ c = b); omega), HM3.out.o.trans hoo (fun j hj e => by have e' : j = nv ∨ j = w.heap.size ∨ j = b := e; rcases e' with e' | e' | e'; omega; omega; exact .inl e')⟩
    · have HF2 : Hid (rdV (f + 1) r p = ⟨.mk 2 0 s [], r3, p + 1⟩) := hid (by rw [HF.out, if_neg (by omega)])
      go_wp2_with (refine wpList_store_all rfl 24 (.tmp 6) (.tmp 69) rfl w.heap.size #[.int .i64 2, .int .i64 0, .string (strOf s), .slice none 0 0] rfl rfl vzero 24 HZ3.out rfl info_val (val_one _ _ _ _ _ _) ?_; intro w9 hb9 ho9 hs9; have HB9 := hid hb9; have HO9 := hid ho9; have HS9 := hid hs9; clear hb9 ho9 hs9)
      refine bodyPost_ret (results_cell_row rfl _ _ w.heap.size 24 #[.int .i64 2, .int .i64 0, .string (strOf s), .slice none 0 0] (0, 0) _ rfl HB9.out Tryz.underlying24 rfl info_val) rfl ?_
      rw [HF2.out]
      have hoo : Only (fun j => j = nv ∨ j = w.heap.size) w2 w9 := ((only_set nv 2 _).mono (fun _ _ e => .inl e)).trans HO9.out (fun _ _ e => .inr e)
      exact HM3.out.fin hoo (by show ¬ (b = nv ∨ b = w.heap.size); omega) (by show ¬ (g = nv ∨ g = w.heap.size); omega) (by show ¬ (c = nv ∨ c = w.heap.size); omega) (fun j hj e => by have e' : j = nv ∨ j = w.heap.size := e; omega) (novls _ _ 2 0 s)
  have kb2 : ((k : Int) == 2) = false := by simp; omega
  by_cases hk3 : k = 3
  · subst hk3
    have HF : Hid (rdV (f + 1) r p = rdN (rdV f) ((if f = 0 then r2.fail 30 else r2).num 64) (p + 1)) := hid (by rw [HRV.out]; unfold rdK; rw [if_neg (by decide), if_neg (by decide), if_neg (by decide), if_pos rfl])
    clear hk0 hk1 hk2 kb0 kb1 kb2
    go_upto_if 51 with fail
    go_cut [7] from 51 to 53 (fun v wx => v = .pointer (some ⟨nv, 0, none⟩) ∧ RMid w wx b g c w.heap.size nv (if f = 0 then r2.fail 30 else r2) (p + 1) 3)
    case first =>
      by_cases hf0 : f = 0
      · have hd8 : 8 ≤ (d : Int) := by omega
        have HR4 := hid (rfail_c HM.out.rd 30)
        have HE := hid (show (if f = 0 then r2.fail 30 else r2) = r2.fail 30 from if_pos hf0)
        clear hf0
        go_wp2_with fail
        refine HR4.out.mono ?_
        rintro e w2 ⟨rfl, hr3, ho3⟩
        have HM3 := hid (HM.out.only hr3 ho3 hcb hlt.1)
        clear hr3 ho3
        go_wp2_with fail
        go_meet
        case rel => exact ⟨rfl, by rw [HE.out]; exact HM3.out⟩
      · have hd8 : ¬ 8 ≤ (d : Int) := by omega
        have HE := hid (show (if f = 0 then r2.fail 30 else r2) = r2 from if_neg hf0)
        clear hf0
        go_wp2_with fail
        go_meet
        case rel => exact ⟨rfl, by rw [HE.out]; exact HM.out⟩
    case rest =>
    obtain ⟨rfl, hm⟩ := hcut
    have hf0 : f = 0 → ((if f = 0 then r2.fail 30 else r2).num 64).1 = 0 := fun e => by rw [if_pos e, num_bad (fail_ne (by decide))]
    obtain ⟨r3, hr3e⟩ : ∃ x, (if f = 0 then r2.fail 30 else r2) = x := ⟨_, rfl⟩
    rw [hr3e] at hm HF hf0
    have HN := hid (rnum_c hm.rd 64 (by decide))
    have hn64 := num_le (r := r3) (most := 64)
    obtain ⟨⟨n, r4⟩, hx⟩ : ∃ x, r3.num 64 = x := ⟨_, rfl⟩
    rw [hx] at HN HF hn64 hf0
    simp only at HN hn64 hf0
    clear hr3e hx HM v0 v1 v2 v3 vz
    have HM := hid hm
    have HF0 := hid hf0
    clear hm hf0 hnv0
    go_wp2_with fail
    refine HN.out.mono ?_
    rintro e w2 ⟨rfl, hr4, ho4⟩
    have HM4 := hid (HM.out.only hr4 ho4 hcb hlt.1)
    clear hr4 ho4 HM HN
    go_wp2_with fail
    go_loopw [56] (fun i wr => ∃ (j cp pj : Nat) (rj : RdM) (ts : List VT) (ao : Option Addr) (xs : List Value), i = .int .u64 j ∧ j ≤ n ∧ rdL (rdV f) n r4 (p + 1) = (ts ++ (rdL (rdV f) (n - j) rj pj).1, (rdL (rdV f) (n - j) rj pj).2) ∧ ts.length = j ∧ Rd wr b g rj ∧ Cnt wr c pj 0 ∧ pj + (n - j) * 65 ^ f ≤ 1000000000000000000 ∧ wr.heap[nv]? = some (.cells #[.int .i64 3, .int .i64 0, .string (strOf []), .slice ao j cp] 24 (0, 0)) ∧ wr.heap[w.heap.size]? = some (.cells vzero 24 (0, 0)) ∧ Gr wr 24 4 ao j cp xs ∧ (∀ q, ao = some ⟨q, 0, none⟩ → nv < q) ∧ VXs wr (fun q => nv < q ∧ q < wr.heap.size ∧ ao ≠ some ⟨q, 0, none⟩) ts xs ∧ Only (fun q => q = b ∨ q = c) w wr) (fun i _ => n - (intOf i).toNat)
    case atStart => exact ⟨0, 0, p + 1, r4, [], none, [], rfl, Nat.zero_le _, rfl, rfl, HM4.out.rd, HM4.out.cnt, by
      have h1 := HP.out
      rw [Nat.pow_succ] at h1
      have h2 : n * 65 ^ f ≤ 64 * 65 ^ f := Nat.mul_le_mul_right _ hn64
      have h3 := Nat.one_le_pow f 65 (by omega)
      rw [Nat.sub_zero]; omega, HM4.out.hv, HM4.out.h0, Gr.nil, by simp, rfl, HM4.out.o⟩
    case round =>
      obtain ⟨j, cp, pj, rj, ts, ao, xs, rfl, hj, hrl, htl, hrd, hcn, hpj, hbv, hb0, hgr, hao, hvx, ho⟩ := hrel
      have r3' : wr.cell? ⟨nv, 3, none⟩ = some (.slice ao j cp) := cell_blk hbv 3
      have r0' : wr.cell? ⟨nv, 0, none⟩ = some (.int .i64 3) := cell_blk hbv 0
      have r1' : wr.cell? ⟨nv, 1, none⟩ = some (.int .i64 0) := cell_blk hbv 1
      have r2' : wr.cell? ⟨nv, 2, none⟩ = some (.string (strOf [])) := cell_blk hbv 2
      have hwv := blk_lt hbv
      have hsz := ho.size
      have HRL := hid hrl; have HTL := hid htl; have HRD := hid hrd; have HCN := hid hcn; have HPJ := hid hpj; have HBV := hid hbv; have HB0 := hid hb0; have HGR := hid hgr; have HAO := hid hao; have HVX := hid hvx; have HO := hid ho
      clear hrl htl hrd hcn hpj hbv hb0 hgr hao hvx ho
      by_cases hjn : j < n
      · have hji : (j : Int) < n := by omega
        have hff : 0 < f := by
          rcases Nat.eq_zero_or_pos f with e | e
          · have := HF0.out e; omega
          · exact e
        have hpj1 : pj + 65 ^ f ≤ 1000000000000000000 := by
          have h1 := HPJ.out
          have h2 : 1 * 65 ^ f ≤ (n - j) * 65 ^ f := Nat.mul_le_mul_right _ (by omega)
          omega
        have hC := ih hff wr.drew b g c rj pj (d + 1) (HRD.out.same (Only.refl _ _).drew) HCN.out hcb hcg (by omega) hpj1
        have hdw : ((d + 1 : Nat) : Int) = IntKind.i64.wrap ((d : Int) + 1) := by rw [IntWalk.i64_in _ (by omega)]; omega
        rw [hdw] at hC
        have HC := hid hC
        have hdi : (d : Int) + 1 ≤ 9 := by omega
        clear hpj1 hC hdw
        go_wp2_with fail
        clear r0' r1' r2'
        go_region_law (first
          | (refine step_of rfl (wp_callc (o := ⟨some 64, _, _, _, _, _⟩) (f := 45) (args := #[.pointer (some ⟨c, 0, none⟩), .pointer (some ⟨b, 0, none⟩), .int .i64 (IntKind.i64.wrap ((d : Int) + 1))]) (by kernel_rfl) ?_); refine HC.out.mono ?_; rintro e w2 ⟨cs2, rfl, hv2, hrd2, hcn2, ho2⟩; refine ⟨_, rfl, ?_⟩; obtain ⟨ky, ny, sy, ay, my, cy, rfl⟩ := hv2.form; have hb22 := blk_only (w := wr.drew) HBV.out ho2 (by show ¬ (nv = b ∨ nv = c); omega); have s3 : w2.cell? ⟨nv, 3, none⟩ = some (.slice ao j cp) := cell_blk hb22 3; have s3' : ∀ ob, (w2.alloc ob).cell? ⟨nv, 3, none⟩ = some (.slice ao j cp) := (fun ob => cell_blk (blk_alloc hb22) 3); have HV2 := hid hv2; have HO2 := hid ho2; have HRD2 := hid hrd2; have HCN2 := hid hcn2; have HB22 := hid hb22; clear hv2 ho2 hb22 hrd2 hcn2)
          | (refine step_of rfl (wp_gr (o := ⟨some 66, _, _, _, _, _⟩) elV (.tmp 59) (.tmp 65) rfl (HGR.out.only (((Only.refl _ wr).drew.trans HO2.out (fun _ _ e => e)).trans ((only_new w2 _).mono (fun _ _ e => e.elim)) (fun _ _ e => e)) (fun q hq e => by have e' : q = b ∨ q = c := e; have := HAO.out q hq; omega)) rfl (some ⟨w2.heap.size, 0, none⟩) 1 1 rfl [.int .i64 ky, .int .i64 ny, .string (strOf sy), .slice ay my cy] (SrcG.new (blk_new w2 _) rfl HV2.out.one) (by omega) (by omega) ?_); intro ao' cp' w5 hg5 ha5 ho5; have hb5 := blk_only (blk_alloc HB22.out) ho5 (fun e => by have := HAO.out _ e; omega); have s5 : w5.cell? ⟨nv, 3, none⟩ = some (.slice ao j cp) := cell_blk hb5 3; have z5 : ∀ i, w5.frozen? ⟨nv, i, none⟩ = false := frozen_blk hb5; have HG5 := hid hg5; have HA5 := hid ha5; have HO5 := hid ho5; have HB5 := hid hb5; clear hg5 ha5 ho5 hb5))
        all_goals
          go_wp2_with fail
          go_roundw
          case rel =>
            have hoA : Only (fun q => q = b ∨ q = c) wr w2 := ((Only.refl _ wr).drew).trans HO2.out (fun _ _ e => e)
            have hoB : Only (fun i => (i = b ∨ i = c) ∨ ao = some ⟨i, 0, none⟩) wr w5 := ((hoA.trans ((only_new w2 _).mono (fun _ _ e => e.elim)) (fun _ _ e => e)).mono (fun _ _ e => .inl e)).trans HO5.out (fun _ _ e => .inr e)
            have hoC : Only (fun i => ((i = b ∨ i = c) ∨ ao = some ⟨i, 0, none⟩) ∨ i = nv) wr (w5.setCell ⟨nv, 3, none⟩ (.slice ao' (j + 1) cp')) := (hoB.mono (fun _ _ e => .inl e)).trans (only_set _ _ _) (fun _ _ e => .inr e)
            have hoD : Only (fun i => i = nv ∨ ao = some ⟨i, 0, none⟩) (w2.alloc (.cells #[.int .i64 ky, .int .i64 ny, .string (strOf sy), .slice ay my cy] 24)) (w5.setCell ⟨nv, 3, none⟩ (.slice ao' (j + 1) cp')) := (HO5.out.mono (fun _ _ e => .inr e)).trans (only_set _ _ _) (fun _ _ e => .inl e)
            have hoE : Only (fun i => i = nv ∨ ao = some ⟨i, 0, none⟩) w2 (w5.setCell ⟨nv, 3, none⟩ (.slice ao' (j + 1) cp')) := ((only_new w2 _).mono (fun _ _ e => e.elim)).trans hoD (fun _ _ e => e)
            have hs2 := hoA.size
            have hs5 := HO5.out.size
            have hs5' : w2.heap.size + 1 ≤ w5.heap.size := by have := HO5.out.size; simp at this; exact this
            have hsf : (w5.setCell ⟨nv, 3, none⟩ (.slice ao' (j + 1) cp')).heap.size = w5.heap.size := by simp
            have hao' : ∀ q, ao' = some ⟨q, 0, none⟩ → (ao = some ⟨q, 0, none⟩ ∨ q = w2.heap.size + 1) := fun q hq => by
              rcases HA5.out with e | e
              · exact .inl (by rw [← e]; exact hq)
              · rw [hq] at e; simp only [Option.some.injEq, Addr.mk.injEq, and_true, World.size_alloc] at e; exact .inr e
            have hne : ∀ q, q ≤ w.heap.size → ¬ ao = some ⟨q, 0, none⟩ := fun q hq e => by have := HAO.out q e; omega
            refine ⟨j + 1, cp', (rdV f rj pj).p, (rdV f rj pj).r, ts ++ [(rdV f rj pj).t], ao', _, by go_num, by omega, ?_, by rw [List.length_append, HTL.out]; rfl, HRD2.out.only hoE (by show ¬ (b = nv ∨ _); have := hne b (by omega); rintro (e | e); omega; exact this e) (by show ¬ (g = nv ∨ _); have := hne g (by omega); rintro (e | e); omega; exact this e), blk_only HCN2.out hoE (by show ¬ (c = nv ∨ _); have := hne c (by omega); rintro (e | e); omega; exact this e), ?_, ?_, ?_, HG5.out.only (only_set _ _ _) (fun q hq e => ?_), fun q hq => ?_, ?_, HO.out.trans hoC (fun i hi e => ?_)⟩
            · rw [HRL.out]
              obtain ⟨m, hm⟩ : ∃ m, n - j = m + 1 := ⟨n - j - 1, by omega⟩
              have hm2 : n - (j + 1) = m := by omega
              rw [hm, hm2, rdL, List.append_assoc]; rfl
            · have h1 := HPJ.out
              have h2 := rdV_p f rj pj
              obtain ⟨m, hm⟩ : ∃ m, n - j = m + 1 := ⟨n - j - 1, by omega⟩
              have hm2 : n - (j + 1) = m := by omega
              rw [hm, Nat.add_mul, Nat.one_mul] at h1
              rw [hm2]; omega
            · have := blk_set HB5.out 3 (.slice ao' (j + 1) cp')
              simpa using this
            · exact blk_only HB0.out hoC (by show ¬ (((w.heap.size = b ∨ w.heap.size = c) ∨ _) ∨ w.heap.size = nv); have := hne w.heap.size (Nat.le_refl _); rintro ((e | e) | e); omega; exact this e; omega)
            · have e' : q = nv := e
              rcases hao' q hq with h | h
              · have := HAO.out _ h; omega
              · omega
            · rcases hao' q hq with h | h
              · exact HAO.out _ h
              · omega
            · refine VXs.snoc ?_ ((HVX.out.only hoC (fun i hi e => ?_)).mono (fun i hi => ⟨hi.1, ?_, fun e => ?_⟩))
              · refine (HV2.out.only hoE (fun i hi e => ?_)).mono (fun i hi => ⟨?_, ?_, fun e => ?_⟩)
                · have hi1 : wr.heap.size ≤ i := hi.1
                  have e' : i = nv ∨ ao = some ⟨i, 0, none⟩ := e
                  rcases e' with e' | e'
                  · omega
                  · have := HGR.out.lt e'; omega
                · have hi1 : wr.heap.size ≤ i := hi.1
                  omega
                · have := hi.2; omega
                · have h3 : wr.heap.size ≤ i := hi.1
                  have h4 := hi.2
                  rcases hao' i e with h | h
                  · have := HGR.out.lt h; omega
                  · omega
              · have e' : ((i = b ∨ i = c) ∨ ao = some ⟨i, 0, none⟩) ∨ i = nv := e
                have h1 := hi.1
                rcases e' with (e' | e') | e'
                · omega
                · exact hi.2.2 e'
                · omega
              · have := hi.2.1; omega
              · rcases hao' i e with h | h
                · exact hi.2.2 h
                · have := hi.2.1; omega
            · have e' : ((i = b ∨ i = c) ∨ ao = some ⟨i, 0, none⟩) ∨ i = nv := e
              rcases e' with (e' | e') | e'
              · exact e'
              · have := HAO.out _ e'; omega
              · omega
          case measure => simp [intOf]; omega
      · obtain rfl : j = n := by omega
        have hrl := HRL.out
        rw [Nat.sub_self, rdL, List.append_nil] at hrl
        have hF2 : rdV (f + 1) r p = ⟨.mk 3 0 [] ts, rj, pj⟩ := by rw [HF.out]; unfold rdN; rw [hrl]
        have HF2 := hid hF2
        clear hrl hF2
        go_wp2_with (refine wpList_store_all rfl 24 (.tmp 6) (.tmp 69) rfl w.heap.size #[.int .i64 3, .int .i64 0, .string (strOf []), .slice ao j cp] rfl rfl vzero 24 HB0.out rfl info_val (val_one _ _ _ _ _ _) ?_; intro w9 hb9 ho9 hs9; have HB9 := hid hb9; have HO9 := hid ho9; have HS9 := hid hs9; clear hb9 ho9 hs9)
        refine bodyPost_ret (results_cell_row rfl _ _ w.heap.size 24 #[.int .i64 3, .int .i64 0, .string (strOf []), .slice ao j cp] (0, 0) _ rfl HB9.out Tryz.underlying24 rfl info_val) rfl ?_
        rw [HF2.out]
        refine ⟨_, rfl, ?_, HRD.out.only HO9.out (by show ¬ b = w.heap.size; omega) (by show ¬ g = w.heap.size; omega), blk_only HCN.out HO9.out (by show ¬ c = w.heap.size; omega), HO.out.trans HO9.out (fun i hi e => by have e' : i = w.heap.size := e; omega)⟩
        have htl := HTL.out
        show VAt w9 (New w w9) (.mk 3 0 [] ts) _
        rw [VAt]
        rcases Nat.eq_zero_or_pos j with h0 | h0
        · obtain rfl : ts = [] := List.eq_nil_of_length_eq_zero (by omega)
          exact ⟨ao, cp, 0, 0, by rw [htl], fun e => absurd rfl e, by rw [VLs]; trivial⟩
        · obtain ⟨q, hq, hcells⟩ := HGR.out.cells h0
          have hq3 := HAO.out q hq
          have hql := HGR.out.lt hq
          have hs9 := HS9.out
          refine ⟨ao, cp, q, 0, by rw [htl], fun _ => ⟨hq, by omega, by omega⟩, ?_⟩
          have hv := (HVX.out.only HO9.out (fun i hi e => by have e' : i = w.heap.size := e; have := hi.1; omega)).mono (G' := New w w9) (fun i hi => ⟨by have := hi.1; omega, by have := hi.2.1; omega⟩)
          exact hv.ls (fun i u hu => by
            rw [Nat.zero_add, ← hcells i u hu]
            exact World.cell?_of_block (HO9.out.block q hql (by show ¬ q = w.heap.size; omega)))
  · have kb3 : ((k : Int) == 3) = false := by simp; omega
    have HF : Hid (rdV (f + 1) r p = ⟨.mk k 0 [] [], r2.fail 9, p + 1⟩) := hid (by rw [HRV.out]; unfold rdK; rw [if_neg hk0, if_neg hk1, if_neg hk2, if_neg hk3])
    have HR4 := hid (rfail_c HM.out.rd 9)
    clear hk0 hk1 hk2 hk3
    go_wp2_with fail
    refine HR4.out.mono ?_
    rintro e w2 ⟨rfl, hr3, ho3⟩
    have hm3 := HM.out.only hr3 ho3 hcb hlt.1
    clear v0 v1 v2 v3 vz hnv0
    have v0 : w2.cell? ⟨nv, 0, none⟩ = some (.int .i64 k) := cell_blk hm3.hv 0
    have v1 : w2.cell? ⟨nv, 1, none⟩ = some (.int .i64 0) := cell_blk hm3.hv 1
    have v2 : w2.cell? ⟨nv, 2, none⟩ = some (.string (strOf [])) := cell_blk hm3.hv 2
    have v3 : w2.cell? ⟨nv, 3, none⟩ = some (.slice none 0 0) := cell_blk hm3.hv 3
    have vz := frozen_blk hm3.hv
    have hnv0 := blk_lt hm3.hv
    have HM3 := hid hm3
    clear hm3 hr3 ho3
    go_wp2_with (refine wpList_store_all rfl 24 (.tmp 6) (.tmp 69) rfl w.heap.size #[.int .i64 k, .int .i64 0, .string (strOf []), .slice none 0 0] rfl rfl vzero 24 HM3.out.h0 rfl info_val (val_one _ _ _ _ _ _) ?_; intro w9 hb9 ho9 hs9; have HB9 := hid hb9; have HO9 := hid ho9; have HS9 := hid hs9; clear hb9 ho9 hs9)
    refine bodyPost_ret (results_cell_row rfl _ _ w.heap.size 24 #[.int .i64 k, .int .i64 0, .string (strOf []), .slice none 0 0] (0, 0) _ rfl HB9.out Tryz.underlying24 rfl info_val) rfl ?_
    rw [HF.out]
    exact HM3.out.fin HO9.out (by show ¬ b = w.heap.size; omega) (by show ¬ g = w.heap.size; omega) (by show ¬ c = w.heap.size; omega) (fun j hj e => by have e' : j = w.heap.size := e; omega) (novls _ _ k 0 [])
theorem readC : ∀ f, ReadC (f + 1)
  | 0 => read_step 0 (fun h => absurd h (by omega))
  | f + 1 => read_step (f + 1) (fun _ => readC f)
end
end Go.Proofs.YtokefeemhgcmhaaGreatDoor
namespace Go.Proofs.YtokefeemhgcmhaaGreatDoor
open Go.RowKit
section
variable {w : World}
variable {b g : Nat} {r : RdM}
set_option maxRecDepth 100000 in
theorem rend_c (h : Rd w b g r) : Calls Tryz.prog 25 #[.pointer (some ⟨b, 0, none⟩)] w fun e w' => e = .returned (.int .i64 r.done) ∧ ∃ n, w' = w.drewN n := by
  obtain ⟨cap, hp⟩ := h
  have h0 : w.cell? ⟨b, 0, none⟩ = some (.slice (some ⟨g, 0, none⟩) r.b.length cap) := cell_blk hp.blk 0
  have h1 : w.cell? ⟨b, 1, none⟩ = some (.int .i64 r.at') := cell_blk hp.blk 1
  have h2 : w.cell? ⟨b, 2, none⟩ = some (.int .i64 r.err) := cell_blk hp.blk 2
  have hd : r.done = if r.err = 0 ∧ r.at' < r.b.length then 8 else r.err := rfl
  clear hp
  by_cases he : r.err = 0
  · by_cases hl : r.at' < r.b.length
    · have HD := hid (show r.done = 8 by rw [hd, if_pos ⟨he, hl⟩])
      have hb : (r.err == 0) = true := by simp [he]
      have hl2 : decide (r.at' < r.b.length) = true := by simpa using hl
      clear hd he
      go_enter Tryz.func25, Tryz.ntmps25
      go_wp2
      go_quiet (fail)
      go_wp2
      go_ret
      exact ⟨by rw [HD.out]; rfl, _, rfl⟩
    · have HD := hid (show r.done = r.err by rw [hd, if_neg (fun e => hl e.2)])
      have hb : (r.err == 0) = true := by simp [he]
      have hl2 : decide (r.at' < r.b.length) = false := by simpa using hl
      clear hd he
      go_enter Tryz.func25, Tryz.ntmps25
      go_wp2
      go_quiet (fail)
      go_wp2
      go_ret
      exact ⟨by rw [HD.out]; rfl, _, rfl⟩
  · have HD := hid (show r.done = r.err by rw [hd, if_neg (fun e => he e.1)])
    have hb : (r.err == 0) = false := by simpa using he
    clear hd he
    go_enter Tryz.func25, Tryz.ntmps25
    go_wp2
    go_quiet (fail)
    go_wp2
    go_ret
    exact ⟨by rw [HD.out]; rfl, _, rfl⟩
theorem vread_o {w w2 w9 : World} {b : Nat} (h : Only (fun j => j = b) w w2) (h9 : Only (fun j => j = b ∨ j = w.heap.size) w2 w9) : Only (fun j => j = b) w w9 :=
  h.trans h9 (fun j hj e => by have e' : j = b ∨ j = w.heap.size := e; rcases e' with e' | e'; exact e'; omega)
theorem vread_o1 {w w2 w9 : World} {b : Nat} {o : Obj} (h9 : Only (fun j => j = w.heap.size) (w2.alloc o) w9) : Only (fun j => j = b ∨ j = w.heap.size) w2 w9 :=
  ((only_new w2 o).mono (fun _ _ e => e.elim)).trans h9 (fun _ _ e => .inr e)
theorem vread_mv {w w1 w2 w9 : World} {b : Nat} {o : Obj} {t : VT} {cs : List Value} (hv : VAt w2 (New w1 w2) t cs) (h9 : Only (fun j => j = w.heap.size) (w2.alloc o) w9) (h1 : w.heap.size < w1.heap.size) (_ : Only (fun j => j = b) w w2) (_ : b < w.heap.size) : VAt w9 (New w w9) t cs :=
  ((hv.same (only_new w2 o)).only h9 (fun k hk e => by have e' : k = w.heap.size := e; have := hk.1; omega)).mono (fun k hk => ⟨by have := hk.1; omega, by have := hk.2; have := h9.size; simp at this; omega⟩)
/-- What value.Read leaves. -/
def ValRead (w : World) (b g : Nat) (x : VT × RdM) (e : Ending) (w' : World) : Prop := ∃ cs, e = .returned (.agg cs.toArray) ∧ VAt w' (New w w') x.1 cs ∧ Rd w' b g x.2 ∧ Only (fun k => k = b) w w'
set_option maxRecDepth 100000 in
set_option maxHeartbeats 1600000 in
theorem vread_c (h : Rd w b g r) : Calls Tryz.prog 24 #[.pointer (some ⟨b, 0, none⟩)] w (ValRead w b g r.val) := by
  have hlt := h.lt
  have hlen := h.len
  have hat := h.at0
  have HR := hid h
  have HV : Hid (r.val = (if ((rdV 9 r 0).r.over r.at').err ≠ 0 then .nil else (rdV 9 r 0).t, (rdV 9 r 0).r.over r.at')) := hid rfl
  have HAT := hid (rat_c ((h.same (only_new w (.cells vzero 24))).same (only_new _ (.cells #[.int .i64 0, .int .i64 0] 51))))
  have HRD := hid (readC 8 ((w.alloc (.cells vzero 24)).alloc (.cells #[.int .i64 0, .int .i64 0] 51)) b g (w.heap.size + 1) r 0 0 ((h.same (only_new w _)).same (only_new _ _)) (by have := blk_new (w.alloc (.cells vzero 24)) (.cells #[.int .i64 0, .int .i64 0] 51); rw [World.size_alloc] at this; exact this) (by omega) (by omega) (by omega) (by decide))
  have HZ := hid (blk_alloc (o' := .cells #[.int .i64 0, .int .i64 0] 51) (blk_new w (.cells vzero 24)))
  have HO := hid (((only_new w (.cells vzero 24))).trans (only_new _ (.cells #[.int .i64 0, .int .i64 0] 51)) (fun _ _ e => e))
  obtain ⟨x, hx⟩ : ∃ x, rdV 9 r 0 = x := ⟨_, rfl⟩
  rw [hx] at HV HRD
  clear hx h
  go_enter Tryz.func24, Tryz.ntmps24
  go_wp2_with fail
  refine HAT.out.mono ?_
  rintro e w1 ⟨rfl, rfl⟩
  go_wp2_with fail
  refine HRD.out.mono ?_
  rintro e w2 ⟨cs, rfl, hv, hr, hc, ho⟩
  obtain ⟨k, n, s, a, m, cp, rfl⟩ := hv.form
  have hat2 := hr.at0
  have hlen2 := hr.len
  have hz2 := blk_only HZ.out ho (by show ¬ (w.heap.size = b ∨ w.heap.size = w.heap.size + 1); omega)
  have hs2 := ho.size
  simp at hs2
  have ho2 : Only (fun j => j = b) w w2 := ((HO.out.mono (G := fun j => j = b ∨ j = w.heap.size + 1) (fun _ _ e => e.elim)).trans ho (fun _ _ e => e)).mono (fun j hj e => by have e' : j = b ∨ j = w.heap.size + 1 := e; omega)
  have hb2 : w2.heap.size = w2.heap.size := rfl
  obtain ⟨rd, hrd⟩ : ∃ y, x.r = y := ⟨_, rfl⟩
  rw [hrd] at hr hat2 hlen2 HV
  have HR2 := hid (hr.same (only_new w2 (.cells #[.int .i64 k, .int .i64 n, .string (strOf s), .slice a m cp] 24)))
  have HBX := hid (blk_new w2 (.cells #[.int .i64 k, .int .i64 n, .string (strOf s), .slice a m cp] 24))
  have HER := hid (rerr_c HR2.out)
  have HAT2 := hid (rat_c HR2.out)
  have HV2 := hid hv; have HZ2 := hid hz2; have HO2 := hid ho2
  clear hb2 hv hr hc ho hz2 ho2 hrd HRD HAT
  go_wp2_with fail
  refine HER.out.mono ?_
  rintro e w3 ⟨rfl, rfl⟩
  by_cases he : rd.err = 0
  · have hb : (rd.err == 0) = true := by simp [he]
    have hb2 : (rd.err != 0) = false := by simp [he]
    by_cases h5 : 512 < (rd.at' : Int) - (r.at' : Int)
    · have HF : Hid (r.val = (.nil, rd.fail 2)) := hid (by
        have h1 : rd.over r.at' = rd.fail 2 := by unfold RdM.over; rw [if_pos ⟨he, by omega⟩]
        rw [HV.out, h1, if_pos (fail_ne (by decide))])
      have HFL := hid (rfail_c HR2.out 2)
      have HEN : Hid ((rd.fail 2).err = 2) := hid (by rw [fail_err, if_pos he])
      clear he
      go_wp2_with fail
      refine HAT2.out.mono ?_
      rintro e w4 ⟨rfl, rfl⟩
      go_wp2_with fail
      refine HFL.out.mono ?_
      rintro e w5 ⟨rfl, hr5, ho5⟩
      have HE2 := hid (rerr_c hr5)
      have HR5 := hid hr5
      have hz5 := blk_only (blk_alloc (o' := .cells #[.int .i64 k, .int .i64 n, .string (strOf s), .slice a m cp] 24) HZ2.out) ho5 (by show ¬ w.heap.size = b; omega)
      have HZ5 := hid hz5; have HO5 := hid ho5
      rw [HEN.out] at HE2
      clear hr5 ho5 hz5
      go_wp2_with fail
      refine HE2.out.mono ?_
      rintro e w6 ⟨rfl, rfl⟩
      go_wp2_with (refine wpList_store_all rfl 24 (.tmp 2) (.tmp 25) rfl w.heap.size #[.int .i64 0, .int .i64 0, .string (strOf []), .slice none 0 0] rfl rfl vzero 24 HZ5.out rfl info_val (val_one _ _ _ _ _ _) ?_; intro w9 hb9 ho9 hs9; have HB9 := hid hb9; have HO9 := hid ho9; have HS9 := hid hs9; clear hb9 ho9 hs9)
      refine bodyPost_ret (results_cell_row rfl _ _ w.heap.size 24 #[.int .i64 0, .int .i64 0, .string (strOf []), .slice none 0 0] (0, 0) _ rfl HB9.out Tryz.underlying24 rfl info_val) rfl ?_
      rw [HF.out]
      exact ⟨_, rfl, novls _ _ 0 0 [], HR5.out.only HO9.out (by show ¬ b = w.heap.size; omega) (by show ¬ g = w.heap.size; omega), vread_o HO2.out ((((only_new w2 _).mono (fun _ _ e => e.elim)).trans HO5.out (fun _ _ e => .inl e)).trans HO9.out (fun _ _ e => .inr e))⟩
    · have HF : Hid (r.val = (x.t, rd)) := hid (by
        have h1 : rd.over r.at' = rd := by unfold RdM.over; rw [if_neg (fun e => by omega)]
        rw [HV.out, h1, if_neg (by simp [he])])
      clear he
      go_wp2_with fail
      refine HAT2.out.mono ?_
      rintro e w4 ⟨rfl, rfl⟩
      have HZ5 := hid (blk_alloc (o' := .cells #[.int .i64 k, .int .i64 n, .string (strOf s), .slice a m cp] 24) HZ2.out)
      go_wp2_with fail
      refine HER.out.mono ?_
      rintro e w5 ⟨rfl, rfl⟩
      go_wp2_with (refine wpList_store_all rfl 24 (.tmp 2) (.tmp 26) rfl w.heap.size #[.int .i64 k, .int .i64 n, .string (strOf s), .slice a m cp] rfl rfl vzero 24 HZ5.out rfl info_val (val_one _ _ _ _ _ _) ?_; intro w9 hb9 ho9 hs9; have HB9 := hid hb9; have HO9 := hid ho9; have HS9 := hid hs9; clear hb9 ho9 hs9)
      refine bodyPost_ret (results_cell_row rfl _ _ w.heap.size 24 #[.int .i64 k, .int .i64 n, .string (strOf s), .slice a m cp] (0, 0) _ rfl HB9.out Tryz.underlying24 rfl info_val) rfl ?_
      rw [HF.out]
      exact ⟨_, rfl, vread_mv HV2.out HO9.out (by simp; omega) HO2.out hlt.1, HR2.out.only HO9.out (by show ¬ b = w.heap.size; omega) (by show ¬ g = w.heap.size; omega), vread_o HO2.out (vread_o1 HO9.out)⟩
  · have hb : (rd.err == 0) = false := by simpa using he
    have hb2 : (rd.err != 0) = true := by simpa using he
    have HF : Hid (r.val = (.nil, rd)) := hid (by rw [HV.out, over_err he, if_pos he])
    have HZ5 := hid (blk_alloc (o' := .cells #[.int .i64 k, .int .i64 n, .string (strOf s), .slice a m cp] 24) HZ2.out)
    clear he
    go_wp2_with fail
    refine HER.out.mono ?_
    rintro e w5 ⟨rfl, rfl⟩
    go_wp2_with (refine wpList_store_all rfl 24 (.tmp 2) (.tmp 25) rfl w.heap.size #[.int .i64 0, .int .i64 0, .string (strOf []), .slice none 0 0] rfl rfl vzero 24 HZ5.out rfl info_val (val_one _ _ _ _ _ _) ?_; intro w9 hb9 ho9 hs9; have HB9 := hid hb9; have HO9 := hid ho9; have HS9 := hid hs9; clear hb9 ho9 hs9)
    refine bodyPost_ret (results_cell_row rfl _ _ w.heap.size 24 #[.int .i64 0, .int .i64 0, .string (strOf []), .slice none 0 0] (0, 0) _ rfl HB9.out Tryz.underlying24 rfl info_val) rfl ?_
    rw [HF.out]
    exact ⟨_, rfl, novls _ _ 0 0 [], HR2.out.only HO9.out (by show ¬ b = w.heap.size; omega) (by show ¬ g = w.heap.size; omega), vread_o HO2.out (vread_o1 HO9.out)⟩
end
end Go.Proofs.YtokefeemhgcmhaaGreatDoor
