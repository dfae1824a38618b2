/- The disk: Spoil. -/
import Derived.Test.YthodcbhejjbhaaaDiskX
import Derived.Test.YthodcbhejjbhaaaFuse
import Derived.Laws.BitsAllLaws
namespace Go.Proofs.Ythodcbhejjbhaaa
open Go.RowKit

def spoilL (l : List UInt8) (a : Nat) (x : UInt8) : List UInt8 := l.set a (l.getD a 0 ^^^ x)
@[simp] theorem length_spoilL (l : List UInt8) (a : Nat) (x : UInt8) : (spoilL l a x).length = l.length := by simp [spoilL]
def DiskM.spoilt (D : DiskM) (n a : Nat) (x : UInt8) : DiskM := { D with sure := fun k => if k = n then spoilL (D.sure n) a x else D.sure k }
section
variable {w w' : World} {b : Nat} {D : DiskM} {gs cap ms : Nat} {sg sc : Nat → Nat} {pe : List Pend} {clock : Nat} {ρ : Nat → Role} {F : Nat → Prop}
theorem DiskRep.spoilt (h : DiskRep w b D gs cap ms sg sc pe clock ρ) {n a : Nat} {x : UInt8} (hn : n < D.n) (hrow : Row w' (sg n) 5 (sc n) (bytesV (spoilL (D.sure n) a x))) (ho : Only (fun k => k = sg n) w w') :
    DiskRep w' b (D.spoilt n a x) gs cap ms sg sc pe clock ρ := by
  have nb : ∀ k, ρ k ≠ .sec n → ¬ k = sg n := fun k hk e => hk (by rw [e]; exact h.rs n hn)
  refine ⟨blk_only h.blk ho (nb _ (by rw [h.rb]; simp)), h.arr.only ho (nb _ (by rw [h.rg]; simp)), fun i hi => ?_, h.map.only ho (nb _ (by rw [h.rm]; simp)), fun p hp => ?_, h.all, h.n0, h.fu, h.rb, h.rg, h.rm, h.rs⟩
  · by_cases e : i = n
    · subst e
      simp only [DiskM.spoilt, if_true]
      exact ⟨hrow, by rw [length_spoilL]; exact (h.sec i hi).2⟩
    · simp only [DiskM.spoilt, if_neg e]
      refine ⟨(h.sec i hi).1.only ho (nb _ (by rw [h.rs i hi]; simp; exact e)), (h.sec i hi).2⟩
  · obtain ⟨a1, r, ll, q, s⟩ := h.pen p hp
    exact ⟨a1, r.only ho (nb _ (by rw [q]; simp)), ll, q, s⟩

set_option maxRecDepth 100000 in
set_option maxHeartbeats 1600000 in
theorem spoil_ok (h : DiskAt w b D F) (n : Int) (h0 : 0 ≤ n) (h1 : n < D.n) (at' : Int) (ha0 : 0 ≤ at') (ha1 : at' < 128) (x : UInt8) :
    Calls Try.prog 21 #[.pointer (some ⟨b, 0, none⟩), .int .i64 n, .int .i64 at', .int .u8 (x.toNat : Nat)] w fun e w' => e = .returned (.int .i64 0) ∧ DiskAt w' b (D.spoilt n.toNat at'.toNat x) F ∧ Only F w w' := by
  obtain ⟨k, rfl⟩ := Int.eq_ofNat_of_zero_le h0
  obtain ⟨j, rfl⟩ := Int.eq_ofNat_of_zero_le ha0
  obtain ⟨gs, cap, ms, sg, sc, pe, clock, ρ, hr, hq1, hq2⟩ := h
  have hk : k < D.n := by omega
  have hc2 : w.cell? ⟨b, 2, none⟩ = some (.slice (some ⟨gs, 0, none⟩) D.n cap) := cell_blk hr.blk 2
  have hca : w.cell? ⟨gs, k, none⟩ = some (.slice (some ⟨sg k, 0, none⟩) 128 (sc k)) := by
    have := hr.arr.cell k (by rw [length_secs]; exact hk)
    rw [secs_get _ _ _ _ hk] at this
    exact this
  have hlen := (hr.sec k hk).2
  obtain ⟨y, hy⟩ : ∃ y, (D.sure k)[j]? = some y := ⟨_, List.getElem?_eq_getElem (by omega)⟩
  have hcy : w.cell? ⟨sg k, j, none⟩ = some (.int .u8 (y.toNat : Nat)) := by
    have := (hr.sec k hk).1.cell j (by rw [length_bytesV]; omega)
    rw [bytesV_get, hy] at this
    exact this
  have hzy := (hr.sec k hk).1.frozen j
  have hx : bits .xor .u8 (y.toNat : Nat) (x.toNat : Nat) = (((y ^^^ x).toNat : Nat) : Int) := by
    rw [u8_xor_nat _ _ y.toNat_lt x.toNat_lt]; simp
  have hrow := (hr.sec k hk).1.set j (.int .u8 (((y ^^^ x).toNat : Nat) : Int)) (by rw [length_bytesV]; omega)
  have hrow' : Row (w.setCell ⟨sg k, j, none⟩ (.int .u8 (((y ^^^ x).toNat : Nat) : Int))) (sg k) 5 (sc k) (bytesV (spoilL (D.sure k) j x)) := by
    have e : bytesV (spoilL (D.sure k) j x) = (bytesV (D.sure k)).set j (.int .u8 (((y ^^^ x).toNat : Nat) : Int)) := by
      have : (D.sure k).getD j 0 = y := by rw [List.getD_eq_getElem?_getD, hy]; rfl
      unfold spoilL
      rw [this]
      simp [bytesV, List.map_set]
    rw [e]; exact hrow
  have Hrow := hid hrow'
  have HR := hid hr; have HQ1 := hid hq1; have HQ2 := hid hq2
  have hkn : (k : Int) < D.n := by omega
  have hj : (j : Int) < 128 := by omega
  clear hr hq1 hq2 hrow hrow' hy h0 ha0 h1 ha1 hlen
  go_enter Try.func21, Try.ntmps21
  go_wp2
  go_ret
  have ho : Only (fun k' => k' = sg k) w (w.setCell ⟨sg k, j, none⟩ (.int .u8 (((y ^^^ x).toNat : Nat) : Int))) := only_set _ _ _
  refine ⟨rfl, ⟨gs, cap, ms, sg, sc, pe, clock, ρ, ?_, HQ1.out, fun i hi => by simpa using HQ2.out i hi⟩, ?_⟩
  · have := HR.out.spoilt hk Hrow.out ho
    simpa using this
  · have := ho.mono (G := F) (fun i _ e => by rw [e]; exact HQ1.out _ (by rw [HR.out.rs k hk]; simp))
    simpa using this
end
end Go.Proofs.Ythodcbhejjbhaaa
