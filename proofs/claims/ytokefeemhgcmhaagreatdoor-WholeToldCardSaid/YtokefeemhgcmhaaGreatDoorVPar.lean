/- value's reading of texts: eat, digit, quoted, number. -/
import Derived.Test.YtokefeemhgcmhaaGreatDoorParL
import Derived.Test.YtokefeemhgcmhaaGreatDoorShelfP
import Derived.Test.YtokefeemhgcmhaaGreatDoorItoa
import Derived.Test.YtokefeemhgcmhaaGreatDoorVMisc
import Derived.Deep.Cut
namespace Go.Proofs.YtokefeemhgcmhaaGreatDoor
open Go.RowKit

/-- A text that is read, from a place on. -/
def TAt (w : World) (b : Nat) (s : List UInt8) (at' : Nat) (dp : Bool) : Prop := w.heap[b]? = some (.cells #[.string (strOf s), .int .i64 at', .bool dp] 47 (0, 0)) ∧ at' ≤ s.length ∧ s.length ≤ 1000000000
section
variable {w w' : World} {b : Nat} {s : List UInt8} {a : Nat} {dp : Bool} {F : Nat → Prop}
theorem TAt.only (h : TAt w b s a dp) (ho : Only F w w') (hF : ¬ F b) : TAt w' b s a dp := ⟨blk_only h.1 ho hF, h.2⟩
theorem TAt.same (h : TAt w b s a dp) (ho : Only (fun _ => False) w w') : TAt w' b s a dp := h.only ho (fun e => e)
theorem TAt.set {nq : Nat} (h : TAt w b s a dp) (m : Nat) (hm : m ≤ s.length) : TAt ((w.drewN nq).setCell ⟨b, 1, none⟩ (.int .i64 m)) b s m dp := by
  refine ⟨?_, hm, h.2.2⟩
  have h' : (w.drewN nq).heap[b]? = _ := h.1
  have := blk_set h' 1 (.int .i64 m)
  simpa using this
theorem TAt.set0 (h : TAt w b s a dp) (m : Nat) (hm : m ≤ s.length) : TAt (w.setCell ⟨b, 1, none⟩ (.int .i64 m)) b s m dp := by
  refine ⟨?_, hm, h.2.2⟩
  have := blk_set h.1 1 (.int .i64 m)
  simpa using this
theorem only_dset (w : World) (nq b o : Nat) (v : Value) : Only (fun k => k = b) w ((w.drewN nq).setCell ⟨b, o, none⟩ v) := ((only_drewN w nq).mono (fun _ _ e => e.elim)).trans (only_set _ _ _) (fun _ _ e => e)
theorem TAt.cells (h : TAt w b s a dp) : w.cell? ⟨b, 0, none⟩ = some (.string (strOf s)) ∧ w.cell? ⟨b, 1, none⟩ = some (.int .i64 a) ∧ w.cell? ⟨b, 2, none⟩ = some (.bool dp) ∧ (∀ i, w.frozen? ⟨b, i, none⟩ = false) ∧ b < w.heap.size :=
  ⟨cell_blk h.1 0, cell_blk h.1 1, cell_blk h.1 2, frozen_blk h.1, blk_lt h.1⟩
set_option maxRecDepth 100000 in
set_option maxHeartbeats 800000 in
theorem eat_yes (h : TAt w b s a dp) (c : UInt8) (hc : s[a]? = some c) : Calls Tryz.prog 37 #[.pointer (some ⟨b, 0, none⟩), .int .u8 c.toNat] w fun e w' => e = .returned (.bool true) ∧ TAt w' b s (a + 1) dp ∧ Only (fun k => k = b) w w' := by
  have hal : a < s.length := by
    rcases Nat.lt_or_ge a s.length with g | g
    · exact g
    · rw [List.getElem?_eq_none g] at hc; cases hc
  obtain ⟨c0, c1, c2, cz, hlb⟩ := h.cells
  have hal2 : a < (strOf s).size := hal
  have hl := h.2.2
  have hai : (a : Int) < (strOf s).size := by have : (strOf s).size = s.length := rfl; omega
  have hab : (a : Int) < 1000000000 := by omega
  have hcv : ((((strOf s)[a]'hal2).toNat : Nat) : Int) = c.toNat := by rw [strOf_at hc]
  have H := hid h
  clear h hc
  go_enter Tryz.func37, Tryz.ntmps37
  go_wp2_with fail
  go_quiet (fail)
  go_wp2_with fail
  go_ret
  exact ⟨rfl, H.out.set (a + 1) hal, only_dset _ _ _ _ _⟩
set_option maxRecDepth 100000 in
set_option maxHeartbeats 800000 in
theorem eat_no (h : TAt w b s a dp) (c : UInt8) (hc : s[a]? ≠ some c) : Calls Tryz.prog 37 #[.pointer (some ⟨b, 0, none⟩), .int .u8 c.toNat] w fun e w' => e = .returned (.bool false) ∧ TAt w' b s a dp ∧ Only (fun _ => False) w w' := by
  obtain ⟨c0, c1, c2, cz, hlb⟩ := h.cells
  have hl := h.2.2
  have hab : (a : Int) ≤ 1000000000 := by have := h.2.1; omega
  have H := hid h
  have hss : (strOf s).size = s.length := rfl
  by_cases hal : a < s.length
  · have hal2 : a < (strOf s).size := hal
    have hai : (a : Int) < (strOf s).size := by omega
    have hcv : (((((strOf s)[a]'hal2).toNat : Nat) : Int) == (c.toNat : Int)) = false := by
      have e : s[a]? = some ((strOf s)[a]'hal2) := by
        rw [List.getElem?_eq_getElem hal]; congr 1
      rw [e] at hc
      have hne : (strOf s)[a]'hal2 ≠ c := fun e => hc (by rw [e])
      have : ¬ ((((strOf s)[a]'hal2).toNat : Nat) : Int) = c.toNat := fun e => hne (UInt8.toNat_inj.1 (by omega))
      simpa using this
    clear h hc hss
    go_enter Tryz.func37, Tryz.ntmps37
    go_wp2_with fail
    go_quiet (fail)
    go_wp2_with fail
    go_ret
    exact ⟨rfl, H.out.same (only_drewN _ _), only_drewN _ _⟩
  · have hai : ¬ a < (strOf s).size := by omega
    clear h hc hal hss
    go_enter Tryz.func37, Tryz.ntmps37
    go_wp2_with fail
    go_quiet (fail)
    go_wp2_with fail
    go_ret
    exact ⟨rfl, H.out.same (only_drewN _ _), only_drewN _ _⟩
/-- A digit's number; -1: it is none. -/
def dgI (c : UInt8) : Int := match dgH c with | some n => n | none => -1
theorem dgI_is (c : UInt8) : Lib.indexByte [48, 49, 50, 51, 52, 53, 54, 55, 56, 57, 97, 98, 99, 100, 101, 102] c = dgI c := by
  have key : ∀ i : Fin 256, Lib.indexByte [48, 49, 50, 51, 52, 53, 54, 55, 56, 57, 97, 98, 99, 100, 101, 102] (UInt8.ofNat i.val) = dgI (UInt8.ofNat i.val) := by decide +kernel
  have := key ⟨c.toNat, c.toNat_lt⟩
  simpa using this
set_option maxRecDepth 100000 in
theorem digit_c (c : UInt8) : Calls Tryz.prog 59 #[.int .u8 c.toNat] w fun e w' => e = .returned (.int .i64 (dgI c)) ∧ w = w' := by
  have HI := hid (Tryz.strings_IndexByte ⟨#[48, 49, 50, 51, 52, 53, 54, 55, 56, 57, 97, 98, 99, 100, 101, 102]⟩ c.toNat w)
  have e1 : (c.toNat : Int).toNat.toUInt8 = c := by simp
  rw [e1] at HI
  rw [show (⟨#[48, 49, 50, 51, 52, 53, 54, 55, 56, 57, 97, 98, 99, 100, 101, 102]⟩ : ByteArray).data.toList = [48, 49, 50, 51, 52, 53, 54, 55, 56, 57, 97, 98, 99, 100, 101, 102] from rfl, dgI_is] at HI
  clear e1
  go_enter Tryz.func59, Tryz.ntmps59
  go_wp2_with fail
  refine HI.out.mono ?_
  rintro e w1 ⟨rfl, rfl⟩
  go_wp2_with fail
  go_ret
  exact ⟨rfl, rfl⟩
end
end Go.Proofs.YtokefeemhgcmhaaGreatDoor
