/- The law's own list of operations: fits. -/
import Derived.Test.YtepndjojodbhdaaDiskL
namespace Go.Proofs.Ytepndjojodbhdaa
open Go.RowKit

structure OpM where
  kind : Int
  n : Int
  at' : Int
  x : Int
  raw : Bool
  dv : Value
  data : List UInt8
  kv : Value
  keep : List Int
def OpM.cells (o : OpM) : List Value := [.int .i64 o.kind, .int .i64 o.n, .int .i64 o.at', .int .u8 o.x, .bool o.raw, o.dv, o.kv]

/-- A slice value that reads as these operations; all that it holds lies below B. -/
structure OpAt (w : World) (B : Nat) (o : OpM) : Prop where
  data : Src w o.dv o.data
  keep : SrcV w o.kv (intsV o.keep)
  dlt : ∀ g of c, o.dv = .slice (some ⟨g, of, none⟩) o.data.length c → o.data ≠ [] → g < B
  klt : ∀ g of c, o.kv = .slice (some ⟨g, of, none⟩) o.keep.length c → o.keep ≠ [] → g < B
  dlen : o.data.length ≤ 9223372036854775807
  klen : o.keep.length ≤ 9223372036854775807
  n0 : -9223372036854775808 ≤ o.n ∧ o.n ≤ 9223372036854775807
  x0 : 0 ≤ o.x ∧ o.x ≤ 255

def OpsAt (w : World) (B : Nat) (v : Value) (l : List OpM) : Prop :=
  ∃ a c, v = .slice a l.length c ∧ l.length ≤ 9223372036854775807 ∧ ∀ i o, l[i]? = some o → OpAt w B o ∧ ∃ g of, a = some ⟨g, of, none⟩ ∧ g < B ∧ ∀ j u, o.cells[j]? = some u → w.cell? ⟨g, of + i * 7 + j, none⟩ = some u

def OpM.ok (o : OpM) : Bool := !(decide (300 < o.data.length) || decide (20 < o.keep.length) || (!o.raw && decide (128 < o.data.length)))
def fitsB (l : List OpM) : Bool := decide (l.length ≤ 30) && l.all OpM.ok

theorem OpAt.only {w w' : World} {B : Nat} {o : OpM} {G : Nat → Prop} (h : OpAt w B o) (ho : Only G w w') (hG : ∀ k, k < B → ¬ G k) : OpAt w' B o :=
  ⟨h.data.only ho (fun hne g of c e => hG g (h.dlt g of c e hne)), h.keep.only ho (fun hne g of c e _ => hG g (h.klt g of c (by simpa using e) (by rintro e'; apply hne; rw [e']; rfl))), h.dlt, h.klt, h.dlen, h.klen, h.n0, h.x0⟩
theorem OpsAt.only {w w' : World} {B : Nat} {v : Value} {l : List OpM} {G : Nat → Prop} (h : OpsAt w B v l) (ho : Only G w w') (hB : B ≤ w.heap.size) (hG : ∀ k, k < B → ¬ G k) : OpsAt w' B v l := by
  obtain ⟨a, c, rfl, hll, hl⟩ := h
  refine ⟨a, c, rfl, hll, fun i o hi => ?_⟩
  obtain ⟨hat, g, of, rfl, hg, hc⟩ := hl i o hi
  refine ⟨hat.only ho hG, g, of, rfl, hg, fun j u hj => ?_⟩
  rw [← hc j u hj]
  exact World.cell?_of_block (ho.block g (by omega) (hG g hg))

theorem ok_of {o : OpM} (h1 : (o.data.length : Int) ≤ 300) (h2 : (o.keep.length : Int) ≤ 20) (h3 : o.raw = true ∨ (o.data.length : Int) ≤ 128) : o.ok = true := by
  unfold OpM.ok
  have e1 : decide (300 < o.data.length) = false := by simp; omega
  have e2 : decide (20 < o.keep.length) = false := by simp; omega
  rw [e1, e2]
  rcases h3 with h3 | h3
  · simp [h3]
  · have e3 : decide (128 < o.data.length) = false := by simp; omega
    simp [e3]
theorem not_fits {l : List OpM} {k : Nat} {o : OpM} (h : l[k]? = some o) (h1 : 300 < (o.data.length : Int) ∨ 20 < (o.keep.length : Int) ∨ (¬ o.raw = true ∧ 128 < (o.data.length : Int))) : fitsB l = false := by
  have : o.ok = false := by
    unfold OpM.ok
    rcases h1 with h1 | h1 | ⟨h1, h2⟩
    · simp; omega
    · simp; omega
    · have : o.raw = false := by simpa using h1
      simp [this]; omega
  have hm : o ∈ l := List.mem_of_getElem? h
  have : l.all OpM.ok = false := by rw [List.all_eq_false]; exact ⟨o, hm, by simp [this]⟩
  simp [fitsB, this]
theorem fits_of {l : List OpM} (h : ¬ 30 < l.length) (h1 : ∀ (j : Nat) (o : OpM), j < l.length → l[j]? = some o → o.ok = true) : fitsB l = true := by
  have : l.all OpM.ok = true := by
    rw [List.all_eq_true]
    intro o ho
    obtain ⟨j, hj, rfl⟩ := List.mem_iff_getElem.1 ho
    exact h1 j _ hj (List.getElem?_eq_getElem hj)
  simp [fitsB, this]; omega

theorem step_ok {l : List OpM} {k : Nat} {o : OpM} (hk : k < l.length) (h : ∀ (j : Nat) (o : OpM), j < k → l[j]? = some o → o.ok = true) (ho : o = l[k]) (hok : o.ok = true) : ∀ (j : Nat) (o : OpM), j < k + 1 → l[j]? = some o → o.ok = true := by
  intro j o' hj e
  by_cases hjk : j = k
  · subst hjk
    rw [List.getElem?_eq_getElem hk, ← ho] at e
    cases e; exact hok
  · exact h j o' (by omega) e

theorem Src.len {w : World} {v : Value} {l : List UInt8} (h : Src w v l) : ∃ a c, v = .slice a l.length c := let ⟨a, c, e, _⟩ := h; ⟨a, c, e⟩
theorem SrcV.len {w : World} {v : Value} {l : List Value} (h : SrcV w v l) : ∃ a c, v = .slice a l.length c := let ⟨a, c, e, _⟩ := h; ⟨a, c, e⟩

set_option maxRecDepth 100000 in
set_option maxHeartbeats 800000 in
theorem fits_c (w : World) (B : Nat) (hB : B ≤ w.heap.size) (v : Value) (l : List OpM) (h : OpsAt w B v l) :
    Calls Try.prog 24 #[v] w fun e w' => e = .returned (.bool (fitsB l)) ∧ Only (fun _ => False) w w' := by
  obtain ⟨a, c, rfl, hll, hl⟩ := h
  have HL := hid hl
  clear hl
  by_cases h30 : 30 < l.length
  · have e : fitsB l = false := by simp [fitsB]; omega
    have E := hid e
    clear e
    go_enter Try.func24, Try.ntmps24
    go_wp2
    go_ret
    rw [E.out]
    exact ⟨rfl, Only.refl _ _⟩
  · go_enter Try.func24, Try.ntmps24
    go_wp2
    try go_frame
    go_loopw [10, 4] (fun i _ wr => ∃ k : Nat, i = .int .i64 k ∧ k ≤ l.length ∧ (∀ j o, j < k → l[j]? = some o → o.ok = true) ∧ Only (fun _ => False) w wr) (fun i _ _ => l.length - (intOf i).toNat)
    case atStart => exact ⟨0, rfl, Nat.zero_le _, by simp, Only.refl _ _⟩
    case round =>
      obtain ⟨k, rfl, hk, hok, ho⟩ := hrel
      have Hok := hid hok; have Ho := hid ho
      clear hok ho
      by_cases hkl : k < l.length
      · obtain ⟨hat, g, of, rfl, hgB, hc⟩ := HL.out k l[k] (List.getElem?_eq_getElem hkl)
        obtain ⟨o, hoo⟩ : ∃ o, o = l[k] := ⟨_, rfl⟩
        rw [← hoo] at hat hc
        have hcw : ∀ j u, o.cells[j]? = some u → wr.cell? ⟨g, of + k * 7 + j, none⟩ = some u := by
          intro j u hj
          rw [← hc j u hj]
          exact World.cell?_of_block (Ho.out.block g (by omega) (fun e => e))
        have c0 := hcw 0 _ rfl
        rw [Nat.add_zero] at c0
        have c1 := hcw 1 _ rfl
        have c2 := hcw 2 _ rfl
        have c3 := hcw 3 _ rfl
        have c4 := hcw 4 _ rfl
        have c5 := hcw 5 _ rfl
        have c6 := hcw 6 _ rfl
        obtain ⟨da, dc, hd⟩ := hat.data.len
        obtain ⟨ka, kc, hkv⟩ := hat.keep.len
        rw [hd] at c5
        rw [hkv, length_intsV] at c6
        have Hoo := hid hoo; have Hat := hid hat
        clear hc hcw hat hoo hd hkv
        go_wp2
        · have hok := ok_of (o := o) (by assumption) (by assumption) (.inl (by assumption))
          have Hk := hid hok
          clear hok
          go_roundw
          case rel => exact ⟨k + 1, by go_num, by omega, step_ok hkl Hok.out Hoo.out Hk.out, (Ho.out.alloc _)⟩
          case measure => simp [intOf]; omega
        · go_ret
          have hb : 128 < (o.data.length : Int) := by omega
          rw [not_fits (o := o) (by rw [Hoo.out]; exact List.getElem?_eq_getElem hkl) (.inr (.inr ⟨by assumption, hb⟩))]
          exact ⟨rfl, Ho.out.alloc _⟩
        · have hok := ok_of (o := o) (by assumption) (by assumption) (.inr (by omega))
          have Hk := hid hok
          clear hok
          go_roundw
          case rel => exact ⟨k + 1, by go_num, by omega, step_ok hkl Hok.out Hoo.out Hk.out, (Ho.out.alloc _)⟩
          case measure => simp [intOf]; omega
        · go_ret
          rw [not_fits (o := o) (by rw [Hoo.out]; exact List.getElem?_eq_getElem hkl) (.inr (.inl (by assumption)))]
          exact ⟨rfl, Ho.out.alloc _⟩
        · go_ret
          rw [not_fits (o := o) (by rw [Hoo.out]; exact List.getElem?_eq_getElem hkl) (.inl (by assumption))]
          exact ⟨rfl, Ho.out.alloc _⟩
      · have : k = l.length := by omega
        subst this
        go_wp2
        go_ret
        rw [fits_of h30 Hok.out]
        exact ⟨rfl, Ho.out⟩
end Go.Proofs.Ytepndjojodbhdaa
