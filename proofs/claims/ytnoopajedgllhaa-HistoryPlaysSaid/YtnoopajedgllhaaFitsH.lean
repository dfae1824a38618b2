/- foliotlaw18: fits, small. -/
import Derived.Test.YtnoopajedgllhaaOpenV
import Derived.Test.YtnoopajedgllhaaEvsV
import Derived.Test.YtnoopajedgllhaaEvG
namespace Go.Proofs.Ytnoopajedgllhaa
open Go.RowKit

mutual
/-- Is a value of a size with which this is tried: the answer, and what is left. -/
def VT.fit (d : Nat) (x : Int) : VT → Bool × Int
  | .mk _ _ s l => if x - 1 < 0 ∨ 12 < d ∨ 1100 < s.length then (false, x - 1) else VT.fitL (d + 1) (x - 1) l
def VT.fitL (d : Nat) (x : Int) : List VT → Bool × Int
  | [] => (true, x)
  | t :: ts => if (t.fit d x).1 = true then VT.fitL d (t.fit d x).2 ts else (false, (t.fit d x).2)
end
mutual
theorem fit_rng : ∀ (t : VT) (d : Nat) (x : Int), 0 ≤ x → (t.fit d x).2 ≤ x ∧ -1 ≤ (t.fit d x).2 ∧ ((t.fit d x).1 = true → 0 ≤ (t.fit d x).2)
  | .mk k n s l, d, x, h => by
    rw [VT.fit]
    by_cases g : x - 1 < 0 ∨ 12 < d ∨ 1100 < s.length
    · rw [if_pos g]; simp only; exact ⟨by omega, by omega, by simp⟩
    · rw [if_neg g]
      have := fitL_rng l (d + 1) (x - 1) (by omega)
      exact ⟨by omega, this.2.1, this.2.2⟩
theorem fitL_rng : ∀ (l : List VT) (d : Nat) (x : Int), 0 ≤ x → (VT.fitL d x l).2 ≤ x ∧ -1 ≤ (VT.fitL d x l).2 ∧ ((VT.fitL d x l).1 = true → 0 ≤ (VT.fitL d x l).2)
  | [], d, x, h => by rw [VT.fitL]; exact ⟨Int.le_refl _, by omega, fun _ => h⟩
  | t :: ts, d, x, h => by
    rw [VT.fitL]
    have h1 := fit_rng t d x h
    by_cases g : (t.fit d x).1 = true
    · rw [if_pos g]
      have h2 := fitL_rng ts d (t.fit d x).2 (h1.2.2 g)
      exact ⟨by omega, h2.2.1, h2.2.2⟩
    · rw [if_neg g]; exact ⟨h1.1, h1.2.1, by simp⟩
end
/-- Where the number that is left stands. -/
def Lft (w : World) (b : Nat) (x : Int) : Prop := w.heap[b]? = some (.cells #[.int .i64 x] 3 (0, 0))
def FitC (n : Nat) : Prop := ∀ (t : VT), t.sz ≤ n → ∀ (w : World) (b : Nat) (G : Nat → Prop) (cs : List Value) (d : Nat) (x : Int), VAt w G t cs → (∀ k, G k → k ≠ b) → t.rg → Lft w b x → 0 ≤ x → x ≤ 400 → d ≤ 13 →
    Calls Try.prog 48 #[.agg cs.toArray, .int .i64 d, .pointer (some ⟨b, 0, none⟩)] w fun e w' => e = .returned (.bool (t.fit d x).1) ∧ Lft w' b (t.fit d x).2 ∧ Only (fun k => k = b) w w'
section
variable {w : World}
theorem Lft.set {b : Nat} {x : Int} (h : Lft w b x) (y : Int) : Lft (w.setCell ⟨b, 0, none⟩ (.int .i64 y)) b y := by
  have := blk_set h 0 (.int .i64 y)
  unfold Lft
  simpa using this
set_option maxRecDepth 100000 in
set_option maxHeartbeats 3200000 in
theorem fit_step (m : Nat) (ih : FitC m) : FitC (m + 1) := by
  intro t hsz w b G cs d x hV hGb hg hLf hx0 hx4 hd
  obtain ⟨k, n, s, l⟩ := t
  rw [VAt] at hV
  obtain ⟨a, cap, g, o, rfl, ha, hLs⟩ := hV
  rw [VT.rg] at hg
  obtain ⟨-, -, -, -, -, hll, hgl⟩ := hg
  rw [VT.sz] at hsz
  have hbl := blk_lt hLf
  have hF : VT.fit d x (.mk k n s l) = if x - 1 < 0 ∨ 12 < d ∨ 1100 < s.length then (false, x - 1) else VT.fitL (d + 1) (x - 1) l := by rw [VT.fit]
  have HF := hid hF
  have q0 : w.cell? ⟨b, 0, none⟩ = some (.int .i64 x) := cell_blk hLf 0
  have qz := frozen_blk hLf
  have hL1 : Lft ((w.setCell ⟨b, 0, none⟩ (.int .i64 (x - 1))).alloc (.cells #[.int .i64 k, .int .i64 n, .string (strOf s), .slice a l.length cap] 42)) b (x - 1) := blk_alloc (hLf.set (x - 1))
  have hO1 : Only (fun i => i = b) w ((w.setCell ⟨b, 0, none⟩ (.int .i64 (x - 1))).alloc (.cells #[.int .i64 k, .int .i64 n, .string (strOf s), .slice a l.length cap] 42)) := (only_set _ _ _).trans (only_new _ _) (fun _ _ e => e.elim)
  have hsl : (strOf s).size = s.length := rfl
  have HA := hid ha; have HL := hid hLs; have HG := hid hgl; have HGb := hid hGb; have HL1 := hid hL1; have HO1 := hid hO1
  clear ha hLs hgl hGb hLf hL1 hO1 hF
  by_cases h1 : x - 1 < 0
  · have HFF : Hid (VT.fit d x (.mk k n s l) = (false, x - 1)) := hid (by rw [HF.out, if_pos (.inl h1)])
    have h1' : x < 1 := by omega
    go_enter Try.func48, Try.ntmps48
    go_wp2_with fail
    go_ret
    rw [HFF.out]; exact ⟨rfl, HL1.out, HO1.out⟩
  by_cases h2 : 12 < (d : Int)
  · have HFF : Hid (VT.fit d x (.mk k n s l) = (false, x - 1)) := hid (by rw [HF.out, if_pos (.inr (.inl (by omega)))])
    go_enter Try.func48, Try.ntmps48
    go_wp2_with fail
    go_ret
    rw [HFF.out]; exact ⟨rfl, HL1.out, HO1.out⟩
  by_cases h3 : 1100 < (s.length : Int)
  · have HFF : Hid (VT.fit d x (.mk k n s l) = (false, x - 1)) := hid (by rw [HF.out, if_pos (.inr (.inr (by omega)))])
    go_enter Try.func48, Try.ntmps48
    go_wp2_with fail
    go_ret
    rw [HFF.out]; exact ⟨rfl, HL1.out, HO1.out⟩
  have HFF : Hid (VT.fit d x (.mk k n s l) = VT.fitL (d + 1) (x - 1) l) := hid (by rw [HF.out, if_neg (by omega)])
  clear HF
  go_enter Try.func48, Try.ntmps48
  go_wp2_with fail
  go_loopw [31] (fun i wr => ∃ (j : Nat) (xj : Int), i = .int .i64 j ∧ j ≤ l.length ∧ Lft wr b xj ∧ 0 ≤ xj ∧ xj ≤ 400 ∧ VT.fitL (d + 1) (x - 1) l = VT.fitL (d + 1) xj (l.drop j) ∧ Only (fun q => q = b) w wr) (fun i _ => l.length - (intOf i).toNat)
  case atStart => exact ⟨0, x - 1, rfl, Nat.zero_le _, HL1.out, by omega, by omega, rfl, HO1.out⟩
  case round =>
    obtain ⟨j, xj, rfl, hj, hlf, hxj0, hxj4, hfj, ho⟩ := hrel
    have HO := hid ho; have HLF := hid hlf; have HFJ := hid hfj
    clear ho hlf hfj
    by_cases hjl : j < l.length
    · have hji : (j : Int) < l.length := by omega
      obtain ⟨t, ht⟩ : ∃ t, l[j]? = some t := ⟨_, List.getElem?_eq_getElem hjl⟩
      have hdrop : l.drop j = t :: l.drop (j + 1) := drop_get ht
      obtain ⟨rfl, hGg⟩ := HA.out (by rintro rfl; simp at hjl)
      obtain ⟨cs, hcs, hVt⟩ := HL.out.get ht
      have htz := szL_get ht
      have htg := rgL_get HG.out ht
      have hcw : ∀ i u, cs[i]? = some u → wr.cell? ⟨g, o + j * 4 + i, none⟩ = some u := fun i u hu =>
        (World.cell?_of_block (HO.out.block g (World.block_lt_of_cell? _ _ (hcs i u hu)) (HGb.out g hGg))).trans (hcs i u hu)
      have hVw := hVt.only HO.out (fun i hi e => HGb.out i hi e)
      obtain ⟨kx, nx, sx, ax, mx, cx, rfl⟩ := hVt.form
      have e0 := hcw 0 _ rfl
      rw [Nat.add_zero] at e0
      have e1 := hcw 1 _ rfl
      have e2 := hcw 2 _ rfl
      have e3 := hcw 3 _ rfl
      have hI := ih t (by omega) (wr.alloc (.cells #[.int .i64 kx, .int .i64 nx, .string (strOf sx), .slice ax mx cx] 42)) b G _ (d + 1) xj (hVw.same (only_new wr _)) HGb.out htg (blk_alloc HLF.out) hxj0 hxj4 (by omega)
      rw [show ((d + 1 : Nat) : Int) = (d : Int) + 1 from by omega] at hI
      have hrg := fit_rng t (d + 1) xj hxj0
      have HCS : Hid (VT.fitL (d + 1) (x - 1) l = if (t.fit (d + 1) xj).1 = true then VT.fitL (d + 1) (t.fit (d + 1) xj).2 (l.drop (j + 1)) else (false, (t.fit (d + 1) xj).2)) := hid (by rw [HFJ.out, hdrop, VT.fitL])
      obtain ⟨⟨r, y⟩, hx⟩ : ∃ x, t.fit (d + 1) xj = x := ⟨_, rfl⟩
      rw [hx] at hI hrg HCS
      simp only at hI hrg HCS
      have HI := hid hI; have HRG := hid hrg
      clear hcs hVt hcw hVw htg hx hI hrg ht hdrop
      cases r with
      | true =>
        go_wp2_with fail
        refine HI.out.mono ?_
        rintro e w5 ⟨rfl, hlf5, ho5⟩
        have HO5 := hid (HO.out.trans (((only_new wr _).mono (fun _ _ e => e.elim)).trans ho5 (fun _ _ e => e)) (fun _ _ e => e))
        have HLF5 := hid hlf5
        clear ho5 hlf5
        go_wp2_with fail
        go_roundw
        case rel => exact ⟨j + 1, y, by go_num, by omega, HLF5.out, HRG.out.2.2 trivial, by have := HRG.out.1; omega, by rw [HCS.out]; simp, HO5.out⟩
        case measure => simp [intOf]; omega
      | false =>
        have HF2 : Hid (VT.fitL (d + 1) (x - 1) l = (false, y)) := hid (by rw [HCS.out]; simp)
        go_wp2_with fail
        refine HI.out.mono ?_
        rintro e w5 ⟨rfl, hlf5, ho5⟩
        have HO5 := hid (HO.out.trans (((only_new wr _).mono (fun _ _ e => e.elim)).trans ho5 (fun _ _ e => e)) (fun _ _ e => e))
        have HLF5 := hid hlf5
        clear ho5 hlf5
        go_wp2_with fail
        go_ret
        rw [HFF.out, HF2.out]; exact ⟨rfl, HLF5.out, HO5.out⟩
    · have HF2 : Hid (VT.fitL (d + 1) (x - 1) l = (true, xj)) := hid (by rw [HFJ.out, List.drop_eq_nil_of_le (by omega), VT.fitL])
      have hjl2 : ¬ (j : Int) < l.length := by omega
      go_wp2_with fail
      go_ret
      rw [HFF.out, HF2.out]; exact ⟨rfl, HLF.out, HO.out⟩
theorem fitC : ∀ m, FitC m
  | 0 => fun t h => by have := sz_pos t; omega
  | m + 1 => fit_step m (fitC m)
/-- Are events of a size with which this is tried? -/
def smB : List EM → Int → Bool
  | [], _ => true
  | e :: es, x => if 200 < e.name.length ∨ 200 < e.text.length then false else if (e.v.fit 0 x).1 = true then smB es (e.v.fit 0 x).2 else false
set_option maxRecDepth 100000 in
set_option maxHeartbeats 3200000 in
theorem small_c {v : Value} {G : Nat → Prop} {es : List EM} (hE : EvsV w G v es) (hG : ∀ k, G k → k < w.heap.size) (hg : ∀ e ∈ es, e.v.rg) (hl : es.length ≤ 9223372036854775807) :
    Calls Try.prog 12 #[v] w fun x w' => x = .returned (.bool (smB es 300 && decide (es.length ≤ 40))) ∧ Only (fun _ => False) w w' := by
  obtain ⟨ad, cap, g, o, rfl, hne, hel⟩ := hE
  have HN := hid hne; have HEL := hid hel; have HG := hid hG; have Hg := hid hg
  have HL0 : Hid (Lft (w.alloc (.cells #[.int .i64 300] 3)) w.heap.size 300) := hid (blk_new w _)
  have HO0 := hid (only_new w (.cells #[.int .i64 300] 3))
  clear hne hel hG hg
  go_enter Try.func12, Try.ntmps12
  go_wp2_with fail
  go_loopw [8] (fun i wr => ∃ (j : Nat) (xj : Int), i = .int .i64 j ∧ j ≤ es.length ∧ Lft wr w.heap.size xj ∧ 0 ≤ xj ∧ xj ≤ 300 ∧ smB es 300 = smB (es.drop j) xj ∧ Only (fun _ => False) w wr) (fun i _ => es.length - (intOf i).toNat)
  case atStart => exact ⟨0, 300, rfl, Nat.zero_le _, HL0.out, by omega, by omega, rfl, HO0.out⟩
  case round =>
    obtain ⟨j, xj, rfl, hj, hlf, hxj0, hxj4, hfj, ho⟩ := hrel
    have HO := hid ho; have HLF := hid hlf; have HFJ := hid hfj
    have hszo := ho.size
    clear ho hlf hfj
    by_cases hjl : j < es.length
    · have hji : (j : Int) < es.length := by omega
      obtain ⟨e, he⟩ : ∃ t, es[j]? = some t := ⟨_, List.getElem?_eq_getElem hjl⟩
      have hdrop : es.drop j = e :: es.drop (j + 1) := drop_get he
      obtain ⟨rfl, hGg⟩ := HN.out (by rintro rfl; simp at hjl)
      obtain ⟨cs, hcs, hEe⟩ := HEL.out j e he
      have hvg := Hg.out e (List.mem_of_getElem? he)
      have hcw : ∀ i u, cs[i]? = some u → wr.cell? ⟨g, o + j * 11 + i, none⟩ = some u := fun i u hu =>
        (World.cell?_of_block (HO.out.block g (World.block_lt_of_cell? _ _ (hcs i u hu)) (fun e => e))).trans (hcs i u hu)
      have hEw := hEe.same HO.out
      obtain ⟨vk, vn, vs, va, vm, vc, rfl, hV⟩ := hEw.form
      have e0 := hcw 0 _ rfl
      rw [Nat.add_zero] at e0
      have e1 := hcw 1 _ rfl
      have e2 := hcw 2 _ rfl
      have e3 := hcw 3 _ rfl
      have e4 := hcw 4 _ rfl
      have e5 := hcw 5 _ rfl
      have e6 := hcw 6 _ rfl
      have e7 := hcw 7 _ rfl
      have e8 := hcw 8 _ rfl
      have e9 := hcw 9 _ rfl
      have e10 := hcw 10 _ rfl
      have hI := fitC e.v.sz e.v (Nat.le_refl _) (wr.alloc (.cells #[.int .i64 e.id, .int .i64 e.tm, .int .i64 e.k, .int .i64 e.a, .int .i64 e.b, .string (strOf e.name), .string (strOf e.text), .int .i64 vk, .int .i64 vn, .string (strOf vs), .slice va vm vc] 44)) w.heap.size G _ 0 xj (hV.same (only_new wr _)) (fun k hk e => by have := HG.out k hk; omega) hvg (blk_alloc HLF.out) hxj0 (by omega) (by omega)
      have hrg := fit_rng e.v 0 xj hxj0
      have HCS : Hid (smB es 300 = if 200 < e.name.length ∨ 200 < e.text.length then false else if (e.v.fit 0 xj).1 = true then smB (es.drop (j + 1)) (e.v.fit 0 xj).2 else false) := hid (by rw [HFJ.out, hdrop, smB])
      obtain ⟨⟨r, y⟩, hx⟩ : ∃ x, e.v.fit 0 xj = x := ⟨_, rfl⟩
      rw [hx] at hI hrg HCS
      simp only at hI hrg HCS
      have HI := hid hI; have HRG := hid hrg
      have hsn : (strOf e.name).size = e.name.length := rfl
      have hst : (strOf e.text).size = e.text.length := rfl
      clear hcs hEe hcw hEw hx hI hrg he hdrop hV hvg
      by_cases h1 : 200 < (e.name.length : Int)
      · have HF2 : Hid (smB es 300 = false) := hid (by rw [HCS.out, if_pos (.inl (by omega))])
        go_wp2_with fail
        go_ret
        rw [HF2.out, Bool.false_and]; exact ⟨rfl, HO.out.trans (only_new _ _) (fun _ _ e => e)⟩
      by_cases h2 : 200 < (e.text.length : Int)
      · have HF2 : Hid (smB es 300 = false) := hid (by rw [HCS.out, if_pos (.inr (by omega))])
        go_wp2_with fail
        go_ret
        rw [HF2.out, Bool.false_and]; exact ⟨rfl, HO.out.trans (only_new _ _) (fun _ _ e => e)⟩
      have HC2 : Hid (smB es 300 = if r = true then smB (es.drop (j + 1)) y else false) := hid (by rw [HCS.out, if_neg (by omega)])
      cases r with
      | true =>
        go_wp2_with fail
        refine HI.out.mono ?_
        rintro e w5 ⟨rfl, hlf5, ho5⟩
        have HO5 := hid (HO.out.trans (((only_new wr _).mono (fun _ _ e => e.elim)).trans ho5 (fun _ _ e => e)) (fun k hk e => by have e' : k = w.heap.size := e; omega))
        have HLF5 := hid hlf5
        clear ho5 hlf5
        go_wp2_with fail
        go_roundw
        case rel => exact ⟨j + 1, y, by go_num, by omega, HLF5.out, HRG.out.2.2 trivial, by have := HRG.out.1; omega, by rw [HC2.out]; simp, HO5.out⟩
        case measure => simp [intOf]; omega
      | false =>
        have HF2 : Hid (smB es 300 = false) := hid (by rw [HC2.out]; simp)
        go_wp2_with fail
        refine HI.out.mono ?_
        rintro e w5 ⟨rfl, hlf5, ho5⟩
        have HO5 := hid (HO.out.trans (((only_new wr _).mono (fun _ _ e => e.elim)).trans ho5 (fun _ _ e => e)) (fun k hk e => by have e' : k = w.heap.size := e; omega))
        clear ho5 hlf5
        go_wp2_with fail
        go_ret
        rw [HF2.out, Bool.false_and]; exact ⟨rfl, HO5.out⟩
    · have HF2 : Hid (smB es 300 = true) := hid (by rw [HFJ.out, List.drop_eq_nil_of_le (by omega), smB])
      have hjl2 : ¬ (j : Int) < es.length := by omega
      go_wp2_with fail
      go_ret
      rw [HF2.out, Bool.true_and]; exact ⟨by simp; omega, HO.out⟩
end
end Go.Proofs.Ytnoopajedgllhaa
