/- How a value lies in memory; value.Write. -/
import Derived.Test.YtihidpfkdpjdpaaGreatDoorWireR
import Derived.Test.YtihidpfkdpjdpaaGreatDoorWhole
import Derived.Deep.RegionHeld3
namespace Go.Proofs.YtihidpfkdpjdpaaGreatDoor
open Go.RowKit

mutual
/-- Four cells read as a value; the blocks that its lists lie in are of G. -/
def VAt (w : World) (G : Nat → Prop) : VT → List Value → Prop
  | .mk k n s l, cs => ∃ a cap g o, cs = [.int .i64 k, .int .i64 n, .string (strOf s), .slice a l.length cap] ∧ (l ≠ [] → a = some ⟨g, o, none⟩ ∧ G g) ∧ VLs w G l g o
def VLs (w : World) (G : Nat → Prop) : List VT → Nat → Nat → Prop
  | [], _, _ => True
  | t :: ts, g, o => (∃ cs, (∀ j u, cs[j]? = some u → w.cell? ⟨g, o + j, none⟩ = some u) ∧ VAt w G t cs) ∧ VLs w G ts g (o + 4)
end
theorem VLs.get {w : World} {G : Nat → Prop} : ∀ {l : List VT} {g o i : Nat} {t : VT}, VLs w G l g o → l[i]? = some t → ∃ cs, (∀ j u, cs[j]? = some u → w.cell? ⟨g, o + i * 4 + j, none⟩ = some u) ∧ VAt w G t cs
  | [], _, _, _, _, _, h => by simp at h
  | t' :: ts, g, o, 0, t, h, hi => by
    rw [VLs] at h
    simp only [List.getElem?_cons_zero, Option.some.injEq] at hi
    subst hi
    obtain ⟨⟨cs, h1, h2⟩, -⟩ := h
    exact ⟨cs, fun j u hj => by rw [Nat.zero_mul, Nat.add_zero]; exact h1 j u hj, h2⟩
  | t' :: ts, g, o, i + 1, t, h, hi => by
    rw [VLs] at h
    simp only [List.getElem?_cons_succ] at hi
    obtain ⟨cs, h1, h2⟩ := VLs.get h.2 hi
    exact ⟨cs, fun j u hj => by rw [show o + (i + 1) * 4 + j = o + 4 + i * 4 + j from by omega]; exact h1 j u hj, h2⟩
mutual
theorem VAt.only {w w' : World} {G F : Nat → Prop} (ho : Only F w w') (hd : ∀ k, G k → ¬ F k) : ∀ {t : VT} {cs : List Value}, VAt w G t cs → VAt w' G t cs
  | .mk k n s l, cs, h => by
    rw [VAt] at h ⊢
    obtain ⟨a, cap, g, o, h1, h2, h3⟩ := h
    refine ⟨a, cap, g, o, h1, h2, ?_⟩
    cases l with
    | nil => rw [VLs]; trivial
    | cons t ts => exact VLs.only ho hd (h2 (by simp)).2 h3
theorem VLs.only {w w' : World} {G F : Nat → Prop} (ho : Only F w w') (hd : ∀ k, G k → ¬ F k) : ∀ {l : List VT} {g o : Nat}, G g → VLs w G l g o → VLs w' G l g o
  | [], _, _, _, _ => by rw [VLs]; trivial
  | t :: ts, g, o, hg, h => by
    rw [VLs] at h ⊢
    obtain ⟨⟨cs, h1, h2⟩, h3⟩ := h
    exact ⟨⟨cs, fun j u hj => (World.cell?_of_block (ho.block g (World.block_lt_of_cell? _ _ (h1 j u hj)) (hd g hg))).trans (h1 j u hj), VAt.only ho hd h2⟩, VLs.only ho hd hg h3⟩
end
theorem VAt.same {w w' : World} {G : Nat → Prop} {t : VT} {cs : List Value} (h : VAt w G t cs) (ho : Only (fun _ => False) w w') : VAt w' G t cs := h.only ho (fun _ _ e => e)
mutual
theorem VAt.mono {w : World} {G G' : Nat → Prop} (hd : ∀ k, G k → G' k) : ∀ {t : VT} {cs : List Value}, VAt w G t cs → VAt w G' t cs
  | .mk k n s l, cs, h => by
    rw [VAt] at h ⊢
    obtain ⟨a, cap, g, o, h1, h2, h3⟩ := h
    exact ⟨a, cap, g, o, h1, fun e => ⟨(h2 e).1, hd _ (h2 e).2⟩, VLs.mono hd h3⟩
theorem VLs.mono {w : World} {G G' : Nat → Prop} (hd : ∀ k, G k → G' k) : ∀ {l : List VT} {g o : Nat}, VLs w G l g o → VLs w G' l g o
  | [], _, _, _ => by rw [VLs]; trivial
  | t :: ts, g, o, h => by
    rw [VLs] at h ⊢
    obtain ⟨⟨cs, h1, h2⟩, h3⟩ := h
    exact ⟨⟨cs, h1, VAt.mono hd h2⟩, VLs.mono hd h3⟩
end
theorem VAt.len {w : World} {G : Nat → Prop} {t : VT} {cs : List Value} (h : VAt w G t cs) : cs.length = 4 := by
  obtain ⟨k, n, s, l⟩ := t
  rw [VAt] at h
  obtain ⟨a, cap, g, o, rfl, -⟩ := h
  rfl
theorem VAt.form {w : World} {G : Nat → Prop} {t : VT} {cs : List Value} (h : VAt w G t cs) : ∃ k n s a m c, cs = [.int .i64 k, .int .i64 n, .string (strOf s), .slice a m c] := by
  obtain ⟨k, n, s, l⟩ := t
  rw [VAt] at h
  obtain ⟨a, cap, g, o, rfl, -⟩ := h
  exact ⟨_, _, _, _, _, _, rfl⟩
theorem VAt.one {w : World} {G : Nat → Prop} {t : VT} {cs : List Value} (h : VAt w G t cs) : ∀ u ∈ cs, u.oneCell' = true := by
  obtain ⟨k, n, s, l⟩ := t
  rw [VAt] at h
  obtain ⟨a, cap, g, o, rfl, -⟩ := h
  intro u hu
  simp only [List.mem_cons, List.not_mem_nil, or_false] at hu
  rcases hu with rfl | rfl | rfl | rfl <;> rfl
theorem VAt.nil (w : World) (G : Nat → Prop) : VAt w G .nil [.int .i64 0, .int .i64 0, .string (strOf []), .slice none 0 0] := by
  rw [VT.nil, VAt]; exact ⟨none, 0, 0, 0, rfl, by simp, by rw [VLs]; trivial⟩

mutual
/-- How large a value is: for proofs along its lists. -/
def VT.sz : VT → Nat
  | .mk _ _ _ l => 1 + VT.szL l
def VT.szL : List VT → Nat
  | [] => 0
  | t :: ts => t.sz + VT.szL ts
end
theorem szL_get : ∀ {l : List VT} {i : Nat} {t : VT}, l[i]? = some t → t.sz ≤ VT.szL l
  | [], _, _, h => by simp at h
  | t' :: ts, 0, t, h => by
    simp only [List.getElem?_cons_zero, Option.some.injEq] at h
    subst h; rw [VT.szL]; omega
  | t' :: ts, i + 1, t, h => by
    simp only [List.getElem?_cons_succ] at h
    have := szL_get h
    rw [VT.szL]; omega
theorem sz_pos (t : VT) : 0 < t.sz := by cases t; rw [VT.sz]; omega
theorem rgL_get : ∀ {l : List VT} {i : Nat} {t : VT}, VT.rgL l → l[i]? = some t → t.rg
  | [], _, _, _, h => by simp at h
  | t' :: ts, 0, t, hg, h => by
    simp only [List.getElem?_cons_zero, Option.some.injEq] at h
    subst h; rw [VT.rgL] at hg; exact hg.1
  | t' :: ts, i + 1, t, hg, h => by
    simp only [List.getElem?_cons_succ] at h
    rw [VT.rgL] at hg; exact rgL_get hg.2 h
theorem wrL_app : ∀ a b : List VT, VT.wrL (a ++ b) = VT.wrL a ++ VT.wrL b
  | [], b => by rw [VT.wrL]; rfl
  | t :: ts, b => by rw [List.cons_append, VT.wrL, VT.wrL, wrL_app ts b, List.append_assoc]
theorem wrL_take {l : List VT} {i : Nat} {t : VT} (h : l[i]? = some t) : VT.wrL (l.take (i + 1)) = VT.wrL (l.take i) ++ t.wr := by
  rw [List.take_add_one, h, wrL_app]
  show _ ++ VT.wrL [t] = _
  rw [VT.wrL, VT.wrL, List.append_nil]
theorem wrL_take_le : ∀ (l : List VT) (i : Nat), (VT.wrL (l.take i)).length ≤ (VT.wrL l).length
  | l, i => by
    conv => rhs; rw [← List.take_append_drop i l]
    rw [wrL_app, List.length_append]; omega

section
variable {w : World} {b : Nat} {F G : Nat → Prop} {bs : List UInt8}
/-- What Write leaves. -/
def WWrote (w : World) (b : Nat) (F : Nat → Prop) (bs : List UInt8) (e : Ending) (w' : World) : Prop := e = .returned (.tuple #[]) ∧ WStep w w' b F bs
/-- value.Write of all values so small. -/
def WriteC (n : Nat) : Prop := ∀ (t : VT), t.sz ≤ n → ∀ (w : World) (b : Nat) (F G : Nat → Prop) (bs : List UInt8) (cs : List Value), Wr w b F bs → VAt w G t cs → (∀ k, G k → ¬ F k) → (∀ k, G k → k < w.heap.size) → t.rg → bs.length + t.wr.length ≤ 990000000 →
    Calls Tryz.prog 59 #[.pointer (some ⟨b, 0, none⟩), .agg cs.toArray] w (WWrote w b F (bs ++ t.wr))
set_option maxRecDepth 100000 in
set_option maxHeartbeats 3200000 in
theorem write_step (m : Nat) (ih : WriteC m) : WriteC (m + 1) := by
  intro t hsz w b F G bs cs hW hV hd hGl hg hl
  obtain ⟨k, n, s, l⟩ := t
  rw [VAt] at hV
  obtain ⟨a, cap, g, o, rfl, ha, hLs⟩ := hV
  rw [VT.rg] at hg
  obtain ⟨hk1, hk2, hn1, hn2, hs, hll, hgl⟩ := hg
  rw [VT.wr] at hl ⊢
  rw [List.length_cons] at hl
  rw [VT.sz] at hsz
  have hFb : ¬ F w.heap.size := fun e => by have := hW.lt e; omega
  obtain ⟨y, hy⟩ : ∃ y, (k % 256).toNat = y := ⟨_, rfl⟩
  have hyk : k % 256 = (y : Int) := by omega
  have hwk : IntKind.u8.wrap k = (y : Int) := by rw [IntKind.wrap_u8]; omega
  rw [hy]
  have hyl : y < 256 := by omega
  obtain ⟨rst, hrst⟩ : ∃ x, (if k = 1 then numB (zigN n) else if k = 2 then textB s else if k = 3 then numB l.length ++ VT.wrL l else []) = x := ⟨_, rfl⟩
  rw [hrst] at hl ⊢
  have HW := hid hW; have HA := hid ha; have HL := hid hLs; have HD := hid hd; have HG := hid hgl; have HGl := hid hGl
  clear hGl
  have Hrst := hid hrst
  have hbox : (w.alloc (.cells #[.int .i64 k, .int .i64 n, .string (strOf s), .slice a l.length cap] 24)).heap[w.heap.size]? = some (.cells #[.int .i64 k, .int .i64 n, .string (strOf s), .slice a l.length cap] 24 (0, 0)) := blk_new w _
  have HB := hid hbox
  obtain ⟨q, hq⟩ : ∃ q, bs ++ [UInt8.ofNat y] = q := ⟨_, rfl⟩
  have hbl : q.length = bs.length + 1 := by rw [← hq]; simp
  have hgoal : bs ++ UInt8.ofNat y :: rst = q ++ rst := by rw [← hq]; simp
  rw [hgoal]
  have HY : Hid (Calls Tryz.prog 57 #[.pointer (some ⟨b, 0, none⟩), .slice (some ⟨w.heap.size + 1, 0, none⟩) 1 1] ((w.alloc (.cells #[.int .i64 k, .int .i64 n, .string (strOf s), .slice a l.length cap] 24)).alloc (.cells #[.int .u8 y] 5)) fun e w' => e = .returned (.tuple #[]) ∧ ∃ F1, Wr w' b F1 q ∧ Only F w w' ∧ (∀ j, F1 j → F j ∨ w.heap.size + 1 ≤ j) ∧ w'.heap[w.heap.size]? = some (.cells #[.int .i64 k, .int .i64 n, .string (strOf s), .slice a l.length cap] 24 (0, 0))) := hid (by
    have hoo : Only (fun _ => False) w ((w.alloc (.cells #[.int .i64 k, .int .i64 n, .string (strOf s), .slice a l.length cap] 24)).alloc (.cells #[.int .u8 y] 5)) := (only_new w _).trans (only_new _ _) (fun _ _ e => e)
    have hs1 : Src ((w.alloc (.cells #[.int .i64 k, .int .i64 n, .string (strOf s), .slice a l.length cap] 24)).alloc (.cells #[.int .u8 y] 5)) (.slice (some ⟨w.heap.size + 1, 0, none⟩) 1 1) [UInt8.ofNat y] := by
      have hn := blk_new (w.alloc (.cells #[.int .i64 k, .int .i64 n, .string (strOf s), .slice a l.length cap] 24)) (.cells #[.int .u8 y] 5)
      rw [World.size_alloc] at hn
      refine ⟨_, 1, rfl, fun _ => ⟨_, 0, rfl, fun i u hu => ?_⟩⟩
      rw [Nat.zero_add, cell_blk hn]
      have e : (UInt8.ofNat y).toNat = y := by simp; omega
      simpa [bytesV, e] using hu
    refine (wbyte_c (HW.out.same hoo) _ _ hs1 (by simp; omega)).mono fun e w' hh => ⟨hh.1, ?_⟩
    obtain ⟨F', h1, h2, h3⟩ := hh.2
    rw [hq] at h1
    refine ⟨F', h1, (hoo.mono (G := F) (fun _ _ e => e.elim)).trans h2 (fun _ _ e => e), fun j hj => (h3 j hj).imp id (fun e => by simp at e; omega), blk_only (blk_alloc HB.out) h2 hFb⟩)
  clear hW ha hLs hd hgl hrst hbox hy hyk hq hgoal
  go_enter Tryz.func59, Tryz.ntmps59
  go_wp2_with fail
  refine HY.out.mono ?_
  rintro e w1 ⟨rfl, F1, hW1, ho1, hF1, hb1⟩
  have c0 : w1.cell? ⟨w.heap.size, 0, none⟩ = some (.int .i64 k) := cell_blk hb1 0
  have c1 : w1.cell? ⟨w.heap.size, 1, none⟩ = some (.int .i64 n) := cell_blk hb1 1
  have c2 : w1.cell? ⟨w.heap.size, 2, none⟩ = some (.string (strOf s)) := cell_blk hb1 2
  have c3 : w1.cell? ⟨w.heap.size, 3, none⟩ = some (.slice a l.length cap) := cell_blk hb1 3
  have hF1b : ¬ F1 w.heap.size := fun e => by
    rcases hF1 _ e with e | e
    · exact hFb e
    · omega
  have HS1 := hid ho1; have HF1 : Hid (∀ j, F1 j → F j ∨ w.heap.size ≤ j) := hid (fun j hj => (hF1 j hj).imp id (by omega)); have HB1 := hid hb1; have HW1 := hid hW1
  clear hb1 ho1 hF1 hW1
  by_cases hk1' : k = 1
  · subst hk1'
    have e : numB (zigN n) = rst := by have := Hrst.out; rw [if_pos rfl] at this; exact this
    have E := hid e
    clear e
    have HI := hid (wint_c (w := w1.alloc (.cells #[.int .i64 n] 2)) (HW1.out.same (only_new w1 _)) w1.heap.size n (cell_blk (blk_new w1 _) 0) (fun e => by have := HW1.out.lt e; omega) hn1 hn2 (by omega))
    go_wp2_with fail
    refine HI.out.mono ?_
    rintro e w2 ⟨rfl, hst2⟩
    have HST2 := hid hst2
    clear hst2
    go_wp2_with fail
    go_end0
    refine ⟨rfl, ?_⟩
    have := (HST2.out.pre (only_new w1 _) (fun k hk => HW1.out.lt hk)).comp HS1.out HF1.out
    rw [E.out] at this; exact this
  have b1 : (k == 1) = false := by simpa using hk1'
  by_cases hk2' : k = 2
  · subst hk2'
    have e : textB s = rst := by have := Hrst.out; rw [if_neg (by decide), if_pos rfl] at this; exact this
    have hsl : s.length ≤ rst.length := by rw [← e]; unfold textB; rw [List.length_append]; omega
    have E := hid e
    clear e
    have HT := hid (wtext_c HW1.out s (by omega))
    go_wp2_with fail
    refine HT.out.mono ?_
    rintro e w2 ⟨rfl, hst2⟩
    have HST2 := hid hst2
    clear hst2
    go_wp2_with fail
    go_end0
    refine ⟨rfl, ?_⟩
    have := HST2.out.comp HS1.out HF1.out
    rw [E.out] at this; exact this
  have b2 : (k == 2) = false := by simpa using hk2'
  by_cases hk3' : k = 3
  · subst hk3'
    have e : numB l.length ++ VT.wrL l = rst := by have := Hrst.out; rw [if_neg (by decide), if_neg (by decide), if_pos rfl] at this; exact this
    have hwl : (VT.wrL l).length + (numB l.length).length = rst.length := by rw [← e, List.length_append]; omega
    have E := hid e
    clear e
    have HN := hid (wnum1_c (w := w1.alloc (.cells #[.int .u64 l.length] 62)) HW1.out l.length (by omega) (by omega) rfl)
    go_wp2_with fail
    refine HN.out.mono ?_
    rintro e w2 ⟨rfl, hst2⟩
    obtain ⟨F2, hW2, ho2, hF2⟩ := hst2
    have hb2 := blk_only HB1.out ho2 hF1b
    have d3 : w2.cell? ⟨w.heap.size, 3, none⟩ = some (.slice a l.length cap) := cell_blk hb2 3
    have HST2 : Hid (WStep w w2 b F (q ++ numB l.length)) := hid (WStep.comp HS1.out HF1.out ⟨F2, hW2, ho2, hF2⟩)
    have HB2 := hid hb2
    clear hW2 ho2 hF2 hb2
    obtain ⟨q2, hq2⟩ : ∃ q2, q ++ numB l.length = q2 := ⟨_, rfl⟩
    have hq2l : q2.length = q.length + (numB l.length).length := by rw [← hq2, List.length_append]
    rw [hq2] at HST2
    have Hq2 := hid hq2
    clear hq2
    go_wp2_with fail
    go_loopw [39] (fun i wr => ∃ j : Nat, i = .int .i64 j ∧ j ≤ l.length ∧ WStep w wr b F (q2 ++ VT.wrL (l.take j))) (fun i _ => l.length - (intOf i).toNat)
    case atStart => exact ⟨0, rfl, Nat.zero_le _, by simpa [VT.wrL] using HST2.out⟩
    case round =>
      obtain ⟨j, rfl, hj, hst⟩ := hrel
      have HS := hid hst
      clear hst d3
      by_cases hjl : j < l.length
      · have hji : (j : Int) < l.length := by omega
        obtain ⟨t, ht⟩ : ∃ t, l[j]? = some t := ⟨_, List.getElem?_eq_getElem hjl⟩
        obtain ⟨rfl, hGg⟩ := HA.out (by rintro rfl; simp at hjl)
        obtain ⟨cs, hcs, hVt⟩ := HL.out.get ht
        have htg := rgL_get HG.out ht
        have htz := szL_get ht
        have hwt := wrL_take ht
        have htl := wrL_take_le l (j + 1)
        rw [hwt, List.length_append] at htl
        obtain ⟨F3, hW3, ho3, hF3⟩ := HS.out
        have hcw : ∀ i u, cs[i]? = some u → wr.cell? ⟨g, o + j * 4 + i, none⟩ = some u := fun i u hu =>
          (World.cell?_of_block (ho3.block g (World.block_lt_of_cell? _ _ (hcs i u hu)) (HD.out g hGg))).trans (hcs i u hu)
        have hVw := hVt.only ho3 HD.out
        obtain ⟨kx, nx, sx, ax, mx, cx, rfl⟩ := hVt.form
        have e0 := hcw 0 _ rfl
        rw [Nat.add_zero] at e0
        have e1 := hcw 1 _ rfl
        have e2 := hcw 2 _ rfl
        have e3 := hcw 3 _ rfl
        have HC := hid (ih t (by omega) (wr.alloc (.cells #[.int .i64 kx, .int .i64 nx, .string (strOf sx), .slice ax mx cx] 24)) b F3 G _ [.int .i64 kx, .int .i64 nx, .string (strOf sx), .slice ax mx cx] (hW3.same (only_new wr _)) (hVw.same (only_new wr _)) (fun i hi hf => by
          rcases hF3 i hf with e | e
          · exact HD.out i hi e
          · have := HGl.out i hi; omega) (fun i hi => by have := HGl.out i hi; have := ho3.size; simp; omega) htg (by rw [List.length_append]; omega))
        have HO3 := hid ho3; have HF3 := hid hF3; have HW3 := hid hW3
        have Hwt := hid hwt
        clear hcs hVt htg hwt ho3 hF3 hcw hVw ht hW3
        go_wp2_with (go_at_call 59; refine HC.out.mono ?_; rintro e w4 ⟨rfl, hst4⟩; have HST4 := hid hst4; clear hst4)
        go_roundw
        case rel =>
          refine ⟨j + 1, by go_num, by omega, ?_⟩
          rw [Hwt.out, ← List.append_assoc]
          exact (HST4.out.pre (only_new wr _) (fun i hi => HW3.out.lt hi)).comp HO3.out HF3.out
        case measure => simp [intOf]; omega
      · obtain rfl : j = l.length := by omega
        go_wp2_with fail
        go_end0
        have := HS.out
        rw [List.take_length, ← Hq2.out, List.append_assoc, E.out] at this
        exact ⟨rfl, this⟩
  · have b3 : (k == 3) = false := by simpa using hk3'
    have e : rst = [] := by have := Hrst.out; rw [if_neg hk1', if_neg hk2', if_neg hk3'] at this; exact this.symm
    subst e
    clear hk1' hk2' hk3'
    go_wp2_with fail
    go_end0
    exact ⟨rfl, by rw [List.append_nil]; exact ⟨F1, HW1.out, HS1.out, HF1.out⟩⟩
theorem writeC : ∀ m, WriteC m
  | 0 => fun t h => by have := sz_pos t; omega
  | m + 1 => write_step m (writeC m)
theorem vwrite_c {t : VT} {cs : List Value} (hW : Wr w b F bs) (hV : VAt w G t cs) (hd : ∀ k, G k → ¬ F k) (hG : ∀ k, G k → k < w.heap.size) (hg : t.rg) (hl : bs.length + t.wr.length ≤ 990000000) :
    Calls Tryz.prog 59 #[.pointer (some ⟨b, 0, none⟩), .agg cs.toArray] w fun e w' => e = .returned (.tuple #[]) ∧ WStep w w' b F (bs ++ t.wr) :=
  writeC t.sz t (Nat.le_refl _) w b F G bs cs hW hV hd hG hg hl
end
end Go.Proofs.YtihidpfkdpjdpaaGreatDoor
