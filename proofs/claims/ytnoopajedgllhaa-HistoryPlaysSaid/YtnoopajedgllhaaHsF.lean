/- history: Check, Verify, Write, Bytes. -/
import Derived.Test.YtnoopajedgllhaaHsE
import Derived.Test.YtnoopajedgllhaaSumQ
namespace Go.Proofs.Ytnoopajedgllhaa
open Go.RowKit
/-- What Verify answers. -/
def verR (last : List UInt8) (n : Nat) (s : List UInt8) : List EM → Int
  | [] => if s = last then 0 else 80
  | e :: l => if e.id ≠ ((n + 1 : Nat) : Int) then 180 else if e.chk ≠ 0 then e.chk else verR last (n + 1) (link s e) l
/-- What Write writes. -/
def hwr (s : List UInt8) (es : List EM) : List UInt8 := s ++ numB es.length ++ es.flatMap EM.wr ++ sumS s es
section
variable {w : World} {hb : Nat} {F G : Nat → Prop} {s : List UInt8} {es : List EM}
set_option maxRecDepth 100000 in
theorem hcheck2_c (h : HistAt w hb F s es) {v : Value} {l : List EM} (hE : EvsV w G v l) (hG : ∀ k, G k → k < w.heap.size) (hg : ∀ e ∈ l, e.rg) (hll : l.length ≤ 1000000) :
    Calls Try.prog 32 #[.pointer (some ⟨hb, 0, none⟩), v] w fun x w' => x = .returned (.int .i64 (hchk (closedL es) es.length (lastT 0 es) l)) ∧ Only (fun _ => False) w w' := by
  have HC := hid (hcheck_c h hE hG hg hll)
  obtain ⟨ck, hck⟩ : ∃ x, hchk (closedL es) es.length (lastT 0 es) l = x := ⟨_, rfl⟩
  rw [hck] at HC ⊢
  obtain ⟨ad, cap, rfl⟩ := hE.len
  clear h hE hG hg hck
  go_enter Try.func32, Try.ntmps32
  go_wp2_with fail
  refine HC.out.mono ?_
  rintro x w2 ⟨rfl, ho⟩
  have HO := hid ho
  clear ho
  go_wp2_with fail
  go_ret
  exact ⟨rfl, HO.out⟩
set_option maxRecDepth 100000 in
set_option maxHeartbeats 6400000 in
theorem hverify_c {s last : List UInt8} (hs : s.length = 32) (hlast : last.length = 32) {v : Value} {l : List EM} (hE : EvsV w G v l) (hG : ∀ k, G k → k < w.heap.size) (hg : ∀ e ∈ l, e.rg) (hll : l.length ≤ 1000000) :
    Calls Try.prog 18 #[.agg (bytesV s).toArray, .agg (bytesV last).toArray, v] w fun x w' => x = .returned (.int .i64 (verR last 0 s l)) ∧ Only (fun _ => False) w w' := by
  have HGl := hid hG; have Hg := hid hg
  obtain ⟨ad, cap, g, o, rfl, hne, hel⟩ := hE
  have HNE := hid hne; have HEL := hid hel
  have hm : ∀ x : List UInt8, x.length = 32 → (bytesV x).toArray.size = 32 := fun x hx => by simp [hx]
  obtain ⟨SL, hSL⟩ : ∃ x, bytesV s = x := ⟨_, rfl⟩
  obtain ⟨LL, hLL⟩ : ∃ x, bytesV last = x := ⟨_, rfl⟩
  have HLs := hid hlast; have HSs := hid hs
  have HLLe := hid hLL; have HSLe := hid hSL
  rw [hSL, hLL]
  clear hG hg hne hel hs hlast hSL hLL hm
  go_enter Try.func18, Try.ntmps18
  go_wp2_with fail
  obtain ⟨wk, hwk⟩ : ∃ x, (w.alloc (.cells SL.toArray 29)).alloc (.cells LL.toArray 29) = x := ⟨_, rfl⟩
  have ho : Only (fun _ => False) w wk := by rw [← hwk]; exact (only_new _ _).trans (only_new _ _) (fun _ _ e => e)
  have h0 : wk.heap[w.heap.size]? = some (.cells (bytesV s).toArray 29 (0, 0)) := by rw [← hwk, HSLe.out]; exact blk_alloc (blk_new w _)
  have h1 : wk.heap[w.heap.size + 1]? = some (.cells LL.toArray 29 (0, 0)) := by rw [← hwk]; have := blk_new (w.alloc (.cells SL.toArray 29)) (.cells LL.toArray 29); rw [World.size_alloc] at this; exact this
  have hsz : w.heap.size + 2 ≤ wk.heap.size := by rw [← hwk]; simp
  rw [hwk]
  have HO := hid ho; have H1 := hid h1; have H0 := hid h0
  clear hwk ho h0 h1
  go_loopw [13] (fun i wr => ∃ (j : Nat) (t : List UInt8), i = .int .i64 j ∧ j ≤ l.length ∧ t.length = 32 ∧ wr.heap[w.heap.size]? = some (.cells (bytesV t).toArray 29 (0, 0)) ∧ verR last 0 s l = verR last j t (l.drop j) ∧ Only (fun k => k = w.heap.size) wk wr) (fun i _ => l.length - (intOf i).toNat)
  case atStart => exact ⟨0, s, rfl, Nat.zero_le _, HSs.out, H0.out, rfl, Only.refl _ _⟩
  case round =>
    obtain ⟨j, t, rfl, hj, ht, hb, hv, hor⟩ := hrel
    obtain ⟨wy, hwy⟩ : ∃ x, x = wr := ⟨wr, rfl⟩
    subst hwy
    have HT := hid ht; have HB := hid hb; have HVR := hid hv; have HOR := hid hor
    have hsr := hor.size
    have hOW : Only (fun _ => False) w wy := HO.out.trans hor (fun k hk e => by have e' : k = w.heap.size := e; omega)
    have HOW := hid hOW
    have H1y := hid (blk_only H1.out hor (fun e => by have e' : w.heap.size + 1 = w.heap.size := e; omega))
    obtain ⟨TL, hTL⟩ : ∃ x, bytesV t = x := ⟨_, rfl⟩
    have HTL := hid hTL
    rw [hTL] at HB
    clear ht hb hv hor hOW hTL
    have HTi : Hid ((Try.prog.info? 29).map (·.size) = some TL.toArray.size) := hid (by rw [info32, ← HTL.out]; simp [HT.out])
    have HLi : Hid ((Try.prog.info? 29).map (·.size) = some LL.toArray.size) := hid (by rw [info32, ← HLLe.out]; simp [HLs.out])
    by_cases hjl : j < l.length
    · have hji : (j : Int) < l.length := by omega
      obtain ⟨e, he⟩ : ∃ t, l[j]? = some t := ⟨_, List.getElem?_eq_getElem hjl⟩
      obtain ⟨rfl, hGg⟩ := HNE.out (by rintro rfl; simp at hjl)
      obtain ⟨cs, hcs, hEe⟩ := HEL.out j e he
      have HVR2 : Hid (verR last 0 s l = if e.id ≠ ((j + 1 : Nat) : Int) then 180 else if e.chk ≠ 0 then e.chk else verR last (j + 1) (link t e) (l.drop (j + 1))) := hid (by rw [HVR.out, drop_get he, verR])
      have hcw : ∀ i u, cs[i]? = some u → wy.cell? ⟨g, o + j * 11 + i, none⟩ = some u := fun i u hu =>
        (World.cell?_of_block (HOW.out.block g (World.block_lt_of_cell? _ _ (hcs i u hu)) (fun e => e))).trans (hcs i u hu)
      have hEw := hEe.same HOW.out
      have hrg := Hg.out e (List.mem_of_getElem? he)
      obtain ⟨vk, vn, vs, va, vm, vc, rfl, hV⟩ := hEw.form
      have e0 := hcw 0 _ rfl
      rw [Nat.add_zero] at e0
      have e1 := hcw 1 _ rfl
      have e2 := hcw 2 _ rfl
      have e3 := hcw 3 _ rfl
      have e4 := hcw 4 _ rfl
      have e5 := hcw 5 _ rfl
      have e6 := hcw 6 _ rfl
      have e7 := hcw 7 _ rfl
      have e8 := hcw 8 _ rfl
      have e9 := hcw 9 _ rfl
      have e10 := hcw 10 _ rfl
      have HEW := hid hEw; have HRG := hid hrg
      clear hEw hEe hcs hcw hV hrg he hGg
      by_cases h1 : e.id = ((j + 1 : Nat) : Int)
      · have hq : (e.id != (j : Int) + 1) = false := by simp [h1]
        have H1e := hid h1
        clear h1
        have hb1 := blk_new wy (.cells #[.int .i64 e.id, .int .i64 e.tm, .int .i64 e.k, .int .i64 e.a, .int .i64 e.b, .string (strOf e.name), .string (strOf e.text), .int .i64 vk, .int .i64 vn, .string (strOf vs), .slice va vm vc] 44)
        have ho1 := only_new wy (.cells #[.int .i64 e.id, .int .i64 e.tm, .int .i64 e.k, .int .i64 e.a, .int .i64 e.b, .string (strOf e.name), .string (strOf e.text), .int .i64 vk, .int .i64 vn, .string (strOf vs), .slice va vm vc] 44)
        have HBX := hid hb1; have HOX := hid ho1
        have HBT := hid (blk_only HB.out ho1 (fun e => e))
        have HLK := hid (elink_c (w := wy.alloc (.cells #[.int .i64 e.id, .int .i64 e.tm, .int .i64 e.k, .int .i64 e.a, .int .i64 e.b, .string (strOf e.name), .string (strOf e.text), .int .i64 vk, .int .i64 vn, .string (strOf vs), .slice va vm vc] 44)) (s := t) HT.out (HEW.out.same ho1) (fun k hk => by have := HGl.out k hk; have := ho1.size; have := HOW.out.size; omega) HRG.out)
        rw [HTL.out] at HLK
        obtain ⟨RL, hRL⟩ : ∃ x, bytesV (linkR t e) = x := ⟨_, rfl⟩
        obtain ⟨ck, hck⟩ : ∃ x, e.chk = x := ⟨_, rfl⟩
        rw [hRL, hck] at HLK
        have HRL := hid hRL; have HCK := hid hck
        have HRl : Hid ((linkR t e).length = 32) := hid (by unfold linkR; split; exact link_len _ _; simp)
        have HRi : Hid ((Try.prog.info? 29).map (·.size) = some RL.toArray.size) := hid (by rw [info32, ← hRL]; simp [HRl.out])
        have HR1 : Hid (RL.toArray.all (·.oneCell') = true) := hid (by rw [← hRL]; exact bytesV_one' _)
        have HRz : Hid (RL.toArray.size = (byA st0 0).size) := hid (by rw [← hRL]; simp [HRl.out]; rfl)
        have HRt : Hid (RL.toArray.size = TL.toArray.size) := hid (by rw [← hRL, ← HTL.out]; simp [HRl.out, HT.out])
        clear hb1 ho1 hRL hck
        go_wp2_with (first
          | ((guard_target =~ wpList _ _ _ (⟨some 24, _, _, _, _, _⟩ :: _) _ _); refine wpList_load_row rfl 29 (.tmp 3) rfl w.heap.size rfl 29 TL.toArray (0, 0) _ HBT.out Try.underlying29 rfl HTi.out ?_)
          | ((guard_target =~ wpList _ _ _ (⟨some 25, _, _, _, _, _⟩ :: _) _ _); refine wpList_load_row rfl 44 (.tmp 8) rfl wy.heap.size rfl 44 #[.int .i64 e.id, .int .i64 e.tm, .int .i64 e.k, .int .i64 e.a, .int .i64 e.b, .string (strOf e.name), .string (strOf e.text), .int .i64 vk, .int .i64 vn, .string (strOf vs), .slice va vm vc] (0, 0) _ HBX.out Try.underlying44 rfl info_ev ?_))
        refine HLK.out.mono ?_
        rintro x w4 ⟨rfl, ho4⟩
        have HO4 := hid ho4
        have HBT4 := hid (blk_only HBT.out ho4 (fun e => e))
        have hl4 := ho4.size
        have HN4 := hid (blk_new w4 (.cells (byA st0 0) 29))
        clear ho4
        by_cases hc0 : ck = 0
        · subst hc0
          have HR2 : Hid (verR last 0 s l = verR last (j + 1) (linkR t e) (l.drop (j + 1))) := hid (by rw [HVR2.out, if_neg (by rw [H1e.out]; simp), if_neg (by rw [HCK.out]; simp), linkR, if_pos HCK.out])
          have hx4 : w4.heap.size ≠ w.heap.size := by simp at hl4; omega
          have HX4 := hid hx4
          clear hx4
          go_wp2_with (first
            | ((guard_target =~ wpList _ _ _ (⟨none, .store 29 (.tmp 9) _, _, _, _, _⟩ :: _) _ _); refine wpList_store_all rfl 29 (.tmp 9) (.tmp 27) rfl w4.heap.size RL.toArray rfl rfl (byA st0 0) 29 HN4.out HRz.out HRi.out HR1.out ?_; intro w5 hb5 ho5 hs5; have HB5 := hid hb5; have HO5 := hid ho5; have HS5 := hid hs5; have HBT5 := hid (blk_only (blk_alloc HBT4.out) ho5 (fun e => HX4.out e.symm)); clear hb5 ho5 hs5)
            | ((guard_target =~ wpList _ _ _ (⟨some 32, _, _, _, _, _⟩ :: _) _ _); refine wpList_load_row rfl 29 (.tmp 9) rfl w4.heap.size rfl 29 RL.toArray (0, 0) _ HB5.out Try.underlying29 rfl HRi.out ?_)
            | ((guard_target =~ wpList _ _ _ (⟨none, .store 29 (.tmp 3) _, _, _, _, _⟩ :: _) _ _); refine wpList_store_all rfl 29 (.tmp 3) (.tmp 32) rfl w.heap.size RL.toArray rfl rfl TL.toArray 29 HBT5.out HRt.out HRi.out HR1.out ?_; intro w6 hb6 ho6 hs6; have HB6 := hid hb6; have HO6 := hid ho6; have HS6 := hid hs6; clear hb6 ho6 hs6))
          go_roundw
          case rel =>
            refine ⟨j + 1, linkR t e, by go_num, by omega, HRl.out, by rw [HRL.out]; exact HB6.out, HR2.out, ?_⟩
            have h45 : Only (fun k => k = w.heap.size) wy w5 := ((HOX.out.trans HO4.out (fun _ _ e => e)).mono (G := fun k => k = w.heap.size) (fun _ _ e => e.elim)).trans ((only_new w4 (.cells (byA st0 0) 29)).mono (G := fun k => k = w4.heap.size) (fun _ _ e => e.elim) |>.trans HO5.out (fun _ _ e => e)) (fun k hk e => by have e' : k = w4.heap.size := e; simp at hl4; omega)
            exact (HOR.out.trans h45 (fun _ _ e => e)).trans HO6.out (fun _ _ e => e)
          case measure => simp [intOf]; omega
        · have hcb : (ck != 0) = true := by simpa using hc0
          have HR2 : Hid (verR last 0 s l = ck) := hid (by rw [HVR2.out, if_neg (by rw [H1e.out]; simp), if_pos (by rw [HCK.out]; exact hc0), HCK.out])
          go_wp2_with ((guard_target =~ wpList _ _ _ (⟨none, .store 29 (.tmp 9) _, _, _, _, _⟩ :: _) _ _); refine wpList_store_all rfl 29 (.tmp 9) (.tmp 27) rfl w4.heap.size RL.toArray rfl rfl (byA st0 0) 29 HN4.out HRz.out HRi.out HR1.out ?_; intro w5 hb5 ho5 hs5; have HB5 := hid hb5; have HO5 := hid ho5; have HS5 := hid hs5; clear hb5 ho5 hs5)
          go_ret
          refine ⟨by rw [HR2.out]; rfl, ?_⟩
          exact ((HOW.out.trans HOX.out (fun _ _ e => e)).trans HO4.out (fun _ _ e => e)).trans ((only_new w4 (.cells (byA st0 0) 29)).mono (G := fun k => k = w4.heap.size) (fun _ _ e => e.elim) |>.trans HO5.out (fun _ _ e => e)) (fun k hk e => by have e' : k = w4.heap.size := e; have := HOW.out.size; simp at hl4; omega)
      · have hq : (e.id != (j : Int) + 1) = true := by simp; omega
        have HR2 : Hid (verR last 0 s l = 180) := hid (by rw [HVR2.out, if_pos h1])
        clear h1
        go_wp2_with fail
        go_ret
        exact ⟨by rw [HR2.out]; rfl, HOW.out.trans (only_new _ _) (fun _ _ e => e)⟩
    · have hjl2 : ¬ (j : Int) < l.length := by omega
      have HR2 : Hid (verR last 0 s l = if t = last then 0 else 80) := hid (by rw [HVR.out, List.drop_of_length_le (by omega), verR])
      have hnq : ∀ W, (binOp .neq 29 (.agg TL.toArray) (.agg LL.toArray)).run Try.prog W = .ok (.bool (!decide (t = last))) W := fun W => by rw [← HTL.out, ← HLLe.out]; exact neq_sum W HT.out HLs.out
      by_cases hq : t = last
      · have hd : decide (t = last) = true := decide_eq_true hq
        have HR3 : Hid (verR last 0 s l = 0) := hid (by rw [HR2.out, if_pos hq])
        rw [hd] at hnq
        clear hq hd
        go_wp2_with (first
          | ((guard_target =~ wpList _ _ _ (⟨some 34, _, _, _, _, _⟩ :: _) _ _); refine wpList_load_row rfl 29 (.tmp 3) rfl w.heap.size rfl 29 TL.toArray (0, 0) _ HB.out Try.underlying29 rfl HTi.out ?_)
          | ((guard_target =~ wpList _ _ _ (⟨some 35, _, _, _, _, _⟩ :: _) _ _); refine wpList_load_row rfl 29 (.tmp 4) rfl (w.heap.size + 1) rfl 29 LL.toArray (0, 0) _ H1y.out Try.underlying29 rfl HLi.out ?_))
        go_ret
        exact ⟨by rw [HR3.out]; rfl, HOW.out⟩
      · have hd : decide (t = last) = false := decide_eq_false hq
        have HR3 : Hid (verR last 0 s l = 80) := hid (by rw [HR2.out, if_neg hq])
        rw [hd] at hnq
        clear hq hd
        go_wp2_with (first
          | ((guard_target =~ wpList _ _ _ (⟨some 34, _, _, _, _, _⟩ :: _) _ _); refine wpList_load_row rfl 29 (.tmp 3) rfl w.heap.size rfl 29 TL.toArray (0, 0) _ HB.out Try.underlying29 rfl HTi.out ?_)
          | ((guard_target =~ wpList _ _ _ (⟨some 35, _, _, _, _, _⟩ :: _) _ _); refine wpList_load_row rfl 29 (.tmp 4) rfl (w.heap.size + 1) rfl 29 LL.toArray (0, 0) _ H1y.out Try.underlying29 rfl HLi.out ?_))
        go_ret
        exact ⟨by rw [HR3.out]; rfl, HOW.out⟩
end
end Go.Proofs.Ytnoopajedgllhaa
