/- HistoryVerifies: plain laws; a list of events in a block of its own, of which single ones are turned. HistoryVerifies' walk. -/
import Derived.Test.YtnoopajedgllhaaHsF
import Derived.Test.YtnoopajedgllhaaHsL
import Derived.Test.YtnoopajedgllhaaHsC
import Derived.Test.YtnoopajedgllhaaHsU
import Derived.Test.YtnoopajedgllhaaHsK
import Derived.Test.YtnoopajedgllhaaFitsH
import Derived.Test.YtnoopajedgllhaaRf09C
import Derived.Test.YtnoopajedgllhaaOpenS
namespace Go.Proofs.Ytnoopajedgllhaa
open Go.RowKit
theorem verR_end (last : List UInt8) : ∀ (l : List EM) (n : Nat) (s : List UInt8), (∀ i e, l[i]? = some e → e.id = ((n + i + 1 : Nat) : Int) ∧ e.Good) → verR last n s l = if sumS s l = last then 0 else 80
  | [], n, s, _ => by rw [verR]; rfl
  | e :: l, n, s, h => by
    obtain ⟨h1, h2⟩ := h 0 e rfl
    rw [verR, if_neg (fun g => g h1), if_neg (fun g => g (good_chk h2))]
    exact verR_end last l (n + 1) (link s e) fun i x hi => by
      have := h (i + 1) x (by simpa using hi)
      rw [show n + (i + 1) + 1 = n + 1 + i + 1 from by omega] at this
      exact this
theorem verR_bad (last : List UInt8) : ∀ (l : List EM) (n k : Nat) (s : List UInt8) (e : EM), (∀ i e, i < k → l[i]? = some e → e.id = ((n + i + 1 : Nat) : Int) ∧ e.Good) → l[k]? = some e → e.id ≠ ((n + k + 1 : Nat) : Int) → verR last n s l = 180
  | [], n, k, s, e, _, h, _ => by simp at h
  | x :: l, n, 0, s, e, _, h, hne => by
    simp only [List.getElem?_cons_zero, Option.some.injEq] at h
    subst h
    rw [verR, if_pos (by simpa using hne)]
  | x :: l, n, k + 1, s, e, h, hk, hne => by
    obtain ⟨h1, h2⟩ := h 0 x (by omega) rfl
    rw [verR, if_neg (fun g => g h1), if_neg (fun g => g (good_chk h2))]
    refine verR_bad last l (n + 1) k (link s x) e (fun i y hi hy => ?_) (by simpa using hk) (by rw [show n + 1 + k + 1 = n + (k + 1) + 1 from by omega]; exact hne)
    have := h (i + 1) y (by omega) (by simpa using hy)
    rw [show n + (i + 1) + 1 = n + 1 + i + 1 from by omega] at this
    exact this
theorem hok_ids {es : List EM} (h : HOk es) : ∀ i e, es[i]? = some e → e.id = ((0 + i + 1 : Nat) : Int) ∧ e.Good := fun i e hi => by
  obtain ⟨h1, h2, -⟩ := h i e hi
  exact ⟨by rw [Nat.zero_add]; exact h1, h2⟩
theorem ids_wr {es : List EM} (h : HOk es) : ∀ (i j : Nat) (e f : EM), es[i]? = some e → es[j]? = some f → i ≠ j → e.wr ≠ f.wr := fun i j e f hi hj hne hw => by
  obtain ⟨h1, h2, h3, -⟩ := h i e hi
  obtain ⟨g1, g2, g3, -⟩ := h j f hj
  have h4 := congrArg EM.id (ewr_inj h2 g2 h3 g3 hw)
  have h5 : e.id = f.id := h4
  omega
/-- An event at another tick. -/
def EM.at' (e : EM) (t : Int) : EM := { e with tm := t }
section
variable {w w' : World} {G : Nat → Prop} {gb : Nat} {T : TypeId} {l : List EM} {arr : Array Value}
/-- A list of events in a block of its own. -/
def Evb (w : World) (G : Nat → Prop) (arr : Array Value) (l : List EM) : Prop := ∀ (i : Nat) (e : EM), l[i]? = some e → ∃ cs, (∀ j u, cs[j]? = some u → arr[i * 11 + j]? = some u) ∧ EAt w G e cs
theorem Evb.only {F : Nat → Prop} (h : Evb w G arr l) (ho : Only F w w') (hF : ∀ k, G k → ¬ F k) : Evb w' G arr l := fun i e hi => let ⟨cs, h1, h2⟩ := h i e hi; ⟨cs, h1, h2.only ho hF⟩
theorem Evb.evs (h : Evb w G arr l) (hb : w.heap[gb]? = some (.cells arr T (0, 0))) (c : Nat) : EvsV w (fun k => G k ∨ k = gb) (.slice (some ⟨gb, 0, none⟩) l.length c) l :=
  ⟨_, c, gb, 0, rfl, fun _ => ⟨rfl, .inr rfl⟩, fun i e hi => by
    obtain ⟨cs, h1, h2⟩ := h i e hi
    exact ⟨cs, fun j u hj => by rw [Nat.zero_add, cell_blk hb]; exact h1 j u hj, h2.mono fun k hk => .inl hk⟩⟩
theorem Evb.take (h : Evb w G arr l) (n : Nat) : Evb w G arr (l.take n) := fun i e hi => by
  have hin : i < n := by
    rcases Nat.lt_or_ge i n with g | g
    · exact g
    · rw [List.getElem?_eq_none (by rw [List.length_take]; omega)] at hi; cases hi
  rw [List.getElem?_take_of_lt hin] at hi
  exact h i e hi
theorem Evb.settm (h : Evb w G arr l) {k : Nat} {e : EM} (hk : l[k]? = some e) (t : Int) : Evb w G (arr.setIfInBounds (k * 11 + 1) (.int .i64 t)) (l.set k (e.at' t)) := fun i x hi => by
  have hil : i < l.length := by
    rcases Nat.lt_or_ge i l.length with g | g
    · exact g
    · rw [List.getElem?_eq_none (by simpa using g)] at hi; cases hi
  by_cases e1 : k = i
  · subst e1
    rw [List.getElem?_set_self hil] at hi
    obtain rfl := Option.some.inj hi
    obtain ⟨cs, h1, h2⟩ := h k e hk
    obtain ⟨vk, vn, vs, va, vm, vc, rfl, hV⟩ := h2.form
    refine ⟨[.int .i64 e.id, .int .i64 t, .int .i64 e.k, .int .i64 e.a, .int .i64 e.b, .string (strOf e.name), .string (strOf e.text), .int .i64 vk, .int .i64 vn, .string (strOf vs), .slice va vm vc], fun j u hj => ?_, _, rfl, hV⟩
    rw [Array.getElem?_setIfInBounds]
    by_cases e2 : k * 11 + 1 = k * 11 + j
    · rw [if_pos e2]
      obtain rfl : j = 1 := by omega
      have h9 := h1 1 _ rfl
      have h8 : k * 11 + 1 < arr.size := by
        rcases Nat.lt_or_ge (k * 11 + 1) arr.size with g | g
        · exact g
        · rw [Array.getElem?_eq_none g] at h9; cases h9
      rw [if_pos (by omega)]
      simpa using hj
    · rw [if_neg e2]
      refine h1 j u ?_
      match j, hj with
      | 0, hj => exact hj
      | 1, _ => exact absurd rfl e2
      | j + 2, hj => exact hj
  · rw [List.getElem?_set_ne e1] at hi
    obtain ⟨cs, h1, h2⟩ := h i x hi
    have hc11 := h2.len11
    refine ⟨cs, fun j u hj => ?_, h2⟩
    have hj11 : j < 11 := by
      rcases Nat.lt_or_ge j cs.length with g | g
      · omega
      · rw [List.getElem?_eq_none g] at hj; cases hj
    rw [Array.getElem?_setIfInBounds, if_neg (by omega)]
    exact h1 j u hj
theorem lay_getE {α : Type} {xs ys : List α} {off k : Nat} (h : off + ys.length ≤ xs.length) : (lay xs off ys)[k]? = if off ≤ k ∧ k < off + ys.length then ys[k - off]? else xs[k]? := by
  unfold lay
  by_cases h1 : k < off
  · rw [if_neg (by omega), List.getElem?_append_left (by rw [List.length_take]; omega), List.getElem?_take_of_lt h1]
  · rw [List.getElem?_append_right (by rw [List.length_take]; omega), List.length_take, Nat.min_eq_left (by omega)]
    by_cases h2 : k < off + ys.length
    · rw [if_pos ⟨by omega, h2⟩, List.getElem?_append_left (by omega)]
    · rw [if_neg (by omega), List.getElem?_append_right (by omega), List.getElem?_drop]
      congr 1; omega
theorem Evb.put (h : Evb w G arr l) {k : Nat} {e : EM} {cs : List Value} (he : EAt w G e cs) (hs : k * 11 + 11 ≤ arr.size) : Evb w G (lay arr.toList (k * 11) cs).toArray (l.set k e) := fun i x hi => by
  have hil : i < l.length := by
    rcases Nat.lt_or_ge i l.length with g | g
    · exact g
    · rw [List.getElem?_eq_none (by simpa using g)] at hi; cases hi
  have hcl := he.len11
  have hfit : k * 11 + cs.length ≤ arr.toList.length := by have := Array.length_toList (xs := arr); omega
  by_cases e1 : k = i
  · subst e1
    rw [List.getElem?_set_self hil] at hi
    obtain rfl := Option.some.inj hi
    refine ⟨cs, fun j u hj => ?_, he⟩
    have hj11 : j < cs.length := by
      rcases Nat.lt_or_ge j cs.length with g | g
      · exact g
      · rw [List.getElem?_eq_none g] at hj; cases hj
    rw [List.getElem?_toArray, lay_getE hfit, if_pos ⟨by omega, by omega⟩, show k * 11 + j - k * 11 = j from by omega]
    exact hj
  · rw [List.getElem?_set_ne e1] at hi
    obtain ⟨ds, h1, h2⟩ := h i x hi
    have hc11 := h2.len11
    refine ⟨ds, fun j u hj => ?_, h2⟩
    have hj11 : j < 11 := by
      rcases Nat.lt_or_ge j ds.length with g | g
      · omega
      · rw [List.getElem?_eq_none g] at hj; cases hj
    rw [List.getElem?_toArray, lay_getE hfit, if_neg (by omega), Array.getElem?_toList]
    exact h1 j u hj
end
theorem OutE.srcV {B : Nat → Prop} {w : World} {ad : Option Addr} {n cap : Nat} {xs : List Value} {es : List EM} (h : OutE B w ad n cap xs es) : SrcG w ad n 11 xs := by
  refine ⟨h.gr.1, fun h0 => ?_, ?_⟩
  · obtain ⟨q, hq, hc⟩ := h.gr.cells h0
    exact ⟨_, hq, fun j u hj => by rw [addr_add, Nat.zero_add]; exact hc j u hj⟩
  · have : ∀ {l : List EM} {xs : List Value} {G : Nat → Prop}, EXs w G l xs → ∀ u ∈ xs, u.oneCell' = true := by
      intro l
      induction l with
      | nil => intro xs G h u hu; have h' : xs = [] := h; subst h'; simp at hu
      | cons e l ih =>
        rintro xs G ⟨cs, ys, rfl, h1, h2⟩ u hu
        rcases List.mem_append.1 hu with hu | hu
        · obtain ⟨k, m, s, a, b, c, rfl, -⟩ := h1.form
          exact ev_ones _ _ _ _ _ _ _ _ _ _ _ _ _ u hu
        · exact ih h2 u hu
    exact this h.exs
end Go.Proofs.Ytnoopajedgllhaa
namespace Go.Proofs.Ytnoopajedgllhaa
open Go.RowKit
theorem verR_ok' {es : List EM} (h : HOk es) (s : List UInt8) : verR (sumS s es) 0 s es = 0 := by rw [verR_end _ _ _ _ (hok_ids h), if_pos rfl]
section
variable {w : World}
set_option maxRecDepth 100000 in
set_option maxHeartbeats 12800000 in
theorem hver_c {s : List UInt8} (hs : s.length = 32) {v : Value} {l : List EM} (hE : EvsV w (fun k => k < w.heap.size) v l) (hg : ∀ e ∈ l, e.rg) (hll : l.length ≤ 9223372036854775807) (b0 b1 : Int) (hb0 : b0 ≤ 9223372036854775807) : Calls Try.prog 4 #[.agg (bytesV s).toArray, v, .agg #[.int .i64 b0, .int .i64 b1]] w fun x w' => x = .returned (.bool true) ∧ Only (fun _ => False) w w' := by
  obtain ⟨ad, cap, rfl⟩ := hE.len
  have HNW := hid (fun W => hnew_c (w := W) hs)
  have HS32 := hid hs
  have HE := hid hE; have Hg := hid hg
  have HCL := hid (fun (W : World) (A B : List EM) (v1 v2 : Value) (G1 G2 : Nat → Prop) (h1 : EvsV W G1 v1 A) (h2 : EvsV W G2 v2 B) (h3 : ∀ e ∈ A, e.rg ∧ e.Good) (h4 : ∀ e ∈ B, e.rg ∧ e.Good) (h5 : A.length ≤ 10000) (h6 : B.length ≤ 10000) => clash_c (w := W) hs h1 h2 h3 h4 h5 h6)
  have HVF := hid (fun (W : World) (last : List UInt8) (hlast : last.length = 32) (v : Value) (l : List EM) (G : Nat → Prop) (h1 : EvsV W G v l) (h2 : ∀ k, G k → k < W.heap.size) (h3 : ∀ e ∈ l, e.rg) (h4 : l.length ≤ 1000000) => hverify_c (w := W) hs hlast h1 h2 h3 h4)
  have hIS : (Try.prog.info? 29).map (·.size) = some (bytesV s).toArray.size := by rw [info32]; simp [hs]
  have ho0 := (only_new w (.cells (bytesV s).toArray 29)).trans (only_new _ (.cells #[.int .i64 b0, .int .i64 b1] 37)) (fun _ _ e => e)
  have hbs := blk_alloc (o' := .cells #[.int .i64 b0, .int .i64 b1] 37) (blk_new w (.cells (bytesV s).toArray 29))
  have hbb := blk_new (w.alloc (.cells (bytesV s).toArray 29)) (.cells #[.int .i64 b0, .int .i64 b1] 37)
  rw [World.size_alloc] at hbb
  obtain ⟨SL, hSL⟩ : ∃ x, (bytesV s).toArray = x := ⟨_, rfl⟩
  rw [hSL] at HNW hIS ho0 hbs hbb ⊢
  simp only [hSL] at HCL HVF
  obtain ⟨w0, hw0⟩ : ∃ x, (w.alloc (.cells SL 29)).alloc (.cells #[.int .i64 b0, .int .i64 b1] 37) = x := ⟨_, rfl⟩
  rw [hw0] at ho0 hbs hbb
  have HW0 := hid hw0
  have HO0 := hid ho0; have HBS := hid hbs; have HBB := hid hbb; have HIS := hid hIS
  have hz0 : w.heap.size + 2 = w0.heap.size := by rw [← hw0]; simp
  have hzl : w.heap.size + 1 < w0.heap.size := by omega
  clear hE hg hs hSL ho0 hbs hbb hIS hw0 hz0
  go_enter Try.func4, Try.ntmps4
  go_upto_region 1 with fail
  rw [HW0.out]
  go_wp2_with fail
  refine keeps_c.mono ?_
  rintro x w1 ⟨rfl, ho1⟩
  have HO1 := hid (HO0.out.trans ho1 (fun _ _ e => e))
  have HO01 := hid ho1
  have hz1 := ho1.size
  have HSM := hid (small_c (HE.out.same HO1.out) (fun k hk => by have := HO1.out.size; omega) (fun e he => (Hg.out e he).2.2.2.2.2.2.2) hll)
  clear ho1
  go_wp2_with fail
  refine HSM.out.mono ?_
  rintro x w2 ⟨rfl, ho2⟩
  have HO2 := hid (HO1.out.trans ho2 (fun _ _ e => e))
  have HO02 := hid (HO01.out.trans ho2 (fun _ _ e => e))
  clear ho2 HSM HO1 HO01
  by_cases hsm : (smB l 300 && decide (l.length ≤ 40)) = true
  rotate_left
  · have hsf : (smB l 300 && decide (l.length ≤ 40)) = false := by simpa using hsm
    rw [hsf]
    clear hsm hsf
    go_wp2_with fail
    go_ret
    exact ⟨rfl, HO2.out⟩
  rw [hsm]
  have hl40 : l.length ≤ 40 := by simp only [Bool.and_eq_true, decide_eq_true_eq] at hsm; exact hsm.2
  have Hsz := hid (fun (e : EM) (he : e ∈ l) => (show e.v.sz ≤ 1000000 by
    simp only [Bool.and_eq_true] at hsm
    have := sm_sz (by decide) hsm.1 e he; omega))
  have HB2 := hid (blk_only HBS.out HO02.out (fun e => e)); have HBB2 := hid (blk_only HBB.out HO02.out (fun e => e))
  have hz2 := HO02.out.size
  have cb0 : w2.cell? ⟨w.heap.size + 1, 0, none⟩ = some (.int .i64 b0) := cell_blk HBB2.out 0
  clear hsm
  by_cases hl0 : l.length = 0
  · have hli : (l.length : Int) = 0 := by omega
    have hlb : ((l.length : Int) == 0) = true := by simpa using hl0
    go_wp2_with fail
    go_ret
    exact ⟨rfl, HO2.out⟩
  have hli : ¬ (l.length : Int) = 0 := by omega
  have hlb : ((l.length : Int) == 0) = false := by simpa using hl0
  by_cases hbn : b0 < 0
  · go_wp2_with fail
    go_ret
    exact ⟨rfl, HO2.out⟩
  have hbn0 : 0 ≤ b0 := by omega
  go_wp2_with ((guard_target =~ wpList _ _ _ (⟨some 29, _, _, _, _, _⟩ :: _) _ _); refine wpList_load_row rfl 29 (.tmp 3) rfl w.heap.size rfl 29 SL (0, 0) _ HB2.out Try.underlying29 rfl HIS.out ?_)
  refine (HNW.out w2).mono ?_
  rintro x w3 ⟨hb, rfl, hh, hsz3, ho3⟩
  have HH0 := hid hh
  have HO3 := hid (HO2.out.trans ho3 (fun _ _ e => e))
  have HO23 := hid ho3
  have hz3 := HO3.out.size
  have hb3 : hb < w3.heap.size := by obtain ⟨_, _, _, _, _, H⟩ := hh; exact H.lt hb H.fb
  have HAP := hid (happend_c HH0.out (HE.out.same HO3.out) (fun k hk => ⟨by omega, fun e => by have e' : k = hb := e; omega⟩) Hg.out Hsz.out (by omega))
  clear hh ho3 HNW cb0
  go_wp2_with fail
  refine HAP.out.mono ?_
  rintro x w5 (⟨hck0, adA, capA, xsA, Fh, B, rfl, hh, -, -, hFh, -, ho5⟩ | ⟨hne, rfl, ho5⟩)
  rotate_left
  · have HO5 := hid (HO3.out.trans ho5 (fun _ _ e => e))
    obtain ⟨ck, hck⟩ : ∃ x, hchk (closedL []) ([] : List EM).length (lastT 0 []) l = x := ⟨_, rfl⟩
    rw [hck] at hne ⊢
    have hnb : (ck != 0) = true := by simpa using hne
    clear hne hck ho5
    go_wp2_with fail
    go_ret
    exact ⟨rfl, HO5.out⟩
  have HO5 : Hid (Only (fun _ => False) w w5) := hid (HO3.out.trans ho5 (fun k hk e => by have e' : k = hb := e; omega))
  have HO25 : Hid (Only (fun _ => False) w2 w5) := hid (HO23.out.trans ho5 (fun k hk e => by have e' : k = hb := e; omega))
  rw [List.nil_append] at hh
  have HOKE : Hid (HOk (numb 0 l)) := hid (by obtain ⟨_, _, _, _, _, H⟩ := hh; exact H.ok)
  obtain ⟨es, hes⟩ : ∃ es, numb 0 l = es := ⟨_, rfl⟩
  have hel : es.length = l.length := by rw [← hes, numb_len]
  have hh : HistAt w5 hb Fh s es := by rw [← hes]; exact hh
  rw [hes] at HOKE
  have HGD : Hid (∀ e ∈ es, e.Good) := hid (hok_good HOKE.out)
  have HRG : Hid (∀ e ∈ es, e.rg) := hid (fun e he => by obtain ⟨i, hi, rfl⟩ := List.mem_iff_getElem.1 he; exact (HOKE.out i _ (List.getElem?_eq_getElem hi)).2.2.1)
  have HGG : Hid (∀ e ∈ es, e.rg ∧ e.Good) := hid fun e he => ⟨HRG.out e he, HGD.out e he⟩
  have HH5 := hid hh; have HEL := hid hel
  have HFL : Hid (∀ k, Fh k → k < w5.heap.size) := hid (by obtain ⟨_, _, _, _, _, H⟩ := hh; exact H.lt)
  have HAL := hid (hall_c hh)
  have hn40 : es.length ≤ 40 := by omega
  have hn1 : 0 < es.length := by omega
  clear hh hFh hes ho5 hck0 HAP hel
  go_wp2_with fail
  refine HAL.out.mono ?_
  rintro x w6 ⟨a6, c6, xs, rfl, hout, ho6⟩
  have HOUT := hid hout
  have hz56 := ho6.size
  have HO6 := hid (HO5.out.trans ho6 (fun _ _ e => e)); have HO26 := hid (HO25.out.trans ho6 (fun _ _ e => e))
  have HH6 := hid (HH5.out.same ho6)
  have HB6 := hid (blk_only HB2.out HO26.out (fun e => e)); have HBB6 := hid (blk_only HBB2.out HO26.out (fun e => e))
  have hz6 := HO26.out.size
  have hEv := hout.evs
  have hVer := verR_ok' HOKE.out s
  have h32 := sumS_len HS32.out es
  obtain ⟨last, hlast⟩ : ∃ x, sumS s es = x := ⟨_, rfl⟩
  have HSU : Hid (∀ W, Only (fun _ => False) w6 W → Calls Try.prog 19 #[.pointer (some ⟨hb, 0, none⟩)] W fun x w' => x = .returned (.agg (bytesV last).toArray) ∧ Only (fun _ => False) W w') := hid fun W hW => by rw [← hlast]; exact hsum2_c (HH6.out.same hW)
  rw [hlast] at hVer h32
  have HVR : Hid (∀ W, Only (fun _ => False) w6 W → Calls Try.prog 18 #[.agg SL, .agg (bytesV last).toArray, .slice a6 es.length c6] W fun x w' => x = .returned (.int .i64 0) ∧ Only (fun _ => False) W w') := hid fun W hW => by
    have h1 := HVF.out W last h32 _ es _ (hEv.same hW) (fun k hk => by have := hW.size; have h2 := hk.2; omega) HRG.out (by omega)
    rw [hVer] at h1
    exact h1
  have H32 := hid h32; have HLAST := hid hlast; have HEV := hid hEv
  obtain ⟨LS, hLS⟩ : ∃ x, (bytesV last).toArray = x := ⟨_, rfl⟩
  rw [hLS] at HSU HVR
  have HLS := hid hLS
  clear hout ho6 hEv hVer h32 hlast hLS HAL
  go_wp2_with fail
  refine region_pt 6 [] (by kernel_rfl) (by kernel_rfl) (by kernel_rfl) [(41, fun _ v => v = .agg SL), (42, fun _ v => v = .pointer (some ⟨hb, 0, none⟩)), (43, fun _ v => v = .agg LS), (44, fun _ v => v = .slice a6 es.length c6), (45, fun _ v => v = .int .i64 0), (46, fun _ v => v = .bool false)] (fun _ W => Only (fun _ => False) w6 W) (by show [41, 42, 43, 44, 45, 46].Nodup; decide) (by show ∀ d ∈ [41, 42, 43, 44, 45, 46], d < 121; decide) ((Only.refl _ _).drew) (.inl rfl) ?_ ?_ ?_
  · exact trivial
  · have hstab : PtStabs (Only (fun _ => False)) [(41, fun _ v => v = .agg SL), (42, fun _ v => v = .pointer (some ⟨hb, 0, none⟩)), (43, fun _ v => v = .agg LS), (44, fun _ v => v = .slice a6 es.length c6), (45, fun _ v => v = .int .i64 0), (46, fun _ v => v = .bool false)] := ⟨fun _ _ _ _ h => h, fun _ _ _ _ h => h, fun _ _ _ _ h => h, fun _ _ _ _ h => h, fun _ _ _ _ h => h, fun _ _ _ _ h => h, trivial⟩
    refine PtAllS.cons rfl ⟨rfl, rfl⟩ ?_ (PtAllS.cons rfl ⟨rfl, rfl⟩ ?_ (PtAllS.cons rfl ⟨rfl, rfl⟩ ?_ (PtAllS.cons rfl ⟨rfl, rfl⟩ ?_ (PtAllS.cons rfl ⟨rfl, rfl⟩ ?_ (PtAllS.cons rfl ⟨rfl, rfl⟩ ?_ (PtAllS.nil rfl))))))
    · intro L a W K hI hn hd hK
      have e3 : a.eval (.tmp 3) = .pointer (some ⟨w.heap.size, 0, none⟩) := hI.ev 3 (by show ¬ (3 ∈ [41, 42, 43, 44, 45, 46]); decide) rfl
      exact wp_load_row _ (.tmp 3) rfl (w.heap.size) e3 29 (SL) (0, 0) _ (blk_only HB6.out hI.j (fun e => e)) Try.underlying29 rfl (HIS.out) (hK _ _ hI.j PtKeep.refl rfl)
    · intro L a W K hI hn hd hK
      have e7 : a.eval (.tmp 7) = .pointer (some ⟨hb, 0, none⟩) := hI.ev 7 (by show ¬ (7 ∈ [41, 42, 43, 44, 45, 46]); decide) rfl
      exact pt_move _ (by first | exact .inl rfl | exact .inr rfl) _ e7 (hK _ _ hI.j PtKeep.refl rfl)
    · intro L a W K hI hn hd hK
      have e42 : a.eval (.tmp 42) = .pointer (some ⟨hb, 0, none⟩) := hI.fact 1 42 _ rfl (dep_of hd 1 (by kernel_rfl))
      refine wp_callc (f := 19) (args := #[a.eval (.tmp 42)]) (by kernel_rfl) ?_
      rw [e42]
      refine (HSU.out _ hI.j).mono ?_
      rintro x W' ⟨rfl, ho⟩
      exact ⟨_, rfl, hK _ _ (hI.j.trans ho (fun _ _ e => e.elim)) (hstab.keep ho) rfl⟩
    · intro L a W K hI hn hd hK
      have e10 : a.eval (.tmp 10) = .slice a6 es.length c6 := hI.ev 10 (by show ¬ (10 ∈ [41, 42, 43, 44, 45, 46]); decide) rfl
      exact pt_move _ (by first | exact .inl rfl | exact .inr rfl) _ e10 (hK _ _ hI.j PtKeep.refl rfl)
    · intro L a W K hI hn hd hK
      have e41 : a.eval (.tmp 41) = .agg SL := hI.fact 0 41 _ rfl (dep_of hd 0 (by kernel_rfl))
      have e43 : a.eval (.tmp 43) = .agg LS := hI.fact 2 43 _ rfl (dep_of hd 2 (by kernel_rfl))
      have e44 : a.eval (.tmp 44) = .slice a6 es.length c6 := hI.fact 3 44 _ rfl (dep_of hd 3 (by kernel_rfl))
      refine wp_callc (f := 18) (args := #[a.eval (.tmp 41), a.eval (.tmp 43), a.eval (.tmp 44)]) (by kernel_rfl) ?_
      rw [e41, e43, e44]
      refine (HVR.out _ hI.j).mono ?_
      rintro x W' ⟨rfl, ho⟩
      exact ⟨_, rfl, hK _ _ (hI.j.trans ho (fun _ _ e => e.elim)) (hstab.keep ho) rfl⟩
    · intro L a W K hI hn hd hK
      have e45 : a.eval (.tmp 45) = .int .i64 0 := hI.fact 4 45 _ rfl (dep_of hd 4 (by kernel_rfl))
      exact pt_val (v := .bool false) (by unfold execOp; simp only [e45]; kernel_rfl) (hK _ _ hI.j PtKeep.refl rfl)
  · intro L a w7 hal hj hfs
    dsimp only [PtAll] at hfs
    obtain ⟨f41, f42, f43, f44, f45, f46, -⟩ := hfs
    have hA := hal.turned
    simp only [List.map_cons, List.map_nil, Act.turned, f41, f42, f43, f44, f45, f46] at hA
    simp only [Act.put, List.setIfInBounds_toArray, List.set_cons_zero, List.set_cons_succ] at hA
    clear hal f41 f42 f43 f44 f45 f46
    subst hA
    change wpList _ _ _ [] _ _
    have HO7 := hid (HO6.out.trans hj (fun _ _ e => e)); have HO67 := hid hj
    have HBB7 := hid (blk_only HBB6.out hj (fun e => e)); have HB7 := hid (blk_only HB6.out hj (fun e => e))
    have HOUT7 := hid (HOUT.out.only hj (fun _ _ _ e => e))
    have c0 : w7.cell? ⟨w.heap.size + 1, 0, none⟩ = some (.int .i64 b0) := cell_blk HBB7.out 0
    obtain ⟨kq, hkq⟩ : ∃ kq : Nat, b0 % (es.length : Int) = kq := ⟨(b0 % (es.length : Int)).toNat, by have := Int.emod_nonneg b0 (show (es.length : Int) ≠ 0 by omega); omega⟩
    have hKl : kq < es.length := by have := Int.emod_lt_of_pos b0 (show (0 : Int) < es.length by omega); omega
    have hKt : b0.tmod (es.length : Int) = kq := by rw [Int.tmod_eq_emod_of_nonneg hbn0, hkq]
    have hn1i : ¬ (es.length : Int) = 0 := by omega
    have hz7 := hj.size
    clear hj
    have HGE : Hid (Gr (w7.alloc (.cells #[] 44)) 44 11 (some ⟨w7.heap.size, 0, none⟩) 0 0 []) := hid ⟨rfl, Nat.le_refl _, .inr ⟨_, rfl, Row.new w7 [] 44⟩⟩
    have HSG : Hid (SrcG (w7.alloc (.cells #[] 44)) a6 es.length 11 xs) := hid ((HOUT7.out.only (only_new w7 _) (fun _ _ _ e => e)).srcV)
    go_upto_region 14 with ((guard_target =~ wpList _ _ _ (⟨some 54, _, _, _, _, _⟩ :: _) _ _); refine wpList_gr (o := ⟨some 54, _, _, _, _, _⟩) rfl elE (.tmp 52) (.tmp 53) rfl HGE.out rfl a6 es.length c6 rfl xs HSG.out (by omega) (by omega) ?_; intro ao8 cp8 w8 hg8 ha8 ho8; rw [Nat.zero_add, List.nil_append] at hg8; have HG8 := hid hg8; have HA8 := hid ha8; have HO78 := hid ((only_new w7 _).trans ho8 (fun k hk e => by simp only [Option.some.injEq, Addr.mk.injEq, and_true] at e; omega) : Only (fun _ => False) w7 w8); clear hg8 ha8 ho8)
    have c1 : w8.cell? ⟨w.heap.size + 1, 1, none⟩ = some (.int .i64 b1) := cell_blk (blk_only HBB7.out HO78.out (fun e => e)) 1
    have HB8 := hid (blk_only HB7.out HO78.out (fun e => e))
    have hgr8 := HG8.out
    obtain ⟨gb, hgb⟩ : ∃ gb, ao8 = some ⟨gb, 0, none⟩ := by
      obtain ⟨q, hq, -⟩ := hgr8.cells hn1
      exact ⟨q, hq⟩
    subst hgb
    have hgb7 : w7.heap.size ≤ gb := by
      rcases HA8.out with e | e <;> simp only [Option.some.injEq, Addr.mk.injEq, and_true] at e
      · omega
      · simp at e; omega
    obtain ⟨arr, HARR, HEVB⟩ : ∃ arr, Hid (w8.heap[gb]? = some (.cells arr 44 (0, 0))) ∧ Hid (Evb w8 (fun k => k < w7.heap.size) arr es ∧ es.length * 11 ≤ arr.size) := by
      obtain ⟨hxl, -, h3⟩ := hgr8
      rcases h3 with ⟨h3, -⟩ | ⟨q, h3, pad, h4, -⟩
      · cases h3
      · simp only [Option.some.injEq, Addr.mk.injEq, and_true] at h3
        subst h3
        refine ⟨_, h4, fun i e hi => ?_, by simp; omega⟩
        obtain ⟨cs, h5, h6⟩ := EXs.at' HOUT7.out.exs i e hi
        refine ⟨cs, fun j u hj => ?_, (h6.mono fun k hk => hk.2.1).only HO78.out (fun _ _ e => e)⟩
        have h7 := h5 j u hj
        rw [List.getElem?_toArray, List.getElem?_append_left]
        · exact h7
        · rcases Nat.lt_or_ge (i * 11 + j) xs.length with g | g
          · exact g
          · rw [List.getElem?_eq_none g] at h7; cases h7
    have HCP8 := hid hgr8.2.1
    have HBG := hid (fun (W : World) (hW : Only (fun k => k = gb) w8 W) => blk_only HB8.out hW (by show ¬ w.heap.size = gb; have := HO6.out.size; omega))
    have HO8 := hid (HO7.out.trans HO78.out (fun _ _ e => e))
    have hgl8 := blk_lt HARR.out
    have hz8 := HO78.out.size
    -- what the chain's sum is asked of, whatever was turned in the block gb
    have HSU8 : Hid (∀ W, Only (fun k => k = gb) w8 W → Calls Try.prog 19 #[.pointer (some ⟨hb, 0, none⟩)] W fun x w' => x = .returned (.agg LS) ∧ Only (fun _ => False) W w') := hid fun W hW => by
      rw [← HLS.out, ← HLAST.out]
      have hh8 : HistAt w8 hb Fh s es := HH6.out.same (HO67.out.trans HO78.out (fun _ _ e => e))
      exact hsum2_c (hh8.only hW (fun k hk e => by have e' : k = gb := e; have := HFL.out k hk; have := HO26.out.size; have := HO6.out.size; omega))
    have HVR8 : Hid (∀ W (L : List EM) (v : Value), (∃ G : Nat → Prop, EvsV W G v L ∧ ∀ k, G k → k < W.heap.size) → (∀ e ∈ L, e.rg) → L.length ≤ 1000000 → Calls Try.prog 18 #[.agg SL, .agg LS, v] W fun x w' => x = .returned (.int .i64 (verR last 0 s L)) ∧ Only (fun _ => False) W w') := hid fun W L v hx h2 h3 => by
      obtain ⟨G, h1, h4⟩ := hx
      have := HVF.out W last H32.out v L G h1 h4 h2 h3
      rw [HLS.out] at this
      exact this
    have HE8 : Hid (∀ W, Only (fun k => k = gb) w8 W → EvsV W (fun k => w5.heap.size ≤ k ∧ k < w6.heap.size) (.slice a6 es.length c6) es) := hid fun W hW => (HEV.out.same (HO67.out.trans HO78.out (fun _ _ e => e))).only hW (fun k hk e => by have e' : k = gb := e; have := hk.2; omega)
    clear hgr8 HA8 HG8 HGE HSG
    by_cases hq0 : b1 = 0
    · subst hq0
      obtain ⟨e, he⟩ : ∃ e, es[kq]? = some e := ⟨_, List.getElem?_eq_getElem hKl⟩
      have hgd := HGD.out e (List.mem_of_getElem? he)
      have hrg := HRG.out e (List.mem_of_getElem? he)
      obtain ⟨cs, hcs, hEe⟩ := HEVB.out.1 kq e he
      obtain ⟨vk, vn, vs, va, vm, vc, rfl, -⟩ := hEe.form
      have ctm : w8.cell? ⟨gb, kq * 11 + 1, none⟩ = some (.int .i64 e.tm) := by rw [cell_blk HARR.out]; exact hcs 1 _ rfl
      have htm := hgd.tm
      have z8 : ∀ i, w8.frozen? ⟨gb, i, none⟩ = false := frozen_blk HARR.out
      have hKi : (kq : Int) < es.length := by omega
      have HE := hid he
      have hw9 := blk_set HARR.out (kq * 11 + 1) (.int .i64 (e.tm + 1))
      have ho9 := only_set (w := w8) gb (kq * 11 + 1) (.int .i64 (e.tm + 1))
      have hev9 := ((HEVB.out.1.settm he (e.tm + 1)).only ho9 (fun k hk e => by have e' : k = gb := e; omega))
      have hrg9 : (e.at' (e.tm + 1)).rg := ⟨hrg.1, ⟨by show _ ≤ e.tm + 1; omega, by show e.tm + 1 ≤ _; omega⟩, hrg.2.2⟩
      have hid9 : (e.at' (e.tm + 1)).id = e.id := rfl
      have hl9 : (es.set kq (e.at' (e.tm + 1))).length = es.length := by simp
      have hg9 : (es.set kq (e.at' (e.tm + 1)))[kq]? = some (e.at' (e.tm + 1)) := by rw [List.getElem?_set_self hKl]
      obtain ⟨ds, hds, hEd⟩ := hev9 kq _ hg9
      have hd11 := hEd.len11
      have HCH : Hid (∀ W, Only (fun _ => False) (w8.setCell ⟨gb, kq * 11 + 1, none⟩ (.int .i64 (e.tm + 1))) W → Calls Try.prog 20 #[.agg ds.toArray] W fun x w' => x = .returned (.int .i64 (e.at' (e.tm + 1)).chk) ∧ Only (fun _ => False) W w') := hid fun W hW => r9check_c (hEd.same hW) hrg9
      have HRA : Hid ((w8.setCell ⟨gb, kq * 11 + 1, none⟩ (.int .i64 (e.tm + 1))).rangeAt gb (kq * 11) ds) := hid fun j u hj => by rw [cell_blk hw9]; exact hds j u hj
      have HDI : Hid ((Try.prog.info? 44).map (·.size) = some ds.length) := hid (by rw [info_ev, hd11])
      have HW9 := hid hw9; have HO9 := hid ho9; have HEV9 := hid hev9; have HRG9 := hid hrg9; have HG9 := hid hg9; have HGE := hid hgd; have HL9 := hid hl9; have HRE := hid hrg
      obtain ⟨ck, hck⟩ : ∃ x, (e.at' (e.tm + 1)).chk = x := ⟨_, rfl⟩
      rw [hck] at HCH
      have HCK := hid hck
      clear hcs hEe he hw9 ho9 hev9 hrg9 hid9 hl9 hg9 hds hEd hck hd11 hgd hrg c0
      go_upto_region 18 with fail
      obtain ⟨w9, hw9⟩ : ∃ x, w8.setCell ⟨gb, kq * 11 + 1, none⟩ (.int .i64 (e.tm + 1)) = x := ⟨_, rfl⟩
      rw [hw9] at HW9 HO9 HEV9 HCH HRA
      rw [hw9]
      clear hw9 ctm z8
      go_wp2_with ((guard_target =~ wpList _ _ _ (⟨some 70, _, _, _, _, _⟩ :: _) _ _); refine wpList_load_mid rfl 44 (.tmp 69) rfl gb (kq * 11) rfl ds _ HRA.out Try.underlying44 rfl HDI.out ?_)
      refine (HCH.out _ (Only.refl _ _)).mono ?_
      rintro x w10 ⟨rfl, ho10⟩
      have HO10 := hid (HO9.out.trans (ho10.mono (fun _ _ e => e.elim)) (fun _ _ e => e)); have HO910 := hid ho10
      clear ho10
      by_cases hck0 : ck = 0
      rotate_left
      · have hnb : (ck != 0) = true := by simpa using hck0
        have HOZ : Hid (Only (fun _ => False) w w10) := hid (HO8.out.trans HO10.out (fun k hk e => by have e' : k = gb := e; have := HO6.out.size; omega))
        clear hck0
        go_wp2_with fail
        go_ret
        exact ⟨rfl, HOZ.out⟩
      subst hck0
      have HWN : Hid (e.wr ≠ (e.at' (e.tm + 1)).wr) := hid fun hw => by
        have h1 := congrArg EM.tm (ewr_inj HGE.out (chk_good HCK.out) HRE.out HRG9.out hw)
        have h2 : e.tm = e.tm + 1 := h1
        omega
      obtain ⟨L9, hL9⟩ : ∃ x, es.set kq (e.at' (e.tm + 1)) = x := ⟨_, rfl⟩
      have HGL : Hid (∀ i x, L9[i]? = some x → x.id = ((0 + i + 1 : Nat) : Int) ∧ x.Good ∧ x.rg) := hid fun i x hi => by
        rw [← hL9] at hi
        by_cases e1 : kq = i
        · subst e1
          rw [List.getElem?_set_self hKl] at hi
          obtain rfl := Option.some.inj hi
          exact ⟨by show e.id = _; exact (hok_ids HOKE.out kq e HE.out).1, chk_good HCK.out, HRG9.out⟩
        · rw [List.getElem?_set_ne e1] at hi
          exact ⟨(hok_ids HOKE.out i x hi).1, (hok_ids HOKE.out i x hi).2, HRG.out x (List.mem_of_getElem? hi)⟩
      rw [hL9] at HEV9 HG9 HL9
      have HCLA : Hid (sumS s L9 = last → ∃ x ∈ textS s es ++ textS s L9, ∃ y ∈ textS s es ++ textS s L9, x ≠ y ∧ sha x = sha y) := hid fun h => by
        obtain ⟨x, hx, y, hy, h1, h2⟩ := clash_same es L9 s s HS32.out HS32.out (by rw [HL9.out]) (by rw [HLAST.out, h]) (.inr fun hw => by
          have h3 : (es.map EM.wr)[kq]? = (L9.map EM.wr)[kq]? := by rw [hw]
          rw [List.getElem?_map, List.getElem?_map, HE.out, HG9.out] at h3
          exact HWN.out (Option.some.inj h3))
        exact ⟨x, List.mem_append_left _ hx, y, List.mem_append_right _ hy, h1, h2⟩
      have HEVZ : Hid (∃ G : Nat → Prop, EvsV w10 G (.slice (some ⟨gb, 0, none⟩) L9.length cp8) L9 ∧ ∀ k, G k → k < w10.heap.size) := hid ⟨_, (HEV9.out.evs HW9.out cp8).same HO910.out, fun k hk => by have h1 := HO10.out.size; rcases hk with h | h <;> omega⟩
      have hL9l : L9.length = es.length := HL9.out
      clear hL9 HCH HRA HDI
      have hV := verR_end last L9 0 s (fun i x hi => ⟨(HGL.out i x hi).1, (HGL.out i x hi).2.1⟩)
      obtain ⟨C, hC⟩ : ∃ C, verR last 0 s L9 = C := ⟨_, rfl⟩
      rw [hC] at hV
      have HCO : Hid ((C = 0 ∧ sumS s L9 = last) ∨ C = 80) := hid (by
        by_cases h : sumS s L9 = last
        · rw [if_pos h] at hV; exact .inl ⟨hV, h⟩
        · rw [if_neg h] at hV; exact .inr hV)
      have HGLr : Hid (∀ x ∈ L9, x.rg ∧ x.Good) := hid fun x hx => by obtain ⟨i, hi, rfl⟩ := List.mem_iff_getElem.1 hx; have := HGL.out i _ (List.getElem?_eq_getElem hi); exact ⟨this.2.2, this.2.1⟩
      have HBZ : Hid (∀ W, Only (fun _ => False) w10 W → W.heap[w.heap.size]? = some (.cells SL 29 (0, 0))) := hid fun W hW => HBG.out W (HO10.out.trans (hW.mono (fun _ _ e => e.elim)) (fun _ _ e => e))
      have HSZ : Hid (∀ W, Only (fun _ => False) w10 W → Calls Try.prog 19 #[.pointer (some ⟨hb, 0, none⟩)] W fun x w' => x = .returned (.agg LS) ∧ Only (fun _ => False) W w') := hid fun W hW => HSU8.out W (HO10.out.trans (hW.mono (fun _ _ e => e.elim)) (fun _ _ e => e))
      have HVZ : Hid (∀ W, Only (fun _ => False) w10 W → Calls Try.prog 18 #[.agg SL, .agg LS, .slice (some ⟨gb, 0, none⟩) es.length cp8] W fun x w' => x = .returned (.int .i64 C) ∧ Only (fun _ => False) W w') := hid fun W hW => by
        obtain ⟨G, h1, h2⟩ := HEVZ.out
        have h3 := HVR8.out W L9 _ ⟨G, h1.same hW, fun k hk => Nat.lt_of_lt_of_le (h2 k hk) hW.size⟩ (fun x hx => (HGLr.out x hx).1) (by omega)
        rw [hC, hL9l] at h3
        exact h3
      have HCZ : Hid (∀ W, Only (fun _ => False) w10 W → Calls Try.prog 21 #[.agg SL, .slice a6 es.length c6, .slice (some ⟨gb, 0, none⟩) es.length cp8] W fun x w' => (∃ b : Bool, x = .returned (.bool b) ∧ ((∃ x ∈ textS s es ++ textS s L9, ∃ y ∈ textS s es ++ textS s L9, x ≠ y ∧ sha x = sha y) → b = true)) ∧ Only (fun _ => False) W w') := hid fun W hW => by
        obtain ⟨G, h1, h2⟩ := HEVZ.out
        have h3 := HCL.out W es L9 _ _ _ _ (HE8.out W (HO10.out.trans (hW.mono (fun _ _ e => e.elim)) (fun _ _ e => e))) (h1.same hW) HGG.out HGLr.out (by omega) (by omega)
        rw [hL9l] at h3
        exact h3
      have HOZ : Hid (Only (fun _ => False) w w10) := hid (HO8.out.trans HO10.out (fun k hk e => by have e' : k = gb := e; have := HO6.out.size; omega))
      clear hV hC
      go_wp2_with fail
      refine region_pt 5 [] (by kernel_rfl) (by kernel_rfl) (by kernel_rfl) [(106, fun _ v => v = .agg SL), (107, fun _ v => v = .pointer (some ⟨hb, 0, none⟩)), (108, fun _ v => v = .agg LS), (109, fun _ v => v = .slice (some ⟨gb, 0, none⟩) es.length cp8), (110, fun _ v => v = .int .i64 C)] (fun _ W => Only (fun _ => False) w10 W) (by show [106, 107, 108, 109, 110].Nodup; decide) (by show ∀ d ∈ [106, 107, 108, 109, 110], d < 121; decide) ((Only.refl _ _).drew) (.inl rfl) ?_ ?_ ?_
      · exact trivial
      · have hstab : PtStabs (Only (fun _ => False)) [(106, fun _ v => v = .agg SL), (107, fun _ v => v = .pointer (some ⟨hb, 0, none⟩)), (108, fun _ v => v = .agg LS), (109, fun _ v => v = .slice (some ⟨gb, 0, none⟩) es.length cp8), (110, fun _ v => v = .int .i64 C)] := ⟨fun _ _ _ _ h => h, fun _ _ _ _ h => h, fun _ _ _ _ h => h, fun _ _ _ _ h => h, fun _ _ _ _ h => h, trivial⟩
        refine PtAllS.cons rfl ⟨rfl, rfl⟩ ?_ (PtAllS.cons rfl ⟨rfl, rfl⟩ ?_ (PtAllS.cons rfl ⟨rfl, rfl⟩ ?_ (PtAllS.cons rfl ⟨rfl, rfl⟩ ?_ (PtAllS.cons rfl ⟨rfl, rfl⟩ ?_ (PtAllS.nil rfl)))))
        · intro L a W K hI hn hd hK
          have e3 : a.eval (.tmp 3) = .pointer (some ⟨w.heap.size, 0, none⟩) := hI.ev 3 (by show ¬ (3 ∈ [106, 107, 108, 109, 110]); decide) rfl
          exact wp_load_row _ (.tmp 3) rfl (w.heap.size) e3 29 (SL) (0, 0) _ (HBZ.out _ hI.j) Try.underlying29 rfl (HIS.out) (hK _ _ hI.j PtKeep.refl rfl)
        · intro L a W K hI hn hd hK
          have e7 : a.eval (.tmp 7) = .pointer (some ⟨hb, 0, none⟩) := hI.ev 7 (by show ¬ (7 ∈ [106, 107, 108, 109, 110]); decide) rfl
          exact pt_move _ (by first | exact .inl rfl | exact .inr rfl) _ e7 (hK _ _ hI.j PtKeep.refl rfl)
        · intro L a W K hI hn hd hK
          have e107 : a.eval (.tmp 107) = .pointer (some ⟨hb, 0, none⟩) := hI.fact 1 107 _ rfl (dep_of hd 1 (by kernel_rfl))
          refine wp_callc (f := 19) (args := #[a.eval (.tmp 107)]) (by kernel_rfl) ?_
          rw [e107]
          refine (HSZ.out _ hI.j).mono ?_
          rintro x W' ⟨rfl, ho⟩
          exact ⟨_, rfl, hK _ _ (hI.j.trans ho (fun _ _ e => e.elim)) (hstab.keep ho) rfl⟩
        · intro L a W K hI hn hd hK
          have e12 : a.eval (.tmp 12) = .slice (some ⟨gb, 0, none⟩) es.length cp8 := hI.ev 12 (by show ¬ (12 ∈ [106, 107, 108, 109, 110]); decide) rfl
          exact pt_move _ (by first | exact .inl rfl | exact .inr rfl) _ e12 (hK _ _ hI.j PtKeep.refl rfl)
        · intro L a W K hI hn hd hK
          have e106 : a.eval (.tmp 106) = .agg SL := hI.fact 0 106 _ rfl (dep_of hd 0 (by kernel_rfl))
          have e108 : a.eval (.tmp 108) = .agg LS := hI.fact 2 108 _ rfl (dep_of hd 2 (by kernel_rfl))
          have e109 : a.eval (.tmp 109) = .slice (some ⟨gb, 0, none⟩) es.length cp8 := hI.fact 3 109 _ rfl (dep_of hd 3 (by kernel_rfl))
          refine wp_callc (f := 18) (args := #[a.eval (.tmp 106), a.eval (.tmp 108), a.eval (.tmp 109)]) (by kernel_rfl) ?_
          rw [e106, e108, e109]
          refine (HVZ.out _ hI.j).mono ?_
          rintro x W' ⟨rfl, ho⟩
          exact ⟨_, rfl, hK _ _ (hI.j.trans ho (fun _ _ e => e.elim)) (hstab.keep ho) rfl⟩
      · intro L a w11 hal hj hfs
        dsimp only [PtAll] at hfs
        obtain ⟨f106, f107, f108, f109, f110, -⟩ := hfs
        have hA := hal.turned
        simp only [List.map_cons, List.map_nil, Act.turned, f106, f107, f108, f109, f110] at hA
        simp only [Act.put, List.setIfInBounds_toArray, List.set_cons_zero, List.set_cons_succ] at hA
        clear hal f106 f107 f108 f109 f110
        subst hA
        change wpList _ _ _ [_] _ _
        have HO11 := hid (HOZ.out.trans hj (fun _ _ e => e)); have HJ := hid hj
        clear hj
        rcases HCO.out with ⟨hc0, hsum⟩ | hc80
        · subst hc0
          have HB11 := hid (HBZ.out _ HJ.out)
          go_wp2_with ((guard_target =~ wpList _ _ _ (⟨some 116, _, _, _, _, _⟩ :: _) _ _); refine wpList_want (by rfl) (fun K hK => wp_load_row 29 (.tmp 3) rfl w.heap.size rfl 29 SL (0, 0) _ HB11.out Try.underlying29 rfl HIS.out (hK _ _ ?_)))
          refine (HCZ.out _ HJ.out).mono ?_
          rintro x w12 ⟨⟨bb, rfl, hbb⟩, ho12⟩
          have hbt := hbb (HCLA.out hsum)
          subst hbt
          have HO12 := hid (HO11.out.trans ho12 (fun _ _ e => e))
          clear ho12 hbb
          go_wp2_with fail
          go_ret
          exact ⟨rfl, HO12.out⟩
        · subst hc80
          go_wp2_with fail
          go_ret
          exact ⟨rfl, HO11.out⟩
    by_cases hq1 : b1 = 1
    · subst hq1
      by_cases hK0 : kq = 0
      · subst hK0
        go_wp2_with fail
        go_ret
        exact ⟨rfl, HO8.out⟩
      have hKp : ¬ (kq : Int) = 0 := by omega
      have hKb : ((kq : Int) == 0) = false := by simpa using hK0
      have hcp8 := blk_lt HARR.out
      have hcap8 : es.length ≤ cp8 := HCP8.out
      have hsl : ∀ W : World, (Instr.sliceAt 22 (.slice (some ⟨gb, 0, none⟩) es.length cp8) none (some (.int .i64 kq)) none).run Try.prog W = .ok (.slice (some ⟨gb, 0, none⟩) kq cp8) W := fun W => by
        have hso : (sizeOf 44).run Try.prog W = .ok 11 W := by kernel_rfl
        have hT := Try.underlying22
        have h1 : kq ≤ cp8 := by omega
        go_simp
      have hsl8 := hsl w8
      have HL9 : Hid ((es.take kq).length = kq) := hid (by rw [List.length_take]; omega)
      have HCLA : Hid (sumS s (es.take kq) = last → ∃ x ∈ textS s es ++ textS s (es.take kq), ∃ y ∈ textS s es ++ textS s (es.take kq), x ≠ y ∧ sha x = sha y) := hid fun h => by
        obtain ⟨x, hx, y, hy, h1, h2⟩ := clash_short (es := es) HS32.out (by omega : 0 < kq) hKl (ids_wr HOKE.out) (by rw [HLAST.out, h])
        exact ⟨x, List.mem_append_left _ hx, y, List.mem_append_left _ hy, h1, h2⟩
      have HGL : Hid (∀ i x, (es.take kq)[i]? = some x → x.id = ((0 + i + 1 : Nat) : Int) ∧ x.Good ∧ x.rg) := hid fun i x hi => by
        have hiK : i < kq := by
          rcases Nat.lt_or_ge i kq with h | h
          · exact h
          · rw [List.getElem?_eq_none (by rw [List.length_take]; omega)] at hi; cases hi
        rw [List.getElem?_take_of_lt hiK] at hi
        exact ⟨(hok_ids HOKE.out i x hi).1, (hok_ids HOKE.out i x hi).2, HRG.out x (List.mem_of_getElem? hi)⟩
      obtain ⟨L9, hL9⟩ : ∃ x, es.take kq = x := ⟨_, rfl⟩
      have hE9 := (HEVB.out.1.take kq).evs HARR.out cp8
      rw [hL9] at hE9 HL9 HCLA HGL
      have HEVZ : Hid (∃ G : Nat → Prop, EvsV w8 G (.slice (some ⟨gb, 0, none⟩) L9.length cp8) L9 ∧ ∀ k, G k → k < w8.heap.size) := hid ⟨_, hE9, fun k hk => by rcases hk with h | h <;> omega⟩
      have hL9l : L9.length = kq := HL9.out
      have HOS : Hid (Only (fun k => k = gb) w8 w8) := hid (Only.refl _ _)
      clear hL9 hsl hK0 hE9
      have hV := verR_end last L9 0 s (fun i x hi => ⟨(HGL.out i x hi).1, (HGL.out i x hi).2.1⟩)
      obtain ⟨C, hC⟩ : ∃ C, verR last 0 s L9 = C := ⟨_, rfl⟩
      rw [hC] at hV
      have HCO : Hid ((C = 0 ∧ sumS s L9 = last) ∨ C = 80) := hid (by
        by_cases h : sumS s L9 = last
        · rw [if_pos h] at hV; exact .inl ⟨hV, h⟩
        · rw [if_neg h] at hV; exact .inr hV)
      have HGLr : Hid (∀ x ∈ L9, x.rg ∧ x.Good) := hid fun x hx => by obtain ⟨i, hi, rfl⟩ := List.mem_iff_getElem.1 hx; have := HGL.out i _ (List.getElem?_eq_getElem hi); exact ⟨this.2.2, this.2.1⟩
      have HBZ : Hid (∀ W, Only (fun _ => False) w8 W → W.heap[w.heap.size]? = some (.cells SL 29 (0, 0))) := hid fun W hW => HBG.out W (HOS.out.trans (hW.mono (fun _ _ e => e.elim)) (fun _ _ e => e))
      have HSZ : Hid (∀ W, Only (fun _ => False) w8 W → Calls Try.prog 19 #[.pointer (some ⟨hb, 0, none⟩)] W fun x w' => x = .returned (.agg LS) ∧ Only (fun _ => False) W w') := hid fun W hW => HSU8.out W (HOS.out.trans (hW.mono (fun _ _ e => e.elim)) (fun _ _ e => e))
      have HVZ : Hid (∀ W, Only (fun _ => False) w8 W → Calls Try.prog 18 #[.agg SL, .agg LS, .slice (some ⟨gb, 0, none⟩) kq cp8] W fun x w' => x = .returned (.int .i64 C) ∧ Only (fun _ => False) W w') := hid fun W hW => by
        obtain ⟨G, h1, h2⟩ := HEVZ.out
        have h3 := HVR8.out W L9 _ ⟨G, h1.same hW, fun k hk => Nat.lt_of_lt_of_le (h2 k hk) hW.size⟩ (fun x hx => (HGLr.out x hx).1) (by omega)
        rw [hC, hL9l] at h3
        exact h3
      have HCZ : Hid (∀ W, Only (fun _ => False) w8 W → Calls Try.prog 21 #[.agg SL, .slice a6 es.length c6, .slice (some ⟨gb, 0, none⟩) kq cp8] W fun x w' => (∃ b : Bool, x = .returned (.bool b) ∧ ((∃ x ∈ textS s es ++ textS s L9, ∃ y ∈ textS s es ++ textS s L9, x ≠ y ∧ sha x = sha y) → b = true)) ∧ Only (fun _ => False) W w') := hid fun W hW => by
        obtain ⟨G, h1, h2⟩ := HEVZ.out
        have h3 := HCL.out W es L9 _ _ _ _ (HE8.out W (HOS.out.trans (hW.mono (fun _ _ e => e.elim)) (fun _ _ e => e))) (h1.same hW) HGG.out HGLr.out (by omega) (by omega)
        rw [hL9l] at h3
        exact h3
      have HOZ : Hid (Only (fun _ => False) w w8) := hid (HO8.out.trans HOS.out (fun k hk e => by have e' : k = gb := e; have := HO6.out.size; omega))
      clear hV hC
      go_wp2_with fail
      refine region_pt 5 [] (by kernel_rfl) (by kernel_rfl) (by kernel_rfl) [(106, fun _ v => v = .agg SL), (107, fun _ v => v = .pointer (some ⟨hb, 0, none⟩)), (108, fun _ v => v = .agg LS), (109, fun _ v => v = .slice (some ⟨gb, 0, none⟩) kq cp8), (110, fun _ v => v = .int .i64 C)] (fun _ W => Only (fun _ => False) w8 W) (by show [106, 107, 108, 109, 110].Nodup; decide) (by show ∀ d ∈ [106, 107, 108, 109, 110], d < 121; decide) ((Only.refl _ _).drew) (.inl rfl) ?_ ?_ ?_
      · exact trivial
      · have hstab : PtStabs (Only (fun _ => False)) [(106, fun _ v => v = .agg SL), (107, fun _ v => v = .pointer (some ⟨hb, 0, none⟩)), (108, fun _ v => v = .agg LS), (109, fun _ v => v = .slice (some ⟨gb, 0, none⟩) kq cp8), (110, fun _ v => v = .int .i64 C)] := ⟨fun _ _ _ _ h => h, fun _ _ _ _ h => h, fun _ _ _ _ h => h, fun _ _ _ _ h => h, fun _ _ _ _ h => h, trivial⟩
        refine PtAllS.cons rfl ⟨rfl, rfl⟩ ?_ (PtAllS.cons rfl ⟨rfl, rfl⟩ ?_ (PtAllS.cons rfl ⟨rfl, rfl⟩ ?_ (PtAllS.cons rfl ⟨rfl, rfl⟩ ?_ (PtAllS.cons rfl ⟨rfl, rfl⟩ ?_ (PtAllS.nil rfl)))))
        · intro L a W K hI hn hd hK
          have e3 : a.eval (.tmp 3) = .pointer (some ⟨w.heap.size, 0, none⟩) := hI.ev 3 (by show ¬ (3 ∈ [106, 107, 108, 109, 110]); decide) rfl
          exact wp_load_row _ (.tmp 3) rfl (w.heap.size) e3 29 (SL) (0, 0) _ (HBZ.out _ hI.j) Try.underlying29 rfl (HIS.out) (hK _ _ hI.j PtKeep.refl rfl)
        · intro L a W K hI hn hd hK
          have e7 : a.eval (.tmp 7) = .pointer (some ⟨hb, 0, none⟩) := hI.ev 7 (by show ¬ (7 ∈ [106, 107, 108, 109, 110]); decide) rfl
          exact pt_move _ (by first | exact .inl rfl | exact .inr rfl) _ e7 (hK _ _ hI.j PtKeep.refl rfl)
        · intro L a W K hI hn hd hK
          have e107 : a.eval (.tmp 107) = .pointer (some ⟨hb, 0, none⟩) := hI.fact 1 107 _ rfl (dep_of hd 1 (by kernel_rfl))
          refine wp_callc (f := 19) (args := #[a.eval (.tmp 107)]) (by kernel_rfl) ?_
          rw [e107]
          refine (HSZ.out _ hI.j).mono ?_
          rintro x W' ⟨rfl, ho⟩
          exact ⟨_, rfl, hK _ _ (hI.j.trans ho (fun _ _ e => e.elim)) (hstab.keep ho) rfl⟩
        · intro L a W K hI hn hd hK
          have e12 : a.eval (.tmp 12) = .slice (some ⟨gb, 0, none⟩) kq cp8 := hI.ev 12 (by show ¬ (12 ∈ [106, 107, 108, 109, 110]); decide) rfl
          exact pt_move _ (by first | exact .inl rfl | exact .inr rfl) _ e12 (hK _ _ hI.j PtKeep.refl rfl)
        · intro L a W K hI hn hd hK
          have e106 : a.eval (.tmp 106) = .agg SL := hI.fact 0 106 _ rfl (dep_of hd 0 (by kernel_rfl))
          have e108 : a.eval (.tmp 108) = .agg LS := hI.fact 2 108 _ rfl (dep_of hd 2 (by kernel_rfl))
          have e109 : a.eval (.tmp 109) = .slice (some ⟨gb, 0, none⟩) kq cp8 := hI.fact 3 109 _ rfl (dep_of hd 3 (by kernel_rfl))
          refine wp_callc (f := 18) (args := #[a.eval (.tmp 106), a.eval (.tmp 108), a.eval (.tmp 109)]) (by kernel_rfl) ?_
          rw [e106, e108, e109]
          refine (HVZ.out _ hI.j).mono ?_
          rintro x W' ⟨rfl, ho⟩
          exact ⟨_, rfl, hK _ _ (hI.j.trans ho (fun _ _ e => e.elim)) (hstab.keep ho) rfl⟩
      · intro L a w11 hal hj hfs
        dsimp only [PtAll] at hfs
        obtain ⟨f106, f107, f108, f109, f110, -⟩ := hfs
        have hA := hal.turned
        simp only [List.map_cons, List.map_nil, Act.turned, f106, f107, f108, f109, f110] at hA
        simp only [Act.put, List.setIfInBounds_toArray, List.set_cons_zero, List.set_cons_succ] at hA
        clear hal f106 f107 f108 f109 f110
        subst hA
        change wpList _ _ _ [_] _ _
        have HO11 := hid (HOZ.out.trans hj (fun _ _ e => e)); have HJ := hid hj
        clear hj
        rcases HCO.out with ⟨hc0, hsum⟩ | hc80
        · subst hc0
          have HB11 := hid (HBZ.out _ HJ.out)
          go_wp2_with ((guard_target =~ wpList _ _ _ (⟨some 116, _, _, _, _, _⟩ :: _) _ _); refine wpList_want (by rfl) (fun K hK => wp_load_row 29 (.tmp 3) rfl w.heap.size rfl 29 SL (0, 0) _ HB11.out Try.underlying29 rfl HIS.out (hK _ _ ?_)))
          refine (HCZ.out _ HJ.out).mono ?_
          rintro x w12 ⟨⟨bb, rfl, hbb⟩, ho12⟩
          have hbt := hbb (HCLA.out hsum)
          subst hbt
          have HO12 := hid (HO11.out.trans ho12 (fun _ _ e => e))
          clear ho12 hbb
          go_wp2_with fail
          go_ret
          exact ⟨rfl, HO12.out⟩
        · subst hc80
          go_wp2_with fail
          go_ret
          exact ⟨rfl, HO11.out⟩
    by_cases hq2 : b1 = 2
    · subst hq2
      by_cases hK0 : kq = 0
      · subst hK0
        go_wp2_with fail
        go_ret
        exact ⟨rfl, HO8.out⟩
      have hKp : ¬ (kq : Int) = 0 := by omega
      have hKb : ((kq : Int) == 0) = false := by simpa using hK0
      obtain ⟨M, rfl⟩ : ∃ M, kq = M + 1 := ⟨kq - 1, by omega⟩
      obtain ⟨e, he⟩ : ∃ e, es[M + 1]? = some e := ⟨_, List.getElem?_eq_getElem hKl⟩
      obtain ⟨f, hf⟩ : ∃ e, es[M]? = some e := ⟨_, List.getElem?_eq_getElem (by omega)⟩
      obtain ⟨cs, hcs, hEe⟩ := HEVB.out.1 (M + 1) e he
      obtain ⟨ds, hds, hEf⟩ := HEVB.out.1 M f hf
      have hc11 := hEe.len11; have hd11 := hEf.len11
      have hsz := HEVB.out.2
      have hcone : ∀ u ∈ cs, u.oneCell' = true := by obtain ⟨k, m, s, a, b, c, rfl, -⟩ := hEe.form; exact ev_ones _ _ _ _ _ _ _ _ _ _ _ _ _
      have hdone : ∀ u ∈ ds, u.oneCell' = true := by obtain ⟨k, m, s, a, b, c, rfl, -⟩ := hEf.form; exact ev_ones _ _ _ _ _ _ _ _ _ _ _ _ _
      have HRE : Hid (∀ W, Only (fun _ => False) w8 W → W.rangeAt gb ((M + 1) * 11) cs) := hid fun W hW j u hj => by rw [cell_blk (blk_only HARR.out hW (fun e => e))]; exact hcs j u hj
      have HRF : Hid (∀ W, Only (fun _ => False) w8 W → W.rangeAt gb (M * 11) ds) := hid fun W hW j u hj => by rw [cell_blk (blk_only HARR.out hW (fun e => e))]; exact hds j u hj
      have HCI : Hid ((Try.prog.info? 44).map (·.size) = some cs.length) := hid (by rw [info_ev, hc11])
      have HDI : Hid ((Try.prog.info? 44).map (·.size) = some ds.length) := hid (by rw [info_ev, hd11])
      have HE := hid he; have HF := hid hf; have HEE := hid hEe; have HEF := hid hEf; have HC11 := hid hc11; have HD11 := hid hd11; have HSZ := hid hsz; have HCO := hid hcone; have HDO := hid hdone
      have hwk : IntKind.i64.wrap (((M + 1 : Nat) : Int) - 1) = (M : Nat) := by rw [show ((M + 1 : Nat) : Int) - 1 = (M : Nat) from by omega]; exact IntWalk.i64_in _ (by omega)
      clear he hf hcs hds hEe hEf hc11 hd11 hsz hcone hdone c0
      go_wp2_with fail
      refine wp_region_noPanic ?_
      refine region_pt 14 [2, 3, 4] (by kernel_rfl) (by kernel_rfl) (by kernel_rfl) [(84, fun _ v => v = .slice (some ⟨gb, 0, none⟩) es.length cp8), (85, fun _ v => v = .int .i64 ((M + 1 : Nat))), (86, fun _ v => v = .slice (some ⟨gb, 0, none⟩) es.length cp8), (87, fun _ v => v = .int .i64 ((M + 1 : Nat))), (88, fun _ v => v = .int .i64 (M : Nat)), (89, fun _ v => v = .slice (some ⟨gb, 0, none⟩) es.length cp8), (90, fun _ v => v = .int .i64 ((M + 1 : Nat))), (91, fun _ v => v = .int .i64 (M : Nat)), (92, fun _ v => v = .pointer (some ⟨gb, 0 + M * 11, none⟩)), (93, fun _ v => v = .agg (ds).toArray), (94, fun _ v => v = .slice (some ⟨gb, 0, none⟩) es.length cp8), (95, fun _ v => v = .int .i64 ((M + 1 : Nat))), (96, fun _ v => v = .pointer (some ⟨gb, 0 + (M + 1) * 11, none⟩)), (97, fun _ v => v = .agg (cs).toArray)] (fun _ W => Only (fun _ => False) w8 W) (by show [84, 85, 86, 87, 88, 89, 90, 91, 92, 93, 94, 95, 96, 97].Nodup; decide) (by show ∀ d ∈ [84, 85, 86, 87, 88, 89, 90, 91, 92, 93, 94, 95, 96, 97], d < 121; decide) ((Only.refl _ _).drew) (.inr (fun _ _ _ _ _ h => h)) ?_ ?_ ?_
      · refine ⟨?_, ?_, ?_, trivial⟩
        · refine ⟨_, _, _, _, rfl, rfl, rfl, fun _ _ h => h, fun L a W hI hd => ?_⟩
          have e12 : a.eval (.tmp 12) = .slice (some ⟨gb, 0, none⟩) es.length cp8 := hI.ev 12 (by show ¬ (12 ∈ [84, 85, 86, 87, 88, 89, 90, 91, 92, 93, 94, 95, 96, 97]); decide) rfl
          exact ⟨.slice (some ⟨gb, 0, none⟩) es.length cp8, fun W => pt_mv _ _ (by first | exact .inl rfl | exact .inr rfl) _ e12, fun W => rfl⟩
        · refine ⟨_, _, _, _, rfl, rfl, rfl, fun _ _ h => h, fun L a W hI hd => ?_⟩
          have e11 : a.eval (.tmp 11) = .int .i64 ((M + 1 : Nat)) := hI.ev 11 (by show ¬ (11 ∈ [84, 85, 86, 87, 88, 89, 90, 91, 92, 93, 94, 95, 96, 97]); decide) rfl
          exact ⟨.int .i64 ((M + 1 : Nat)), fun W => pt_mv _ _ (by first | exact .inl rfl | exact .inr rfl) _ e11, fun W => rfl⟩
        · refine ⟨_, _, _, _, rfl, rfl, rfl, fun _ _ h => h, fun L a W hI hd => ?_⟩
          have e87 : a.eval (.tmp 87) = .int .i64 ((M + 1 : Nat)) := hI.fact 3 87 _ rfl (dep_of hd 3 (by kernel_rfl))
          exact ⟨.int .i64 (M : Nat), fun W => ex_sub1 rfl e87 hwk, fun W => rfl⟩
      · have hstab : PtStabs (Only (fun _ => False)) [(84, fun _ v => v = .slice (some ⟨gb, 0, none⟩) es.length cp8), (85, fun _ v => v = .int .i64 ((M + 1 : Nat))), (86, fun _ v => v = .slice (some ⟨gb, 0, none⟩) es.length cp8), (87, fun _ v => v = .int .i64 ((M + 1 : Nat))), (88, fun _ v => v = .int .i64 (M : Nat)), (89, fun _ v => v = .slice (some ⟨gb, 0, none⟩) es.length cp8), (90, fun _ v => v = .int .i64 ((M + 1 : Nat))), (91, fun _ v => v = .int .i64 (M : Nat)), (92, fun _ v => v = .pointer (some ⟨gb, 0 + M * 11, none⟩)), (93, fun _ v => v = .agg (ds).toArray), (94, fun _ v => v = .slice (some ⟨gb, 0, none⟩) es.length cp8), (95, fun _ v => v = .int .i64 ((M + 1 : Nat))), (96, fun _ v => v = .pointer (some ⟨gb, 0 + (M + 1) * 11, none⟩)), (97, fun _ v => v = .agg (cs).toArray)] := ⟨fun _ _ _ _ h => h, fun _ _ _ _ h => h, fun _ _ _ _ h => h, fun _ _ _ _ h => h, fun _ _ _ _ h => h, fun _ _ _ _ h => h, fun _ _ _ _ h => h, fun _ _ _ _ h => h, fun _ _ _ _ h => h, fun _ _ _ _ h => h, fun _ _ _ _ h => h, fun _ _ _ _ h => h, fun _ _ _ _ h => h, fun _ _ _ _ h => h, trivial⟩
        refine PtAllS.cons rfl ⟨rfl, rfl⟩ ?_ (PtAllS.cons rfl ⟨rfl, rfl⟩ ?_ (PtAllS.cons rfl ⟨rfl, rfl⟩ ?_ (PtAllS.cons rfl ⟨rfl, rfl⟩ ?_ (PtAllS.cons rfl ⟨rfl, rfl⟩ ?_ (PtAllS.cons rfl ⟨rfl, rfl⟩ ?_ (PtAllS.cons rfl ⟨rfl, rfl⟩ ?_ (PtAllS.cons rfl ⟨rfl, rfl⟩ ?_ (PtAllS.cons rfl ⟨rfl, rfl⟩ ?_ (PtAllS.cons rfl ⟨rfl, rfl⟩ ?_ (PtAllS.cons rfl ⟨rfl, rfl⟩ ?_ (PtAllS.cons rfl ⟨rfl, rfl⟩ ?_ (PtAllS.cons rfl ⟨rfl, rfl⟩ ?_ (PtAllS.cons rfl ⟨rfl, rfl⟩ ?_ (PtAllS.nil rfl))))))))))))))
        · intro L a W K hI hn hd hK
          have e12 : a.eval (.tmp 12) = .slice (some ⟨gb, 0, none⟩) es.length cp8 := hI.ev 12 (by show ¬ (12 ∈ [84, 85, 86, 87, 88, 89, 90, 91, 92, 93, 94, 95, 96, 97]); decide) rfl
          exact pt_move _ (by first | exact .inl rfl | exact .inr rfl) _ e12 (hK _ _ hI.j PtKeep.refl rfl)
        · intro L a W K hI hn hd hK
          have e11 : a.eval (.tmp 11) = .int .i64 ((M + 1 : Nat)) := hI.ev 11 (by show ¬ (11 ∈ [84, 85, 86, 87, 88, 89, 90, 91, 92, 93, 94, 95, 96, 97]); decide) rfl
          exact pt_move _ (by first | exact .inl rfl | exact .inr rfl) _ e11 (hK _ _ hI.j PtKeep.refl rfl)
        · intro L a W K hI hn hd hK
          have e12 : a.eval (.tmp 12) = .slice (some ⟨gb, 0, none⟩) es.length cp8 := hI.ev 12 (by show ¬ (12 ∈ [84, 85, 86, 87, 88, 89, 90, 91, 92, 93, 94, 95, 96, 97]); decide) rfl
          exact pt_move _ (by first | exact .inl rfl | exact .inr rfl) _ e12 (hK _ _ hI.j PtKeep.refl rfl)
        · intro L a W K hI hn hd hK
          have e11 : a.eval (.tmp 11) = .int .i64 ((M + 1 : Nat)) := hI.ev 11 (by show ¬ (11 ∈ [84, 85, 86, 87, 88, 89, 90, 91, 92, 93, 94, 95, 96, 97]); decide) rfl
          exact pt_move _ (by first | exact .inl rfl | exact .inr rfl) _ e11 (hK _ _ hI.j PtKeep.refl rfl)
        · intro L a W K hI hn hd hK
          have e87 : a.eval (.tmp 87) = .int .i64 ((M + 1 : Nat)) := hI.fact 3 87 _ rfl (dep_of hd 3 (by kernel_rfl))
          exact pt_val (v := .int .i64 (M : Nat)) (ex_sub1 rfl e87 hwk) (hK _ _ hI.j PtKeep.refl rfl)
        · intro L a W K hI hn hd hK
          have e12 : a.eval (.tmp 12) = .slice (some ⟨gb, 0, none⟩) es.length cp8 := hI.ev 12 (by show ¬ (12 ∈ [84, 85, 86, 87, 88, 89, 90, 91, 92, 93, 94, 95, 96, 97]); decide) rfl
          exact pt_move _ (by first | exact .inl rfl | exact .inr rfl) _ e12 (hK _ _ hI.j PtKeep.refl rfl)
        · intro L a W K hI hn hd hK
          have e11 : a.eval (.tmp 11) = .int .i64 ((M + 1 : Nat)) := hI.ev 11 (by show ¬ (11 ∈ [84, 85, 86, 87, 88, 89, 90, 91, 92, 93, 94, 95, 96, 97]); decide) rfl
          exact pt_move _ (by first | exact .inl rfl | exact .inr rfl) _ e11 (hK _ _ hI.j PtKeep.refl rfl)
        · intro L a W K hI hn hd hK
          have e90 : a.eval (.tmp 90) = .int .i64 ((M + 1 : Nat)) := hI.fact 6 90 _ rfl (dep_of hd 6 (by kernel_rfl))
          exact pt_val (v := .int .i64 (M : Nat)) (ex_sub1 rfl e90 hwk) (hK _ _ hI.j PtKeep.refl rfl)
        · intro L a W K hI hn hd hK
          have e89 : a.eval (.tmp 89) = .slice (some ⟨gb, 0, none⟩) es.length cp8 := hI.fact 5 89 _ rfl (dep_of hd 5 (by kernel_rfl))
          have e91 : a.eval (.tmp 91) = .int .i64 (M : Nat) := hI.fact 7 91 _ rfl (dep_of hd 7 (by kernel_rfl))
          exact pt_val (v := .pointer (some ⟨gb, 0 + M * 11, none⟩)) (ex_idx rfl e89 e91 Try.underlying22 info_ev (by omega)) (hK _ _ hI.j PtKeep.refl rfl)
        · intro L a W K hI hn hd hK
          have e92 : a.eval (.tmp 92) = .pointer (some ⟨gb, 0 + M * 11, none⟩) := hI.fact 8 92 _ rfl (dep_of hd 8 (by kernel_rfl))
          exact wp_load_mid _ (.tmp 92) rfl (gb) (0 + M * 11) e92 (ds) _ ((by rw [Nat.zero_add]; exact HRF.out _ hI.j)) Try.underlying44 rfl (HDI.out) (hK _ _ hI.j PtKeep.refl rfl)
        · intro L a W K hI hn hd hK
          have e12 : a.eval (.tmp 12) = .slice (some ⟨gb, 0, none⟩) es.length cp8 := hI.ev 12 (by show ¬ (12 ∈ [84, 85, 86, 87, 88, 89, 90, 91, 92, 93, 94, 95, 96, 97]); decide) rfl
          exact pt_move _ (by first | exact .inl rfl | exact .inr rfl) _ e12 (hK _ _ hI.j PtKeep.refl rfl)
        · intro L a W K hI hn hd hK
          have e11 : a.eval (.tmp 11) = .int .i64 ((M + 1 : Nat)) := hI.ev 11 (by show ¬ (11 ∈ [84, 85, 86, 87, 88, 89, 90, 91, 92, 93, 94, 95, 96, 97]); decide) rfl
          exact pt_move _ (by first | exact .inl rfl | exact .inr rfl) _ e11 (hK _ _ hI.j PtKeep.refl rfl)
        · intro L a W K hI hn hd hK
          have e94 : a.eval (.tmp 94) = .slice (some ⟨gb, 0, none⟩) es.length cp8 := hI.fact 10 94 _ rfl (dep_of hd 10 (by kernel_rfl))
          have e95 : a.eval (.tmp 95) = .int .i64 ((M + 1 : Nat)) := hI.fact 11 95 _ rfl (dep_of hd 11 (by kernel_rfl))
          exact pt_val (v := .pointer (some ⟨gb, 0 + (M + 1) * 11, none⟩)) (ex_idx rfl e94 e95 Try.underlying22 info_ev hKl) (hK _ _ hI.j PtKeep.refl rfl)
        · intro L a W K hI hn hd hK
          have e96 : a.eval (.tmp 96) = .pointer (some ⟨gb, 0 + (M + 1) * 11, none⟩) := hI.fact 12 96 _ rfl (dep_of hd 12 (by kernel_rfl))
          exact wp_load_mid _ (.tmp 96) rfl (gb) (0 + (M + 1) * 11) e96 (cs) _ ((by rw [Nat.zero_add]; exact HRE.out _ hI.j)) Try.underlying44 rfl (HCI.out) (hK _ _ hI.j PtKeep.refl rfl)
      · intro L a w9 hal hj hfs
        dsimp only [PtAll] at hfs
        obtain ⟨f84, f85, f86, f87, f88, f89, f90, f91, f92, f93, f94, f95, f96, f97, -⟩ := hfs
        have hA := hal.turned
        simp only [List.map_cons, List.map_nil, Act.turned, f84, f85, f86, f87, f88, f89, f90, f91, f92, f93, f94, f95, f96, f97] at hA
        simp only [Act.put, List.setIfInBounds_toArray, List.set_cons_zero, List.set_cons_succ] at hA
        clear hal f84 f85 f86 f87 f88 f89 f90 f91 f92 f93 f94 f95 f96 f97
        subst hA
        change wpList _ _ _ [_, _, _, _] _ _
        have HJ := hid hj
        have HA9 := hid (blk_only HARR.out hj (fun e => e))
        have hz9 := hj.size
        have hfit1 : (M + 1) * 11 + ds.toArray.size ≤ arr.size := by have := HSZ.out; have := HD11.out; rw [List.size_toArray]; omega
        have hlsz : (lay arr.toList ((M + 1) * 11) ds).length = arr.size := by rw [length_lay _ _ _ (by have := hfit1; rw [List.size_toArray] at this; simpa using this)]; simp
        have hfit2 : M * 11 + cs.toArray.size ≤ (lay arr.toList ((M + 1) * 11) ds).toArray.size := by rw [show (lay arr.toList ((M + 1) * 11) ds).toArray.size = arr.size from hlsz, List.size_toArray]; have := HSZ.out; have := HC11.out; omega
        have HFIT1 := hid hfit1; have HFIT2 := hid hfit2
        have HDA : Hid ((Try.prog.info? 44).map (·.size) = some ds.toArray.size) := hid (by rw [info_ev, List.size_toArray, HD11.out])
        have HCA : Hid ((Try.prog.info? 44).map (·.size) = some cs.toArray.size) := hid (by rw [info_ev, List.size_toArray, HC11.out])
        have HDO1 : Hid (ds.toArray.all (·.oneCell') = true) := hid (by rw [Array.all_eq_true_iff_forall_mem]; intro u hu; exact HDO.out u (by simpa using hu))
        have HCO1 : Hid (cs.toArray.all (·.oneCell') = true) := hid (by rw [Array.all_eq_true_iff_forall_mem]; intro u hu; exact HCO.out u (by simpa using hu))
        obtain ⟨dA, hdA⟩ : ∃ x, ds.toArray = x := ⟨_, rfl⟩
        obtain ⟨cA, hcA⟩ : ∃ x, cs.toArray = x := ⟨_, rfl⟩
        have hdL : dA.toList = ds := by rw [← hdA]
        have hcL : cA.toList = cs := by rw [← hcA]
        rw [hdA] at HFIT1 HDA HDO1
        rw [hcA] at HFIT2 HCA HCO1
        have HdL := hid hdL; have HcL := hid hcL
        clear hj hfit1 hlsz hfit2 hdL hcL
        try rw [hdA]
        try rw [hcA]
        clear hdA hcA
        go_wp2_with (first
          | ((guard_target =~ wpList _ _ _ (⟨none, .store _ (.tmp 98) _, _, _, _, _⟩ :: _) _ _); refine wpList_store_in rfl 44 (.tmp 98) (.tmp 93) rfl gb ((M + 1) * 11) dA (by first | rfl | (rw [Nat.zero_add]; rfl)) rfl arr 44 HA9.out HFIT1.out HDA.out HDO1.out ?_; intro wa hba hoa hsa; rw [HdL.out] at hba; have HBA := hid hba; have HOA := hid hoa; clear hba hoa hsa)
          | ((guard_target =~ wpList _ _ _ (⟨none, .store _ (.tmp 99) _, _, _, _, _⟩ :: _) _ _); refine wpList_store_in rfl 44 (.tmp 99) (.tmp 97) rfl gb (M * 11) cA (by first | rfl | (rw [Nat.zero_add]; rfl)) rfl _ 44 HBA.out HFIT2.out HCA.out HCO1.out ?_; intro wb hbb hob hsb; rw [HcL.out] at hbb; have HBB9 := hid hbb; have HOB := hid hob; clear hbb hob hsb))
        refine NoPanic.normal ?_
        have HOW : Hid (Only (fun k => k = gb) w8 wb) := hid (((HJ.out.mono (fun _ _ e => e.elim)).trans HOA.out (fun _ _ e => e)).trans HOB.out (fun _ _ e => e))
        have hwbz := HOW.out.size
        have hlen1 : (es.set (M + 1) f).length = es.length := by simp
        have hlay : (lay arr.toList ((M + 1) * 11) ds).toArray.size = arr.size := by rw [show (lay arr.toList ((M + 1) * 11) ds).toArray.size = (lay arr.toList ((M + 1) * 11) ds).length from rfl, length_lay _ _ _ (by have h1 := HSZ.out; have h2 := HD11.out; have h3 := Array.length_toList (xs := arr); omega)]; simp
        have hbn8 : ∀ k, k < w7.heap.size → ¬ k = gb := fun k hk e => by omega
        have hevb : Evb wb (fun k => k < w7.heap.size) (lay (lay arr.toList ((M + 1) * 11) ds).toArray.toList (M * 11) cs).toArray ((es.set (M + 1) f).set M e) :=
          ((HEVB.out.1.only HOW.out hbn8).put (HEF.out.only HOW.out hbn8) (by have h1 := HSZ.out; omega)).put (HEE.out.only HOW.out hbn8) (by rw [hlay]; have h1 := HSZ.out; omega)
        have hgl : ∀ x ∈ (es.set (M + 1) f).set M e, x.rg := fun x hx => by
          rcases List.mem_or_eq_of_mem_set hx with h | h
          · rcases List.mem_or_eq_of_mem_set h with h | h
            · exact HRG.out x h
            · rw [h]; exact HRG.out f (List.mem_of_getElem? HF.out)
          · rw [h]; exact HRG.out e (List.mem_of_getElem? HE.out)
        have hbad : verR last 0 s ((es.set (M + 1) f).set M e) = 180 := by
          refine verR_bad last _ 0 M s e (fun i x hi hx => ?_) (by rw [List.getElem?_set_self (by rw [hlen1]; omega)]) (by have h1 := (hok_ids HOKE.out (M + 1) e HE.out).1; omega)
          rw [List.getElem?_set_ne (by omega), List.getElem?_set_ne (by omega)] at hx
          exact hok_ids HOKE.out i x hx
        have hll2 : ((es.set (M + 1) f).set M e).length = es.length := by simp
        have HBZ : Hid (∀ W, Only (fun _ => False) wb W → W.heap[w.heap.size]? = some (.cells SL 29 (0, 0))) := hid fun W hW => HBG.out W (HOW.out.trans (hW.mono (fun _ _ e => e.elim)) (fun _ _ e => e))
        have HSZ2 : Hid (∀ W, Only (fun _ => False) wb W → Calls Try.prog 19 #[.pointer (some ⟨hb, 0, none⟩)] W fun x w' => x = .returned (.agg LS) ∧ Only (fun _ => False) W w') := hid fun W hW => HSU8.out W (HOW.out.trans (hW.mono (fun _ _ e => e.elim)) (fun _ _ e => e))
        have HVZ : Hid (∀ W, Only (fun _ => False) wb W → Calls Try.prog 18 #[.agg SL, .agg LS, .slice (some ⟨gb, 0, none⟩) es.length cp8] W fun x w' => x = .returned (.int .i64 180) ∧ Only (fun _ => False) W w') := hid fun W hW => by
          have h1 := hevb.evs HBB9.out cp8
          rw [hll2] at h1
          have h3 := HVR8.out W ((es.set (M + 1) f).set M e) _ ⟨_, h1.same hW, fun k hk => by have := hW.size; rcases hk with h | h <;> omega⟩ hgl (by rw [hll2]; omega)
          rw [hbad] at h3
          exact h3
        have HOZ : Hid (Only (fun _ => False) w wb) := hid (HO8.out.trans HOW.out (fun k hk e => by have e' : k = gb := e; have := HO6.out.size; omega))
        clear hlen1 hlay hevb hgl hbad hll2
        go_wp2_with fail
        refine region_pt 6 [] (by kernel_rfl) (by kernel_rfl) (by kernel_rfl) [(100, fun _ v => v = .agg SL), (101, fun _ v => v = .pointer (some ⟨hb, 0, none⟩)), (102, fun _ v => v = .agg LS), (103, fun _ v => v = .slice (some ⟨gb, 0, none⟩) es.length cp8), (104, fun _ v => v = .int .i64 180), (105, fun _ v => v = .bool true)] (fun _ W => Only (fun _ => False) wb W) (by show [100, 101, 102, 103, 104, 105].Nodup; decide) (by show ∀ d ∈ [100, 101, 102, 103, 104, 105], d < 121; decide) ((Only.refl _ _).drew) (.inl rfl) ?_ ?_ ?_
        · exact trivial
        · have hstab : PtStabs (Only (fun _ => False)) [(100, fun _ v => v = .agg SL), (101, fun _ v => v = .pointer (some ⟨hb, 0, none⟩)), (102, fun _ v => v = .agg LS), (103, fun _ v => v = .slice (some ⟨gb, 0, none⟩) es.length cp8), (104, fun _ v => v = .int .i64 180), (105, fun _ v => v = .bool true)] := ⟨fun _ _ _ _ h => h, fun _ _ _ _ h => h, fun _ _ _ _ h => h, fun _ _ _ _ h => h, fun _ _ _ _ h => h, fun _ _ _ _ h => h, trivial⟩
          refine PtAllS.cons rfl ⟨rfl, rfl⟩ ?_ (PtAllS.cons rfl ⟨rfl, rfl⟩ ?_ (PtAllS.cons rfl ⟨rfl, rfl⟩ ?_ (PtAllS.cons rfl ⟨rfl, rfl⟩ ?_ (PtAllS.cons rfl ⟨rfl, rfl⟩ ?_ (PtAllS.cons rfl ⟨rfl, rfl⟩ ?_ (PtAllS.nil rfl))))))
          · intro L a W K hI hn hd hK
            have e3 : a.eval (.tmp 3) = .pointer (some ⟨w.heap.size, 0, none⟩) := hI.ev 3 (by show ¬ (3 ∈ [100, 101, 102, 103, 104, 105]); decide) rfl
            exact wp_load_row _ (.tmp 3) rfl (w.heap.size) e3 29 (SL) (0, 0) _ (HBZ.out _ hI.j) Try.underlying29 rfl (HIS.out) (hK _ _ hI.j PtKeep.refl rfl)
          · intro L a W K hI hn hd hK
            have e7 : a.eval (.tmp 7) = .pointer (some ⟨hb, 0, none⟩) := hI.ev 7 (by show ¬ (7 ∈ [100, 101, 102, 103, 104, 105]); decide) rfl
            exact pt_move _ (by first | exact .inl rfl | exact .inr rfl) _ e7 (hK _ _ hI.j PtKeep.refl rfl)
          · intro L a W K hI hn hd hK
            have e101 : a.eval (.tmp 101) = .pointer (some ⟨hb, 0, none⟩) := hI.fact 1 101 _ rfl (dep_of hd 1 (by kernel_rfl))
            refine wp_callc (f := 19) (args := #[a.eval (.tmp 101)]) (by kernel_rfl) ?_
            rw [e101]
            refine (HSZ2.out _ hI.j).mono ?_
            rintro x W' ⟨rfl, ho⟩
            exact ⟨_, rfl, hK _ _ (hI.j.trans ho (fun _ _ e => e.elim)) (hstab.keep ho) rfl⟩
          · intro L a W K hI hn hd hK
            have e12 : a.eval (.tmp 12) = .slice (some ⟨gb, 0, none⟩) es.length cp8 := hI.ev 12 (by show ¬ (12 ∈ [100, 101, 102, 103, 104, 105]); decide) rfl
            exact pt_move _ (by first | exact .inl rfl | exact .inr rfl) _ e12 (hK _ _ hI.j PtKeep.refl rfl)
          · intro L a W K hI hn hd hK
            have e100 : a.eval (.tmp 100) = .agg SL := hI.fact 0 100 _ rfl (dep_of hd 0 (by kernel_rfl))
            have e102 : a.eval (.tmp 102) = .agg LS := hI.fact 2 102 _ rfl (dep_of hd 2 (by kernel_rfl))
            have e103 : a.eval (.tmp 103) = .slice (some ⟨gb, 0, none⟩) es.length cp8 := hI.fact 3 103 _ rfl (dep_of hd 3 (by kernel_rfl))
            refine wp_callc (f := 18) (args := #[a.eval (.tmp 100), a.eval (.tmp 102), a.eval (.tmp 103)]) (by kernel_rfl) ?_
            rw [e100, e102, e103]
            refine (HVZ.out _ hI.j).mono ?_
            rintro x W' ⟨rfl, ho⟩
            exact ⟨_, rfl, hK _ _ (hI.j.trans ho (fun _ _ e => e.elim)) (hstab.keep ho) rfl⟩
          · intro L a W K hI hn hd hK
            have e104 : a.eval (.tmp 104) = .int .i64 180 := hI.fact 4 104 _ rfl (dep_of hd 4 (by kernel_rfl))
            exact pt_val (v := .bool true) (by unfold execOp; simp only [e104]; kernel_rfl) (hK _ _ hI.j PtKeep.refl rfl)
        · intro L a w11 hal hj hfs
          dsimp only [PtAll] at hfs
          obtain ⟨f100, f101, f102, f103, f104, f105, -⟩ := hfs
          have hA := hal.turned
          simp only [List.map_cons, List.map_nil, Act.turned, f100, f101, f102, f103, f104, f105] at hA
          simp only [Act.put, List.setIfInBounds_toArray, List.set_cons_zero, List.set_cons_succ] at hA
          clear hal f100 f101 f102 f103 f104 f105
          subst hA
          change wpList _ _ _ [_] _ _
          have HO11 := hid (HOZ.out.trans hj (fun _ _ e => e))
          clear hj
          go_wp2_with fail
          go_ret
          exact ⟨rfl, HO11.out⟩
    · have hb1 : (b1 == 0) = false := by simpa using hq0
      have hb2 : (b1 == 1) = false := by simpa using hq1
      have hb3 : (b1 == 2) = false := by simpa using hq2
      go_wp2_with fail
      go_ret
      exact ⟨rfl, HO8.out⟩
end
end Go.Proofs.Ytnoopajedgllhaa
