/- foliotref08: a log as a value; place, left, Left, Submit. foliotref08: Commit. foliotref08: Checkpoint, Left. -/
import Derived.Test.YthodcbhejjbhaaaWlB
import Derived.Test.YthodcbhejjbhaaaStrB
import Derived.Test.YthodcbhejjbhaaaWhole
import Derived.Deep.Cut
import Derived.Deep.CutRange
import Derived.Deep.CutBlock
import Derived.Deep.QuietTactic
import Derived.BigQuiet
namespace Go.Proofs.Ythodcbhejjbhaaa
open Go.RowKit

/-- The reference's log. -/
structure RLog where
  size : Nat
  first : Nat
  tail : Nat
  frames : List (Nat × List UInt8)
  waiting : List (List UInt8)
def rcells (L : RLog) (fv wv : Value) : Array Value := #[.int .i64 (L.size : Nat), .int .i64 (L.first : Nat), .int .i64 (L.tail : Nat), fv, wv]
def fcs (fs : List (Nat × List UInt8)) : List Value := fs.flatMap fun x => [.int .i64 (x.1 : Nat), .string (strOf x.2)]
def wcs (ws : List (List UInt8)) : List Value := ws.map fun x => .string (strOf x)
@[simp] theorem fcs_len (fs : List (Nat × List UInt8)) : (fcs fs).length = fs.length * 2 := by
  induction fs with
  | nil => rfl
  | cons x fs ih => show (_ :: _ :: fcs fs).length = _; simp [ih]; omega
@[simp] theorem wcs_len (ws : List (List UInt8)) : (wcs ws).length = ws.length := by simp [wcs]
theorem fcs_one (fs : List (Nat × List UInt8)) : ∀ u ∈ fcs fs, u.oneCell' = true := fun u hu => by
  obtain ⟨x, -, hx⟩ := List.mem_flatMap.1 hu
  rcases List.mem_cons.1 hx with rfl | hx
  · rfl
  · rw [List.mem_singleton] at hx; subst hx; rfl
theorem wcs_one (ws : List (List UInt8)) : ∀ u ∈ wcs ws, u.oneCell' = true := fun u hu => by obtain ⟨x, -, rfl⟩ := List.mem_map.1 hu; rfl
theorem fcs_app (a b : List (Nat × List UInt8)) : fcs (a ++ b) = fcs a ++ fcs b := by simp [fcs]
theorem wcs_app (a b : List (List UInt8)) : wcs (a ++ b) = wcs a ++ wcs b := by simp [wcs]
/-- A slice that reads as these cells, in blocks G. -/
def SlV (w : World) (v : Value) (n sz : Nat) (xs : List Value) (G : Nat → Prop) : Prop := ∃ ax c, v = .slice ax n c ∧ n ≤ c ∧ SrcG w ax n sz xs ∧ (0 < n → ∀ ad, ax = some ad → G ad.block)
section
variable {w w' : World} {v : Value} {n sz : Nat} {xs : List Value} {G F : Nat → Prop}
theorem SrcG.spots {ax : Option Addr} (h : SrcG w ax n sz xs) (hn : 0 < n) (hs : 0 < sz) : ∃ g o, ax = some ⟨g, o, none⟩ ∧ g < w.heap.size ∧ ∀ j u, xs[j]? = some u → w.cell? ⟨g, o + j, none⟩ = some u := by
  obtain ⟨hl, h2, -⟩ := h
  obtain ⟨⟨g, o, sp⟩, rfl, hc⟩ := h2 hn
  have h0 : 0 < xs.length := by rw [hl]; exact Nat.mul_pos hn hs
  have h1 := hc 0 _ (List.getElem?_eq_getElem h0)
  have hsp := World.cell?_spot h1
  have hsp : sp = none := hsp
  subst hsp
  refine ⟨g, o, rfl, World.block_lt_of_cell? _ _ h1, fun j u hu => ?_⟩
  have := hc j u hu
  rwa [addr_add] at this
theorem SlV.only (h : SlV w v n sz xs G) (ho : Only F w w') (hF : ∀ k, G k → ¬ F k) (hs : 0 < sz) : SlV w' v n sz xs G := by
  obtain ⟨ax, c, e, hc, h1, h2⟩ := h
  refine ⟨ax, c, e, hc, ⟨h1.1, fun hn => ?_, h1.2.2⟩, h2⟩
  obtain ⟨g, o, rfl, hl, hcl⟩ := h1.spots hn hs
  refine ⟨_, rfl, fun j u hu => ?_⟩
  rw [addr_add]
  exact (World.cell?_of_block (ho.block g hl (hF g (h2 hn _ rfl)))).trans (hcl j u hu)
theorem SlV.mono {G' : Nat → Prop} (h : SlV w v n sz xs G) (hG : ∀ k, G k → G' k) : SlV w v n sz xs G' := by
  obtain ⟨ax, c, e, hc, h1, h2⟩ := h
  exact ⟨ax, c, e, hc, h1, fun hn ad ha => hG _ (h2 hn ad ha)⟩
theorem SlV.nil (w : World) (sz : Nat) (G : Nat → Prop) : SlV w (.slice none 0 0) 0 sz [] G := ⟨none, 0, rfl, Nat.le_refl _, ⟨by simp, fun h => absurd h (Nat.lt_irrefl 0), by simp⟩, fun h => absurd h (Nat.lt_irrefl 0)⟩
/-- A list of the program's own, read. -/
theorem Gr.slv {e : TypeId} {ao : Option Addr} {cap : Nat} (h : Gr w e sz ao n cap xs) (h1 : ∀ u ∈ xs, u.oneCell' = true) (hG : ∀ q, ao = some ⟨q, 0, none⟩ → G q) : SlV w (.slice ao n cap) n sz xs G := by
  refine ⟨ao, cap, rfl, h.2.1, ⟨h.1, fun hn => ?_, h1⟩, fun hn ad ha => ?_⟩
  · obtain ⟨q, rfl, hc⟩ := h.cells hn
    exact ⟨_, rfl, fun j u hu => by rw [addr_add, Nat.zero_add]; exact hc j u hu⟩
  · obtain ⟨q, hq, -⟩ := h.cells hn
    rw [ha] at hq
    obtain rfl := Option.some.inj hq
    exact hG q ha
end
/-- The reference's log in memory. -/
structure RLAt (w : World) (L : RLog) (fv wv : Value) (G : Nat → Prop) : Prop where
  f : SlV w fv L.frames.length 2 (fcs L.frames) G
  q : SlV w wv L.waiting.length 1 (wcs L.waiting) G
  sz : L.size ≤ 1000000
  ft : L.first ≤ L.tail
  rm : L.tail - L.first / 128 * 128 ≤ L.size
  nf : 9 * L.frames.length ≤ L.tail - L.first
  nw : L.waiting.length ≤ 64
  ws : ∀ s ∈ L.waiting, s.length ≤ 2039
  lt : ∀ k, G k → k < w.heap.size
theorem RLAt.only {w w' : World} {L : RLog} {fv wv : Value} {G F : Nat → Prop} (h : RLAt w L fv wv G) (ho : Only F w w') (hF : ∀ k, G k → ¬ F k) : RLAt w' L fv wv G :=
  ⟨h.f.only ho hF (by decide), h.q.only ho hF (by decide), h.sz, h.ft, h.rm, h.nf, h.nw, h.ws, fun k hk => Nat.lt_of_lt_of_le (h.lt k hk) ho.size⟩
theorem RLAt.same {w w' : World} {L : RLog} {fv wv : Value} {G : Nat → Prop} (h : RLAt w L fv wv G) (ho : Only (fun _ => False) w w') : RLAt w' L fv wv G := h.only ho (fun _ _ e => e)
def RLog.submit (L : RLog) (s : List UInt8) : RLog × Int := if 2039 < s.length then (L, 2) else if L.waiting.length = 64 then (L, 3) else ({ L with waiting := L.waiting ++ [s] }, 0)
/-- How many bytes the ring has left behind a place. -/
def rleft (size first tail : Nat) : Nat := size - (tail - first / 128 * 128)
section
variable {w : World}
set_option maxRecDepth 100000 in
theorem rplace_c (a n : Nat) (ha : a ≤ 4611686018427387904) (hn : n ≤ 4611686018427387) : Calls Try.prog 62 #[.int .i64 a, .int .i64 n] w fun e w' => e = .returned (.int .i64 (placeN a n : Nat)) ∧ w = w' := by
  have hr : placeN a n = if roomN a < 9 + n then a + roomN a else a := rfl
  unfold roomN at hr
  by_cases h : 2048 - (a : Int) % 2048 < 9 + (n : Int)
  · rw [if_pos (by omega)] at hr
    have Hr := hid hr
    clear hr
    go_enter Try.func62, Try.ntmps62
    go_wp2
    go_ret
    exact ⟨ret_i (by rw [Hr.out]; omega), rfl⟩
  · rw [if_neg (by omega)] at hr
    have Hr := hid hr
    clear hr
    go_enter Try.func62, Try.ntmps62
    go_wp2
    go_ret
    exact ⟨ret_i (by rw [Hr.out]), rfl⟩
set_option maxRecDepth 100000 in
theorem rwleft_c (size first tail t : Nat) (fv wv : Value) (hs : size ≤ 1000000) (hf : first ≤ t) (ht : t ≤ 4611686018427387904) : Calls Try.prog 43 #[.agg #[.int .i64 size, .int .i64 first, .int .i64 tail, fv, wv], .int .i64 t] w fun e w' => e = .returned (.int .i64 (rleft size first t : Nat)) ∧ Only (fun _ => False) w w' := by
  have hr : rleft size first t = size - (t - first / 128 * 128) := rfl
  have Hr := hid hr
  clear hr
  by_cases h : (size : Int) ≤ (t : Int) - (first : Int) / 128 * 128
  · go_enter Try.func43, Try.ntmps43
    go_wp2
    go_ret
    exact ⟨ret_i (by rw [Hr.out]; omega), (Only.refl _ w).alloc _⟩
  · go_enter Try.func43, Try.ntmps43
    go_wp2
    go_ret
    exact ⟨ret_i (by rw [Hr.out]; omega), (Only.refl _ w).alloc _⟩
end
theorem info_rl : (Try.prog.info? 45).map (·.size) = some 5 := by kernel_rfl
theorem elStr8 : Elem Try.prog 43 9 1 16 := .mk Try.underlying43 (z := .string ⟨#[]⟩) (by kernel_rfl) rfl
theorem elRF : Elem Try.prog 42 57 2 24 := .mk Try.underlying42 (z := .agg #[.int .i64 0, .string ⟨#[]⟩]) (by kernel_rfl) rfl
section
variable {w : World} {L : RLog} {fv wv : Value} {G : Nat → Prop}
/-- What a function of the reference leaves. -/
def RPost (w : World) (L' : RLog) (G : Nat → Prop) (rest : List Value) (e : Ending) (w' : World) : Prop :=
  ∃ fv' wv' G', e = .returned (.tuple (#[.agg (rcells L' fv' wv')] ++ rest.toArray)) ∧ RLAt w' L' fv' wv' G' ∧ (∀ k, G' k → G k ∨ w.heap.size ≤ k) ∧ Only (fun _ => False) w w'
set_option maxRecDepth 100000 in
set_option maxHeartbeats 1600000 in
theorem rsubmit_c (h : RLAt w L fv wv G) (s : List UInt8) (hsl : s.length ≤ 1000000) : Calls Try.prog 39 #[.agg (rcells L fv wv), .string (strOf s)] w (RPost w (L.submit s).1 G [.int .i64 (L.submit s).2]) := by
  have H := hid h
  obtain ⟨⟨fa, fc, rfl, -, hf, -⟩, ⟨qa, qc, rfl, -, hq, -⟩, -⟩ := h
  have HQ := hid hq
  have hsz : (strOf s).size = s.length := rfl
  have h64 := H.out.nw
  clear hf hq
  unfold rcells
  go_enter Try.func39, Try.ntmps39
  by_cases h1 : 2039 < s.length
  · have h1i : (2039 : Int) < s.length := by omega
    have E1 : Hid (L.submit s = (L, 2)) := hid (by unfold RLog.submit; rw [if_pos h1])
    clear h1
    go_wp2_with fail
    exact bodyPost_ret (results_cell1 rfl _ _ (w.heap.size + 1) 45 #[.int .i64 (L.size : Nat), .int .i64 (L.first : Nat), .int .i64 (L.tail : Nat), .slice fa L.frames.length fc, .slice qa L.waiting.length qc] (0, 0) _ rfl (blk2w _ _ _) Try.underlying45 rfl info_rl) rfl ⟨_, _, G, by rw [E1.out]; rfl, by rw [E1.out]; exact H.out.same ((only_new _ _).trans (only_new _ _) (fun _ _ e => e)), fun _ e => .inl e, (only_new _ _).trans (only_new _ _) (fun _ _ e => e)⟩
  have h1i : ¬ (2039 : Int) < s.length := by omega
  by_cases h2 : L.waiting.length = 64
  · have hb : ((L.waiting.length : Int) == 64) = true := by rw [beq_iff_eq]; omega
    have E1 : Hid (L.submit s = (L, 3)) := hid (by unfold RLog.submit; rw [if_neg h1, if_pos h2])
    clear h1 h2
    go_wp2_with fail
    exact bodyPost_ret (results_cell1 rfl _ _ (w.heap.size + 1) 45 #[.int .i64 (L.size : Nat), .int .i64 (L.first : Nat), .int .i64 (L.tail : Nat), .slice fa L.frames.length fc, .slice qa L.waiting.length qc] (0, 0) _ rfl (blk2w _ _ _) Try.underlying45 rfl info_rl) rfl ⟨_, _, G, by rw [E1.out]; rfl, by rw [E1.out]; exact H.out.same ((only_new _ _).trans (only_new _ _) (fun _ _ e => e)), fun _ e => .inl e, (only_new _ _).trans (only_new _ _) (fun _ _ e => e)⟩
  have hb : ((L.waiting.length : Int) == 64) = false := by rw [beq_eq_false_iff_ne]; omega
  have E1 : Hid (L.submit s = ({ L with waiting := L.waiting ++ [s] }, 0)) := hid (by unfold RLog.submit; rw [if_neg h1, if_neg h2])
  have hl64 : L.waiting.length < 64 := by omega
  have hs39 : s.length ≤ 2039 := by omega
  clear h1 h2
  obtain ⟨W0, hW0⟩ : ∃ x, (w.alloc (.cells #[.int .i64 (L.size : Nat), .int .i64 (L.first : Nat), .int .i64 (L.tail : Nat), .slice fa L.frames.length fc, .slice qa L.waiting.length qc] 45)).alloc (.cells #[.int .i64 0, .int .i64 0, .int .i64 0, .slice none 0 0, .slice none 0 0] 45) = x := ⟨_, rfl⟩
  have hB2 : W0.heap[w.heap.size]? = some (.cells #[.int .i64 (L.size : Nat), .int .i64 (L.first : Nat), .int .i64 (L.tail : Nat), .slice fa L.frames.length fc, .slice qa L.waiting.length qc] 45 (0, 0)) := by rw [← hW0]; exact blk_alloc (blk_new _ _)
  have hB4 : W0.heap[w.heap.size + 1]? = some (.cells #[.int .i64 0, .int .i64 0, .int .i64 0, .slice none 0 0, .slice none 0 0] 45 (0, 0)) := by rw [← hW0]; exact blk2w _ _ _
  have hO0 : Only (fun _ => False) w W0 := by rw [← hW0]; exact (only_new _ _).trans (only_new _ _) (fun _ _ e => e)
  have hz0 : w.heap.size + 1 < W0.heap.size := by rw [← hW0]; simp
  have HB2 := hid hB2; have HB4 := hid hB4; have HO0 := hid hO0; have HW0 := hid hW0
  have HGE : Hid (Gr (W0.alloc (.cells #[] 9)) 9 1 (some ⟨W0.heap.size, 0, none⟩) 0 0 []) := hid ⟨rfl, Nat.le_refl _, .inr ⟨_, rfl, [], blk_new W0 _, rfl⟩⟩
  have HSG : Hid (SrcG (W0.alloc (.cells #[] 9)) qa L.waiting.length 1 (wcs L.waiting)) := hid (by
    obtain ⟨ax, c, e, -, h3, -⟩ := (H.out.same (hO0.trans (only_new W0 (.cells #[] 9)) (fun _ _ e => e))).q
    simp only [Value.slice.injEq, true_and] at e
    rw [e.1]; exact h3)
  have hz1 : w.heap.size < W0.heap.size := by omega
  clear hB2 hB4 hO0 hW0
  go_upto_region 5 with fail
  rw [HW0.out]
  have c0 : W0.cell? ⟨w.heap.size, 4, none⟩ = some (.slice qa L.waiting.length qc) := cell_blk HB2.out 4
  go_wp2_with (first
    | ((guard_target =~ wpList _ _ _ (⟨some 18, _, _, _, _, _⟩ :: _) _ _); refine wpList_gr (o := ⟨some 18, _, _, _, _, _⟩) rfl elStr8 (.tmp 15) (.tmp 17) rfl HGE.out rfl qa L.waiting.length qc rfl (wcs L.waiting) HSG.out (by omega) (by omega) ?_; intro ao1 cp1 w3 hg3 ha3 ho3; rw [Nat.zero_add] at hg3 ⊢; rw [List.nil_append] at hg3; have HG3 := hid hg3; have HA3 := hid ha3; have HO3 : Hid (Only (fun _ => False) W0 w3) := hid ((only_new W0 _).trans ho3 (fun k hk e => (by simp only [Option.some.injEq, Addr.mk.injEq, and_true] at e; omega))); have HN3 : Hid (∀ q, ao1 = some ⟨q, 0, none⟩ → W0.heap.size ≤ q) := hid (fun q hq => (by rcases ha3 with e | e <;> rw [hq] at e <;> simp only [Option.some.injEq, Addr.mk.injEq, and_true, World.size_alloc] at e <;> omega)); clear hg3 ha3 ho3)
    | ((guard_target =~ wpList _ _ _ (⟨some 21, _, _, _, _, _⟩ :: _) _ _); refine wpList_gr (o := ⟨some 21, _, _, _, _, _⟩) rfl elStr8 (.tmp 18) (.tmp 20) rfl (HG3.out.only (only_new w3 (.cells #[.string (strOf s)] 9)) (fun _ _ e => e)) rfl (some ⟨w3.heap.size, 0, none⟩) 1 1 rfl [.string (strOf s)] (SrcG.new (blk_new w3 _) rfl (by simp [Value.oneCell'])) (by omega) (by omega) ?_; intro ao2 cp2 w4 hg4 ha4 ho4; have HG4 := hid hg4; have HA4 := hid ha4; have HO4 : Hid (Only (fun _ => False) W0 w4) := hid ((HO3.out.trans (only_new w3 _) (fun _ _ e => e)).trans ho4 (fun k hk e => (by have := HN3.out k e; omega))); have hb24 := blk_only HB2.out HO4.out (fun e => e); have hb44 := blk_only HB4.out HO4.out (fun e => e); have c24 : w4.cell? ⟨w.heap.size, 4, none⟩ = some (.slice qa L.waiting.length qc) := cell_blk hb24 4; have c20 : w4.cell? ⟨w.heap.size, 0, none⟩ = some (.int .i64 (L.size : Nat)) := cell_blk hb24 0; have c21 : w4.cell? ⟨w.heap.size, 1, none⟩ = some (.int .i64 (L.first : Nat)) := cell_blk hb24 1; have c22 : w4.cell? ⟨w.heap.size, 2, none⟩ = some (.int .i64 (L.tail : Nat)) := cell_blk hb24 2; have c23 : w4.cell? ⟨w.heap.size, 3, none⟩ = some (.slice fa L.frames.length fc) := cell_blk hb24 3; have z24 := frozen_blk hb24; have hl24 := blk_lt hb24; have hl44 := blk_lt hb44; have HB24 := hid hb24; have HB44 := hid hb44; clear hg4 ha4 ho4 hb24 hb44)
    | ((guard_target =~ wpList _ _ _ (⟨none, .store 45 (.tmp 4) _, _, _, _, _⟩ :: _) _ _); refine wpList_store_all rfl 45 (.tmp 4) (.tmp 23) rfl (w.heap.size + 1) #[.int .i64 (L.size : Nat), .int .i64 (L.first : Nat), .int .i64 (L.tail : Nat), .slice fa L.frames.length fc, .slice ao2 (L.waiting.length + 1) cp2] rfl rfl #[.int .i64 0, .int .i64 0, .int .i64 0, .slice none 0 0, .slice none 0 0] 45 (blk_only HB44.out (only_set w.heap.size 4 _) (by show ¬ w.heap.size + 1 = w.heap.size; omega)) rfl info_rl (by simp [Value.oneCell']) ?_; intro w9 hb9 ho9 hs9; have HB9 := hid hb9; have HO9 := hid ho9; clear hb9 ho9 hs9))
  have hn2 : ∀ q, ao2 = some ⟨q, 0, none⟩ → W0.heap.size ≤ q := fun q hq => by
    rcases HA4.out with e | e
    · exact HN3.out q (e ▸ hq)
    · rw [hq] at e; have hz3 := HO3.out.size; simp only [Option.some.injEq, Addr.mk.injEq, and_true, World.size_alloc] at e; omega
  have hO49 : Only (fun k => k = w.heap.size ∨ k = w.heap.size + 1) w4 w9 := ((only_set w.heap.size 4 _).mono (fun k _ e => .inl e)).trans (HO9.out.mono (fun k _ e => .inr e)) (fun k _ e => e)
  have hO9 : Only (fun _ => False) w w9 := (HO0.out.trans HO4.out (fun _ _ e => e)).trans hO49 (fun k hk e => by omega)
  have hG9 : SlV w9 (.slice ao2 (L.waiting.length + 1) cp2) (L.waiting.length + 1) 1 (wcs (L.waiting ++ [s])) (fun k => G k ∨ W0.heap.size ≤ k ∧ k < w9.heap.size) := by
    have h9 := HG4.out.only hO49 (fun g hg e => by have := hn2 g hg; omega)
    rw [wcs_app]
    exact h9.slv (fun u hu => (List.mem_append.1 hu).elim (wcs_one _ u) (fun hu => (by rw [List.mem_singleton.1 hu]; rfl))) (fun q hq => .inr ⟨hn2 q hq, h9.lt hq⟩)
  exact bodyPost_ret (results_cell1 rfl _ _ (w.heap.size + 1) 45 #[.int .i64 (L.size : Nat), .int .i64 (L.first : Nat), .int .i64 (L.tail : Nat), .slice fa L.frames.length fc, .slice ao2 (L.waiting.length + 1) cp2] (0, 0) _ rfl HB9.out Try.underlying45 rfl info_rl) rfl ⟨_, _, fun k => G k ∨ W0.heap.size ≤ k ∧ k < w9.heap.size, by rw [E1.out]; rfl, by
      rw [E1.out]
      have hr := H.out.only hO9 (fun _ _ e => e)
      exact ⟨hr.f.mono (fun k hk => .inl hk), by show SlV w9 _ (L.waiting ++ [s]).length 1 (wcs (L.waiting ++ [s])) _; rw [List.length_append]; exact hG9, hr.sz, hr.ft, hr.rm, hr.nf, by show (L.waiting ++ [s]).length ≤ 64; rw [List.length_append]; show L.waiting.length + 1 ≤ 64; omega, fun x hx => (List.mem_append.1 hx).elim (hr.ws x) (fun e => by rw [List.mem_singleton.1 e]; exact hs39), fun k hk => hk.elim (hr.lt k) (fun e => e.2)⟩,
    fun k hk => hk.elim .inl (fun e => .inr (by have := e.1; omega)), hO9⟩
end
end Go.Proofs.Ythodcbhejjbhaaa
namespace Go.Proofs.Ythodcbhejjbhaaa
open Go.RowKit

noncomputable def rcB (id : Nat) : Code := ((Try.f40.body).bind (blkOf id)).getD .skip
theorem lit74 (v : Nat → Value) : ((List.range 74).map v).toArray = #[v 0, v 1, v 2, v 3, v 4, v 5, v 6, v 7, v 8, v 9, v 10, v 11, v 12, v 13, v 14, v 15, v 16, v 17, v 18, v 19, v 20, v 21, v 22, v 23, v 24, v 25, v 26, v 27, v 28, v 29, v 30, v 31, v 32, v 33, v 34, v 35, v 36, v 37, v 38, v 39, v 40, v 41, v 42, v 43, v 44, v 45, v 46, v 47, v 48, v 49, v 50, v 51, v 52, v 53, v 54, v 55, v 56, v 57, v 58, v 59, v 60, v 61, v 62, v 63, v 64, v 65, v 66, v 67, v 68, v 69, v 70, v 71, v 72, v 73] := by kernel_rfl
theorem info82 : (Try.prog.info? 9).map (·.size) = some 1 := by kernel_rfl
/-- Batches as frames. -/
def bats (ws : List (List UInt8)) : List (Nat × List UInt8) := ws.map fun s => (1, s)
def RLog.fit (L : RLog) : Nat := laysN (rleft L.size L.first L.tail) L.tail (bats L.waiting)
def RLog.commit (L : RLog) : RLog := { L with tail := L.tail + (layT L.tail (bats (L.waiting.take L.fit))).length, frames := L.frames ++ bats (L.waiting.take L.fit), waiting := L.waiting.drop L.fit }
theorem SlV.drop {w : World} {g o n c i : Nat} {xs : List Value} {G : Nat → Prop} (h : SlV w (.slice (some ⟨g, o, none⟩) n c) n 1 xs G) (hi : i < n) : SlV w (.slice (some ⟨g, o + i, none⟩) (n - i) (c - i)) (n - i) 1 (xs.drop i) G := by
  obtain ⟨ax, c', e, hc, h1, h2⟩ := h
  simp only [Value.slice.injEq, true_and] at e
  obtain ⟨rfl, rfl⟩ := e
  obtain ⟨g', o', e', hl, hcl⟩ := h1.spots (by omega) (by decide)
  simp only [Option.some.injEq, Addr.mk.injEq, and_true] at e'
  obtain ⟨rfl, rfl⟩ := e'
  refine ⟨_, _, rfl, by omega, ⟨by rw [List.length_drop, h1.1]; omega, fun _ => ⟨_, rfl, fun j u hu => ?_⟩, fun u hu => h1.2.2 u (List.mem_of_mem_drop hu)⟩, fun _ ad ha => ?_⟩
  · rw [addr_add, Nat.add_assoc]
    exact hcl _ _ (by rwa [List.getElem?_drop] at hu)
  · simp only [Option.some.injEq] at ha
    subst ha
    exact h2 (by omega) ⟨g, o, none⟩ rfl
theorem bats_cons (s : List UInt8) (ws : List (List UInt8)) (a : Nat) : (layT a (bats (s :: ws))).length = (placeN a s.length + 9 + s.length - a) + (layT (placeN a s.length + 9 + s.length) (bats ws)).length := by
  show ((padN a s.length ++ frameN (placeN a s.length) 1 s) ++ layT (placeN a s.length + 9 + s.length) (bats ws)).length = _
  rw [List.length_append, first_len]
theorem bats_snoc {ws : List (List UInt8)} {i : Nat} {s : List UInt8} (h : ws[i]? = some s) : bats (ws.take (i + 1)) = bats (ws.take i) ++ [(1, s)] := by
  unfold bats
  rw [List.take_add_one, h, List.map_append]; rfl
section
variable {w0 w : World} {L : RLog} {fv wv : Value} {G : Nat → Prop} {Q : Exit → Act → World → Prop}
set_option maxRecDepth 100000 in
set_option maxHeartbeats 3200000 in
theorem rc0 {a : Act} {b n E cap0 : Nat} {ao0 : Option Addr} (h : RLAt w0 L fv wv G) (hT : L.tail ≤ 4000000000000000000) (hn : n = L.fit) (hE : E = L.tail + (layT L.tail (bats (L.waiting.take n))).length) (hb : w0.heap.size ≤ b)
    (hbk : w.heap[b]? = some (.cells (rcells L fv wv) 45 (0, 0))) (hck : w.heap[b + 1]? = some (.cells #[.int .i64 0, .int .i64 0, .int .i64 0, .slice none 0 0, .slice none 0 0] 45 (0, 0))) (hg0 : Gr w 57 2 ao0 L.frames.length cap0 (fcs L.frames)) (ha0 : ∀ q, ao0 = some ⟨q, 0, none⟩ → b + 1 < q) (ho0 : Only (fun _ => False) w0 w)
    (hL : Lv 74 a [(1, .pointer (some ⟨b, 0, none⟩)), (2, .pointer (some ⟨b + 1, 0, none⟩)), (3, .int .i64 0), (4, .int .i64 0), (5, .slice ao0 L.frames.length cap0), (6, .int .i64 0)])
    (hR : ∀ a' w' ao cap ax c, Lv 74 a' [(2, .pointer (some ⟨b + 1, 0, none⟩)), (3, .int .i64 (n : Nat)), (4, .int .i64 3)] → n < L.waiting.length → w'.heap[b + 1]? = some (.cells #[.int .i64 (L.size : Nat), .int .i64 (L.first : Nat), .int .i64 (E : Nat), .slice ao (L.frames.length + n) cap, .slice ax (L.waiting.length - n) c] 45 (0, 0)) → SlV w' (.slice ax (L.waiting.length - n) c) (L.waiting.length - n) 1 (wcs (L.waiting.drop n)) G → Gr w' 57 2 ao (L.frames.length + n) cap (fcs (L.frames ++ bats (L.waiting.take n))) → (∀ q, ao = some ⟨q, 0, none⟩ → b + 1 < q) → Only (fun _ => False) w0 w' → Q .ret a' w')
    (hQ : ∀ a' w' ao cap, Lv 74 a' [(1, .pointer (some ⟨b, 0, none⟩)), (2, .pointer (some ⟨b + 1, 0, none⟩)), (5, .slice ao (L.frames.length + n) cap)] → n = L.waiting.length → w'.heap[b]? = some (.cells #[.int .i64 (L.size : Nat), .int .i64 (L.first : Nat), .int .i64 (E : Nat), fv, wv] 45 (0, 0)) → w'.heap[b + 1]? = some (.cells #[.int .i64 0, .int .i64 0, .int .i64 0, .slice none 0 0, .slice none 0 0] 45 (0, 0)) → Gr w' 57 2 ao (L.frames.length + n) cap (fcs (L.frames ++ bats (L.waiting.take n))) → (∀ q, ao = some ⟨q, 0, none⟩ → b + 1 < q) → Only (fun _ => False) w0 w' → Q .normal a' w') :
    (rcB 0).wp Try.prog Q a w := by
  have H := hid h
  have hnl : n ≤ L.waiting.length := by rw [hn]; unfold RLog.fit; have := laysN_le (rleft L.size L.first L.tail) L.tail (bats L.waiting); unfold bats at *; rwa [List.length_map] at this
  refine Code.wp_mono NoPanic.imp ?_
  conv => arg 2; whnf
  refine wp_block (wp_loop (fun a' w' => ∃ (i tl cap : Nat) (ao : Option Addr), Lv 74 a' [(1, .pointer (some ⟨b, 0, none⟩)), (2, .pointer (some ⟨b + 1, 0, none⟩)), (3, .int .i64 0), (4, .int .i64 0), (5, .slice ao (L.frames.length + i) cap), (6, .int .i64 (i : Nat))] ∧ i ≤ n ∧ L.tail ≤ tl ∧ tl - L.first / 128 * 128 ≤ L.size ∧ laysN (rleft L.size L.first tl) tl (bats (L.waiting.drop i)) + i = n ∧ tl + (layT tl (bats ((L.waiting.drop i).take (n - i)))).length = E ∧ Gr w' 57 2 ao (L.frames.length + i) cap (fcs (L.frames ++ bats (L.waiting.take i))) ∧ (∀ q, ao = some ⟨q, 0, none⟩ → b + 1 < q) ∧ w'.heap[b]? = some (.cells #[.int .i64 (L.size : Nat), .int .i64 (L.first : Nat), .int .i64 (tl : Nat), fv, wv] 45 (0, 0)) ∧ w'.heap[b + 1]? = some (.cells #[.int .i64 0, .int .i64 0, .int .i64 0, .slice none 0 0, .slice none 0 0] 45 (0, 0)) ∧ Only (fun _ => False) w0 w')
    (fun a' _ => L.waiting.length - (intOf (a'.tmps.getD 6 undef)).toNat) ⟨0, L.tail, cap0, ao0, hL, Nat.zero_le _, Nat.le_refl _, h.rm, hn.symm, by rw [hE]; rfl, by rw [List.take_zero]; unfold bats; rw [List.map_nil, List.append_nil]; exact hg0, ha0, hbk, hck, ho0⟩ ?_)
  clear hL hg0 ha0 hbk hck ho0 hn hE
  rintro a' w' ⟨i, tl, cap, ao, hI, hin, htl, hrm, hlay, hend, hgr, hao, hbk, hck, ho⟩
  obtain ⟨u, rfl, hu⟩ := act_fn hI
  rw [lit74] at hI ⊢
  obtain ⟨g1, g2, g3, g4, g5, g6, -⟩ := hI
  change u 1 = _ at g1
  change u 2 = _ at g2
  change u 3 = _ at g3
  change u 4 = _ at g4
  change u 5 = _ at g5
  change u 6 = _ at g6
  rw [g1, g2, g3, g4, g5, g6]
  clear g1 g2 g3 g4 g5 g6 hu
  have HQ := hid hQ; have HR := hid hR; have HGR := hid hgr; have HAO := hid hao; have HO := hid ho; have HLAY := hid hlay; have HEND := hid hend; have HBK := hid hbk; have HCK := hid hck
  have hsz := h.sz; have hft := h.ft; have hnw := h.nw; have hnf := h.nf; have hrm0 := h.rm
  have hfl : L.frames.length ≤ 1000128 := by omega
  obtain ⟨⟨fa, fc, rfl, hfc, hf, hfG⟩, ⟨qa, qc, rfl, hqc, hq, hqG⟩, -⟩ := h
  have hzb := blk_lt hbk; have hzc := blk_lt hck
  have HQ0 : Hid (SlV w0 (.slice qa L.waiting.length qc) L.waiting.length 1 (wcs L.waiting) G) := hid ⟨qa, qc, rfl, hqc, hq, hqG⟩
  clear hQ hR hgr hao ho hlay hend hf hfG hbk hck
  have CC : Hid (∀ W, Only (fun _ => False) w' W → W.cell? ⟨b, 0, none⟩ = some (.int .i64 (L.size : Nat)) ∧ W.cell? ⟨b, 1, none⟩ = some (.int .i64 (L.first : Nat)) ∧ W.cell? ⟨b, 2, none⟩ = some (.int .i64 (tl : Nat)) ∧ W.cell? ⟨b, 3, none⟩ = some (.slice fa L.frames.length fc) ∧ W.cell? ⟨b, 4, none⟩ = some (.slice qa L.waiting.length qc)) := hid fun W hW => by
    have hb := blk_only HBK.out hW (fun e => e)
    exact ⟨cell_blk hb 0, cell_blk hb 1, cell_blk hb 2, cell_blk hb 3, cell_blk hb 4⟩
  obtain ⟨c0, c1, c2, c3, c4⟩ := CC.out w' (Only.refl _ _)
  by_cases hlt : i < L.waiting.length
  rotate_left
  · obtain rfl : i = n := by omega
    have HE : Hid (tl = E) := hid (by have := HEND.out; rw [Nat.sub_self, List.take_zero] at this; exact this)
    have hlti : ¬ (i : Int) < L.waiting.length := by omega
    go_wp2_with fail
    exact HQ.out _ _ _ _ ⟨rfl, rfl, rfl, rfl, rfl⟩ (by omega) (by rw [← HE.out]; exact HBK.out) HCK.out HGR.out HAO.out HO.out
  obtain ⟨g, o, rfl, hgl, hcl⟩ := hq.spots (by omega) (by decide)
  obtain ⟨s, hs⟩ : ∃ s, L.waiting[i]? = some s := ⟨_, List.getElem?_eq_getElem hlt⟩
  have hs39 : s.length ≤ 2039 := H.out.ws s (List.mem_of_getElem? hs)
  have HCL : Hid (∀ W, Only (fun _ => False) w0 W → W.cell? ⟨g, o + i, none⟩ = some (.string (strOf s))) := hid fun W hW => by
    exact (World.cell?_of_block (hW.block g hgl (fun e => e))).trans (hcl i _ (by unfold wcs; rw [List.getElem?_map, hs]; rfl))
  have hdr : L.waiting.drop i = s :: L.waiting.drop (i + 1) := by
    rw [List.drop_eq_getElem_cons hlt]; congr 1; exact Option.some.inj ((List.getElem?_eq_getElem hlt).symm.trans hs)
  have hlay := HLAY.out; have hend := HEND.out
  rw [hdr] at hlay hend
  have hlay2 : (if rleft L.size L.first tl < placeN tl s.length + 9 + s.length - tl then 0 else laysN (rleft L.size L.first tl - (placeN tl s.length + 9 + s.length - tl)) (placeN tl s.length + 9 + s.length) (bats (L.waiting.drop (i + 1))) + 1) + i = n := hlay
  have hpl := place_le tl s.length
  have hpu : placeN tl s.length ≤ tl + 2048 := by unfold placeN; have := room_pos tl; split <;> omega
  have HP : Hid (∀ W, Calls Try.prog 62 #[.int .i64 tl, .int .i64 ((s.length : Nat) : Int)] W fun e w' => e = .returned (.int .i64 (placeN tl s.length : Nat)) ∧ w' = W) := hid fun W => (rplace_c tl s.length (by omega) (by omega)).mono (fun e w' h => ⟨h.1, h.2.symm⟩)
  have HLF : Hid (∀ W, Calls Try.prog 43 #[.agg #[.int .i64 L.size, .int .i64 L.first, .int .i64 tl, .slice fa L.frames.length fc, .slice (some ⟨g, o, none⟩) L.waiting.length qc], .int .i64 tl] W fun e w' => e = .returned (.int .i64 (rleft L.size L.first tl : Nat)) ∧ Only (fun _ => False) W w') := hid fun W => rwleft_c L.size L.first tl tl _ _ hsz (by omega) (by omega)
  have hrl : rleft L.size L.first tl = L.size - (tl - L.first / 128 * 128) := rfl
  obtain ⟨p, hp⟩ : ∃ x, placeN tl s.length = x := ⟨_, rfl⟩
  obtain ⟨lf, hlf⟩ : ∃ x, rleft L.size L.first tl = x := ⟨_, rfl⟩
  rw [hp] at HP hpl hpu
  rw [hlf] at HLF hrl
  have HLAY2 := hid hlay2; have HEND2 := hid hend; have HPE := hid hp; have HLE := hid hlf; have HDR := hid hdr; have HS := hid hs
  have hszs : (strOf s).size = s.length := rfl
  have hlti : (i : Int) < L.waiting.length := by omega
  have cs := HCL.out w' HO.out
  clear hlay hlay2 hend hp hlf hdr hs hq hqG hcl H
  have hw29 : IntKind.i64.wrap ((p : Int) + 9) = (p : Int) + 9 := by rw [IntKind.wrap_i64]; omega
  have hw36 : IntKind.i64.wrap ((p : Int) + 9 + (s.length : Int)) = (p : Int) + 9 + s.length := by rw [IntKind.wrap_i64]; omega
  go_upto_region 5 with fail
  go_quiet ((go_at_call 62; exact Calls.quiet_of_same (HP.out _)))
  clear hw29 hw36
  have hwq := only_drewN w' nq
  obtain ⟨w4, hw4⟩ : ∃ x, w'.drewN nq = x := ⟨_, rfl⟩
  rw [hw4] at hwq ⊢
  have HWQ := hid hwq
  clear hw4 hwq
  obtain ⟨c, hc⟩ : ∃ x, p + 9 + s.length - tl = x := ⟨_, rfl⟩
  obtain ⟨z, hz⟩ : ∃ z : Bool, decide ((lf : Int) < (c : Nat)) = z := ⟨_, rfl⟩
  have hw40 : IntKind.i64.wrap ((p : Int) + 9 + s.length - tl) = ((c : Nat) : Int) := by rw [IntKind.wrap_i64]; omega
  have CB : Hid (∀ W, Only (fun _ => False) w4 W → W.heap[b]? = some (.cells #[.int .i64 (L.size : Nat), .int .i64 (L.first : Nat), .int .i64 (tl : Nat), .slice fa L.frames.length fc, .slice (some ⟨g, o, none⟩) L.waiting.length qc] 45 (0, 0))) := hid fun W hW => blk_only HBK.out (HWQ.out.trans hW (fun _ _ e => e)) (fun e => e)
  have CC4 : Hid (∀ W, Only (fun _ => False) w4 W → W.cell? ⟨b, 2, none⟩ = some (.int .i64 (tl : Nat))) := hid fun W hW => cell_blk (CB.out W hW) 2
  have hci : (Try.prog.info? 45).map (·.size) = some (#[.int .i64 (L.size : Nat), .int .i64 (L.first : Nat), .int .i64 (tl : Nat), .slice fa L.frames.length fc, .slice (some ⟨g, o, none⟩) L.waiting.length qc] : Array Value).size := info_rl
  obtain ⟨cl, hcl⟩ : ∃ x, (#[.int .i64 (L.size : Nat), .int .i64 (L.first : Nat), .int .i64 (tl : Nat), .slice fa L.frames.length fc, .slice (some ⟨g, o, none⟩) L.waiting.length qc] : Array Value) = x := ⟨_, rfl⟩
  rw [hcl] at CB HLF hci
  have HCI := hid hci
  clear hci hcl
  go_upto_region 6 with fail
  refine region_pt 8 [] (by kernel_rfl) (by kernel_rfl) (by kernel_rfl) [(37, fun _ v => v = .int .i64 ((p : Int) + 9 + s.length)), (38, fun _ v => v = .pointer (some ⟨b, 2, none⟩)), (39, fun _ v => v = .int .i64 (tl : Nat)), (40, fun _ v => v = .int .i64 (c : Nat)), (41, fun _ v => v = .agg cl), (42, fun _ v => v = .pointer (some ⟨b, 2, none⟩)), (43, fun _ v => v = .int .i64 (tl : Nat)), (44, fun _ v => v = .int .i64 (lf : Nat))] (fun _ W => Only (fun _ => False) w4 W) (by show [37, 38, 39, 40, 41, 42, 43, 44].Nodup; decide) (by show ∀ d ∈ [37, 38, 39, 40, 41, 42, 43, 44], d < 74; decide) ((Only.refl _ _).drew) (.inl rfl) ?_ ?_ ?_
  · exact trivial
  · have hstab : PtStabs (Only (fun _ => False)) [(37, fun _ v => v = .int .i64 ((p : Int) + 9 + s.length)), (38, fun _ v => v = .pointer (some ⟨b, 2, none⟩)), (39, fun _ v => v = .int .i64 (tl : Nat)), (40, fun _ v => v = .int .i64 (c : Nat)), (41, fun _ v => v = .agg cl), (42, fun _ v => v = .pointer (some ⟨b, 2, none⟩)), (43, fun _ v => v = .int .i64 (tl : Nat)), (44, fun _ v => v = .int .i64 (lf : Nat))] := ⟨fun _ _ _ _ h => h, fun _ _ _ _ h => h, fun _ _ _ _ h => h, fun _ _ _ _ h => h, fun _ _ _ _ h => h, fun _ _ _ _ h => h, fun _ _ _ _ h => h, fun _ _ _ _ h => h, trivial⟩
    refine PtAllS.cons rfl ⟨rfl, rfl⟩ ?_ (PtAllS.cons rfl ⟨rfl, rfl⟩ ?_ (PtAllS.cons rfl ⟨rfl, rfl⟩ ?_ (PtAllS.cons rfl ⟨rfl, rfl⟩ ?_ (PtAllS.cons rfl ⟨rfl, rfl⟩ ?_ (PtAllS.cons rfl ⟨rfl, rfl⟩ ?_ (PtAllS.cons rfl ⟨rfl, rfl⟩ ?_ (PtAllS.cons rfl ⟨rfl, rfl⟩ ?_ (PtAllS.nil rfl))))))))
    · intro L a W K hI hn hd hK
      have e7 : a.eval (.tmp 7) = .int .i64 ((p : Int) + 9 + s.length) := hI.ev 7 (by show ¬ (7 ∈ [37, 38, 39, 40, 41, 42, 43, 44]); decide) rfl
      exact pt_move _ (by first | exact .inl rfl | exact .inr rfl) _ e7 (hK _ _ hI.j PtKeep.refl rfl)
    · intro L a W K hI hn hd hK
      have e1 : a.eval (.tmp 1) = .pointer (some ⟨b, 0, none⟩) := hI.ev 1 (by show ¬ (1 ∈ [37, 38, 39, 40, 41, 42, 43, 44]); decide) rfl
      exact pt_val (v := .pointer (some ⟨b, 2, none⟩)) (by unfold execOp; simp only [e1]; kernel_rfl) (hK _ _ hI.j PtKeep.refl rfl)
    · intro L a W K hI hn hd hK
      have e38 : a.eval (.tmp 38) = .pointer (some ⟨b, 2, none⟩) := hI.fact 1 38 _ rfl (dep_of hd 1 (by kernel_rfl))
      exact pt_load _ (.tmp 38) rfl ⟨b, 2, none⟩ (.int .i64 (tl : Nat)) _ e38 (CC4.out _ hI.j) Try.underlying3 rfl (hK _ _ hI.j PtKeep.refl rfl)
    · intro L a W K hI hn hd hK
      have e37 : a.eval (.tmp 37) = .int .i64 ((p : Int) + 9 + s.length) := hI.fact 0 37 _ rfl (dep_of hd 0 (by kernel_rfl))
      have e39 : a.eval (.tmp 39) = .int .i64 (tl : Nat) := hI.fact 2 39 _ rfl (dep_of hd 2 (by kernel_rfl))
      exact pt_val (v := .int .i64 (c : Nat)) (Eq.trans (b := .ok (.value (.int .i64 (IntKind.i64.wrap ((p : Int) + 9 + s.length - tl)))) _) (by unfold execOp; simp only [e37, e39]; kernel_rfl) (by rw [hw40])) (hK _ _ hI.j PtKeep.refl rfl)
    · intro L a W K hI hn hd hK
      have e1 : a.eval (.tmp 1) = .pointer (some ⟨b, 0, none⟩) := hI.ev 1 (by show ¬ (1 ∈ [37, 38, 39, 40, 41, 42, 43, 44]); decide) rfl
      exact wp_load_row _ (.tmp 1) rfl (b) e1 45 (cl) (0, 0) _ (CB.out _ hI.j) Try.underlying45 rfl (HCI.out) (hK _ _ hI.j PtKeep.refl rfl)
    · intro L a W K hI hn hd hK
      have e1 : a.eval (.tmp 1) = .pointer (some ⟨b, 0, none⟩) := hI.ev 1 (by show ¬ (1 ∈ [37, 38, 39, 40, 41, 42, 43, 44]); decide) rfl
      exact pt_val (v := .pointer (some ⟨b, 2, none⟩)) (by unfold execOp; simp only [e1]; kernel_rfl) (hK _ _ hI.j PtKeep.refl rfl)
    · intro L a W K hI hn hd hK
      have e42 : a.eval (.tmp 42) = .pointer (some ⟨b, 2, none⟩) := hI.fact 5 42 _ rfl (dep_of hd 5 (by kernel_rfl))
      exact pt_load _ (.tmp 42) rfl ⟨b, 2, none⟩ (.int .i64 (tl : Nat)) _ e42 (CC4.out _ hI.j) Try.underlying3 rfl (hK _ _ hI.j PtKeep.refl rfl)
    · intro L a W K hI hn hd hK
      have e41 : a.eval (.tmp 41) = .agg cl := hI.fact 4 41 _ rfl (dep_of hd 4 (by kernel_rfl))
      have e43 : a.eval (.tmp 43) = .int .i64 (tl : Nat) := hI.fact 6 43 _ rfl (dep_of hd 6 (by kernel_rfl))
      refine wp_callc (f := 43) (args := #[a.eval (.tmp 41), a.eval (.tmp 43)]) (by kernel_rfl) ?_
      rw [e41, e43]
      refine ((fun W (_ : Only (fun _ => False) w4 W) => HLF.out W) _ hI.j).mono ?_
      rintro x W' ⟨rfl, ho⟩
      exact ⟨_, rfl, hK _ _ (hI.j.trans ho (fun _ _ e => e.elim)) (hstab.keep ho) rfl⟩
  · intro LL a w5 hal hj hfs
    dsimp only [PtAll] at hfs
    obtain ⟨f37, f38, f39, f40, f41, f42, f43, f44, -⟩ := hfs
    have hA := hal.turned
    simp only [List.map_cons, List.map_nil, Act.turned, f37, f38, f39, f40, f41, f42, f43, f44] at hA
    simp only [Act.put, List.setIfInBounds_toArray, List.set_cons_zero, List.set_cons_succ] at hA
    clear hal f37 f38 f39 f40 f41 f42 f43 f44
    subst hA
    change wpList _ _ _ [_] _ _
    have HO5 := hid (HWQ.out.trans hj (fun _ _ e => e))
    clear hj hw40
    have HB5 := hid (blk_only HBK.out HO5.out (fun e => e)); have HC5 := hid (blk_only HCK.out HO5.out (fun e => e))
    have HO5w := hid (HO.out.trans HO5.out (fun _ _ e => e))
    have HG5 := hid (HGR.out.only HO5.out (fun _ _ e => e))
    obtain ⟨c50, c51, c52, c53, c54⟩ := CC.out w5 HO5.out
    have hzb5 := blk_lt HB5.out; have hzc5 := blk_lt HC5.out
    clear c0 c1 c2 c3 c4 cs
    have zf5 := frozen_blk HB5.out
    have cs5 := HCL.out w5 HO5w.out
    have hgb : g < b := by omega
    have hgb2 : g ≠ b := by omega
    by_cases hfit : lf < c
    · have hfi : (lf : Int) < (c : Int) := by omega
      have HLN : Hid (i = n) := hid (by have := HLAY2.out; rw [HLE.out, HPE.out, if_pos (by omega), Nat.zero_add] at this; exact this)
      have HE : Hid (tl = E) := hid (by have := HEND2.out; rw [← HLN.out, Nat.sub_self, List.take_zero] at this; exact this)
      clear hz hfit
      go_upto_region 9 with fail
      have hb7 := blk_set (blk_set HB5.out 3 (.slice ao (L.frames.length + i) cap)) 4 (.slice (some ⟨g, o + i, none⟩) (L.waiting.length - i) (qc - i))
      have hc7 := blk_set_other (v := .slice (some ⟨g, o + i, none⟩) (L.waiting.length - i) (qc - i)) (o := 4) (blk_set_other (v := .slice ao (L.frames.length + i) cap) (o := 3) HC5.out (Nat.succ_ne_self b)) (Nat.succ_ne_self b)
      have ho7 := (only_set b 3 (.slice ao (L.frames.length + i) cap) (w := w5)).trans (only_set b 4 (.slice (some ⟨g, o + i, none⟩) (L.waiting.length - i) (qc - i))) (fun k _ e => e)
      obtain ⟨w7, hw7⟩ : ∃ x, (w5.setCell ⟨b, 3, none⟩ (.slice ao (L.frames.length + i) cap)).setCell ⟨b, 4, none⟩ (.slice (some ⟨g, o + i, none⟩) (L.waiting.length - i) (qc - i)) = x := ⟨_, rfl⟩
      rw [hw7] at hb7 hc7 ho7 ⊢
      have hb7' : w7.heap[b]? = some (.cells #[.int .i64 (L.size : Nat), .int .i64 (L.first : Nat), .int .i64 (tl : Nat), .slice ao (L.frames.length + i) cap, .slice (some ⟨g, o + i, none⟩) (L.waiting.length - i) (qc - i)] 45 (0, 0)) := hb7
      have c70 : w7.cell? ⟨b, 0, none⟩ = some (.int .i64 (L.size : Nat)) := cell_blk hb7' 0
      have c71 : w7.cell? ⟨b, 1, none⟩ = some (.int .i64 (L.first : Nat)) := cell_blk hb7' 1
      have c72 : w7.cell? ⟨b, 2, none⟩ = some (.int .i64 (tl : Nat)) := cell_blk hb7' 2
      have c73 : w7.cell? ⟨b, 3, none⟩ = some (.slice ao (L.frames.length + i) cap) := cell_blk hb7' 3
      have c74 : w7.cell? ⟨b, 4, none⟩ = some (.slice (some ⟨g, o + i, none⟩) (L.waiting.length - i) (qc - i)) := cell_blk hb7' 4
      have hzb7 := blk_lt hb7'
      have HC7 := hid hc7; have HO7 := hid ho7
      clear hw7 hb7 hb7' hc7 ho7 c50 c51 c52 c53 c54 cs5 zf5
      go_wp2_with ((guard_target =~ wpList _ _ _ (⟨none, .store 45 (.tmp 2) _, _, _, _, _⟩ :: _) _ _); refine wpList_store_all rfl 45 (.tmp 2) (.tmp 53) rfl (b + 1) #[.int .i64 (L.size : Nat), .int .i64 (L.first : Nat), .int .i64 (tl : Nat), .slice ao (L.frames.length + i) cap, .slice (some ⟨g, o + i, none⟩) (L.waiting.length - i) (qc - i)] rfl rfl #[.int .i64 0, .int .i64 0, .int .i64 0, .slice none 0 0, .slice none 0 0] 45 HC7.out rfl info_rl (by simp [Value.oneCell']) ?_; intro w9 hb9 ho9 hs9; have HB9 := hid hb9; have HO9 := hid ho9; clear hb9 ho9 hs9)
      have hO59 : Only (fun k => k = b ∨ k = b + 1) w5 w9 := (HO7.out.mono (fun k _ e => .inl e)).trans (HO9.out.mono (fun k _ e => .inr e)) (fun k _ e => e)
      have hO09 : Only (fun _ => False) w0 w9 := HO5w.out.trans hO59 (fun k hk e => by omega)
      refine HR.out _ _ ao cap (some ⟨g, o + i, none⟩) (qc - i) ⟨rfl, ?_, rfl, rfl, rfl⟩ ?_ ?_ ?_ ?_ HAO.out hO09
      · show Value.int .i64 (i : Nat) = _; rw [HLN.out]
      · rw [← HLN.out]; exact hlt
      · rw [← HLN.out, ← HE.out]; exact HB9.out
      · rw [← HLN.out]
        have := (HQ0.out.only hO09 (fun _ _ e => e) (by decide)).drop hlt
        unfold wcs at *
        rwa [← List.map_drop] at this
      · rw [← HLN.out]; exact HG5.out.only hO59 (fun q hq e => by have := HAO.out q hq; omega)
    have hfi : ¬ (lf : Int) < (c : Int) := by omega
    clear hz
    have hlt64 : p + 9 + s.length ≤ 4000000000001000000 := by omega
    have hi1 : i + 1 ≤ n := by have := HLAY2.out; rw [HLE.out, HPE.out, if_neg (by omega)] at this; omega
    go_upto_region 11 with fail
    have hb6 := blk_set HB5.out 2 (.int .i64 ((p : Int) + 9 + s.length))
    have hc6 := blk_set_other (v := .int .i64 ((p : Int) + 9 + s.length)) (o := 2) HC5.out (Nat.succ_ne_self b)
    have ho6 := only_set b 2 (.int .i64 ((p : Int) + 9 + s.length)) (w := w5)
    obtain ⟨w6, hw6⟩ : ∃ x, w5.setCell ⟨b, 2, none⟩ (.int .i64 ((p : Int) + 9 + s.length)) = x := ⟨_, rfl⟩
    rw [hw6] at hb6 hc6 ho6 ⊢
    have hb6' : w6.heap[b]? = some (.cells #[.int .i64 (L.size : Nat), .int .i64 (L.first : Nat), .int .i64 ((p : Int) + 9 + s.length), .slice fa L.frames.length fc, .slice (some ⟨g, o, none⟩) L.waiting.length qc] 45 (0, 0)) := hb6
    have c64 : w6.cell? ⟨b, 4, none⟩ = some (.slice (some ⟨g, o, none⟩) L.waiting.length qc) := cell_blk hb6' 4
    have HO6w : Hid (Only (fun _ => False) w0 w6) := hid (HO5w.out.trans ho6 (fun k hk e => by omega))
    have cs6 := HCL.out w6 HO6w.out
    have hzb6 := blk_lt hb6'
    have HB6 := hid hb6'; have HC6 := hid hc6
    have HG6 := hid (HG5.out.only ho6 (fun q hq e => by have := HAO.out q hq; omega))
    clear hw6 hb6 hb6' hc6 ho6 c50 c51 c52 c53 c54 cs5 zf5
    go_wp2_with ((guard_target =~ wpList _ _ _ (⟨some 65, _, _, _, _, _⟩ :: _) _ _); refine wpList_gr (o := ⟨some 65, _, _, _, _, _⟩) rfl elRF (.tmp 57) (.tmp 64) rfl (HG6.out.only (only_new w6 _) (fun _ _ e => e)) rfl (some ⟨w6.heap.size, 0, none⟩) 1 1 rfl [.int .i64 1, .string (strOf s)] (SrcG.new (blk_new w6 _) rfl (by simp [Value.oneCell'])) (by omega) (by omega) ?_; intro ao2 cp2 w8 hg8 ha8 ho8; have HG8 := hid hg8; have HA8 := hid ha8; have HO8 : Hid (Only (fun k => ao = some ⟨k, 0, none⟩) w6 w8) := hid (((only_new w6 _).mono (fun k _ e => e.elim)).trans ho8 (fun k hk e => e)); clear hg8 ha8 ho8)
    have hnb : ∀ q, ao2 = some ⟨q, 0, none⟩ → b + 1 < q := fun q hq => by
      rcases HA8.out with e | e
      · exact HAO.out q (e ▸ hq)
      · rw [hq] at e; have hz6 := blk_lt HC6.out; simp only [Option.some.injEq, Addr.mk.injEq, and_true, World.size_alloc] at e; omega
    have hcE : placeN tl s.length + 9 + s.length - tl = c := by rw [HPE.out]; exact hc
    have hlay9 : laysN (rleft L.size L.first (p + 9 + s.length)) (p + 9 + s.length) (bats (L.waiting.drop (i + 1))) + (i + 1) = n := by
      have h1 := HLAY2.out
      rw [hcE, HLE.out, if_neg (by omega), HPE.out] at h1
      have h2 : rleft L.size L.first (p + 9 + s.length) = lf - c := by unfold rleft; omega
      rw [h2]; omega
    have hend9 : p + 9 + s.length + (layT (p + 9 + s.length) (bats ((L.waiting.drop (i + 1)).take (n - (i + 1))))).length = E := by
      have h1 := HEND2.out
      have h2 : n - i = (n - (i + 1)) + 1 := by omega
      rw [h2, List.take_succ_cons, bats_cons, hcE, HPE.out] at h1
      omega
    refine ⟨⟨i + 1, p + 9 + s.length, cp2, ao2, ⟨rfl, rfl, rfl, rfl, by show Value.slice _ _ _ = _; rw [Nat.add_assoc], by show Value.int .i64 _ = _; go_num, rfl, rfl⟩, hi1, by omega, by omega, hlay9, hend9, ?_, hnb, ?_, ?_, ?_⟩, by simp [intOf]; omega⟩
    · rw [bats_snoc HS.out, ← List.append_assoc, fcs_app, ← Nat.add_assoc]; exact HG8.out
    · have h1 := blk_only HB6.out HO8.out (fun e => by have := HAO.out b e; omega)
      have h2 : ((p : Int) + 9 + s.length) = ((p + 9 + s.length : Nat) : Int) := by omega
      rw [h2] at h1; exact h1
    · exact blk_only HC6.out HO8.out (fun e => by have := HAO.out (b + 1) e; omega)
    · exact HO6w.out.trans HO8.out (fun k hk e => by have := HAO.out k e; omega)
/-- What Commit of the reference leaves: the log, how many, the error's number. -/
theorem RLAt.commit {w w' : World} {L : RLog} {fv wv fv' wv' : Value} {G G' : Nat → Prop} (h : RLAt w L fv wv G) (hf : SlV w' fv' (L.frames.length + L.fit) 2 (fcs (L.frames ++ bats (L.waiting.take L.fit))) G') (hq : SlV w' wv' (L.waiting.length - L.fit) 1 (wcs (L.waiting.drop L.fit)) G') (hlt : ∀ k, G' k → k < w'.heap.size) : RLAt w' L.commit fv' wv' G' := by
  have hnl : L.fit ≤ L.waiting.length := by unfold RLog.fit; have := laysN_le (rleft L.size L.first L.tail) L.tail (bats L.waiting); unfold bats at *; rwa [List.length_map] at this
  have hlf : (L.frames ++ bats (L.waiting.take L.fit)).length = L.frames.length + L.fit := by unfold bats; simp; omega
  have hfit : (layT L.tail (bats (L.waiting.take L.fit))).length ≤ rleft L.size L.first L.tail := by
    have := layT_fit (bats L.waiting) (rleft L.size L.first L.tail) L.tail
    unfold RLog.fit bats at *
    rwa [← List.map_take] at this
  have hmore : 9 * L.fit ≤ (layT L.tail (bats (L.waiting.take L.fit))).length := by
    have : ∀ (ws : List (List UInt8)) (a : Nat), 9 * ws.length ≤ (layT a (bats ws)).length := fun ws => by
      induction ws with
      | nil => intro a; exact Nat.zero_le _
      | cons s ws ih => intro a; rw [bats_cons]; have := ih (placeN a s.length + 9 + s.length); have := place_le a s.length; simp; omega
    have h2 := this (L.waiting.take L.fit) L.tail
    rwa [List.length_take, Nat.min_eq_left hnl] at h2
  have hrl : rleft L.size L.first L.tail = L.size - (L.tail - L.first / 128 * 128) := rfl
  have h1 := h.ft; have h2 := h.rm; have h3 := h.nf; have h4 := h.nw
  refine ⟨?_, ?_, h.sz, ?_, ?_, ?_, ?_, ?_, hlt⟩
  · show SlV w' fv' (L.frames ++ bats (L.waiting.take L.fit)).length 2 _ _; rw [hlf]; exact hf
  · show SlV w' wv' (L.waiting.drop L.fit).length 1 _ _; rw [List.length_drop]; exact hq
  · show L.first ≤ L.tail + _; omega
  · show L.tail + _ - L.first / 128 * 128 ≤ L.size; omega
  · show 9 * (L.frames ++ bats (L.waiting.take L.fit)).length ≤ L.tail + _ - L.first; rw [hlf]; omega
  · show (L.waiting.drop L.fit).length ≤ 64; rw [List.length_drop]; omega
  · exact fun s hs => h.ws s (List.mem_of_mem_drop hs)
set_option maxRecDepth 100000 in
set_option maxHeartbeats 3200000 in
theorem rcommit_c (h : RLAt w L fv wv G) (hT : L.tail ≤ 4000000000000000000) : Calls Try.prog 40 #[.agg (rcells L fv wv)] w (RPost w L.commit G [.int .i64 (L.fit : Nat), .int .i64 (if L.fit = L.waiting.length then 0 else 3)]) := by
  have H := hid h
  have hnf := h.nf; have hrm := h.rm; have hsz := h.sz; have hft := h.ft
  obtain ⟨⟨fa, fc, rfl, hfc, hf, hfG⟩, ⟨qa, qc, rfl, hqc, hq, hqG⟩, -⟩ := h
  have hfl : L.frames.length ≤ 1000128 := by omega
  clear hf hq hfG hqG hfc hqc
  obtain ⟨ec, hec⟩ : ∃ x : Int, (if L.fit = L.waiting.length then (0 : Int) else 3) = x := ⟨_, rfl⟩
  rw [hec]
  have HEC := hid hec
  clear hec
  unfold rcells
  go_enter Try.func40, Try.ntmps40
  obtain ⟨W0, hW0⟩ : ∃ x, (w.alloc (.cells #[.int .i64 (L.size : Nat), .int .i64 (L.first : Nat), .int .i64 (L.tail : Nat), .slice fa L.frames.length fc, .slice qa L.waiting.length qc] 45)).alloc (.cells #[.int .i64 0, .int .i64 0, .int .i64 0, .slice none 0 0, .slice none 0 0] 45) = x := ⟨_, rfl⟩
  have hB1 : W0.heap[w.heap.size]? = some (.cells #[.int .i64 (L.size : Nat), .int .i64 (L.first : Nat), .int .i64 (L.tail : Nat), .slice fa L.frames.length fc, .slice qa L.waiting.length qc] 45 (0, 0)) := by rw [← hW0]; exact blk_alloc (blk_new _ _)
  have hB2 : W0.heap[w.heap.size + 1]? = some (.cells #[.int .i64 0, .int .i64 0, .int .i64 0, .slice none 0 0, .slice none 0 0] 45 (0, 0)) := by rw [← hW0]; exact blk2w _ _ _
  have hO0 : Only (fun _ => False) w W0 := by rw [← hW0]; exact (only_new _ _).trans (only_new _ _) (fun _ _ e => e)
  have hz0 : w.heap.size + 1 < W0.heap.size := by rw [← hW0]; simp
  have HB1 := hid hB1; have HB2 := hid hB2; have HO0 := hid hO0; have HW0 := hid hW0
  have HGE : Hid (Gr (W0.alloc (.cells #[] 57)) 57 2 (some ⟨W0.heap.size, 0, none⟩) 0 0 []) := hid ⟨rfl, Nat.le_refl _, .inr ⟨_, rfl, [], blk_new W0 _, rfl⟩⟩
  have HSG : Hid (SrcG (W0.alloc (.cells #[] 57)) fa L.frames.length 2 (fcs L.frames)) := hid (by
    obtain ⟨ax, c, e, -, h3, -⟩ := (H.out.same (hO0.trans (only_new W0 (.cells #[] 57)) (fun _ _ e => e))).f
    simp only [Value.slice.injEq, true_and] at e
    rw [e.1]; exact h3)
  have hz1 : w.heap.size < W0.heap.size := by omega
  clear hB1 hB2 hO0 hW0
  go_upto_region 1 with fail
  rw [HW0.out]
  have c03 : W0.cell? ⟨w.heap.size, 3, none⟩ = some (.slice fa L.frames.length fc) := cell_blk HB1.out 3
  go_upto_block 0 with ((guard_target =~ wpList _ _ _ (⟨some 12, _, _, _, _, _⟩ :: _) _ _); refine wpList_gr (o := ⟨some 12, _, _, _, _, _⟩) rfl elRF (.tmp 9) (.tmp 11) rfl HGE.out rfl fa L.frames.length fc rfl (fcs L.frames) HSG.out (by omega) (by omega) ?_; intro ao1 cp1 w3 hg3 ha3 ho3; rw [Nat.zero_add] at hg3 ⊢; rw [List.nil_append] at hg3; have HG3 := hid hg3; have HO3 : Hid (Only (fun _ => False) W0 w3) := hid ((only_new W0 _).trans ho3 (fun k hk e => (by simp only [Option.some.injEq, Addr.mk.injEq, and_true] at e; omega))); have HN3 : Hid (∀ q, ao1 = some ⟨q, 0, none⟩ → W0.heap.size ≤ q) := hid (fun q hq => (by rcases ha3 with e | e <;> rw [hq] at e <;> simp only [Option.some.injEq, Addr.mk.injEq, and_true, World.size_alloc] at e <;> omega)); clear hg3 ha3 ho3 c03)
  have hO3 : Only (fun _ => False) w w3 := HO0.out.trans HO3.out (fun _ _ e => e)
  have hb31 := blk_only HB1.out HO3.out (fun e => e)
  have hb32 := blk_only HB2.out HO3.out (fun e => e)
  refine rc0 (a := _) (b := w.heap.size) H.out hT rfl rfl (Nat.le_refl _) hb31 hb32 HG3.out (fun q hq => by have := HN3.out q hq; omega) hO3 ⟨rfl, rfl, rfl, rfl, rfl, rfl, rfl, rfl⟩ ?_ ?_
  · intro a' w' ao cap ax c hI hlt hb9 hsl hg9 hn9 ho9
    obtain ⟨u, rfl, hu⟩ := act_fn hI
    rw [lit74] at hI ⊢
    obtain ⟨g2, g3, g4, -⟩ := hI
    change u 2 = _ at g2
    change u 3 = _ at g3
    change u 4 = _ at g4
    rw [g2, g3, g4]
    clear g2 g3 g4 hu
    refine bodyPost_ret (results_cell2 rfl _ _ (w.heap.size + 1) 45 _ (0, 0) _ rfl hb9 Try.underlying45 rfl info_rl) rfl ⟨_, _, fun k => G k ∨ w.heap.size ≤ k ∧ k < w'.heap.size, by rw [← HEC.out, if_neg (by omega)]; rfl, H.out.commit (hg9.slv (fcs_one _) (fun q hq => .inr ⟨by have := hn9 q hq; omega, hg9.lt hq⟩)) (hsl.mono (fun k hk => .inl hk)) (fun k hk => hk.elim (fun e => Nat.lt_of_lt_of_le (H.out.lt k e) ho9.size) (fun e => e.2)), fun k hk => hk.elim .inl (fun e => .inr e.1), ho9⟩
  · intro a' w' ao cap hI hlt hb9 hc9 hg9 hn9 ho9
    obtain ⟨u, rfl, hu⟩ := act_fn hI
    rw [lit74] at hI ⊢
    obtain ⟨g1, g2, g5, -⟩ := hI
    change u 1 = _ at g1
    change u 2 = _ at g2
    change u 5 = _ at g5
    rw [g1, g2, g5]
    clear g1 g2 g5 hu
    have c4 : w'.cell? ⟨w.heap.size, 4, none⟩ = some (.slice qa L.waiting.length qc) := cell_blk hb9 4
    have zf := frozen_blk hb9
    have hzb9 := blk_lt hb9
    have HB9 := hid hb9; have HC9 := hid hc9; have HG9 := hid hg9; have HN9 := hid hn9; have HO9 := hid ho9; have HLT := hid hlt
    have hnw := H.out.nw
    have c3 : w'.cell? ⟨w.heap.size, 3, none⟩ = some (.slice fa L.frames.length fc) := cell_blk HB9.out 3
    clear hb9 hc9 hg9 hn9 ho9 hb31 hb32 hO3 hlt
    go_upto_region 15 with fail
    have hb7 := blk_set (blk_set HB9.out 3 (.slice ao (L.frames.length + L.fit) cap)) 4 (.slice none 0 0)
    have hc7 := blk_set_other (v := .slice none 0 0) (o := 4) (blk_set_other (v := .slice ao (L.frames.length + L.fit) cap) (o := 3) HC9.out (Nat.succ_ne_self w.heap.size)) (Nat.succ_ne_self w.heap.size)
    have ho7 := (only_set w.heap.size 3 (.slice ao (L.frames.length + L.fit) cap) (w := w')).trans (only_set w.heap.size 4 (.slice none 0 0)) (fun k _ e => e)
    obtain ⟨w7, hw7⟩ : ∃ x, (w'.setCell ⟨w.heap.size, 3, none⟩ (.slice ao (L.frames.length + L.fit) cap)).setCell ⟨w.heap.size, 4, none⟩ (.slice none 0 0) = x := ⟨_, rfl⟩
    rw [hw7] at hb7 hc7 ho7 ⊢
    obtain ⟨E, hE⟩ : ∃ x, L.tail + (layT L.tail (bats (L.waiting.take L.fit))).length = x := ⟨_, rfl⟩
    rw [hE] at hb7
    have hb7' : w7.heap[w.heap.size]? = some (.cells #[.int .i64 (L.size : Nat), .int .i64 (L.first : Nat), .int .i64 (E : Nat), .slice ao (L.frames.length + L.fit) cap, .slice none 0 0] 45 (0, 0)) := hb7
    have c70 : w7.cell? ⟨w.heap.size, 0, none⟩ = some (.int .i64 (L.size : Nat)) := cell_blk hb7' 0
    have c71 : w7.cell? ⟨w.heap.size, 1, none⟩ = some (.int .i64 (L.first : Nat)) := cell_blk hb7' 1
    have c72 : w7.cell? ⟨w.heap.size, 2, none⟩ = some (.int .i64 (E : Nat)) := cell_blk hb7' 2
    have c73 : w7.cell? ⟨w.heap.size, 3, none⟩ = some (.slice ao (L.frames.length + L.fit) cap) := cell_blk hb7' 3
    have c74 : w7.cell? ⟨w.heap.size, 4, none⟩ = some (.slice none 0 0) := cell_blk hb7' 4
    have hzb7 := blk_lt hb7'
    have HC7 := hid hc7; have HO7 := hid ho7; have HE := hid hE
    clear hw7 hb7 hb7' hc7 ho7 c3 c4 zf hE
    go_wp2_with ((guard_target =~ wpList _ _ _ (⟨none, .store 45 (.tmp 2) _, _, _, _, _⟩ :: _) _ _); refine wpList_store_all rfl 45 (.tmp 2) (.tmp 72) rfl (w.heap.size + 1) #[.int .i64 (L.size : Nat), .int .i64 (L.first : Nat), .int .i64 (E : Nat), .slice ao (L.frames.length + L.fit) cap, .slice none 0 0] rfl rfl #[.int .i64 0, .int .i64 0, .int .i64 0, .slice none 0 0, .slice none 0 0] 45 HC7.out rfl info_rl (by simp [Value.oneCell']) ?_; intro w9 hb9 ho9 hs9; have HB99 := hid hb9; have HO99 := hid ho9; clear hb9 ho9 hs9)
    have hO59 : Only (fun k => k = w.heap.size ∨ k = w.heap.size + 1) w' w9 := (HO7.out.mono (fun k _ e => .inl e)).trans (HO99.out.mono (fun k _ e => .inr e)) (fun k _ e => e)
    have hO09 : Only (fun _ => False) w w9 := HO9.out.trans hO59 (fun k hk e => by omega)
    have hg9 := HG9.out.only hO59 (fun q hq e => by have := HN9.out q hq; omega)
    have hl0 : L.waiting.drop L.fit = [] := by rw [HLT.out]; exact List.drop_length
    exact bodyPost_ret (results_cell2 rfl _ _ (w.heap.size + 1) 45 #[.int .i64 (L.size : Nat), .int .i64 (L.first : Nat), .int .i64 (E : Nat), .slice ao (L.frames.length + L.fit) cap, .slice none 0 0] (0, 0) _ rfl HB99.out Try.underlying45 rfl info_rl) rfl ⟨_, _, fun k => G k ∨ w.heap.size ≤ k ∧ k < w9.heap.size, by rw [← HEC.out, if_pos HLT.out, ← HE.out]; show Ending.returned (.tuple #[_, .int .i64 (L.waiting.length : Nat), .int .i64 0]) = _; rw [← HLT.out]; rfl, H.out.commit (hg9.slv (fcs_one _) (fun q hq => .inr ⟨by have := HN9.out q hq; omega, hg9.lt hq⟩)) (by rw [hl0, HLT.out, Nat.sub_self]; exact SlV.nil _ _ _) (fun k hk => hk.elim (fun e => Nat.lt_of_lt_of_le (H.out.lt k e) hO09.size) (fun e => e.2)), fun k hk => hk.elim .inl (fun e => .inr e.1), hO09⟩
end
end Go.Proofs.Ythodcbhejjbhaaa
namespace Go.Proofs.Ythodcbhejjbhaaa
open Go.RowKit
set_option linter.unusedVariables false
set_option linter.unusedSimpArgs false

noncomputable def rpB (id : Nat) : Code := ((Try.f42.body).bind (blkOf id)).getD .skip
theorem lit66 (v : Nat → Value) : ((List.range 66).map v).toArray = #[v 0, v 1, v 2, v 3, v 4, v 5, v 6, v 7, v 8, v 9, v 10, v 11, v 12, v 13, v 14, v 15, v 16, v 17, v 18, v 19, v 20, v 21, v 22, v 23, v 24, v 25, v 26, v 27, v 28, v 29, v 30, v 31, v 32, v 33, v 34, v 35, v 36, v 37, v 38, v 39, v 40, v 41, v 42, v 43, v 44, v 45, v 46, v 47, v 48, v 49, v 50, v 51, v 52, v 53, v 54, v 55, v 56, v 57, v 58, v 59, v 60, v 61, v 62, v 63, v 64, v 65] := by kernel_rfl
/-- A checkpoint's parts that are still to be laid. -/
def restK (fst : Int) (s : List UInt8) : List (Nat × List UInt8) := if 0 ≤ fst ∧ s = [] then [] else cutL s
def RLog.check (L : RLog) (s : List UInt8) : RLog × Int :=
  if L.waiting ≠ [] then (L, 7)
  else if rleft L.size L.first L.tail < (layT L.tail (cutL s)).length then (L, 3)
  else ({ L with first := placeN L.tail (min s.length 2039), tail := L.tail + (layT L.tail (cutL s)).length, frames := cutL s }, 0)
def szOf : Value → Nat
  | .string b => b.size
  | _ => 0
theorem restK_next (s : List UInt8) (fst : Int) (h : 0 ≤ fst) : ∃ k n, n = min s.length 2039 ∧ (2039 < s.length → k = 2) ∧ (¬ 2039 < s.length → k = 3) ∧ cutL s = (k, s.take n) :: restK fst (s.drop n) := by
  by_cases hb : s.length ≤ 2039
  · refine ⟨3, s.length, by omega, fun h => by omega, fun _ => rfl, ?_⟩
    rw [cutL_small hb, List.take_length, List.drop_length]
    unfold restK
    rw [if_pos ⟨h, rfl⟩]
  · refine ⟨2, 2039, by omega, fun _ => rfl, fun h => by omega, ?_⟩
    unfold restK
    rw [cutL_big hb, if_neg (fun e => by have := congrArg List.length e.2; rw [List.length_drop] at this; simp at this; omega)]
theorem take_str (l : List UInt8) (n : Nat) : (strOf l).extract 0 n = strOf (l.take n) := by
  apply ByteArray.ext
  apply Array.toList_inj.mp
  simp [strOf, ByteArray.data_extract, List.extract_eq_take_drop]
theorem drop_str (l : List UInt8) (n m : Nat) (hm : m = l.length) : (strOf l).extract n m = strOf (l.drop n) := by
  subst hm
  apply ByteArray.ext
  apply Array.toList_inj.mp
  simp [strOf, ByteArray.data_extract, List.extract_eq_take_drop]
  exact List.take_of_length_le (by rw [List.length_drop]; exact Nat.le_refl _)
section
variable {w0 w : World} {L : RLog} {fv wv : Value} {G : Nat → Prop} {Q : Exit → Act → World → Prop}
set_option maxRecDepth 100000 in
set_option maxHeartbeats 3200000 in
theorem rp0 {a : Act} {b E : Nat} {A0 : Nat} {s : List UInt8} {cs : Array Value} (hA0 : A0 ≤ 4000000000000000000) (hsl : s.length ≤ 1000000) (hEb : E ≤ 4100000000000000000) (hE : E = A0 + (layT A0 (cutL s)).length) (hb : w0.heap.size ≤ b)
    (ho0 : Only (fun _ => False) w0 w) (hbk : w.heap[b]? = some (.cells cs 45 (0, 0))) (hck : w.heap[b + 1]? = some (.cells #[.int .i64 0, .int .i64 0, .int .i64 0, .slice none 0 0, .slice none 0 0] 45 (0, 0)))
    (hL : Lv 66 a [(1, .string (strOf s)), (2, .pointer (some ⟨b, 0, none⟩)), (4, .pointer (some ⟨b + 1, 0, none⟩)), (5, .int .i64 0), (6, .slice none 0 0), (7, .int .i64 (A0 : Nat)), (8, .int .i64 (-1))])
    (hQ : ∀ a' w' ao cap, Lv 66 a' [(2, .pointer (some ⟨b, 0, none⟩)), (4, .pointer (some ⟨b + 1, 0, none⟩)), (6, .slice ao (cutL s).length cap), (7, .int .i64 (E : Nat)), (8, .int .i64 (placeN A0 (min s.length 2039) : Nat))] → w'.heap[b]? = some (.cells cs 45 (0, 0)) → w'.heap[b + 1]? = some (.cells #[.int .i64 0, .int .i64 0, .int .i64 0, .slice none 0 0, .slice none 0 0] 45 (0, 0)) → Gr w' 57 2 ao (cutL s).length cap (fcs (cutL s)) → (∀ q, ao = some ⟨q, 0, none⟩ → b + 1 < q) → Only (fun _ => False) w0 w' → Q .normal a' w') :
    (rpB 0).wp Try.prog Q a w := by
  refine Code.wp_mono NoPanic.imp ?_
  conv => arg 2; whnf
  refine wp_block (wp_loop (fun a' w' => ∃ (rem : List UInt8) (at' cap : Nat) (fst : Int) (fs : List (Nat × List UInt8)) (ao : Option Addr), Lv 66 a' [(1, .string (strOf rem)), (2, .pointer (some ⟨b, 0, none⟩)), (4, .pointer (some ⟨b + 1, 0, none⟩)), (5, .int .i64 0), (6, .slice ao fs.length cap), (7, .int .i64 (at' : Nat)), (8, .int .i64 fst)] ∧ rem.length ≤ s.length ∧ fs.length + rem.length ≤ s.length + 1 ∧ (fst < 0 → rem = s ∧ at' = A0 ∧ fs = []) ∧ (0 ≤ fst → fst = ((placeN A0 (min s.length 2039) : Nat) : Int)) ∧ fs ++ restK fst rem = cutL s ∧ at' + (layT at' (restK fst rem)).length = E ∧ Gr w' 57 2 ao fs.length cap (fcs fs) ∧ (∀ q, ao = some ⟨q, 0, none⟩ → b + 1 < q) ∧ w'.heap[b]? = some (.cells cs 45 (0, 0)) ∧ w'.heap[b + 1]? = some (.cells #[.int .i64 0, .int .i64 0, .int .i64 0, .slice none 0 0, .slice none 0 0] 45 (0, 0)) ∧ Only (fun _ => False) w0 w')
    (fun a' _ => szOf (a'.tmps.getD 1 undef) + if intOf (a'.tmps.getD 8 undef) < 0 then 1 else 0) ⟨s, A0, 0, -1, [], none, hL, Nat.le_refl _, by simp, fun _ => ⟨rfl, rfl, rfl⟩, fun h => absurd h (by decide), by unfold restK; rw [if_neg (by simp), List.nil_append], by unfold restK; rw [if_neg (by simp), hE], Gr.nil, by simp, hbk, hck, ho0⟩ ?_)
  clear hL hbk hck ho0 hE
  rintro a' w' ⟨rem, at', cap, fst, fs, ao, hI, hrl, hfl, hf0, hf1, hall, hend, hgr, hao, hbk, hck, ho⟩
  obtain ⟨u, rfl, hu⟩ := act_fn hI
  rw [lit66] at hI ⊢
  obtain ⟨g1, g2, g4, g5, g6, g7, g8, -⟩ := hI
  change u 1 = _ at g1
  change u 2 = _ at g2
  change u 4 = _ at g4
  change u 5 = _ at g5
  change u 6 = _ at g6
  change u 7 = _ at g7
  change u 8 = _ at g8
  rw [g1, g2, g4, g5, g6, g7, g8]
  clear g1 g2 g4 g5 g6 g7 g8 hu
  have HQ := hid hQ; have HGR := hid hgr; have HAO := hid hao; have HO := hid ho; have HALL := hid hall; have HEND := hid hend; have HBK := hid hbk; have HCK := hid hck; have HF0 := hid hf0; have HF1 := hid hf1
  have hzb := blk_lt hbk; have hzc := blk_lt hck
  clear hQ hgr hao ho hall hend hbk hck hf0 hf1
  have hsz : (strOf rem).size = rem.length := rfl
  obtain ⟨z, hz⟩ : ∃ z : Bool, decide (fst < 0 ∨ rem ≠ []) = z := ⟨_, rfl⟩
  go_upto_region 5 with fail
  dsimp only
  go_cut [23] from 18 to 23 (fun v wx => v = .bool z ∧ wx = w')
  case first =>
    by_cases h1 : fst < 0
    · have hzt : z = true := by rw [← hz]; exact decide_eq_true (.inl h1)
      have HZT := hid hzt
      clear hz hzt
      go_wp2_with fail
      go_meet
      case rel => exact ⟨by rw [HZT.out], rfl⟩
    · by_cases h2 : rem = []
      · have hzt : z = false := by rw [← hz]; exact decide_eq_false (fun e => e.elim h1 (fun e => e h2))
        have HZT := hid hzt
        have hsb : (strOf rem).toList.isEmpty = true := by rw [strOf_list, h2]; rfl
        clear hz hzt h2
        go_wp2_with fail
        go_meet
        case rel => exact ⟨by rw [HZT.out], rfl⟩
      · have hzt : z = true := by rw [← hz]; exact decide_eq_true (.inr h2)
        have HZT := hid hzt
        have hsb : (strOf rem).toList.isEmpty = false := by rw [strOf_list]; simpa using h2
        clear hz hzt h2
        go_wp2_with fail
        go_meet
        case rel => exact ⟨by rw [HZT.out], rfl⟩
  case rest =>
    obtain ⟨rfl, rfl⟩ := hcut
    by_cases hfin : 0 ≤ fst ∧ rem = []
    · have hzt : z = false := by rw [← hz]; exact decide_eq_false (fun e => e.elim (fun h => by omega) (fun e => e hfin.2))
      have hrk : restK fst rem = [] := by unfold restK; rw [if_pos hfin]
      have HFS : Hid (fs = cutL s) := hid (by have := HALL.out; rwa [hrk, List.append_nil] at this)
      have HAE : Hid (at' = E) := hid (by have := HEND.out; rwa [hrk] at this)
      have HFE := hid (HF1.out hfin.1)
      subst hzt
      clear hz hfin hrk
      go_wp2_with fail
      exact HQ.out _ _ ao cap ⟨rfl, rfl, by show Value.slice _ _ _ = _; rw [HFS.out], by show Value.int .i64 _ = _; rw [HAE.out], by show Value.int .i64 _ = _; rw [HFE.out], rfl, rfl⟩ HBK.out HCK.out (by rw [← HFS.out]; exact HGR.out) HAO.out HO.out
    have hzt : z = true := by
      rw [← hz]; refine decide_eq_true ?_
      rcases Int.lt_or_le fst 0 with h | h
      · exact .inl h
      · exact .inr (fun e => hfin ⟨h, e⟩)
    subst hzt
    have hrk : restK fst rem = cutL rem := by unfold restK; rw [if_neg hfin]
    obtain ⟨k, n, hn, hk2, hk3, hcu⟩ := restK_next rem 0 (Int.le_refl 0)
    have hall := HALL.out; have hend := HEND.out
    rw [hrk, hcu] at hall hend
    have htk : (rem.take n).length = n := by rw [List.length_take]; omega
    have hend2 : at' + ((placeN at' n + 9 + n - at') + (layT (placeN at' n + 9 + n) (restK 0 (rem.drop n))).length) = E := by
      have h1 : (layT at' ((k, rem.take n) :: restK 0 (rem.drop n))).length = (placeN at' n + 9 + n - at') + (layT (placeN at' n + 9 + n) (restK 0 (rem.drop n))).length := by
        show ((padN at' (rem.take n).length ++ frameN (placeN at' (rem.take n).length) k (rem.take n)) ++ layT (placeN at' (rem.take n).length + 9 + (rem.take n).length) (restK 0 (rem.drop n))).length = _
        rw [List.length_append, first_len, htk]
      rw [← h1]; exact hend
    have hpl := place_le at' n
    have HFP : Hid (fst < 0 → placeN at' n = placeN A0 (min s.length 2039)) := hid (fun h => by obtain ⟨h1, h2, -⟩ := HF0.out h; rw [hn, h1, h2])
    obtain ⟨p, hp⟩ : ∃ x, placeN at' n = x := ⟨_, rfl⟩
    rw [hp] at hend2 hpl
    have HP : Hid (∀ W, Calls Try.prog 62 #[.int .i64 at', .int .i64 ((n : Nat) : Int)] W fun e w' => e = .returned (.int .i64 (p : Nat)) ∧ W = w') := hid fun W => by rw [← hp]; exact rplace_c at' n (by omega) (by omega)
    have HPE := hid hp; have HALL2 := hid hall; have HEND2 := hid hend2
    have hpE : p + 9 + n ≤ 4100000000000000000 := by omega
    have hae : at' ≤ 4100000000000000000 := by omega
    have HTK : Hid ((strOf rem).extract 0 n = strOf (rem.take n)) := hid (take_str _ _)
    have HDK : Hid ((strOf rem).extract n rem.length = strOf (rem.drop n)) := hid (drop_str _ _ _ rfl)
    have hrl6 : rem.length ≤ 1000000 := by omega
    have hfs6 : fs.length ≤ 1000001 := by omega
    have hnle : n ≤ rem.length := by omega
    have hre : rem.length = 0 → fst < 0 := fun e => Int.lt_of_not_ge (fun h => hfin ⟨h, List.eq_nil_of_length_eq_zero e⟩)
    clear hz hfin hrk hall hend hend2 hp hcu htk
    by_cases hbig : 2039 < rem.length
    · have hbi : (2039 : Int) < rem.length := by omega
      obtain rfl : n = 2039 := by omega
      obtain rfl := hk2 hbig
      clear hn hk2 hk3 hbig
      by_cases hf : fst < 0
      · -- BR1
        have HGA := hid (HGR.out)
        go_wp2_with (first
          | ((go_at_call 62); refine (HP.out _).mono ?_; rintro x W' ⟨rfl, rfl⟩)
          | ((guard_target =~ wpList _ _ _ (⟨some 45, _, _, _, _, _⟩ :: _) _ _); refine wpList_gr (o := ⟨some 45, _, _, _, _, _⟩) rfl elRF (.tmp 38) (.tmp 44) rfl (HGR.out.only (only_new wc _) (fun _ _ e => e)) rfl (some ⟨wc.heap.size, 0, none⟩) 1 1 rfl [.int .i64 2, .string ((strOf rem).extract 0 2039)] (SrcG.new (blk_new wc _) rfl (by simp [Value.oneCell'])) (by omega) (by omega) ?_; intro ao2 cp2 w8 hg8 ha8 ho8; have HG8 := hid hg8; have HA8 := hid ha8; have HO8 : Hid (Only (fun k => ao = some ⟨k, 0, none⟩) wc w8) := hid (((only_new wc _).mono (fun k _ e => e.elim)).trans ho8 (fun k hk e => e)); clear hg8 ha8 ho8))
        all_goals (
          have hnb : ∀ q, ao2 = some ⟨q, 0, none⟩ → b + 1 < q := fun q hq => by
            rcases HA8.out with e | e
            · exact HAO.out q (e ▸ hq)
            · rw [hq] at e; simp only [Option.some.injEq, Addr.mk.injEq, and_true, World.size_alloc] at e; omega
          have hR0 : ∀ x, restK (p : Int) x = restK 0 x := fun x => by unfold restK; simp only [show (0 : Int) ≤ (p : Int) from by omega, Int.le_refl, true_and]
          have hdl : (rem.drop 2039).length = rem.length - 2039 := List.length_drop
          have hll : (fs ++ [(2, rem.take 2039)]).length = fs.length + 1 := by rw [List.length_append]; rfl
          have hf3 : fs.length = 0 := by rw [(HF0.out hf).2.2]; rfl
          refine ⟨⟨rem.drop 2039, p + 9 + 2039, cp2, (p : Int), fs ++ [(2, rem.take 2039)], ao2, ⟨by show Value.string _ = _; rw [HDK.out], rfl, rfl, rfl, by show Value.slice _ _ _ = _; rw [hll], by show Value.int .i64 _ = _; go_num, rfl, rfl, rfl⟩, by rw [hdl]; omega, by rw [hll, hdl]; omega, fun h => by omega, ?_, ?_, ?_, ?_, hnb, ?_, ?_, ?_⟩, ?_⟩
          · exact fun _ => by rw [← HPE.out, HFP.out hf]
          · rw [hR0, List.append_assoc]; exact HALL2.out
          · rw [hR0]; have := HEND2.out; omega
          · rw [fcs_app, hll]; have := HG8.out; rw [HTK.out] at this; exact this
          · exact blk_only HBK.out HO8.out (fun e => by have := HAO.out b e; omega)
          · exact blk_only HCK.out HO8.out (fun e => by have := HAO.out (b + 1) e; omega)
          · exact HO.out.trans HO8.out (fun k hk e => by have := HAO.out k e; omega)
          · have h1 : (((strOf rem).extract 2039 rem.length) : ByteArray).size = rem.length - 2039 := by rw [HDK.out]; exact hdl
            have h2 : (strOf rem).size = rem.length := rfl
            simp only [szOf, h1, h2]
            omega)
      · -- BR2
        have hfb : decide (fst < 0) = false := decide_eq_false hf
        have hf9 : (0 : Int) ≤ fst := by omega
        have HGA := hid (HGR.out)
        go_wp2_with (first
          | ((go_at_call 62); refine (HP.out _).mono ?_; rintro x W' ⟨rfl, rfl⟩)
          | ((guard_target =~ wpList _ _ _ (⟨some 45, _, _, _, _, _⟩ :: _) _ _); refine wpList_gr (o := ⟨some 45, _, _, _, _, _⟩) rfl elRF (.tmp 38) (.tmp 44) rfl (HGR.out.only (only_new wc _) (fun _ _ e => e)) rfl (some ⟨wc.heap.size, 0, none⟩) 1 1 rfl [.int .i64 2, .string ((strOf rem).extract 0 2039)] (SrcG.new (blk_new wc _) rfl (by simp [Value.oneCell'])) (by omega) (by omega) ?_; intro ao2 cp2 w8 hg8 ha8 ho8; have HG8 := hid hg8; have HA8 := hid ha8; have HO8 : Hid (Only (fun k => ao = some ⟨k, 0, none⟩) wc w8) := hid (((only_new wc _).mono (fun k _ e => e.elim)).trans ho8 (fun k hk e => e)); clear hg8 ha8 ho8))
        all_goals (
          have hnb : ∀ q, ao2 = some ⟨q, 0, none⟩ → b + 1 < q := fun q hq => by
            rcases HA8.out with e | e
            · exact HAO.out q (e ▸ hq)
            · rw [hq] at e; simp only [Option.some.injEq, Addr.mk.injEq, and_true, World.size_alloc] at e; omega
          have hR0 : ∀ x, restK fst x = restK 0 x := fun x => by unfold restK; simp only [show (0 : Int) ≤ fst from by omega, Int.le_refl, true_and]
          have hdl : (rem.drop 2039).length = rem.length - 2039 := List.length_drop
          have hll : (fs ++ [(2, rem.take 2039)]).length = fs.length + 1 := by rw [List.length_append]; rfl
          refine ⟨⟨rem.drop 2039, p + 9 + 2039, cp2, fst, fs ++ [(2, rem.take 2039)], ao2, ⟨by show Value.string _ = _; rw [HDK.out], rfl, rfl, rfl, by show Value.slice _ _ _ = _; rw [hll], by show Value.int .i64 _ = _; go_num, rfl, rfl, rfl⟩, by rw [hdl]; omega, by rw [hll, hdl]; omega, fun h => by omega, ?_, ?_, ?_, ?_, hnb, ?_, ?_, ?_⟩, ?_⟩
          · exact HF1.out
          · rw [hR0, List.append_assoc]; exact HALL2.out
          · rw [hR0]; have := HEND2.out; omega
          · rw [fcs_app, hll]; have := HG8.out; rw [HTK.out] at this; exact this
          · exact blk_only HBK.out HO8.out (fun e => by have := HAO.out b e; omega)
          · exact blk_only HCK.out HO8.out (fun e => by have := HAO.out (b + 1) e; omega)
          · exact HO.out.trans HO8.out (fun k hk e => by have := HAO.out k e; omega)
          · have h1 : (((strOf rem).extract 2039 rem.length) : ByteArray).size = rem.length - 2039 := by rw [HDK.out]; exact hdl
            have h2 : (strOf rem).size = rem.length := rfl
            simp only [szOf, h1, h2]
            omega)
    · have hbi : ¬ (2039 : Int) < rem.length := by omega
      obtain rfl : n = rem.length := by omega
      obtain rfl := hk3 hbig
      clear hn hk2 hk3 hbig
      by_cases hf : fst < 0
      · -- BR3
        have HGA := hid (HGR.out)
        go_wp2_with (first
          | ((go_at_call 62); refine (HP.out _).mono ?_; rintro x W' ⟨rfl, rfl⟩)
          | ((guard_target =~ wpList _ _ _ (⟨some 45, _, _, _, _, _⟩ :: _) _ _); refine wpList_gr (o := ⟨some 45, _, _, _, _, _⟩) rfl elRF (.tmp 38) (.tmp 44) rfl (HGR.out.only (only_new wc _) (fun _ _ e => e)) rfl (some ⟨wc.heap.size, 0, none⟩) 1 1 rfl [.int .i64 3, .string ((strOf rem).extract 0 rem.length)] (SrcG.new (blk_new wc _) rfl (by simp [Value.oneCell'])) (by omega) (by omega) ?_; intro ao2 cp2 w8 hg8 ha8 ho8; have HG8 := hid hg8; have HA8 := hid ha8; have HO8 : Hid (Only (fun k => ao = some ⟨k, 0, none⟩) wc w8) := hid (((only_new wc _).mono (fun k _ e => e.elim)).trans ho8 (fun k hk e => e)); clear hg8 ha8 ho8))
        all_goals (
          have hnb : ∀ q, ao2 = some ⟨q, 0, none⟩ → b + 1 < q := fun q hq => by
            rcases HA8.out with e | e
            · exact HAO.out q (e ▸ hq)
            · rw [hq] at e; simp only [Option.some.injEq, Addr.mk.injEq, and_true, World.size_alloc] at e; omega
          have hR0 : ∀ x, restK (p : Int) x = restK 0 x := fun x => by unfold restK; simp only [show (0 : Int) ≤ (p : Int) from by omega, Int.le_refl, true_and]
          have hdl : (rem.drop rem.length).length = rem.length - rem.length := List.length_drop
          have hll : (fs ++ [(3, rem.take rem.length)]).length = fs.length + 1 := by rw [List.length_append]; rfl
          have hf3 : fs.length = 0 := by rw [(HF0.out hf).2.2]; rfl
          refine ⟨⟨rem.drop rem.length, p + 9 + rem.length, cp2, (p : Int), fs ++ [(3, rem.take rem.length)], ao2, ⟨by show Value.string _ = _; rw [List.drop_length]; rfl, rfl, rfl, rfl, by show Value.slice _ _ _ = _; rw [hll], by show Value.int .i64 _ = _; go_num, rfl, rfl, rfl⟩, by rw [hdl]; omega, by rw [hll, hdl]; omega, fun h => by omega, ?_, ?_, ?_, ?_, hnb, ?_, ?_, ?_⟩, ?_⟩
          · exact fun _ => by rw [← HPE.out, HFP.out hf]
          · rw [hR0, List.append_assoc]; exact HALL2.out
          · rw [hR0]; have := HEND2.out; omega
          · rw [fcs_app, hll]; have := HG8.out; rw [HTK.out] at this; exact this
          · exact blk_only HBK.out HO8.out (fun e => by have := HAO.out b e; omega)
          · exact blk_only HCK.out HO8.out (fun e => by have := HAO.out (b + 1) e; omega)
          · exact HO.out.trans HO8.out (fun k hk e => by have := HAO.out k e; omega)
          · have h1 : (ByteArray.empty : ByteArray).size = rem.length - rem.length := by rw [Nat.sub_self]; rfl
            have h2 : (strOf rem).size = rem.length := rfl
            simp only [szOf, h1, h2]
            omega)
      · -- BR4
        have hfb : decide (fst < 0) = false := decide_eq_false hf
        have hf9 : (0 : Int) ≤ fst := by omega
        have HGA := hid (HGR.out)
        go_wp2_with (first
          | ((go_at_call 62); refine (HP.out _).mono ?_; rintro x W' ⟨rfl, rfl⟩)
          | ((guard_target =~ wpList _ _ _ (⟨some 45, _, _, _, _, _⟩ :: _) _ _); refine wpList_gr (o := ⟨some 45, _, _, _, _, _⟩) rfl elRF (.tmp 38) (.tmp 44) rfl (HGR.out.only (only_new wc _) (fun _ _ e => e)) rfl (some ⟨wc.heap.size, 0, none⟩) 1 1 rfl [.int .i64 3, .string ((strOf rem).extract 0 rem.length)] (SrcG.new (blk_new wc _) rfl (by simp [Value.oneCell'])) (by omega) (by omega) ?_; intro ao2 cp2 w8 hg8 ha8 ho8; have HG8 := hid hg8; have HA8 := hid ha8; have HO8 : Hid (Only (fun k => ao = some ⟨k, 0, none⟩) wc w8) := hid (((only_new wc _).mono (fun k _ e => e.elim)).trans ho8 (fun k hk e => e)); clear hg8 ha8 ho8))
        all_goals (
          have hnb : ∀ q, ao2 = some ⟨q, 0, none⟩ → b + 1 < q := fun q hq => by
            rcases HA8.out with e | e
            · exact HAO.out q (e ▸ hq)
            · rw [hq] at e; simp only [Option.some.injEq, Addr.mk.injEq, and_true, World.size_alloc] at e; omega
          have hR0 : ∀ x, restK fst x = restK 0 x := fun x => by unfold restK; simp only [show (0 : Int) ≤ fst from by omega, Int.le_refl, true_and]
          have hdl : (rem.drop rem.length).length = rem.length - rem.length := List.length_drop
          have hll : (fs ++ [(3, rem.take rem.length)]).length = fs.length + 1 := by rw [List.length_append]; rfl
          refine ⟨⟨rem.drop rem.length, p + 9 + rem.length, cp2, fst, fs ++ [(3, rem.take rem.length)], ao2, ⟨by show Value.string _ = _; rw [List.drop_length]; rfl, rfl, rfl, rfl, by show Value.slice _ _ _ = _; rw [hll], by show Value.int .i64 _ = _; go_num, rfl, rfl, rfl⟩, by rw [hdl]; omega, by rw [hll, hdl]; omega, fun h => by omega, ?_, ?_, ?_, ?_, hnb, ?_, ?_, ?_⟩, ?_⟩
          · exact HF1.out
          · rw [hR0, List.append_assoc]; exact HALL2.out
          · rw [hR0]; have := HEND2.out; omega
          · rw [fcs_app, hll]; have := HG8.out; rw [HTK.out] at this; exact this
          · exact blk_only HBK.out HO8.out (fun e => by have := HAO.out b e; omega)
          · exact blk_only HCK.out HO8.out (fun e => by have := HAO.out (b + 1) e; omega)
          · exact HO.out.trans HO8.out (fun k hk e => by have := HAO.out k e; omega)
          · have h1 : (ByteArray.empty : ByteArray).size = rem.length - rem.length := by rw [Nat.sub_self]; rfl
            have h2 : (strOf rem).size = rem.length := rfl
            simp only [szOf, h1, h2]
            omega)
theorem cut_min (s : List UInt8) (a : Nat) : placeN a (min s.length 2039) ≤ a + (layT a (cutL s)).length ∧ 9 * (cutL s).length ≤ a + (layT a (cutL s)).length - placeN a (min s.length 2039) := by
  have hk : ∀ (gs : List (Nat × List UInt8)) (a : Nat), 9 * gs.length ≤ (layT a gs).length := fun gs => by
    induction gs with
    | nil => intro a; exact Nat.zero_le _
    | cons x gs ih =>
      intro a
      obtain ⟨k, s⟩ := x
      show 9 * (gs.length + 1) ≤ ((padN a s.length ++ frameN (placeN a s.length) k s) ++ layT (placeN a s.length + 9 + s.length) gs).length
      rw [List.length_append, first_len]
      have := ih (placeN a s.length + 9 + s.length); have := place_le a s.length; omega
  obtain ⟨k, n, hn, -, -, hc⟩ := restK_next s 0 (Int.le_refl 0)
  have htk : (s.take n).length = n := by rw [List.length_take]; omega
  have h1 : (layT a ((k, s.take n) :: restK 0 (s.drop n))).length = (placeN a n + 9 + n - a) + (layT (placeN a n + 9 + n) (restK 0 (s.drop n))).length := by
    show ((padN a (s.take n).length ++ frameN (placeN a (s.take n).length) k (s.take n)) ++ layT (placeN a (s.take n).length + 9 + (s.take n).length) (restK 0 (s.drop n))).length = _
    rw [List.length_append, first_len, htk]
  have h2 := hk (restK 0 (s.drop n)) (placeN a n + 9 + n)
  have h3 := place_le a n
  rw [hc, h1, List.length_cons, ← hn]
  omega
set_option maxRecDepth 100000 in
set_option maxHeartbeats 3200000 in
theorem rcheckpoint_c (h : RLAt w L fv wv G) (hT : L.tail ≤ 4000000000000000000) (s : List UInt8) (hsl : s.length ≤ 1000000) (hEb : L.tail + (layT L.tail (cutL s)).length ≤ 4100000000000000000) : Calls Try.prog 42 #[.agg (rcells L fv wv), .string (strOf s)] w (RPost w (L.check s).1 G [.int .i64 (L.check s).2]) := by
  have H := hid h
  have hnf := h.nf; have hrm := h.rm; have hsz := h.sz; have hft := h.ft
  obtain ⟨⟨fa, fc, rfl, -, hf, -⟩, ⟨qa, qc, rfl, -, hq, -⟩, -⟩ := h
  clear hf hq
  unfold rcells
  go_enter Try.func42, Try.ntmps42
  by_cases hw : L.waiting ≠ []
  · have hwl : (0 : Int) < L.waiting.length := by have := List.length_pos_iff.2 hw; omega
    have E1 : Hid (L.check s = (L, 7)) := hid (by unfold RLog.check; rw [if_pos hw])
    clear hw
    go_wp2_with fail
    exact bodyPost_ret (results_cell1 rfl _ _ (w.heap.size + 1) 45 #[.int .i64 (L.size : Nat), .int .i64 (L.first : Nat), .int .i64 (L.tail : Nat), .slice fa L.frames.length fc, .slice qa L.waiting.length qc] (0, 0) _ rfl (blk2w _ _ _) Try.underlying45 rfl info_rl) rfl ⟨_, _, G, by rw [E1.out]; rfl, by rw [E1.out]; exact H.out.same ((only_new _ _).trans (only_new _ _) (fun _ _ e => e)), fun _ e => .inl e, (only_new _ _).trans (only_new _ _) (fun _ _ e => e)⟩
  have hwn : L.waiting = [] := Classical.not_not.1 hw
  have hwl : ¬ (0 : Int) < L.waiting.length := by rw [hwn]; decide
  have E1 : Hid (L.check s = if rleft L.size L.first L.tail < (layT L.tail (cutL s)).length then (L, 3) else ({ L with first := placeN L.tail (min s.length 2039), tail := L.tail + (layT L.tail (cutL s)).length, frames := cutL s }, 0)) := hid (by unfold RLog.check; rw [if_neg hw])
  clear hw hwn
  obtain ⟨W0, hW0⟩ : ∃ x, (w.alloc (.cells #[.int .i64 (L.size : Nat), .int .i64 (L.first : Nat), .int .i64 (L.tail : Nat), .slice fa L.frames.length fc, .slice qa L.waiting.length qc] 45)).alloc (.cells #[.int .i64 0, .int .i64 0, .int .i64 0, .slice none 0 0, .slice none 0 0] 45) = x := ⟨_, rfl⟩
  have hB1 : W0.heap[w.heap.size]? = some (.cells #[.int .i64 (L.size : Nat), .int .i64 (L.first : Nat), .int .i64 (L.tail : Nat), .slice fa L.frames.length fc, .slice qa L.waiting.length qc] 45 (0, 0)) := by rw [← hW0]; exact blk_alloc (blk_new _ _)
  have hB2 : W0.heap[w.heap.size + 1]? = some (.cells #[.int .i64 0, .int .i64 0, .int .i64 0, .slice none 0 0, .slice none 0 0] 45 (0, 0)) := by rw [← hW0]; exact blk2w _ _ _
  have hO0 : Only (fun _ => False) w W0 := by rw [← hW0]; exact (only_new _ _).trans (only_new _ _) (fun _ _ e => e)
  have hz0 : w.heap.size + 1 < W0.heap.size := by rw [← hW0]; simp
  have hz1 : w.heap.size < W0.heap.size := by omega
  have HB1 := hid hB1; have HB2 := hid hB2; have HO0 := hid hO0; have HW0 := hid hW0
  clear hB1 hB2 hO0 hW0
  obtain ⟨R, hR⟩ : ∃ x, L.check s = x := ⟨_, rfl⟩
  rw [hR] at E1 ⊢
  have hcm := cut_min s L.tail
  have hpl := place_le L.tail (min s.length 2039)
  have HCM := hid hcm
  obtain ⟨E, hE⟩ : ∃ x, L.tail + (layT L.tail (cutL s)).length = x := ⟨_, rfl⟩
  obtain ⟨F, hF⟩ : ∃ x, placeN L.tail (min s.length 2039) = x := ⟨_, rfl⟩
  have HE := hid hE; have HFE := hid hF
  rw [hE] at hEb
  clear hcm hR hE hF hpl
  go_upto_region 1 with fail
  rw [HW0.out]
  have c04 : W0.cell? ⟨w.heap.size, 4, none⟩ = some (.slice qa L.waiting.length qc) := cell_blk HB1.out 4
  have c02 : W0.cell? ⟨w.heap.size, 2, none⟩ = some (.int .i64 (L.tail : Nat)) := cell_blk HB1.out 2
  go_upto_block 0 with fail
  refine rp0 (a := _) (b := w.heap.size) (A0 := L.tail) (s := s) hT hsl hEb HE.out.symm (Nat.le_refl _) HO0.out HB1.out HB2.out ⟨rfl, rfl, rfl, rfl, rfl, rfl, rfl, rfl, rfl⟩ ?_
  intro a' w' ao cap hI hb9 hc9 hg9 hn9 ho9
  obtain ⟨u, rfl, hu⟩ := act_fn hI
  rw [lit66] at hI ⊢
  obtain ⟨g2, g4, g6, g7, g8, -⟩ := hI
  change u 2 = _ at g2
  change u 4 = _ at g4
  change u 6 = _ at g6
  change u 7 = _ at g7
  change u 8 = _ at g8
  rw [g2, g4, g6, g7, g8]
  clear g2 g4 g6 g7 g8 hu
  dsimp only
  have HB9 := hid hb9; have HC9 := hid hc9; have HG9 := hid hg9; have HN9 := hid hn9; have HO9 := hid ho9
  have hzb9 := blk_lt hb9
  rw [HFE.out]
  have HLF : Hid (∀ W, Calls Try.prog 43 #[.agg #[.int .i64 (L.size : Nat), .int .i64 (L.first : Nat), .int .i64 (L.tail : Nat), .slice fa L.frames.length fc, .slice qa L.waiting.length qc], .int .i64 L.tail] W fun e w' => e = .returned (.int .i64 (rleft L.size L.first L.tail : Nat)) ∧ Only (fun _ => False) W w') := hid fun W => rwleft_c L.size L.first L.tail L.tail _ _ hsz (by omega) (by omega)
  have hrl : rleft L.size L.first L.tail = L.size - (L.tail - L.first / 128 * 128) := rfl
  obtain ⟨lf, hlf⟩ : ∃ x, rleft L.size L.first L.tail = x := ⟨_, rfl⟩
  rw [hlf] at HLF hrl E1
  obtain ⟨c, hc⟩ : ∃ x, E - L.tail = x := ⟨_, rfl⟩
  have hEt : L.tail ≤ E := by have := HE.out; omega
  have hw52 : IntKind.i64.wrap ((E : Int) - L.tail) = ((c : Nat) : Int) := by rw [IntKind.wrap_i64]; omega
  have CB : Hid (∀ W, Only (fun _ => False) w' W → W.heap[w.heap.size]? = some (.cells #[.int .i64 (L.size : Nat), .int .i64 (L.first : Nat), .int .i64 (L.tail : Nat), .slice fa L.frames.length fc, .slice qa L.waiting.length qc] 45 (0, 0))) := hid fun W hW => blk_only HB9.out hW (fun e => e)
  have CC4 : Hid (∀ W, Only (fun _ => False) w' W → W.cell? ⟨w.heap.size, 2, none⟩ = some (.int .i64 (L.tail : Nat))) := hid fun W hW => cell_blk (CB.out W hW) 2
  have hci : (Try.prog.info? 45).map (·.size) = some (#[.int .i64 (L.size : Nat), .int .i64 (L.first : Nat), .int .i64 (L.tail : Nat), .slice fa L.frames.length fc, .slice qa L.waiting.length qc] : Array Value).size := info_rl
  obtain ⟨cl, hcl⟩ : ∃ x, (#[.int .i64 (L.size : Nat), .int .i64 (L.first : Nat), .int .i64 (L.tail : Nat), .slice fa L.frames.length fc, .slice qa L.waiting.length qc] : Array Value) = x := ⟨_, rfl⟩
  rw [hcl] at CB HLF hci
  have HCI := hid hci
  have HLE := hid hlf
  obtain ⟨tl, htl⟩ : ∃ x, L.tail = x := ⟨_, rfl⟩
  rw [htl] at CC4 HLF hw52
  clear hci hcl hb9 hc9 hg9 hn9 ho9 c04 c02 hlf
  go_upto_region 16 with fail
  refine region_pt 8 [] (by kernel_rfl) (by kernel_rfl) (by kernel_rfl) [(49, fun _ v => v = .int .i64 (E : Nat)), (50, fun _ v => v = .pointer (some ⟨w.heap.size, 2, none⟩)), (51, fun _ v => v = .int .i64 (tl : Nat)), (52, fun _ v => v = .int .i64 (c : Nat)), (53, fun _ v => v = .agg cl), (54, fun _ v => v = .pointer (some ⟨w.heap.size, 2, none⟩)), (55, fun _ v => v = .int .i64 (tl : Nat)), (56, fun _ v => v = .int .i64 (lf : Nat))] (fun _ W => Only (fun _ => False) w' W) (by show [49, 50, 51, 52, 53, 54, 55, 56].Nodup; decide) (by show ∀ d ∈ [49, 50, 51, 52, 53, 54, 55, 56], d < 66; decide) ((Only.refl _ _).drew) (.inl rfl) ?_ ?_ ?_
  · exact trivial
  · have hstab : PtStabs (Only (fun _ => False)) [(49, fun _ v => v = .int .i64 (E : Nat)), (50, fun _ v => v = .pointer (some ⟨w.heap.size, 2, none⟩)), (51, fun _ v => v = .int .i64 (tl : Nat)), (52, fun _ v => v = .int .i64 (c : Nat)), (53, fun _ v => v = .agg cl), (54, fun _ v => v = .pointer (some ⟨w.heap.size, 2, none⟩)), (55, fun _ v => v = .int .i64 (tl : Nat)), (56, fun _ v => v = .int .i64 (lf : Nat))] := ⟨fun _ _ _ _ h => h, fun _ _ _ _ h => h, fun _ _ _ _ h => h, fun _ _ _ _ h => h, fun _ _ _ _ h => h, fun _ _ _ _ h => h, fun _ _ _ _ h => h, fun _ _ _ _ h => h, trivial⟩
    refine PtAllS.cons rfl ⟨rfl, rfl⟩ ?_ (PtAllS.cons rfl ⟨rfl, rfl⟩ ?_ (PtAllS.cons rfl ⟨rfl, rfl⟩ ?_ (PtAllS.cons rfl ⟨rfl, rfl⟩ ?_ (PtAllS.cons rfl ⟨rfl, rfl⟩ ?_ (PtAllS.cons rfl ⟨rfl, rfl⟩ ?_ (PtAllS.cons rfl ⟨rfl, rfl⟩ ?_ (PtAllS.cons rfl ⟨rfl, rfl⟩ ?_ (PtAllS.nil rfl))))))))
    · intro L a W K hI hn hd hK
      have e7 : a.eval (.tmp 7) = .int .i64 (E : Nat) := hI.ev 7 (by show ¬ (7 ∈ [49, 50, 51, 52, 53, 54, 55, 56]); decide) rfl
      exact pt_move _ (by first | exact .inl rfl | exact .inr rfl) _ e7 (hK _ _ hI.j PtKeep.refl rfl)
    · intro L a W K hI hn hd hK
      have e2 : a.eval (.tmp 2) = .pointer (some ⟨w.heap.size, 0, none⟩) := hI.ev 2 (by show ¬ (2 ∈ [49, 50, 51, 52, 53, 54, 55, 56]); decide) rfl
      exact pt_val (v := .pointer (some ⟨w.heap.size, 2, none⟩)) (by unfold execOp; simp only [e2]; kernel_rfl) (hK _ _ hI.j PtKeep.refl rfl)
    · intro L a W K hI hn hd hK
      have e50 : a.eval (.tmp 50) = .pointer (some ⟨w.heap.size, 2, none⟩) := hI.fact 1 50 _ rfl (dep_of hd 1 (by kernel_rfl))
      exact pt_load _ (.tmp 50) rfl ⟨w.heap.size, 2, none⟩ (.int .i64 (tl : Nat)) _ e50 (CC4.out _ hI.j) Try.underlying3 rfl (hK _ _ hI.j PtKeep.refl rfl)
    · intro L a W K hI hn hd hK
      have e49 : a.eval (.tmp 49) = .int .i64 (E : Nat) := hI.fact 0 49 _ rfl (dep_of hd 0 (by kernel_rfl))
      have e51 : a.eval (.tmp 51) = .int .i64 (tl : Nat) := hI.fact 2 51 _ rfl (dep_of hd 2 (by kernel_rfl))
      exact pt_val (v := .int .i64 (c : Nat)) (Eq.trans (b := .ok (.value (.int .i64 (IntKind.i64.wrap ((E : Int) - tl)))) _) (by unfold execOp; simp only [e49, e51]; kernel_rfl) (by rw [hw52])) (hK _ _ hI.j PtKeep.refl rfl)
    · intro L a W K hI hn hd hK
      have e2 : a.eval (.tmp 2) = .pointer (some ⟨w.heap.size, 0, none⟩) := hI.ev 2 (by show ¬ (2 ∈ [49, 50, 51, 52, 53, 54, 55, 56]); decide) rfl
      exact wp_load_row _ (.tmp 2) rfl (w.heap.size) e2 45 (cl) (0, 0) _ (CB.out _ hI.j) Try.underlying45 rfl (HCI.out) (hK _ _ hI.j PtKeep.refl rfl)
    · intro L a W K hI hn hd hK
      have e2 : a.eval (.tmp 2) = .pointer (some ⟨w.heap.size, 0, none⟩) := hI.ev 2 (by show ¬ (2 ∈ [49, 50, 51, 52, 53, 54, 55, 56]); decide) rfl
      exact pt_val (v := .pointer (some ⟨w.heap.size, 2, none⟩)) (by unfold execOp; simp only [e2]; kernel_rfl) (hK _ _ hI.j PtKeep.refl rfl)
    · intro L a W K hI hn hd hK
      have e54 : a.eval (.tmp 54) = .pointer (some ⟨w.heap.size, 2, none⟩) := hI.fact 5 54 _ rfl (dep_of hd 5 (by kernel_rfl))
      exact pt_load _ (.tmp 54) rfl ⟨w.heap.size, 2, none⟩ (.int .i64 (tl : Nat)) _ e54 (CC4.out _ hI.j) Try.underlying3 rfl (hK _ _ hI.j PtKeep.refl rfl)
    · intro L a W K hI hn hd hK
      have e53 : a.eval (.tmp 53) = .agg cl := hI.fact 4 53 _ rfl (dep_of hd 4 (by kernel_rfl))
      have e55 : a.eval (.tmp 55) = .int .i64 (tl : Nat) := hI.fact 6 55 _ rfl (dep_of hd 6 (by kernel_rfl))
      refine wp_callc (f := 43) (args := #[a.eval (.tmp 53), a.eval (.tmp 55)]) (by kernel_rfl) ?_
      rw [e53, e55]
      refine ((fun W (_ : Only (fun _ => False) w' W) => HLF.out W) _ hI.j).mono ?_
      rintro x W' ⟨rfl, ho⟩
      exact ⟨_, rfl, hK _ _ (hI.j.trans ho (fun _ _ e => e.elim)) (hstab.keep ho) rfl⟩
  · intro LL a w5 hal hj hfs
    dsimp only [PtAll] at hfs
    obtain ⟨f49, f50, f51, f52, f53, f54, f55, f56, -⟩ := hfs
    have hA := hal.turned
    simp only [List.map_cons, List.map_nil, Act.turned, f49, f50, f51, f52, f53, f54, f55, f56] at hA
    simp only [Act.put, List.setIfInBounds_toArray, List.set_cons_zero, List.set_cons_succ] at hA
    clear hal f49 f50 f51 f52 f53 f54 f55 f56
    subst hA
    change wpList _ _ _ [_] _ _
    have HO5 := hid hj
    clear hj hw52
    have HB5 := hid (blk_only HB9.out HO5.out (fun e => e)); have HC5 := hid (blk_only HC9.out HO5.out (fun e => e))
    have HG5 := hid (HG9.out.only HO5.out (fun _ _ e => e))
    have HO5w := hid (HO9.out.trans HO5.out (fun _ _ e => e))
    have zf5 := frozen_blk HB5.out
    have hzb5 := blk_lt HB5.out; have hzc5 := blk_lt HC5.out
    have c50 : w5.cell? ⟨w.heap.size, 0, none⟩ = some (.int .i64 (L.size : Nat)) := cell_blk HB5.out 0
    have c51 : w5.cell? ⟨w.heap.size, 1, none⟩ = some (.int .i64 (L.first : Nat)) := cell_blk HB5.out 1
    have c52 : w5.cell? ⟨w.heap.size, 2, none⟩ = some (.int .i64 (L.tail : Nat)) := cell_blk HB5.out 2
    have c53 : w5.cell? ⟨w.heap.size, 3, none⟩ = some (.slice fa L.frames.length fc) := cell_blk HB5.out 3
    have c54 : w5.cell? ⟨w.heap.size, 4, none⟩ = some (.slice qa L.waiting.length qc) := cell_blk HB5.out 4
    have hlc : (layT L.tail (cutL s)).length = c := by have := HE.out; omega
    rw [hlc] at E1
    by_cases hfit : lf < c
    · have hfi : (lf : Int) < (c : Int) := by omega
      have E2 : Hid (R = (L, 3)) := hid (by have := E1.out; rwa [if_pos hfit] at this)
      clear hfit hlc hc htl
      go_wp2_with ((guard_target =~ wpList _ _ _ (⟨none, .store 45 (.tmp 4) _, _, _, _, _⟩ :: _) _ _); refine wpList_store_all rfl 45 (.tmp 4) (.tmp 58) rfl (w.heap.size + 1) #[.int .i64 (L.size : Nat), .int .i64 (L.first : Nat), .int .i64 (L.tail : Nat), .slice fa L.frames.length fc, .slice qa L.waiting.length qc] rfl rfl #[.int .i64 0, .int .i64 0, .int .i64 0, .slice none 0 0, .slice none 0 0] 45 HC5.out rfl info_rl (by simp [Value.oneCell']) ?_; intro w9 hb99 ho99 hs99; have HB99 := hid hb99; have HO99 := hid ho99; clear hb99 ho99 hs99)
      have hO09 : Only (fun _ => False) w w9 := HO5w.out.trans HO99.out (fun k hk e => by omega)
      exact bodyPost_ret (results_cell1 rfl _ _ (w.heap.size + 1) 45 #[.int .i64 (L.size : Nat), .int .i64 (L.first : Nat), .int .i64 (L.tail : Nat), .slice fa L.frames.length fc, .slice qa L.waiting.length qc] (0, 0) _ rfl HB99.out Try.underlying45 rfl info_rl) rfl ⟨_, _, G, by rw [E2.out]; rfl, by rw [E2.out]; exact H.out.same hO09, fun _ e => .inl e, hO09⟩
    have hfi : ¬ (lf : Int) < (c : Int) := by omega
    have hroom : c ≤ L.size - (L.tail - L.first / 128 * 128) := by omega
    have E2 : Hid (R = ({ L with first := placeN L.tail (min s.length 2039), tail := L.tail + c, frames := cutL s }, 0)) := hid (by have := E1.out; rwa [if_neg hfit] at this)
    have HRM : Hid (c ≤ L.size - (L.tail - L.first / 128 * 128)) := hid hroom
    have HC0 := hid hlc
    clear hfit hlc hc htl hroom
    go_upto_region 19 with fail
    have hb7 := blk_set (blk_set (blk_set HB5.out 1 (.int .i64 (F : Nat))) 2 (.int .i64 (E : Nat))) 3 (.slice ao (cutL s).length cap)
    have hc7 := blk_set_other (v := .slice ao (cutL s).length cap) (o := 3) (blk_set_other (v := .int .i64 (E : Nat)) (o := 2) (blk_set_other (v := .int .i64 (F : Nat)) (o := 1) HC5.out (Nat.succ_ne_self w.heap.size)) (Nat.succ_ne_self w.heap.size)) (Nat.succ_ne_self w.heap.size)
    have ho7 := ((only_set w.heap.size 1 (.int .i64 (F : Nat)) (w := w5)).trans (only_set w.heap.size 2 (.int .i64 (E : Nat))) (fun k _ e => e)).trans (only_set w.heap.size 3 (.slice ao (cutL s).length cap)) (fun k _ e => e)
    obtain ⟨w7, hw7⟩ : ∃ x, ((w5.setCell ⟨w.heap.size, 1, none⟩ (.int .i64 (F : Nat))).setCell ⟨w.heap.size, 2, none⟩ (.int .i64 (E : Nat))).setCell ⟨w.heap.size, 3, none⟩ (.slice ao (cutL s).length cap) = x := ⟨_, rfl⟩
    rw [hw7] at hb7 hc7 ho7 ⊢
    have hb7' : w7.heap[w.heap.size]? = some (.cells #[.int .i64 (L.size : Nat), .int .i64 (F : Nat), .int .i64 (E : Nat), .slice ao (cutL s).length cap, .slice qa L.waiting.length qc] 45 (0, 0)) := hb7
    have c70 : w7.cell? ⟨w.heap.size, 0, none⟩ = some (.int .i64 (L.size : Nat)) := cell_blk hb7' 0
    have c71 : w7.cell? ⟨w.heap.size, 1, none⟩ = some (.int .i64 (F : Nat)) := cell_blk hb7' 1
    have c72 : w7.cell? ⟨w.heap.size, 2, none⟩ = some (.int .i64 (E : Nat)) := cell_blk hb7' 2
    have c73 : w7.cell? ⟨w.heap.size, 3, none⟩ = some (.slice ao (cutL s).length cap) := cell_blk hb7' 3
    have c74 : w7.cell? ⟨w.heap.size, 4, none⟩ = some (.slice qa L.waiting.length qc) := cell_blk hb7' 4
    have hzb7 := blk_lt hb7'
    have HC7 := hid hc7; have HO7 := hid ho7
    clear hw7 hb7 hb7' hc7 ho7 c50 c51 c52 c53 c54 zf5
    go_wp2_with ((guard_target =~ wpList _ _ _ (⟨none, .store 45 (.tmp 4) _, _, _, _, _⟩ :: _) _ _); refine wpList_store_all rfl 45 (.tmp 4) (.tmp 65) rfl (w.heap.size + 1) #[.int .i64 (L.size : Nat), .int .i64 (F : Nat), .int .i64 (E : Nat), .slice ao (cutL s).length cap, .slice qa L.waiting.length qc] rfl rfl #[.int .i64 0, .int .i64 0, .int .i64 0, .slice none 0 0, .slice none 0 0] 45 HC7.out rfl info_rl (by simp [Value.oneCell']) ?_; intro w9 hb99 ho99 hs99; have HB99 := hid hb99; have HO99 := hid ho99; clear hb99 ho99 hs99)
    have hO59 : Only (fun k => k = w.heap.size ∨ k = w.heap.size + 1) w5 w9 := (HO7.out.mono (fun k _ e => .inl e)).trans (HO99.out.mono (fun k _ e => .inr e)) (fun k _ e => e)
    have hO09 : Only (fun _ => False) w w9 := HO5w.out.trans hO59 (fun k hk e => by omega)
    have hg9 := HG5.out.only hO59 (fun q hq e => by have := HN9.out q hq; omega)
    have hLE : L.tail + c = E := by have := HE.out; have := HC0.out; omega
    have hcm := HCM.out
    rw [HC0.out, hLE, HFE.out] at hcm
    have hroom := HRM.out
    have hFT : L.tail ≤ F := by rw [← HFE.out]; exact place_le _ _
    have hr := H.out.only hO09 (fun _ _ e => e)
    exact bodyPost_ret (results_cell1 rfl _ _ (w.heap.size + 1) 45 #[.int .i64 (L.size : Nat), .int .i64 (F : Nat), .int .i64 (E : Nat), .slice ao (cutL s).length cap, .slice qa L.waiting.length qc] (0, 0) _ rfl HB99.out Try.underlying45 rfl info_rl) rfl ⟨_, _, fun k => G k ∨ w.heap.size ≤ k ∧ k < w9.heap.size, by rw [E2.out, hLE, HFE.out]; rfl, by
        rw [E2.out, hLE, HFE.out]
        exact ⟨hg9.slv (fcs_one _) (fun q hq => .inr ⟨by have := HN9.out q hq; omega, hg9.lt hq⟩), hr.q.mono (fun k hk => .inl hk), hr.sz, hcm.1, (by show E - F / 128 * 128 ≤ L.size; omega), hcm.2, hr.nw, hr.ws, fun k hk => hk.elim (fun e => hr.lt k e) (fun e => e.2)⟩, fun k hk => hk.elim .inl (fun e => .inr e.1), hO09⟩
set_option maxRecDepth 100000 in
theorem rLeft_c (h : RLAt w L fv wv G) (hT : L.tail ≤ 4000000000000000000) : Calls Try.prog 20 #[.agg (rcells L fv wv)] w fun e w' => e = .returned (.int .i64 (rleft L.size L.first L.tail : Nat)) ∧ Only (fun _ => False) w w' := by
  have hsz := h.sz; have hft := h.ft
  obtain ⟨⟨fa, fc, rfl, -⟩, ⟨qa, qc, rfl, -⟩, -⟩ := h
  unfold rcells
  have HLF : Hid (∀ W, Calls Try.prog 43 #[.agg #[.int .i64 (L.size : Nat), .int .i64 (L.first : Nat), .int .i64 (L.tail : Nat), .slice fa L.frames.length fc, .slice qa L.waiting.length qc], .int .i64 L.tail] W fun e w' => e = .returned (.int .i64 (rleft L.size L.first L.tail : Nat)) ∧ Only (fun _ => False) W w') := hid fun W => rwleft_c L.size L.first L.tail L.tail _ _ hsz (by omega) (by omega)
  obtain ⟨lf, hlf⟩ : ∃ x, rleft L.size L.first L.tail = x := ⟨_, rfl⟩
  rw [hlf] at HLF ⊢
  clear hlf
  go_enter Try.func20, Try.ntmps20
  go_wp2_with fail
  refine (HLF.out _).mono ?_
  rintro x w3 ⟨rfl, ho⟩
  go_wp2_with fail
  go_ret
  exact ⟨rfl, (only_new _ _).trans ho (fun _ _ e => e)⟩
end
end Go.Proofs.Ythodcbhejjbhaaa
