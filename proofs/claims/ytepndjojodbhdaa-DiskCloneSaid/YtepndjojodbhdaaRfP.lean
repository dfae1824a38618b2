/- The disk's reference: Put. -/
import Derived.Test.YtepndjojodbhdaaRfG
namespace Go.Proofs.Ytepndjojodbhdaa
open Go.RowKit

def RM.put (r : RM) (n : Int) (b : List UInt8) : RM × Int :=
  if r.down then (r, 50) else if n < 0 ∨ (r.sure.length : Int) ≤ n then (r, 1) else if 128 < b.length then (r, 2) else if b.length < 128 then (r, 6)
  else if r.burn.2 then ({ r.burn.1 with ws := r.burn.1.ws ++ [(n, b)], written := r.burn.1.written + 1 }, 0) else (r.burn.1, 50)
theorem rburn_ws (r : RM) : r.burn.1.ws = r.ws ∧ r.burn.1.sure = r.sure ∧ r.burn.1.written = r.written := by
  unfold RM.burn
  split
  · exact ⟨rfl, rfl, rfl⟩
  · split <;> exact ⟨rfl, rfl, rfl⟩

section
variable {w : World} {cs : Array Value} {r : RM} {G : Nat → Prop}
theorem RefAt.same {w' : World} (h : RefAt w cs r G) (ho : Only (fun _ => False) w w') : RefAt w' cs r G := h.only ho (fun _ _ e => e)
set_option maxRecDepth 100000 in
set_option maxHeartbeats 3200000 in
theorem rput_no (h : RefAt w cs r G) (n : Int) (b : List UInt8) (hc : r.down = true ∨ n < 0 ∨ (r.sure.length : Int) ≤ n ∨ b.length ≠ 128) :
    Calls Try.prog 93 #[.agg cs, .int .i64 n, .string (strOf b)] w fun e w' => e = .returned (.tuple #[.agg cs, .int .i64 (r.put n b).2]) ∧ (r.put n b).1 = r ∧ Only (fun _ => False) w w' := by
  obtain ⟨sa, sc, wa, wc, rfl, h1, h2, h3, h4⟩ := h.ex
  have hsz : (strOf b).size = b.length := rfl
  unfold RM.cells
  clear h h1 h2 h3 h4
  cases hd : r.down with
  | true =>
    have hp : r.put n b = (r, 50) := by unfold RM.put; rw [hd]; rfl
    have Hp := hid hp
    clear hc hp
    go_enter Try.func93, Try.ntmps93
    go_wp2_with fail
    refine bodyPost_ret (results_cell1 (q := 7) rfl _ _ (w.heap.size + 1) 113 (RM.cells r sa sc wa wc) _ _ rfl (by unfold RM.cells; rw [hd]; exact blk2 w _ _) Try.underlying113 rfl info_rdisk) rfl ?_
    rw [Hp.out]
    exact ⟨by unfold RM.cells; rw [hd]; rfl, rfl, ((Only.refl _ w).alloc _).alloc _⟩
  | false =>
    by_cases hn0 : n < 0
    · have hp : r.put n b = (r, 1) := by unfold RM.put; rw [hd, if_neg (by simp), if_pos (.inl hn0)]
      have Hp := hid hp
      clear hc hp
      go_enter Try.func93, Try.ntmps93
      go_wp2_with fail
      refine bodyPost_ret (results_cell1 (q := 7) rfl _ _ (w.heap.size + 1) 113 (RM.cells r sa sc wa wc) _ _ rfl (by unfold RM.cells; rw [hd]; exact blk2 w _ _) Try.underlying113 rfl info_rdisk) rfl ?_
      rw [Hp.out]
      exact ⟨by unfold RM.cells; rw [hd]; rfl, rfl, ((Only.refl _ w).alloc _).alloc _⟩
    · by_cases hn1 : (r.sure.length : Int) ≤ n
      · have hp : r.put n b = (r, 1) := by unfold RM.put; rw [hd, if_neg (by simp), if_pos (.inr hn1)]
        have Hp := hid hp
        clear hc hp
        go_enter Try.func93, Try.ntmps93
        go_wp2_with fail
        refine bodyPost_ret (results_cell1 (q := 7) rfl _ _ (w.heap.size + 1) 113 (RM.cells r sa sc wa wc) _ _ rfl (by unfold RM.cells; rw [hd]; exact blk2 w _ _) Try.underlying113 rfl info_rdisk) rfl ?_
        rw [Hp.out]
        exact ⟨by unfold RM.cells; rw [hd]; rfl, rfl, ((Only.refl _ w).alloc _).alloc _⟩
      · by_cases hl : 128 < (b.length : Int)
        · have hp : r.put n b = (r, 2) := by unfold RM.put; rw [hd, if_neg (by simp), if_neg (by omega), if_pos (by omega)]
          have Hp := hid hp
          clear hc hp
          go_enter Try.func93, Try.ntmps93
          go_wp2_with fail
          refine bodyPost_ret (results_cell1 (q := 7) rfl _ _ (w.heap.size + 1) 113 (RM.cells r sa sc wa wc) _ _ rfl (by unfold RM.cells; rw [hd]; exact blk2 w _ _) Try.underlying113 rfl info_rdisk) rfl ?_
          rw [Hp.out]
          exact ⟨by unfold RM.cells; rw [hd]; rfl, rfl, ((Only.refl _ w).alloc _).alloc _⟩
        · have hl2 : (b.length : Int) < 128 := by
            rcases hc with h | h | h | h
            · rw [hd] at h; cases h
            · omega
            · omega
            · omega
          have hp : r.put n b = (r, 6) := by unfold RM.put; rw [hd, if_neg (by simp), if_neg (by omega), if_neg (by omega), if_pos (by omega)]
          have Hp := hid hp
          clear hc hp
          go_enter Try.func93, Try.ntmps93
          go_wp2_with fail
          refine bodyPost_ret (results_cell1 (q := 7) rfl _ _ (w.heap.size + 1) 113 (RM.cells r sa sc wa wc) _ _ rfl (by unfold RM.cells; rw [hd]; exact blk2 w _ _) Try.underlying113 rfl info_rdisk) rfl ?_
          rw [Hp.out]
          exact ⟨by unfold RM.cells; rw [hd]; rfl, rfl, ((Only.refl _ w).alloc _).alloc _⟩
set_option maxRecDepth 100000 in
set_option maxHeartbeats 3200000 in
theorem rput_go (h : RefAt w cs r G) (hf : -1 ≤ r.fuse ∧ r.fuse ≤ 9223372036854775807) (hwl : r.ws.length ≤ 1000000) (hwr : 0 ≤ r.written ∧ r.written ≤ 1000000) (n : Int) (b : List UInt8) (hd : r.down = false) (hn0 : ¬ n < 0) (hn1 : n < r.sure.length) (hb : b.length = 128) :
    Calls Try.prog 93 #[.agg cs, .int .i64 n, .string (strOf b)] w fun e w' => ∃ cs' G', e = .returned (.tuple #[.agg cs', .int .i64 (r.put n b).2]) ∧ RefAt w' cs' (r.put n b).1 G' ∧ (∀ k, G' k → G k ∨ w.heap.size ≤ k) ∧ Only (fun _ => False) w w' := by
  have hp : r.put n b = if r.burn.2 then ({ r.burn.1 with ws := r.burn.1.ws ++ [(n, b)], written := r.burn.1.written + 1 }, 0) else (r.burn.1, 50) := by
    unfold RM.put
    rw [hd, if_neg (by simp), if_neg (by omega), if_neg (by omega), if_neg (by omega)]
  have hsz : (strOf b).size = 128 := hb
  have HB := hid (fun ob ob' => rburn_c (h.same (((Only.refl (fun _ => False) w).alloc ob).alloc ob')) hf)
  have Hp := hid hp; have H := hid h; have Hw := hid (rburn_ws r); have Hwl := hid hwl; have Hwr := hid hwr
  obtain ⟨sa, sc, wa, wc, rfl, -⟩ := h.ex
  unfold RM.cells at HB ⊢
  obtain ⟨r1, hr1⟩ : ∃ r1, r.burn.1 = r1 := ⟨_, rfl⟩
  obtain ⟨bb, hbb⟩ : ∃ bb, r.burn.2 = bb := ⟨_, rfl⟩
  rw [hr1, hbb] at HB Hp
  rw [hr1] at Hw
  rw [hd] at HB
  clear hp h hr1 hbb hf hwl hwr
  go_enter Try.func93, Try.ntmps93
  go_wp2_with fail
  refine (HB.out _ _).mono ?_
  rintro e w2 ⟨cs1, rfl, hr, ho2⟩
  have Ho2 := hid ((((Only.refl (fun _ => False) w).alloc _).alloc _).trans ho2 (fun _ _ e => e))
  have hb3 := blk_only (blk_alloc (o' := .cells #[.slice none 0 0, .slice none 0 0, .bool false, .int .i64 0, .int .i64 0, .int .i64 0] 113) (blk_new w (.cells #[.slice sa r.sure.length sc, .slice wa r.ws.length wc, .bool false, .int .i64 r.fuse, .int .i64 r.written, .int .i64 r.flushed] 113))) ho2 (fun e => e)
  have hb6 := blk_only (blk2 w (.cells #[.slice sa r.sure.length sc, .slice wa r.ws.length wc, .bool false, .int .i64 r.fuse, .int .i64 r.written, .int .i64 r.flushed] 113) (.cells #[.slice none 0 0, .slice none 0 0, .bool false, .int .i64 0, .int .i64 0, .int .i64 0] 113)) ho2 (fun e => e)
  have Hb3 := hid hb3; have Hb6 := hid hb6
  have Hr := hid hr
  obtain ⟨s1, c1, a1, d1, hcs1, q1, q2, q3, q4⟩ := hr.ex
  subst hcs1
  have Q1 := hid q1; have Q2 := hid q2; have Q3 := hid q3; have Q4 := hid q4
  have Hsz := hid Ho2.out.size
  have Hlt := hid (blk_lt hb6)
  unfold RM.cells
  clear hr q1 q2 q3 q4 ho2 hb3 hb6
  cases bb with
  | false =>
    have Hp2 : Hid (r.put n b = (r1, 50)) := hid Hp.out
    go_wp2_with (first | (refine wpList_store_all rfl 113 (.tmp 3) (.tmp 33) rfl w.heap.size (RM.cells r1 s1 c1 a1 d1) rfl rfl #[.slice sa r.sure.length sc, .slice wa r.ws.length wc, .bool false, .int .i64 r.fuse, .int .i64 r.written, .int .i64 r.flushed] 113 Hb3.out rfl info_rdisk (by simp [RM.cells, Value.oneCell']) ?_; intro w3 hb3 ho3 hs3; have y0 : w3.cell? ⟨w.heap.size, 0, none⟩ = some (.slice s1 r1.sure.length c1) := cell_blk hb3 0; have y1 : w3.cell? ⟨w.heap.size, 1, none⟩ = some (.slice a1 r1.ws.length d1) := cell_blk hb3 1; have y2 : w3.cell? ⟨w.heap.size, 2, none⟩ = some (.bool r1.down) := cell_blk hb3 2; have y3 : w3.cell? ⟨w.heap.size, 3, none⟩ = some (.int .i64 r1.fuse) := cell_blk hb3 3; have y4 : w3.cell? ⟨w.heap.size, 4, none⟩ = some (.int .i64 r1.written) := cell_blk hb3 4; have y5 : w3.cell? ⟨w.heap.size, 5, none⟩ = some (.int .i64 r1.flushed) := cell_blk hb3 5; have Hb63 := hid (blk_only Hb6.out ho3 (show ¬ w.heap.size + 1 = w.heap.size by omega)); have Ho3 := hid ho3; clear hb3 ho3 hs3) | (refine wpList_store_all rfl 113 (.tmp 6) (.tmp 37) rfl (w.heap.size + 1) (RM.cells r1 s1 c1 a1 d1) rfl rfl #[.slice none 0 0, .slice none 0 0, .bool false, .int .i64 0, .int .i64 0, .int .i64 0] 113 Hb63.out rfl info_rdisk (by simp [RM.cells, Value.oneCell']) ?_; intro w4 hb4 ho4 hs4; have Hb4 := hid hb4; have Ho4 := hid ho4; clear hb4 ho4 hs4))
    refine bodyPost_ret (results_cell1 (q := 7) rfl _ _ (w.heap.size + 1) 113 (RM.cells r1 s1 c1 a1 d1) _ _ rfl Hb4.out Try.underlying113 rfl info_rdisk) rfl ?_
    rw [Hp2.out]
    have nG : ∀ k, w.heap.size ≤ k → ¬ G k := fun k hk e => by have := H.out.lt k e; omega
    exact ⟨_, G, rfl, (Hr.out.only Ho3.out (fun k hk e => nG k (by have e' : k = w.heap.size := e; omega) hk)).only Ho4.out (fun k hk e => nG k (by have e' : k = w.heap.size + 1 := e; omega) hk), fun k hk => .inl hk, (Ho2.out.trans Ho3.out (fun k hk e => by have e' : k = w.heap.size := e; omega)).trans Ho4.out (fun k hk e => by have e' : k = w.heap.size + 1 := e; omega)⟩
  | true =>
    have Hp2 : Hid (r.put n b = ({ r1 with ws := r1.ws ++ [(n, b)], written := r1.written + 1 }, 0)) := hid Hp.out
    obtain ⟨iW, hiW, hW0, hW1, hW2⟩ := info_parts infoW
    have hwr : r1.written = r.written := Hw.out.2.2
    have hwl : r1.ws.length ≤ 1000000 := by rw [Hw.out.1]; exact Hwl.out
    have hwn : IntKind.i64.wrap (r1.written + 1) = r1.written + 1 := by have := Hwr.out; exact IntWalk.i64_in _ (by omega)
    have hwn2 : wrap64 (r1.written + 1) = r1.written + 1 := by have := Hwr.out; unfold wrap64; omega
    clear hwr
    go_wp2_with (first | (refine wpList_store_all rfl 113 (.tmp 3) (.tmp 33) rfl w.heap.size (RM.cells r1 s1 c1 a1 d1) rfl rfl #[.slice sa r.sure.length sc, .slice wa r.ws.length wc, .bool false, .int .i64 r.fuse, .int .i64 r.written, .int .i64 r.flushed] 113 Hb3.out rfl info_rdisk (by simp [RM.cells, Value.oneCell']) ?_; intro w3 hb3 ho3 hs3; have y0 : w3.cell? ⟨w.heap.size, 0, none⟩ = some (.slice s1 r1.sure.length c1) := cell_blk hb3 0; have y1 : w3.cell? ⟨w.heap.size, 1, none⟩ = some (.slice a1 r1.ws.length d1) := cell_blk hb3 1; have y2 : w3.cell? ⟨w.heap.size, 2, none⟩ = some (.bool r1.down) := cell_blk hb3 2; have y3 : w3.cell? ⟨w.heap.size, 3, none⟩ = some (.int .i64 r1.fuse) := cell_blk hb3 3; have y4 : w3.cell? ⟨w.heap.size, 4, none⟩ = some (.int .i64 r1.written) := cell_blk hb3 4; have y5 : w3.cell? ⟨w.heap.size, 5, none⟩ = some (.int .i64 r1.flushed) := cell_blk hb3 5; have Hb33 := hid hb3; have y1a : ∀ ob, (w3.alloc ob).cell? ⟨w.heap.size, 1, none⟩ = some (.slice a1 r1.ws.length d1) := fun ob => cell_blk (blk_alloc hb3) 1; have Hb63 := hid (blk_only Hb6.out ho3 (show ¬ w.heap.size + 1 = w.heap.size by omega)); have Ho3 := hid ho3; have HQ2 := hid (Q2.out.only ho3 (fun g o c e e' => by simp only [Value.slice.injEq] at e; have := H.out.lt g (Q4.out g o e.1); have e'' : g = w.heap.size := e'; omega)); clear hb3 ho3 hs3) | (refine wpList_appS rfl (.tmp 38) (.tmp 40) 111 rfl 178 iW (.agg #[.int .i64 0, .string ⟨#[]⟩]) 2 24 Try.underlying111 hiW hW0 hW1 hW2 rfl w3.heap.size 0 0 [] rfl (Nat.le_refl _) (Row.new' w3 [] _ _ rfl) rfl a1 r1.ws.length d1 rfl (prs r1.ws) (length_prs _) (SrcP.adds (HQ2.out.only ((Only.refl (fun _ => False) w3).alloc _) (fun _ _ _ _ e => e)) rfl) (prs_one _) (by omega) (by omega) ?_; intro g4 cap4 w4 hcap4 hrow4 hg4 ho4; rw [List.nil_append] at hrow4; have Hrow4 := hid hrow4; have Hg4 := hid hg4; have Ho4 := hid ho4; clear hrow4 hg4 ho4 hcap4) | (refine wpList_app rfl (.tmp 41) (.tmp 45) 111 rfl 178 iW (.agg #[.int .i64 0, .string ⟨#[]⟩]) 2 24 Try.underlying111 hiW hW0 hW1 hW2 rfl g4 r1.ws.length cap4 (prs r1.ws) rfl (Hrow4.out.alloc _) (length_prs _) ⟨w4.heap.size, 0, none⟩ 1 1 rfl (prs [(n, b)]) rfl ((Row.new w4 (prs [(n, b)]) 178).news) (prs_one _) (by omega) (by omega) ?_; intro g5 cap5 w5 hcap5 hrow5 hg5 ho5; have hn4 : w3.heap.size ≤ g4 := by { rcases Hg4.out with e | e; omega; (simp at e; omega) }; have hb35 := blk_only (blk_alloc (blk_only (blk_alloc Hb33.out) Ho4.out (show ¬ w.heap.size = w3.heap.size by have := blk_lt Hb33.out; omega))) ho5 (show ¬ w.heap.size = g4 by have := blk_lt Hb33.out; omega); have hb65 := blk_only (blk_alloc (blk_only (blk_alloc Hb63.out) Ho4.out (show ¬ w.heap.size + 1 = w3.heap.size by have := blk_lt Hb63.out; omega))) ho5 (show ¬ w.heap.size + 1 = g4 by have := blk_lt Hb63.out; omega); unfold RM.cells at hb35; have hc5 := cell_blk hb35; have hz5 := frozen_blk hb35; have Hb65 := hid hb65; have Hrow5 := hid hrow5; have Hg5 := hid hg5; have Ho5 := hid ho5; have Hn4 := hid hn4; clear hb35 hb65 hrow5 hg5 ho5 hcap5 hn4) | (refine wpList_store_all rfl 113 (.tmp 6) (.tmp 52) rfl (w.heap.size + 1) #[.slice s1 r1.sure.length c1, .slice (some ⟨g5, 0, none⟩) (r1.ws.length + 1) cap5, .bool r1.down, .int .i64 r1.fuse, .int .i64 (r1.written + 1), .int .i64 r1.flushed] rfl rfl #[.slice none 0 0, .slice none 0 0, .bool false, .int .i64 0, .int .i64 0, .int .i64 0] 113 (blk_only Hb65.out ((only_set w.heap.size 1 _).trans (only_set w.heap.size 4 _) (fun k _ e => e)) (show ¬ w.heap.size + 1 = w.heap.size by omega)) rfl info_rdisk (by simp [Value.oneCell']) ?_; intro w6 hb6 ho6 hs6; have Hb66 := hid hb6; have Ho6 := hid ho6; clear hb6 ho6 hs6))
    refine bodyPost_ret (results_cell1 (q := 7) rfl _ _ (w.heap.size + 1) 113 #[.slice s1 r1.sure.length c1, .slice (some ⟨g5, 0, none⟩) (r1.ws.length + 1) cap5, .bool r1.down, .int .i64 r1.fuse, .int .i64 (r1.written + 1), .int .i64 r1.flushed] _ _ rfl Hb66.out Try.underlying113 rfl info_rdisk) rfl ?_
    rw [Hp2.out]
    have s2 := Hsz.out
    have s3 := Ho3.out.size
    have l2 := Hlt.out
    have l4 := Hn4.out
    have a3 : Only (fun k => w.heap.size ≤ k) w2 w3 := Ho3.out.mono (fun k _ e => by have e' : k = w.heap.size := e; omega)
    have a4 : Only (fun k => w.heap.size ≤ k) w2 w4 := (a3.alloc _).trans Ho4.out (fun k _ e => by have e' : k = w3.heap.size := e; omega)
    have a5 : Only (fun k => w.heap.size ≤ k) w2 w5 := (a4.alloc _).trans Ho5.out (fun k _ e => by have e' : k = g4 := e; omega)
    have hset : Only (fun k => k = w.heap.size) w5 ((w5.setCell ⟨w.heap.size, 1, none⟩ (.slice (some ⟨g5, 0, none⟩) (r1.ws.length + 1) cap5)).setCell ⟨w.heap.size, 4, none⟩ (.int .i64 (r1.written + 1))) := (only_set w.heap.size 1 _).trans (only_set w.heap.size 4 _) (fun k _ e => e)
    have s4 := a4.size
    have l5 : w3.heap.size ≤ g5 := by
      rcases Hg5.out with e | e
      · omega
      · have := Ho4.out.size; simp at this e; omega
    have h6 : Only (fun k => k = w.heap.size ∨ k = w.heap.size + 1) w5 w6 := (hset.mono (fun k _ e => Or.inl e)).trans Ho6.out (fun k _ e => Or.inr e)
    have a7 : Only (fun k => w.heap.size ≤ k) w2 w6 := a5.trans h6 (fun k _ e => by rcases e with e | e <;> omega)
    have hrow := Hrow5.out.only h6 (show ¬ (g5 = w.heap.size ∨ g5 = w.heap.size + 1) by omega)
    have hprs : prs r1.ws ++ prs [(n, b)] = prs (r1.ws ++ [(n, b)]) := by simp [prs]
    rw [hprs] at hrow
    have hsp := hrow.srcP (c := cap5)
    have hG : ∀ k, G k → k < w.heap.size := H.out.lt
    refine ⟨_, fun k => G k ∨ k = g5, rfl, ⟨⟨s1, c1, some ⟨g5, 0, none⟩, cap5, by unfold RM.cells; simp, Q1.out.only a7 (fun _ g o c e _ hF => ?_), hsp, fun g o e => .inl (Q3.out g o e), fun g o e => .inr (by simp only [Option.some.injEq, Addr.mk.injEq] at e; omega)⟩, fun k hk => ?_⟩, fun k hk => ?_, Ho2.out.trans a7 (fun k hk e => by have e' : w.heap.size ≤ k := e; omega)⟩
    · simp only [Value.slice.injEq] at e
      have := hG g (Q3.out g o e.1)
      have hF' : w.heap.size ≤ g := hF
      omega
    · rcases hk with hk | hk
      · have := hG k hk; have := a7.size; omega
      · rw [hk]; exact hrow.lt
    · rcases hk with hk | hk
      · exact .inl hk
      · right; omega
end
end Go.Proofs.Ytepndjojodbhdaa
