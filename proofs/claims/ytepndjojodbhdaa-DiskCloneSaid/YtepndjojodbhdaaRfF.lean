/- The disk's reference: Flush. -/
import Derived.Test.YtepndjojodbhdaaRfS
namespace Go.Proofs.Ytepndjojodbhdaa
open Go.RowKit

def RM.curs (r : RM) (k : Nat) : List (List UInt8) := (List.range k).map fun (j : Nat) => (r.last (j : Int)).getD (r.sure.getD j [])
theorem curs_len (r : RM) (k : Nat) : (r.curs k).length = k := by simp [RM.curs]
theorem curs_succ (r : RM) (k : Nat) : r.curs (k + 1) = r.curs k ++ [(r.last (k : Int)).getD (r.sure.getD k [])] := by simp [RM.curs, List.range_succ]
def RM.flush (r : RM) : RM × Int :=
  if r.down then (r, 50) else if r.burn.2 then ({ r.burn.1 with sure := r.burn.1.curs r.burn.1.sure.length, ws := [], flushed := r.burn.1.flushed + 1 }, 0) else (r.burn.1, 50)
/-- In the middle of Flush's loop: k sectors are told. -/
structure FlR (w w3 wr : World) (r1 : RM) (cs1 : Array Value) (G : Nat → Prop) (k : Nat) (bo : Option Addr) (cap : Nat) : Prop where
  ref : RefAt wr cs1 r1 G
  b1 : wr.heap[w.heap.size]? = some (.cells cs1 113 (0, 0))
  b2 : wr.heap[w.heap.size + 1]? = some (.cells #[.slice none 0 0, .slice none 0 0, .bool false, .int .i64 0, .int .i64 0, .int .i64 0] 113 (0, 0))
  so : SOut wr bo cap (r1.curs k) w3.heap.size
  only : Only (fun j => w3.heap.size ≤ j) w3 wr

section
variable {w : World} {cs : Array Value} {r : RM} {G : Nat → Prop}
set_option maxRecDepth 100000 in
set_option maxHeartbeats 3200000 in
theorem rflush_go (h : RefAt w cs r G) (hf : -1 ≤ r.fuse ∧ r.fuse ≤ 9223372036854775807) (hwl : r.ws.length ≤ 1000000) (hsl : r.sure.length ≤ 1000000) (hfl : 0 ≤ r.flushed ∧ r.flushed ≤ 1000000) (hd : r.down = false) :
    Calls Try.prog 95 #[.agg cs] w fun e w' => ∃ cs' G', e = .returned (.tuple #[.agg cs', .int .i64 r.flush.2]) ∧ RefAt w' cs' r.flush.1 G' ∧ (∀ k, G' k → G k ∨ w.heap.size ≤ k) ∧ Only (fun _ => False) w w' := by
  have hp : r.flush = if r.burn.2 then ({ r.burn.1 with sure := r.burn.1.curs r.burn.1.sure.length, ws := [], flushed := r.burn.1.flushed + 1 }, 0) else (r.burn.1, 50) := by
    unfold RM.flush
    rw [hd, if_neg (by simp)]
  have HB := hid (fun ob ob' => rburn_c (h.same (((Only.refl (fun _ => False) w).alloc ob).alloc ob')) hf)
  have hbf : r.burn.1.flushed = r.flushed := by
    unfold RM.burn
    split
    · rfl
    · split <;> rfl
  have Hp := hid hp; have H := hid h; have Hw := hid (rburn_ws r); have Hwl := hid hwl; have Hsl := hid hsl; have Hfl := hid hfl; have Hbf := hid hbf
  obtain ⟨sa, sc, wa, wc, rfl, -⟩ := h.ex
  unfold RM.cells at HB ⊢
  obtain ⟨r1, hr1⟩ : ∃ r1, r.burn.1 = r1 := ⟨_, rfl⟩
  obtain ⟨bb, hbb⟩ : ∃ bb, r.burn.2 = bb := ⟨_, rfl⟩
  rw [hr1, hbb] at HB Hp
  rw [hr1] at Hw Hbf
  rw [hd] at HB
  clear hp h hr1 hbb hf hwl hsl hfl hbf
  go_enter Try.func95, Try.ntmps95
  go_wp2_with fail
  refine (HB.out _ _).mono ?_
  rintro e w2 ⟨cs1, rfl, hr, ho2⟩
  have Ho2 := hid ((((Only.refl (fun _ => False) w).alloc _).alloc _).trans ho2 (fun _ _ e => e))
  have hb3 := blk_only (blk_alloc (o' := .cells #[.slice none 0 0, .slice none 0 0, .bool false, .int .i64 0, .int .i64 0, .int .i64 0] 113) (blk_new w (.cells #[.slice sa r.sure.length sc, .slice wa r.ws.length wc, .bool false, .int .i64 r.fuse, .int .i64 r.written, .int .i64 r.flushed] 113))) ho2 (fun e => e)
  have hb6 := blk_only (blk2 w (.cells #[.slice sa r.sure.length sc, .slice wa r.ws.length wc, .bool false, .int .i64 r.fuse, .int .i64 r.written, .int .i64 r.flushed] 113) (.cells #[.slice none 0 0, .slice none 0 0, .bool false, .int .i64 0, .int .i64 0, .int .i64 0] 113)) ho2 (fun e => e)
  have Hb3 := hid hb3; have Hb6 := hid hb6
  have Hr := hid hr
  obtain ⟨s1, c1, a1, d1, hcs1, q1, q2, q3, q4⟩ := hr.ex
  subst hcs1
  have Hsz := hid Ho2.out.size
  have Hlt := hid (blk_lt hb6)
  have nG : Hid (∀ k, w.heap.size ≤ k → ¬ G k) := hid (fun k hk e => by have := H.out.lt k e; omega)
  unfold RM.cells
  clear hr q1 q2 q3 q4 ho2 hb3 hb6
  cases bb with
  | false =>
    have Hp2 : Hid (r.flush = (r1, 50)) := hid Hp.out
    go_wp2_with (first | (refine wpList_store_all rfl 113 (.tmp 1) (.tmp 15) rfl w.heap.size (RM.cells r1 s1 c1 a1 d1) rfl rfl #[.slice sa r.sure.length sc, .slice wa r.ws.length wc, .bool false, .int .i64 r.fuse, .int .i64 r.written, .int .i64 r.flushed] 113 Hb3.out rfl info_rdisk (by simp [RM.cells, Value.oneCell']) ?_; intro w3 hb3 ho3 hs3; have y0 : w3.cell? ⟨w.heap.size, 0, none⟩ = some (.slice s1 r1.sure.length c1) := cell_blk hb3 0; have y1 : w3.cell? ⟨w.heap.size, 1, none⟩ = some (.slice a1 r1.ws.length d1) := cell_blk hb3 1; have y2 : w3.cell? ⟨w.heap.size, 2, none⟩ = some (.bool r1.down) := cell_blk hb3 2; have y3 : w3.cell? ⟨w.heap.size, 3, none⟩ = some (.int .i64 r1.fuse) := cell_blk hb3 3; have y4 : w3.cell? ⟨w.heap.size, 4, none⟩ = some (.int .i64 r1.written) := cell_blk hb3 4; have y5 : w3.cell? ⟨w.heap.size, 5, none⟩ = some (.int .i64 r1.flushed) := cell_blk hb3 5; have Hb63 := hid (blk_only Hb6.out ho3 (show ¬ w.heap.size + 1 = w.heap.size by omega)); have Ho3 := hid ho3; clear hb3 ho3 hs3) | (refine wpList_store_all rfl 113 (.tmp 2) (.tmp 19) rfl (w.heap.size + 1) (RM.cells r1 s1 c1 a1 d1) rfl rfl #[.slice none 0 0, .slice none 0 0, .bool false, .int .i64 0, .int .i64 0, .int .i64 0] 113 Hb63.out rfl info_rdisk (by simp [RM.cells, Value.oneCell']) ?_; intro w4 hb4 ho4 hs4; have Hb4 := hid hb4; have Ho4 := hid ho4; clear hb4 ho4 hs4))
    refine bodyPost_ret (results_cell1 (q := 3) rfl _ _ (w.heap.size + 1) 113 (RM.cells r1 s1 c1 a1 d1) _ _ rfl Hb4.out Try.underlying113 rfl info_rdisk) rfl ?_
    rw [Hp2.out]
    exact ⟨_, G, rfl, (Hr.out.only Ho3.out (fun k hk e => nG.out k (by have e' : k = w.heap.size := e; omega) hk)).only Ho4.out (fun k hk e => nG.out k (by have e' : k = w.heap.size + 1 := e; omega) hk), fun k hk => .inl hk, (Ho2.out.trans Ho3.out (fun k hk e => by have e' : k = w.heap.size := e; omega)).trans Ho4.out (fun k hk e => by have e' : k = w.heap.size + 1 := e; omega)⟩
  | true =>
    have Hp2 : Hid (r.flush = ({ r1 with sure := r1.curs r1.sure.length, ws := [], flushed := r1.flushed + 1 }, 0)) := hid Hp.out
    have Hln := hid (show r1.sure.length ≤ 1000000 ∧ r1.ws.length ≤ 1000000 from ⟨by rw [Hw.out.2.1]; exact Hsl.out, by rw [Hw.out.1]; exact Hwl.out⟩)
    go_wp2_with (refine wpList_store_all rfl 113 (.tmp 1) (.tmp 15) rfl w.heap.size (RM.cells r1 s1 c1 a1 d1) rfl rfl #[.slice sa r.sure.length sc, .slice wa r.ws.length wc, .bool false, .int .i64 r.fuse, .int .i64 r.written, .int .i64 r.flushed] 113 Hb3.out rfl info_rdisk (by simp [RM.cells, Value.oneCell']) ?_; intro w3 hb3 ho3 hs3; have y0 : w3.cell? ⟨w.heap.size, 0, none⟩ = some (.slice s1 r1.sure.length c1) := cell_blk hb3 0; have y1 : w3.cell? ⟨w.heap.size, 1, none⟩ = some (.slice a1 r1.ws.length d1) := cell_blk hb3 1; have y2 : w3.cell? ⟨w.heap.size, 2, none⟩ = some (.bool r1.down) := cell_blk hb3 2; have y3 : w3.cell? ⟨w.heap.size, 3, none⟩ = some (.int .i64 r1.fuse) := cell_blk hb3 3; have y4 : w3.cell? ⟨w.heap.size, 4, none⟩ = some (.int .i64 r1.written) := cell_blk hb3 4; have y5 : w3.cell? ⟨w.heap.size, 5, none⟩ = some (.int .i64 r1.flushed) := cell_blk hb3 5; have Hb33 := hid hb3; have Hb63 := hid (blk_only Hb6.out ho3 (show ¬ w.heap.size + 1 = w.heap.size by omega)); have Ho3 := hid ho3; clear hb3 ho3 hs3)
    have HI : Hid (FlR w w3 w3 r1 (RM.cells r1 s1 c1 a1 d1) G 0 none 0) := hid ⟨Hr.out.only Ho3.out (fun k hk e => nG.out k (by have e' : k = w.heap.size := e; omega) hk), Hb33.out, Hb63.out, .inl ⟨rfl, rfl, rfl⟩, Only.refl _ _⟩
    have Hl3 := hid (blk_lt Hb63.out)
    clear y0 y1 y2 y3 y4 y5
    go_loopw [6, 5, 7, 8] (fun i sv _ _ wr => ∃ (k : Nat) (bo : Option Addr) (cap : Nat), i = .int .i64 k ∧ k ≤ r1.sure.length ∧ sv = .slice bo k cap ∧ FlR w w3 wr r1 (RM.cells r1 s1 c1 a1 d1) G k bo cap) (fun i _ _ _ _ => r1.sure.length - (intOf i).toNat)
    case atStart => exact ⟨0, none, 0, rfl, Nat.zero_le _, rfl, HI.out⟩
    case round =>
      clear HI
      obtain ⟨k, bo, cap, rfl, hk, rfl, hst⟩ := hrel
      have HS := hid hst
      have Hb : Hid (wr.heap[w.heap.size]? = some (.cells #[.slice s1 r1.sure.length c1, .slice a1 r1.ws.length d1, .bool r1.down, .int .i64 r1.fuse, .int .i64 r1.written, .int .i64 r1.flushed] 113 (0, 0))) := hid (by have := hst.b1; unfold RM.cells at this; exact this)
      clear hst
      have y0 : wr.cell? ⟨w.heap.size, 0, none⟩ = some (.slice s1 r1.sure.length c1) := cell_blk Hb.out 0
      have y1 : wr.cell? ⟨w.heap.size, 1, none⟩ = some (.slice a1 r1.ws.length d1) := cell_blk Hb.out 1
      have y2 : wr.cell? ⟨w.heap.size, 2, none⟩ = some (.bool r1.down) := cell_blk Hb.out 2
      have y3 : wr.cell? ⟨w.heap.size, 3, none⟩ = some (.int .i64 r1.fuse) := cell_blk Hb.out 3
      have y4 : wr.cell? ⟨w.heap.size, 4, none⟩ = some (.int .i64 r1.written) := cell_blk Hb.out 4
      have y5 : wr.cell? ⟨w.heap.size, 5, none⟩ = some (.int .i64 r1.flushed) := cell_blk Hb.out 5
      have hk1 : r1.sure.length ≤ 1000000 := Hln.out.1
      by_cases hkl : k < r1.sure.length
      · have hki : (k : Int) < r1.sure.length := by omega
        have HLa := hid (rlast_c HS.out.ref Hln.out.2 k)
        unfold RM.cells at HLa
        obtain ⟨q, hq⟩ : ∃ q, r1.last (k : Int) = q := ⟨_, rfl⟩
        obtain ⟨s, hs⟩ : ∃ s, r1.sure.getD k [] = s := ⟨_, rfl⟩
        have Hqs := hid (And.intro hq hs)
        rw [hq] at HLa
        have hcell : ∃ g o, s1 = some ⟨g, o, none⟩ ∧ wr.cell? ⟨g, o + k, none⟩ = some (.string (strOf s)) := by
          obtain ⟨s1', c1', a1', d1', e, hq1, -, -, -⟩ := HS.out.ref.ex
          unfold RM.cells at e
          simp only [Array.mk.injEq, List.cons.injEq, Value.slice.injEq, true_and] at e
          obtain ⟨⟨rfl, rfl⟩, -⟩ := e
          obtain ⟨a', c', e, hq⟩ := hq1
          simp only [Value.slice.injEq] at e
          obtain ⟨rfl, -, -⟩ := e
          have hne : strs r1.sure ≠ [] := by
            intro e
            have := congrArg List.length e
            rw [length_strs, List.length_nil] at this
            omega
          obtain ⟨g, o, e2, hq2⟩ := hq hne
          refine ⟨g, o, e2, hq2 k _ ?_⟩
          rw [← hs]
          simp [strs, List.getElem?_eq_getElem hkl]
        obtain ⟨g, o, rfl, hc⟩ := hcell
        have hgl := World.block_lt_of_cell? _ _ hc
        clear hq hs
        cases q with
        | some b =>
          go_wp2_with (first | (go_at_call 114; refine HLa.out.mono ?_; rintro e w5 ⟨rfl, ho5⟩; have hc5 : w5.cell? ⟨g, o + k, none⟩ = some (.string (strOf s)) := cellG ho5 hgl (fun e => e) hc; have hb5 := cell_blk (blk_only Hb.out ho5 (fun e => e)); have Ho5 := hid ho5; clear ho5) | (refine wpList_addstr rfl (.tmp 40) (.tmp 42) rfl bo cap w3.heap.size k (r1.curs k) (curs_len _ _) rfl ((HS.out.so.only Ho5.out (fun _ _ _ e => e)).only ((Only.refl (fun _ => False) w5).alloc _) (fun _ _ _ e => e)) (by have := HS.out.only.size; have := Ho5.out.size; simp only [World.size_alloc]; omega) w5.heap.size b rfl (cell_blk (blk_new w5 _) 0) (by omega) ?_; intro bo' cap' w6 hso6 ho6; have Hso6 := hid hso6; have Ho6 := hid ho6; clear hso6 ho6))
          go_roundw
          case rel =>
            have l3 := Hl3.out
            have ha : Only (fun _ => False) wr (w5.alloc (.cells #[.string (strOf b)] 9)) := Ho5.out.alloc _
            have hk2 : r1.curs (k + 1) = r1.curs k ++ [b] := by rw [curs_succ, Hqs.out.1, Hqs.out.2]; rfl
            refine ⟨k + 1, bo', cap', by go_num, by omega, by go_num, (HS.out.ref.only ha (fun _ _ e => e)).only Ho6.out (fun j hj e => nG.out j (by have e' : w3.heap.size ≤ j := e; omega) hj), blk_only (blk_only HS.out.b1 ha (fun e => e)) Ho6.out (show ¬ w3.heap.size ≤ w.heap.size by omega), blk_only (blk_only HS.out.b2 ha (fun e => e)) Ho6.out (show ¬ w3.heap.size ≤ w.heap.size + 1 by omega), by rw [hk2]; exact Hso6.out, (HS.out.only.trans ha (fun _ _ e => e.elim)).trans Ho6.out (fun _ _ e => e)⟩
          case measure => simp [intOf]; omega
        | none =>
          go_wp2_with (first | (go_at_call 114; refine HLa.out.mono ?_; rintro e w5 ⟨rfl, ho5⟩; have hc5 : w5.cell? ⟨g, o + k, none⟩ = some (.string (strOf s)) := cellG ho5 hgl (fun e => e) hc; have hb5 := cell_blk (blk_only Hb.out ho5 (fun e => e)); have Ho5 := hid ho5; clear ho5) | (refine wpList_addstr rfl (.tmp 40) (.tmp 42) rfl bo cap w3.heap.size k (r1.curs k) (curs_len _ _) rfl ((HS.out.so.only Ho5.out (fun _ _ _ e => e)).only ((Only.refl (fun _ => False) w5).alloc _) (fun _ _ _ e => e)) (by have := HS.out.only.size; have := Ho5.out.size; simp only [World.size_alloc]; omega) w5.heap.size s rfl (cell_blk (blk_new w5 _) 0) (by omega) ?_; intro bo' cap' w6 hso6 ho6; have Hso6 := hid hso6; have Ho6 := hid ho6; clear hso6 ho6))
          go_roundw
          case rel =>
            have l3 := Hl3.out
            have ha : Only (fun _ => False) wr (w5.alloc (.cells #[.string (strOf s)] 9)) := Ho5.out.alloc _
            have hk2 : r1.curs (k + 1) = r1.curs k ++ [s] := by rw [curs_succ, Hqs.out.1, Hqs.out.2]; rfl
            refine ⟨k + 1, bo', cap', by go_num, by omega, by go_num, (HS.out.ref.only ha (fun _ _ e => e)).only Ho6.out (fun j hj e => nG.out j (by have e' : w3.heap.size ≤ j := e; omega) hj), blk_only (blk_only HS.out.b1 ha (fun e => e)) Ho6.out (show ¬ w3.heap.size ≤ w.heap.size by omega), blk_only (blk_only HS.out.b2 ha (fun e => e)) Ho6.out (show ¬ w3.heap.size ≤ w.heap.size + 1 by omega), by rw [hk2]; exact Hso6.out, (HS.out.only.trans ha (fun _ _ e => e.elim)).trans Ho6.out (fun _ _ e => e)⟩
          case measure => simp [intOf]; omega
      · obtain rfl : k = r1.sure.length := by omega
        have hz := frozen_blk Hb.out
        have hcb := cell_blk Hb.out
        have hwn : IntKind.i64.wrap (r1.flushed + 1) = r1.flushed + 1 := by have h1 := Hfl.out; have h2 := Hbf.out; exact IntWalk.i64_in _ (by omega)
        have hwn2 : wrap64 (r1.flushed + 1) = r1.flushed + 1 := by have h1 := Hfl.out; have h2 := Hbf.out; unfold wrap64; omega
        have hset : ∀ v0 v1 v5, Only (fun k => k = w.heap.size) wr (((wr.setCell ⟨w.heap.size, 0, none⟩ v0).setCell ⟨w.heap.size, 1, none⟩ v1).setCell ⟨w.heap.size, 5, none⟩ v5) := fun v0 v1 v5 => ((only_set w.heap.size 0 v0).trans (only_set w.heap.size 1 v1) (fun k _ e => e)).trans (only_set w.heap.size 5 v5) (fun k _ e => e)
        have Hset := hid hset
        have Hb2s := hid (fun v0 v1 v5 => blk_only HS.out.b2 (hset v0 v1 v5) (show ¬ w.heap.size + 1 = w.heap.size by omega))
        clear hset y0 y1 y2 y3 y4
        go_wp2_with (refine wpList_store_all rfl 113 (.tmp 2) (.tmp 51) rfl (w.heap.size + 1) #[.slice bo r1.sure.length cap, .slice none 0 0, .bool r1.down, .int .i64 r1.fuse, .int .i64 r1.written, .int .i64 (r1.flushed + 1)] rfl rfl #[.slice none 0 0, .slice none 0 0, .bool false, .int .i64 0, .int .i64 0, .int .i64 0] 113 ?hb rfl info_rdisk (by simp [Value.oneCell']) ?_; (case hb => exact (Hb2s.out _ _ _)); intro w6 hb6 ho6 hs6; have Hb66 := hid hb6; have Ho6 := hid ho6; clear hb6 ho6 hs6)
        refine bodyPost_ret (results_cell1 (q := 3) rfl _ _ (w.heap.size + 1) 113 #[.slice bo r1.sure.length cap, .slice none 0 0, .bool r1.down, .int .i64 r1.fuse, .int .i64 r1.written, .int .i64 (r1.flushed + 1)] _ _ rfl Hb66.out Try.underlying113 rfl info_rdisk) rfl ?_
        rw [Hp2.out]
        have l3 := Hl3.out
        have s2 := Hsz.out
        have h6 : Only (fun k => k = w.heap.size ∨ k = w.heap.size + 1) wr w6 := ((Hset.out (.slice bo r1.sure.length cap) (.slice none 0 0) (.int .i64 (r1.flushed + 1))).mono (fun k _ e => Or.inl e)).trans Ho6.out (fun k _ e => Or.inr e)
        have hso := HS.out.so.only h6 (fun j _ hj e => by rcases e with e | e <;> omega)
        have hsrc := hso.src
        rw [curs_len] at hsrc
        have hall : Only (fun k => w.heap.size ≤ k) w2 w6 := ((Ho3.out.mono (fun k _ e => (by have e' : k = w.heap.size := e; omega))).trans HS.out.only (fun k _ e => by have e' : w3.heap.size ≤ k := e; omega)).trans h6 (fun k _ e => by rcases e with e | e <;> omega)
        refine ⟨_, fun j => w.heap.size ≤ j ∧ j < w6.heap.size, rfl, ⟨⟨bo, cap, none, 0, by unfold RM.cells; simp [curs_len], by simpa [curs_len] using hsrc, ⟨none, 0, rfl, fun e => absurd rfl e⟩, fun g o e => ?_, fun g o e => by cases e⟩, fun j hj => hj.2⟩, fun j hj => .inr hj.1, Ho2.out.trans hall (fun k hk e => by have e' : w.heap.size ≤ k := e; omega)⟩
        rcases hso with ⟨e', -, -⟩ | ⟨g', e', hg, hr⟩
        · rw [e'] at e; cases e
        · rw [e'] at e
          simp only [Option.some.injEq, Addr.mk.injEq] at e
          have := hr.lt
          omega
end
end Go.Proofs.Ytepndjojodbhdaa
