/- event.Encode, event.Decode. -/
import Derived.Test.YtnoopajedgllhaaEvG
namespace Go.Proofs.Ytnoopajedgllhaa
open Go.RowKit

/-- What event.Encode leaves. -/
def Encd (w : World) (e : EM) (x : Ending) (w' : World) : Prop := ∃ v, x = .returned (.tuple #[v, .int .i64 e.chk]) ∧ NewB w w' v (if e.chk = 0 then e.wr else [])
theorem ewr_len {e : EM} (h : e.Good) : e.wr.length ≤ 10000 := by
  have hfl := evFlds_len e.k
  have hfbl : ∀ c, (e.fb c).length ≤ 1000 := fun c => by
    unfold EM.fb
    have h1 := numB_len e.a.toNat
    have h2 := numB_len e.b.toNat
    have h3 := numB_len e.name.length
    have h4 := numB_len e.text.length
    have h5 := h.nL
    have h6 := h.tL
    obtain ⟨q9, hwk9, hvl⟩ := chk_walk h.v
    repeat' split
    all_goals first | omega | (unfold textB; rw [List.length_append]; omega) | simp
  have h1 : ∀ l : List UInt8, (l.flatMap e.fb).length ≤ 1000 * l.length := by
    intro l
    induction l with
    | nil => simp
    | cons c l ih => rw [List.flatMap_cons, List.length_append, List.length_cons]; have := hfbl c; omega
  have h2 := h1 (evFlds e.k)
  have h3 := numB_len e.id.toNat
  have h4 := numB_len e.tm.toNat
  unfold EM.wr
  rw [List.length_cons, List.length_append, List.length_append]; omega
section
variable {w : World} {G : Nat → Prop} {e : EM} {cs : List Value}
set_option maxRecDepth 100000 in
set_option maxHeartbeats 1600000 in
theorem encode_c (hE : EAt w G e cs) (hG : ∀ k, G k → k < w.heap.size) (hg : e.rg) : Calls Try.prog 76 #[.agg cs.toArray] w (Encd w e) := by
  obtain ⟨vk, vn, vs, va, vm, vc, rfl, hV⟩ := hE.form
  have ho := only_new w (.cells #[.int .i64 e.id, .int .i64 e.tm, .int .i64 e.k, .int .i64 e.a, .int .i64 e.b, .string (strOf e.name), .string (strOf e.text), .int .i64 vk, .int .i64 vn, .string (strOf vs), .slice va vm vc] 44)
  have HCK := hid (echeck_c (hE.same ho) (fun k hk => by have := hG k hk; simp; omega) hg)
  have HE := hid hE; have HO := hid ho; have Hg := hid hg; have HG := hid hG
  have HB := hid (blk_new w (.cells #[.int .i64 e.id, .int .i64 e.tm, .int .i64 e.k, .int .i64 e.a, .int .i64 e.b, .string (strOf e.name), .string (strOf e.text), .int .i64 vk, .int .i64 vn, .string (strOf vs), .slice va vm vc] 44))
  obtain ⟨ck, hck⟩ : ∃ y, e.chk = y := ⟨_, rfl⟩
  rw [hck] at HCK
  have HK := hid hck
  clear hck hE ho hg hG hV
  go_enter Try.func76, Try.ntmps76
  go_wp2_with fail
  refine HCK.out.mono ?_
  rintro x w2 ⟨rfl, ho2⟩
  have HO2 := hid ho2
  have hb2 := blk_only HB.out ho2 (fun e => e)
  by_cases hc0 : ck = 0
  · subst hc0
    have hgd := chk_good HK.out
    have hwl := ewr_len hgd
    have c0 : w2.cell? ⟨w.heap.size, 0, none⟩ = some (.int .i64 e.id) := cell_blk hb2 0
    have c1 : w2.cell? ⟨w.heap.size, 1, none⟩ = some (.int .i64 e.tm) := cell_blk hb2 1
    have c2 : w2.cell? ⟨w.heap.size, 2, none⟩ = some (.int .i64 e.k) := cell_blk hb2 2
    have c3 : w2.cell? ⟨w.heap.size, 3, none⟩ = some (.int .i64 e.a) := cell_blk hb2 3
    have c4 : w2.cell? ⟨w.heap.size, 4, none⟩ = some (.int .i64 e.b) := cell_blk hb2 4
    have c5 : w2.cell? ⟨w.heap.size, 5, none⟩ = some (.string (strOf e.name)) := cell_blk hb2 5
    have c6 : w2.cell? ⟨w.heap.size, 6, none⟩ = some (.string (strOf e.text)) := cell_blk hb2 6
    have c7 : w2.cell? ⟨w.heap.size, 7, none⟩ = some (.int .i64 vk) := cell_blk hb2 7
    have c8 : w2.cell? ⟨w.heap.size, 8, none⟩ = some (.int .i64 vn) := cell_blk hb2 8
    have c9 : w2.cell? ⟨w.heap.size, 9, none⟩ = some (.string (strOf vs)) := cell_blk hb2 9
    have c10 : w2.cell? ⟨w.heap.size, 10, none⟩ = some (.slice va vm vc) := cell_blk hb2 10
    have hlb := blk_lt hb2
    have how : Only (fun _ => False) w (w2.alloc (.cells #[.slice none 0 0] 78)) := (HO.out.trans HO2.out (fun _ _ e => e)).trans (only_new _ _) (fun _ _ e => e)
    have HW := hid (ewrite_c (w := w2.alloc (.cells #[.slice none 0 0] 78)) (b := w2.heap.size) (bs := []) (G := G) (Wr.new (blk_new w2 _)) (HE.out.same how) (fun j hj e => by have := HG.out j hj; have := HO2.out.size; have e' : j = w2.heap.size := e; omega) (fun j hj => by have := HG.out j hj; have := how.size; omega) Hg.out hgd (by simp))
    rw [List.nil_append] at HW
    have HOW := hid how
    clear hgd ho2 hb2 how
    go_wp2_with fail
    refine HW.out.mono ?_
    rintro x w3 ⟨rfl, F3, hW3, ho3, hF3⟩
    have HBY := hid (wbytes_c hW3 (by omega))
    have HO3 : Hid (Only (fun _ => False) w w3) := hid ((HO.out.trans HO2.out (fun _ _ e => e)).trans (((only_new w2 (.cells #[.slice none 0 0] 78)).mono (G := fun k => k = w2.heap.size) (fun _ _ e => e.elim)).trans ho3 (fun _ _ e => e)) (fun j hj e => by have e' : j = w2.heap.size := e; have := HO2.out.size; simp at this; omega))
    clear hW3 ho3 hF3
    go_wp2_with fail
    refine HBY.out.mono ?_
    rintro x w4 ⟨v, rfl, hv⟩
    have HV := hid hv
    obtain ⟨ao, cp, rfl, -⟩ := hv
    go_wp2_with fail
    go_ret2
    unfold Encd
    rw [HK.out, if_pos rfl]
    obtain ⟨ao', cp', h1, h2, h3, h4⟩ := HV.out
    exact ⟨_, rfl, ao', cp', h1, h2, fun g hg => Nat.le_trans HO3.out.size (h3 g hg), HO3.out.trans h4 (fun _ _ e => e)⟩
  · have hcb : (ck != 0) = true := by simpa using hc0
    have HC := hid hc0
    clear ho2 hb2 hc0
    go_wp2_with fail
    go_ret2
    unfold Encd
    rw [HK.out, if_neg HC.out]
    exact ⟨_, rfl, none, 0, rfl, Gr.nil, by simp, HO.out.trans HO2.out (fun _ _ e => e)⟩
/-- What event.Decode answers: the event, the error. -/
def decR (l : List UInt8) : EM × Int := (if (RdM.of l).ev.2.done ≠ 0 then .zero else (RdM.of l).ev.1, (RdM.of l).ev.2.done)
def Decd (w : World) (l : List UInt8) (x : Ending) (w' : World) : Prop := ∃ cs, x = .returned (.tuple #[.agg cs.toArray, .int .i64 (decR l).2]) ∧ EAt w' (New w w') (decR l).1 cs ∧ Only (fun _ => False) w w'
end
end Go.Proofs.Ytnoopajedgllhaa
