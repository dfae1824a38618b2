/- event.Encode, event.Decode. -/
import Derived.Test.YtfmdngeooelcpaaGreatEvG
namespace Go.Proofs.YtfmdngeooelcpaaGreat
open Go.RowKit

/-- What event.Encode leaves. -/
def Encd (w : World) (e : EM) (x : Ending) (w' : World) : Prop := ∃ v, x = .returned (.tuple #[v, .int .i64 e.chk]) ∧ NewB w w' v (if e.chk = 0 then e.wr else [])
theorem ewr_len {e : EM} (h : e.Good) : e.wr.length ≤ 10000 := by
  have hfl := evFlds_len e.k
  have hfbl : ∀ c, (e.fb c).length ≤ 1000 := fun c => by
    unfold EM.fb
    have h1 := numB_len e.a.toNat
    have h2 := numB_len e.b.toNat
    have h3 := numB_len e.name.length
    have h4 := numB_len e.text.length
    have h5 := h.nL
    have h6 := h.tL
    obtain ⟨q9, hwk9, hvl⟩ := chk_walk h.v
    repeat' split
    all_goals first | omega | (unfold textB; rw [List.length_append]; omega) | simp
  have h1 : ∀ l : List UInt8, (l.flatMap e.fb).length ≤ 1000 * l.length := by
    intro l
    induction l with
    | nil => simp
    | cons c l ih => rw [List.flatMap_cons, List.length_append, List.length_cons]; have := hfbl c; omega
  have h2 := h1 (evFlds e.k)
  have h3 := numB_len e.id.toNat
  have h4 := numB_len e.tm.toNat
  unfold EM.wr
  rw [List.length_cons, List.length_append, List.length_append]; omega
section
variable {w : World} {G : Nat → Prop} {e : EM} {cs : List Value}
set_option maxRecDepth 100000 in
set_option maxHeartbeats 1600000 in
theorem encode_c (hE : EAt w G e cs) (hG : ∀ k, G k → k < w.heap.size) (hg : e.rg) : Calls Tryz.prog 9 #[.agg cs.toArray] w (Encd w e) := by
  obtain ⟨vk, vn, vs, va, vm, vc, rfl, hV⟩ := hE.form
  have ho := only_new w (.cells #[.int .i64 e.id, .int .i64 e.tm, .int .i64 e.k, .int .i64 e.a, .int .i64 e.b, .string (strOf e.name), .string (strOf e.text), .int .i64 vk, .int .i64 vn, .string (strOf vs), .slice va vm vc] 43)
  have HCK := hid (echeck_c (hE.same ho) (fun k hk => by have := hG k hk; simp; omega) hg)
  have HE := hid hE; have HO := hid ho; have Hg := hid hg; have HG := hid hG
  have HB := hid (blk_new w (.cells #[.int .i64 e.id, .int .i64 e.tm, .int .i64 e.k, .int .i64 e.a, .int .i64 e.b, .string (strOf e.name), .string (strOf e.text), .int .i64 vk, .int .i64 vn, .string (strOf vs), .slice va vm vc] 43))
  obtain ⟨ck, hck⟩ : ∃ y, e.chk = y := ⟨_, rfl⟩
  rw [hck] at HCK
  have HK := hid hck
  clear hck hE ho hg hG hV
  go_enter Tryz.func9, Tryz.ntmps9
  go_wp2_with fail
  refine HCK.out.mono ?_
  rintro x w2 ⟨rfl, ho2⟩
  have HO2 := hid ho2
  have hb2 := blk_only HB.out ho2 (fun e => e)
  by_cases hc0 : ck = 0
  · subst hc0
    have hgd := chk_good HK.out
    have hwl := ewr_len hgd
    have c0 : w2.cell? ⟨w.heap.size, 0, none⟩ = some (.int .i64 e.id) := cell_blk hb2 0
    have c1 : w2.cell? ⟨w.heap.size, 1, none⟩ = some (.int .i64 e.tm) := cell_blk hb2 1
    have c2 : w2.cell? ⟨w.heap.size, 2, none⟩ = some (.int .i64 e.k) := cell_blk hb2 2
    have c3 : w2.cell? ⟨w.heap.size, 3, none⟩ = some (.int .i64 e.a) := cell_blk hb2 3
    have c4 : w2.cell? ⟨w.heap.size, 4, none⟩ = some (.int .i64 e.b) := cell_blk hb2 4
    have c5 : w2.cell? ⟨w.heap.size, 5, none⟩ = some (.string (strOf e.name)) := cell_blk hb2 5
    have c6 : w2.cell? ⟨w.heap.size, 6, none⟩ = some (.string (strOf e.text)) := cell_blk hb2 6
    have c7 : w2.cell? ⟨w.heap.size, 7, none⟩ = some (.int .i64 vk) := cell_blk hb2 7
    have c8 : w2.cell? ⟨w.heap.size, 8, none⟩ = some (.int .i64 vn) := cell_blk hb2 8
    have c9 : w2.cell? ⟨w.heap.size, 9, none⟩ = some (.string (strOf vs)) := cell_blk hb2 9
    have c10 : w2.cell? ⟨w.heap.size, 10, none⟩ = some (.slice va vm vc) := cell_blk hb2 10
    have hlb := blk_lt hb2
    have how : Only (fun _ => False) w (w2.alloc (.cells #[.slice none 0 0] 87)) := (HO.out.trans HO2.out (fun _ _ e => e)).trans (only_new _ _) (fun _ _ e => e)
    have HW := hid (ewrite_c (w := w2.alloc (.cells #[.slice none 0 0] 87)) (b := w2.heap.size) (bs := []) (G := G) (Wr.new (blk_new w2 _)) (HE.out.same how) (fun j hj e => by have := HG.out j hj; have := HO2.out.size; have e' : j = w2.heap.size := e; omega) (fun j hj => by have := HG.out j hj; have := how.size; omega) Hg.out hgd (by simp))
    rw [List.nil_append] at HW
    have HOW := hid how
    clear hgd ho2 hb2 how
    go_wp2_with fail
    refine HW.out.mono ?_
    rintro x w3 ⟨rfl, F3, hW3, ho3, hF3⟩
    have HBY := hid (wbytes_c hW3 (by omega))
    have HO3 : Hid (Only (fun _ => False) w w3) := hid ((HO.out.trans HO2.out (fun _ _ e => e)).trans (((only_new w2 (.cells #[.slice none 0 0] 87)).mono (G := fun k => k = w2.heap.size) (fun _ _ e => e.elim)).trans ho3 (fun _ _ e => e)) (fun j hj e => by have e' : j = w2.heap.size := e; have := HO2.out.size; simp at this; omega))
    clear hW3 ho3 hF3
    go_wp2_with fail
    refine HBY.out.mono ?_
    rintro x w4 ⟨v, rfl, hv⟩
    have HV := hid hv
    obtain ⟨ao, cp, rfl, -⟩ := hv
    go_wp2_with fail
    go_ret2
    unfold Encd
    rw [HK.out, if_pos rfl]
    obtain ⟨ao', cp', h1, h2, h3, h4⟩ := HV.out
    exact ⟨_, rfl, ao', cp', h1, h2, fun g hg => Nat.le_trans HO3.out.size (h3 g hg), HO3.out.trans h4 (fun _ _ e => e)⟩
  · have hcb : (ck != 0) = true := by simpa using hc0
    have HC := hid hc0
    clear ho2 hb2 hc0
    go_wp2_with fail
    go_ret2
    unfold Encd
    rw [HK.out, if_neg HC.out]
    exact ⟨_, rfl, none, 0, rfl, Gr.nil, by simp, HO.out.trans HO2.out (fun _ _ e => e)⟩
/-- What event.Decode answers: the event, the error. -/
def decR (l : List UInt8) : EM × Int := (if (RdM.of l).ev.2.done ≠ 0 then .zero else (RdM.of l).ev.1, (RdM.of l).ev.2.done)
def Decd (w : World) (l : List UInt8) (x : Ending) (w' : World) : Prop := ∃ cs, x = .returned (.tuple #[.agg cs.toArray, .int .i64 (decR l).2]) ∧ EAt w' (New w w') (decR l).1 cs ∧ Only (fun _ => False) w w'
set_option maxRecDepth 100000 in
set_option maxHeartbeats 1600000 in
theorem decode_c {v : Value} {l : List UInt8} (hs : Src w v l) (hl : l.length ≤ 1000000000) : Calls Tryz.prog 15 #[v] w (Decd w l) := by
  have HR := hid (read_c v l (hs.same (only_new w (.cells ezero 43))) hl)
  have HZ := hid (blk_new w (.cells ezero 43))
  have HD : Hid (decR l = (if (RdM.of l).ev.2.done ≠ 0 then .zero else (RdM.of l).ev.1, (RdM.of l).ev.2.done)) := hid rfl
  obtain ⟨x, hx⟩ : ∃ x, (RdM.of l).ev = x := ⟨_, rfl⟩
  rw [hx] at HD
  have HX := hid hx
  obtain ⟨a0, c0, rfl⟩ := hs.len
  clear hs hx hl
  go_enter Tryz.func15, Tryz.ntmps15
  go_wp2_with fail
  refine HR.out.mono ?_
  rintro e w1 ⟨b, g, rfl, hr, hb, hg, ho⟩
  simp at hb hg
  have hlt := hr.lt
  have HE := hid (eread_c hr)
  rw [HX.out] at HE
  have HO1 := hid ((only_new w (.cells ezero 43)).trans ho (fun _ _ e => e))
  have HZ1 := hid (blk_only HZ.out ho (fun e => e))
  have hs1 := HO1.out.size
  clear hr ho HR
  go_wp2_with fail
  refine HE.out.mono ?_
  rintro e w2 ⟨cs, rfl, hev, hr2, ho2⟩
  obtain ⟨vk, vn, vs, va, vm, vc, rfl, -⟩ := hev.form
  obtain ⟨⟨id, tm, kk, a, bb, nn, tt, vv⟩, r2⟩ := x
  simp only at hev hr2 HD ⊢
  have ho3 := only_new w2 (.cells (List.toArray [.int .i64 id, .int .i64 tm, .int .i64 kk, .int .i64 a, .int .i64 bb, .string (strOf nn), .string (strOf tt), .int .i64 vk, .int .i64 vn, .string (strOf vs), .slice va vm vc]) 43)
  have HEN := hid (rend_c (hr2.same ho3))
  have HZ3 := hid (blk_alloc (o' := .cells (List.toArray [.int .i64 id, .int .i64 tm, .int .i64 kk, .int .i64 a, .int .i64 bb, .string (strOf nn), .string (strOf tt), .int .i64 vk, .int .i64 vn, .string (strOf vs), .slice va vm vc]) 43) (blk_only HZ1.out ho2 (by show ¬ w.heap.size = b; omega)))
  have HB3 := hid (blk_new w2 (.cells (List.toArray [.int .i64 id, .int .i64 tm, .int .i64 kk, .int .i64 a, .int .i64 bb, .string (strOf nn), .string (strOf tt), .int .i64 vk, .int .i64 vn, .string (strOf vs), .slice va vm vc]) 43))
  have HEV := hid (hev.same ho3)
  have HOW : Hid (Only (fun _ => False) w (w2.alloc (.cells (List.toArray [.int .i64 id, .int .i64 tm, .int .i64 kk, .int .i64 a, .int .i64 bb, .string (strOf nn), .string (strOf tt), .int .i64 vk, .int .i64 vn, .string (strOf vs), .slice va vm vc]) 43))) := hid ((HO1.out.trans ho2 (fun j hj e => by have e' : j = b := e; omega)).trans ho3 (fun _ _ e => e))
  have hs2 := ho2.size
  clear hev hr2 ho2 ho3 HE
  go_wp2_with fail
  refine HEN.out.mono ?_
  rintro e w3 ⟨rfl, n, rfl⟩
  obtain ⟨wb, hwb⟩ : ∃ wb, ((w2.alloc (.cells #[.int .i64 id, .int .i64 tm, .int .i64 kk, .int .i64 a, .int .i64 bb, .string (strOf nn), .string (strOf tt), .int .i64 vk, .int .i64 vn, .string (strOf vs), .slice va vm vc] 43)).drewN n) = wb := ⟨_, rfl⟩
  have HZ4 : Hid (wb.heap[w.heap.size]? = some (.cells ezero 43 (0, 0))) := hid (by rw [← hwb]; exact HZ3.out)
  have hb4 : wb.heap[w2.heap.size]? = some (.cells #[.int .i64 id, .int .i64 tm, .int .i64 kk, .int .i64 a, .int .i64 bb, .string (strOf nn), .string (strOf tt), .int .i64 vk, .int .i64 vn, .string (strOf vs), .slice va vm vc] 43 (0, 0)) := by rw [← hwb]; exact HB3.out
  have HEV4 : Hid (EAt wb (New w1 w2) _ [.int .i64 id, .int .i64 tm, .int .i64 kk, .int .i64 a, .int .i64 bb, .string (strOf nn), .string (strOf tt), .int .i64 vk, .int .i64 vn, .string (strOf vs), .slice va vm vc]) := hid (by rw [← hwb]; exact HEV.out.same (only_drewN _ _))
  have HOW4 : Hid (Only (fun _ => False) w wb) := hid (by rw [← hwb]; exact HOW.out.trans (only_drewN _ _) (fun _ _ e => e))
  have hsb : wb.heap.size = w2.heap.size + 1 := by rw [← hwb]; exact World.size_alloc _ _
  rw [hwb]
  have c0 : wb.cell? ⟨w2.heap.size, 0, none⟩ = some (.int .i64 id) := cell_blk hb4 0
  have c1 : wb.cell? ⟨w2.heap.size, 1, none⟩ = some (.int .i64 tm) := cell_blk hb4 1
  have c2 : wb.cell? ⟨w2.heap.size, 2, none⟩ = some (.int .i64 kk) := cell_blk hb4 2
  have c3 : wb.cell? ⟨w2.heap.size, 3, none⟩ = some (.int .i64 a) := cell_blk hb4 3
  have c4 : wb.cell? ⟨w2.heap.size, 4, none⟩ = some (.int .i64 bb) := cell_blk hb4 4
  have c5 : wb.cell? ⟨w2.heap.size, 5, none⟩ = some (.string (strOf nn)) := cell_blk hb4 5
  have c6 : wb.cell? ⟨w2.heap.size, 6, none⟩ = some (.string (strOf tt)) := cell_blk hb4 6
  have c7 : wb.cell? ⟨w2.heap.size, 7, none⟩ = some (.int .i64 vk) := cell_blk hb4 7
  have c8 : wb.cell? ⟨w2.heap.size, 8, none⟩ = some (.int .i64 vn) := cell_blk hb4 8
  have c9 : wb.cell? ⟨w2.heap.size, 9, none⟩ = some (.string (strOf vs)) := cell_blk hb4 9
  have c10 : wb.cell? ⟨w2.heap.size, 10, none⟩ = some (.slice va vm vc) := cell_blk hb4 10
  have HSB := hid hsb
  clear hwb hb4 hsb HZ3 HB3 HEV HOW HEN
  obtain ⟨dn, hdn⟩ : ∃ d, r2.done = d := ⟨_, rfl⟩
  rw [hdn] at HD ⊢
  clear hdn
  by_cases hd0 : dn = 0
  · subst hd0
    have HF : Hid (decR l = (⟨id, tm, kk, a, bb, nn, tt, vv⟩, 0)) := hid (by rw [HD.out]; simp)
    go_wp2_with (refine wpList_store_all rfl 43 (.tmp 2) (.tmp 17) rfl w.heap.size #[.int .i64 id, .int .i64 tm, .int .i64 kk, .int .i64 a, .int .i64 bb, .string (strOf nn), .string (strOf tt), .int .i64 vk, .int .i64 vn, .string (strOf vs), .slice va vm vc] rfl rfl ezero 43 HZ4.out rfl info_ev (ev_one _ _ _ _ _ _ _ _ _ _ _ _ _) ?_; intro w9 hb9 ho9 hs9; have HB9 := hid hb9; have HO9 := hid ho9; have HS9 := hid hs9; clear hb9 ho9 hs9)
    refine bodyPost_ret (results_cell1 rfl _ _ w.heap.size 43 #[.int .i64 id, .int .i64 tm, .int .i64 kk, .int .i64 a, .int .i64 bb, .string (strOf nn), .string (strOf tt), .int .i64 vk, .int .i64 vn, .string (strOf vs), .slice va vm vc] (0, 0) _ rfl HB9.out Tryz.underlying43 rfl info_ev) rfl ?_
    unfold Decd
    rw [HF.out]
    exact ⟨[.int .i64 id, .int .i64 tm, .int .i64 kk, .int .i64 a, .int .i64 bb, .string (strOf nn), .string (strOf tt), .int .i64 vk, .int .i64 vn, .string (strOf vs), .slice va vm vc], rfl, (HEV4.out.only HO9.out (fun i hi e => by have e' : i = w.heap.size := e; have := hi.1; omega)).mono (fun i hi => ⟨by have := hi.1; omega, by have := hi.2; have := HS9.out; have := HSB.out; omega⟩), HOW4.out.trans HO9.out (fun i hi e => by have e' : i = w.heap.size := e; omega)⟩
  · have hdb : (dn != 0) = true := by simpa using hd0
    have HF : Hid (decR l = (.zero, dn)) := hid (by rw [HD.out, if_pos hd0])
    clear hd0
    go_wp2_with (refine wpList_store_all rfl 43 (.tmp 2) (.tmp 15) rfl w.heap.size ezero rfl rfl ezero 43 HZ4.out rfl info_ev (ev_one _ _ _ _ _ _ _ _ _ _ _ _ _) ?_; intro w9 hb9 ho9 hs9; have HB9 := hid hb9; have HO9 := hid ho9; have HS9 := hid hs9; clear hb9 ho9 hs9)
    refine bodyPost_ret (results_cell1 rfl _ _ w.heap.size 43 ezero (0, 0) _ rfl HB9.out Tryz.underlying43 rfl info_ev) rfl ?_
    unfold Decd
    rw [HF.out]
    exact ⟨ezero.toList, rfl, ⟨_, rfl, novls _ _ 0 0 []⟩, HOW4.out.trans HO9.out (fun i hi e => by have e' : i = w.heap.size := e; omega)⟩
end
end Go.Proofs.YtfmdngeooelcpaaGreat
