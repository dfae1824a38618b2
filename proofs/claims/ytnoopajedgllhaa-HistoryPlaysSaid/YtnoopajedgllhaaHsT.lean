/- foliotref01.Chain: the sums of a chain of texts. foliotlaw18.sums: the sums of a chain of events, as the references say. -/
import Derived.Test.YtnoopajedgllhaaRf01E
import Derived.Test.YtnoopajedgllhaaSumV
import Derived.Test.YtnoopajedgllhaaHsB
import Derived.Test.YtnoopajedgllhaaEvsV
import Derived.Test.YtnoopajedgllhaaRf09B
namespace Go.Proofs.Ytnoopajedgllhaa
open Go.RowKit
/-- The sums of a chain of texts, from a sum on; the last one. -/
def chainT (s : List UInt8) : List (List UInt8) → List (List UInt8)
  | [] => []
  | l :: ls => sha (s ++ l) :: chainT (sha (s ++ l)) ls
def sumT (s : List UInt8) (ls : List (List UInt8)) : List UInt8 := ls.foldl (fun s l => sha (s ++ l)) s
theorem chainT_len : ∀ (s : List UInt8) (ls : List (List UInt8)), (chainT s ls).length = ls.length
  | _, [] => rfl
  | s, l :: ls => by rw [chainT, List.length_cons, List.length_cons, chainT_len]
theorem chainT_app : ∀ (s : List UInt8) (a b : List (List UInt8)), chainT s (a ++ b) = chainT s a ++ chainT (sumT s a) b
  | _, [], _ => rfl
  | s, l :: a, b => by rw [List.cons_append, chainT, chainT, List.cons_append, chainT_app]; rfl
theorem sumT_len {s : List UInt8} (hs : s.length = 32) : ∀ ls : List (List UInt8), (sumT s ls).length = 32
  | [] => hs
  | l :: ls => by show (sumT (sha (s ++ l)) ls).length = 32; exact sumT_len (sha_len _) ls
theorem sumT_take1 {s : List UInt8} {ls : List (List UInt8)} {i : Nat} {l : List UInt8} (h : ls[i]? = some l) : sumT s (ls.take (i + 1)) = sha (sumT s (ls.take i) ++ l) := by
  rw [List.take_add_one, h]; simp [sumT]
theorem chainT_take1 {s : List UInt8} {ls : List (List UInt8)} {i : Nat} {l : List UInt8} (h : ls[i]? = some l) : chainT s (ls.take (i + 1)) = chainT s (ls.take i) ++ [sumT s (ls.take (i + 1))] := by
  rw [sumT_take1 h, List.take_add_one, h, chainT_app]; rfl
theorem chainT_32 : ∀ (s : List UInt8) (ls : List (List UInt8)), ∀ x ∈ chainT s ls, x.length = 32
  | _, [], x, h => by simp [chainT] at h
  | s, l :: ls, x, h => by
    rw [chainT] at h
    rcases List.mem_cons.1 h with rfl | h
    · exact sha_len _
    · exact chainT_32 _ ls x h
theorem chainS_T : ∀ (s : List UInt8) (es : List EM), chainS s es = chainT s (es.map EM.wr)
  | _, [] => rfl
  | s, e :: es => by rw [chainS, List.map_cons, chainT, chainS_T]; rfl
theorem sumS_T (s : List UInt8) (es : List EM) : sumS s es = sumT s (es.map EM.wr) := by
  unfold sumS sumT link
  rw [List.foldl_map]
def strV (l : List UInt8) : Value := .string (strOf l)
theorem str_ones (ls : List (List UInt8)) : ∀ u ∈ ls.map strV, u.oneCell' = true := fun u hu => by obtain ⟨x, -, rfl⟩ := List.mem_map.1 hu; rfl
theorem elA32 : Elem Try.prog 103 28 32 32 := .mk Try.underlying103 (z := .agg (byA st0 0)) (by kernel_rfl) rfl
theorem elStr : Elem Try.prog 94 9 1 16 := .mk Try.underlying94 (z := .string ⟨#[]⟩) (by kernel_rfl) rfl
theorem infoA32 : (Try.prog.info? 28).map (·.size) = some 32 := by kernel_rfl
theorem bslice_A32 (w : World) (s : List UInt8) (hs : s.length = 32) : (Instr.buildSlice 103 1 #[(0, .agg (bytesV s).toArray)]).run Try.prog w = .ok (.slice (some ⟨w.heap.size, 0, none⟩) 1 1) (w.alloc (.cells (bytesV s).toArray 28)) := by
  match s, hs with
  | [a0, a1, a2, a3, a4, a5, a6, a7, a8, a9, a10, a11, a12, a13, a14, a15, a16, a17, a18, a19, a20, a21, a22, a23, a24, a25, a26, a27, a28, a29, a30, a31], _ => show _ = _; kernel_rfl
section
variable {w : World}
set_option maxRecDepth 100000 in
set_option maxHeartbeats 1600000 in
theorem rchain_c {s : List UInt8} {ls : List (List UInt8)} {ao : Option Addr} {cap : Nat} (hs : s.length = 32) (hg : Gr w 9 1 ao ls.length cap (ls.map strV)) (hl : ∀ l ∈ ls, l.length ≤ 100000) (hn : ls.length ≤ 100000) :
    Calls Try.prog 65 #[.agg (bytesV s).toArray, .slice ao ls.length cap] w fun e w' => ∃ ad cp, e = .returned (.slice ad ls.length cp) ∧ Gr w' 28 32 ad ls.length cp ((chainT s ls).flatMap bytesV) ∧ (∀ q, ad = some ⟨q, 0, none⟩ → w.heap.size ≤ q) ∧ Only (fun _ => False) w w' := by
  have hB0 := blk_new w (.cells (bytesV s).toArray 28)
  have hO0 := only_new w (.cells (bytesV s).toArray 28)
  obtain ⟨S, hS⟩ : ∃ x, (bytesV s).toArray = x := ⟨_, rfl⟩
  rw [hS] at hB0 hO0
  rw [hS]
  have HS := hid hS; have HB0 := hid hB0; have HO0 := hid hO0; have HG := hid hg
  have hws : w.heap.size < (w.alloc (.cells S 28)).heap.size := by simp
  clear hS hB0 hO0 hg
  go_enter Try.func65, Try.ntmps65
  go_wp2_with fail
  obtain ⟨w0, hw0⟩ : ∃ x, w.alloc (.cells S 28) = x := ⟨_, rfl⟩
  rw [hw0] at HB0 HO0 hws
  rw [hw0]
  clear hw0
  go_loopw [5, 6] (fun o i wr => ∃ (n cp : Nat) (ad : Option Addr), i = .int .i64 n ∧ n ≤ ls.length ∧ o = .slice ad n cp ∧ Gr wr 28 32 ad n cp ((chainT s (ls.take n)).flatMap bytesV) ∧ (∀ q, ad = some ⟨q, 0, none⟩ → w0.heap.size ≤ q) ∧ wr.heap[w.heap.size]? = some (.cells (bytesV (sumT s (ls.take n))).toArray 28 (0, 0)) ∧ Only (fun k => k = w.heap.size) w0 wr) (fun _ i _ => ls.length - (intOf i).toNat)
  case atStart => exact ⟨0, 0, none, rfl, Nat.zero_le _, rfl, by rw [List.take_zero]; exact Gr.nil, by simp, by rw [List.take_zero]; show _ = some (Obj.cells (bytesV s).toArray _ _); rw [HS.out]; exact HB0.out, Only.refl _ _⟩
  case round =>
    obtain ⟨n, cp, ad, rfl, hnl, rfl, hgr, had, hbk, ho⟩ := hrel
    have HGR := hid hgr; have HAD := hid had; have HBK := hid hbk; have HO := hid ho
    have hoz := ho.size
    by_cases hlt : n < ls.length
    · have hni : (n : Int) < ls.length := by omega
      obtain ⟨l, hli⟩ : ∃ l, ls[n]? = some l := ⟨_, List.getElem?_eq_getElem hlt⟩
      have hll := hl l (List.mem_of_getElem? hli)
      have h1 := sumT_take1 (s := s) hli
      have h2 := chainT_take1 (s := s) hli
      have h32 := sumT_len hs (ls.take n)
      have h33 := sumT_len hs (ls.take (n + 1))
      obtain ⟨g, hgo, hgc⟩ := HG.out.cells (by omega)
      subst hgo
      have hgl := HG.out.lt rfl
      have hcel : wr.cell? ⟨g, n, none⟩ = some (.string (strOf l)) := by
        rw [(World.cell?_of_block ((HO0.out.trans ho (fun k hk e => by have e' : k = w.heap.size := e; omega) : Only (fun _ => False) w wr).block g hgl (fun e => e)))]
        exact hgc n _ (by rw [List.getElem?_map, hli]; rfl)
      obtain ⟨c, hc⟩ : ∃ x, sumT s (ls.take n) = x := ⟨_, rfl⟩
      obtain ⟨d, hd⟩ : ∃ x, sumT s (ls.take (n + 1)) = x := ⟨_, rfl⟩
      rw [hc] at h1 h32 HBK hbk
      rw [hd] at h1 h2 h33
      have hsrc : Src wr (.slice (some ⟨w.heap.size, 0, none⟩) 32 32) c := by
        refine ⟨_, 32, by rw [h32], fun _ => ⟨w.heap.size, 0, rfl, fun i u hu => by rw [Nat.zero_add, cell_blk hbk]; simpa using hu⟩⟩
      have hcv := conv_str hsrc
      have hcv2 := conv_str (hsrc.same ((Only.refl (fun _ => False) wr).drew))
      have hsz1 : (strOf c).size = 32 := h32
      have hsz2 : (strOf l).size = l.length := rfl
      have hcat : strOf c ++ strOf l = strOf (c ++ l) := strOf_cat _ _
      have hgt : ¬ 9223372036854775807 < 32 + l.length := by omega
      have HOF := hid (fun wx => rof_c (w := wx) (c ++ l) (by rw [List.length_append]; omega))
      rw [← h1] at HOF
      have HN2 := hid h2; have HD := hid hd
      have hone := bytesV_one' d
      have hsz : ((bytesV d).toArray).size = ((bytesV c).toArray).size := by simp [h32, h33]
      have hinf : (Try.prog.info? 28).map (·.size) = some ((bytesV d).toArray).size := by rw [infoA32]; simp [h33]
      have hbs : ∀ W : World, (Instr.buildSlice 103 1 #[(0, .agg (bytesV d).toArray)]).run Try.prog W = .ok (.slice (some ⟨W.heap.size, 0, none⟩) 1 1) (W.alloc (.cells (bytesV d).toArray 28)) := fun W => bslice_A32 W d h33
      have hl32 : (bytesV d).length = 1 * 32 := by simp [h33]
      have hones := oneCell_bytesV d
      obtain ⟨D, hD⟩ : ∃ x, bytesV d = x := ⟨_, rfl⟩
      rw [hD] at hone hsz hinf hbs HOF hl32 hones
      obtain ⟨C, hC⟩ : ∃ x, (bytesV c).toArray = x := ⟨_, rfl⟩
      rw [hC] at hsz HBK
      have HONE := hid hone; have HSZ := hid hsz; have HINF := hid hinf; have HBS := hid hbs; have HD' := hid hD; have HL32 := hid hl32; have HONES := hid hones
      clear hone hsz hinf hbs hD hC hd hc h1 h2 hsrc hbk hgr had ho hgc hl32 hones
      go_wp2_with fail
      go_still_tail 7, (by kernel_rfl)
      change wpList _ _ _ _ _ wr.drew
      obtain ⟨wd, hwd⟩ : ∃ wd, wr.drew = wd := ⟨_, rfl⟩
      have HOD : Hid (Only (fun _ => False) wr wd) := hid (by rw [← hwd]; exact (Only.refl (fun _ => False) wr).drew)
      rw [hwd]
      clear hwd hcv hcv2 hcel
      go_wp2_with fail
      refine (HOF.out _).mono ?_
      rintro x w1 ⟨rfl, ho1⟩
      have HB1 := hid (blk_only HBK.out (HOD.out.trans ho1 (fun _ _ e => e)) (fun e => e))
      have HO1 := hid (HOD.out.trans ho1 (fun _ _ e => e))
      have hz1 := ho1.size
      clear ho1
      go_upto_region 6 with ((guard_target =~ wpList _ _ _ (⟨none, .store _ _ _, _, _, _, _⟩ :: _) _ _); refine wpList_store_all rfl 28 (.tmp 2) (.tmp 20) rfl w.heap.size D.toArray rfl rfl C 28 HB1.out HSZ.out HINF.out HONE.out ?_; intro w2 hb2 ho2 hs2; have HB2 := hid hb2; have HO2 := hid ho2; have HS2 := hid hs2; clear hb2 ho2 hs2)
      have HC : Hid (Only (fun k => k = w.heap.size) wr w2) := hid ((HO1.out.mono (fun _ _ e => e.elim)).trans HO2.out (fun _ _ e => e))
      have hz2 := HC.out.size
      have HBSx := HBS.out w2
      go_wp2_with (first
        | ((guard_target =~ wpList _ _ _ (⟨some 22, _, _, _, _, _⟩ :: _) _ _); refine wpList_load_row rfl 28 (.tmp 2) rfl w.heap.size rfl 28 D.toArray (0, 0) _ HB2.out Try.underlying28 rfl HINF.out ?_)
        | ((guard_target =~ wpList _ _ _ (⟨some 23, _, _, _, _, _⟩ :: _) _ _); refine wpList_bldS rfl _ 0 (.tmp 22) rfl (.agg D.toArray) rfl _ _ HBSx ?_)
        | ((guard_target =~ wpList _ _ _ (⟨some 24, _, _, _, _, _⟩ :: _) _ _); refine wpList_gr (o := ⟨some 24, _, _, _, _, _⟩) rfl elA32 (.tmp 21) (.tmp 23) rfl (HGR.out.only ((HC.out.trans ((only_new w2 _).mono (fun _ _ e => e.elim)) (fun _ _ e => e))) (fun q hq e => by have h1 := HAD.out q hq; have e' : q = w.heap.size := e; omega)) rfl (some ⟨w2.heap.size, 0, none⟩) 1 1 rfl D (SrcG.new (blk_new w2 _) HL32.out HONES.out) (by omega) (by omega) ?_; intro ao9 cp9 w9 hg9 ha9 ho9; have HG9 := hid hg9; have HA9 := hid ha9; have HO9 := hid ho9; clear hg9 ha9 ho9))
      have HC9 : Hid (Only (fun k => ad = some ⟨k, 0, none⟩) w2 w9) := hid (((only_new w2 _).mono (fun _ _ e => e.elim)).trans HO9.out (fun _ _ e => e))
      have hgu : ad ≠ some ⟨w.heap.size, 0, none⟩ := fun e => by have := HAD.out _ e; omega
      go_roundw
      case rel =>
        refine ⟨n + 1, cp9, ao9, by go_num, by omega, rfl, ?_, ?_, ?_, ?_⟩
        · rw [HN2.out, List.flatMap_append, List.flatMap_cons, List.flatMap_nil, List.append_nil, HD'.out]; exact HG9.out
        · intro q hq
          rcases HA9.out with e | e
          · exact HAD.out q (by rw [← e]; exact hq)
          · rw [hq] at e
            simp only [Option.some.injEq, Addr.mk.injEq, and_true] at e
            rw [World.size_alloc] at e
            omega
        · rw [HD.out, HD'.out]; exact blk_only HB2.out HC9.out hgu
        · exact (HO.out.trans HC.out (fun _ _ e => e)).trans HC9.out (fun k hk e => by have := HAD.out k e; omega)
      case measure => simp [intOf]; omega
    · obtain rfl : n = ls.length := by omega
      rw [List.take_length] at HGR HBK
      clear hbk hgr had ho
      go_wp2_with fail
      go_ret
      exact ⟨_, _, rfl, HGR.out, fun q hq => by have := HAD.out q hq; omega, HO0.out.trans HO.out (fun k hk e => by have e' : k = w.heap.size := e; omega)⟩
end
end Go.Proofs.Ytnoopajedgllhaa
namespace Go.Proofs.Ytnoopajedgllhaa
open Go.RowKit
section
variable {w : World}
theorem wr_take1 {es : List EM} {n : Nat} {e : EM} (h : es[n]? = some e) : (es.take (n + 1)).map (fun e => strV e.wr) = (es.take n).map (fun e => strV e.wr) ++ [strV e.wr] := by
  rw [List.take_add_one, h]; simp
theorem flat_takeB {L : List (List UInt8)} {n : Nat} {d : List UInt8} (h : L[n]? = some d) : (L.take (n + 1)).flatMap bytesV = (L.take n).flatMap bytesV ++ bytesV d := by
  rw [List.take_add_one, h]; simp
theorem flat_cell : ∀ {L : List (List UInt8)} (_ : ∀ x ∈ L, x.length = 32) {n : Nat} {d : List UInt8} (_ : L[n]? = some d) (j : Nat) (u : Value), (bytesV d)[j]? = some u → (L.flatMap bytesV)[n * 32 + j]? = some u
  | [], _, n, d, h, _, _, _ => by simp at h
  | y :: L, h32, 0, d, h, j, u, hu => by
    simp only [List.getElem?_cons_zero, Option.some.injEq] at h
    subst h
    rw [List.flatMap_cons, Nat.zero_mul, Nat.zero_add, List.getElem?_append_left (by rcases Nat.lt_or_ge j (bytesV y).length with g | g; exact g; rw [List.getElem?_eq_none g] at hu; cases hu)]; exact hu
  | y :: L, h32, n + 1, d, h, j, u, hu => by
    rw [List.getElem?_cons_succ] at h
    have hy := h32 y List.mem_cons_self
    rw [List.flatMap_cons, List.getElem?_append_right (by simp [hy]; omega), length_bytesV, hy, show (n + 1) * 32 + j - 32 = n * 32 + j from by omega]
    exact flat_cell (fun x hx => h32 x (List.mem_cons_of_mem _ hx)) h j u hu
set_option maxRecDepth 100000 in
set_option maxHeartbeats 3200000 in
theorem sums_c {s : List UInt8} {es : List EM} {v : Value} {G : Nat → Prop} (hs : s.length = 32) (hE : EvsV w G v es) (hg : ∀ e ∈ es, e.rg) (hgd : ∀ e ∈ es, e.Good) (hn : es.length ≤ 100000) :
    Calls Try.prog 34 #[.agg (bytesV s).toArray, v] w fun x w' => ∃ ad cp, x = .returned (.slice ad es.length cp) ∧ Gr w' 29 32 ad es.length cp ((chainS s es).flatMap bytesV) ∧ (∀ q, ad = some ⟨q, 0, none⟩ → w.heap.size ≤ q) ∧ Only (fun _ => False) w w' := by
  obtain ⟨ao, cap, g, o, rfl, hne, hel⟩ := hE
  have hB0 := blk_new w (.cells (bytesV s).toArray 29)
  have hO0 := only_new w (.cells (bytesV s).toArray 29)
  have hinf : (Try.prog.info? 29).map (·.size) = some ((bytesV s).toArray).size := by rw [info32]; simp [hs]
  have HCH := hid (fun (wx : World) (ad : Option Addr) (cp : Nat) (hg : Gr wx 9 1 ad es.length cp (es.map fun e => strV e.wr)) => rchain_c (w := wx) (ls := es.map EM.wr) (ao := ad) (cap := cp) hs (by rw [List.length_map, List.map_map]; exact hg) (fun l hl => by obtain ⟨e, he, rfl⟩ := List.mem_map.1 hl; have := ewr_len (hgd e he); omega) (by rw [List.length_map]; exact hn))
  obtain ⟨S, hS⟩ : ∃ x, (bytesV s).toArray = x := ⟨_, rfl⟩
  rw [hS] at hB0 hO0 hinf
  simp only [hS, List.length_map] at HCH
  rw [hS]
  have HB0 := hid hB0; have HO0 := hid hO0; have HN := hid hne; have HEL := hid hel; have HINF := hid hinf; have Hg := hid hg; have HGD := hid hgd
  have hws : w.heap.size < (w.alloc (.cells S 29)).heap.size := by simp
  clear hS hB0 hO0 hne hel hinf hg hgd
  go_enter Try.func34, Try.ntmps34
  go_wp2_with fail
  obtain ⟨w0, hw0⟩ : ∃ x, w.alloc (.cells S 29) = x := ⟨_, rfl⟩
  rw [hw0] at HB0 HO0 hws
  rw [hw0]
  clear hw0
  go_loopw [5, 13] (fun o i wr => ∃ (n cp : Nat) (ad : Option Addr), i = .int .i64 n ∧ n ≤ es.length ∧ o = .slice ad n cp ∧ Gr wr 9 1 ad n cp ((es.take n).map fun e => strV e.wr) ∧ (∀ q, ad = some ⟨q, 0, none⟩ → w0.heap.size ≤ q) ∧ Only (fun _ => False) w0 wr) (fun _ i _ => es.length - (intOf i).toNat)
  case atStart => exact ⟨0, 0, none, rfl, Nat.zero_le _, rfl, Gr.nil, by simp, Only.refl _ _⟩
  case round =>
    obtain ⟨n, cp, ad, rfl, hnl, rfl, hgr, had, ho⟩ := hrel
    have HGR := hid hgr; have HAD := hid had; have HO := hid ho
    have hoz := ho.size
    by_cases hlt : n < es.length
    · have hni : (n : Int) < es.length := by omega
      obtain ⟨e, he⟩ : ∃ e, es[n]? = some e := ⟨_, List.getElem?_eq_getElem hlt⟩
      obtain ⟨rfl, -⟩ := HN.out (by rintro rfl; simp at hlt)
      obtain ⟨cs, hcs, hEe⟩ := HEL.out n e he
      have hgd1 := HGD.out e (List.mem_of_getElem? he)
      have hg1 := Hg.out e (List.mem_of_getElem? he)
      have HOW := HO0.out.trans ho (fun _ _ e => e)
      have hcw : ∀ i u, cs[i]? = some u → wr.cell? ⟨g, o + n * 11 + i, none⟩ = some u := fun i u hu =>
        (World.cell?_of_block (HOW.block g (World.block_lt_of_cell? _ _ (hcs i u hu)) (fun e => e))).trans (hcs i u hu)
      have hEw := hEe.same HOW
      obtain ⟨vk, vn, vs, va, vm, vc, rfl, hV⟩ := hEw.form
      have e0 := hcw 0 _ rfl
      rw [Nat.add_zero] at e0
      have e1 := hcw 1 _ rfl
      have e2 := hcw 2 _ rfl
      have e3 := hcw 3 _ rfl
      have e4 := hcw 4 _ rfl
      have e5 := hcw 5 _ rfl
      have e6 := hcw 6 _ rfl
      have e7 := hcw 7 _ rfl
      have e8 := hcw 8 _ rfl
      have e9 := hcw 9 _ rfl
      have e10 := hcw 10 _ rfl
      have hE2 := hEw.same (only_new wr (.cells #[.int .i64 e.id, .int .i64 e.tm, .int .i64 e.k, .int .i64 e.a, .int .i64 e.b, .string (strOf e.name), .string (strOf e.text), .int .i64 vk, .int .i64 vn, .string (strOf vs), .slice va vm vc] 44))
      have HBT := hid (r9bytes_c hE2 hg1 hgd1)
      have HWT := hid (wr_take1 he)
      obtain ⟨L, hL⟩ : ∃ x, e.wr = x := ⟨_, rfl⟩
      rw [hL] at HBT HWT
      have HC1 := hid (only_new wr (.cells #[.int .i64 e.id, .int .i64 e.tm, .int .i64 e.k, .int .i64 e.a, .int .i64 e.b, .string (strOf e.name), .string (strOf e.text), .int .i64 vk, .int .i64 vn, .string (strOf vs), .slice va vm vc] 44))
      clear hcs hEe hcw hEw hE2 hV hgr had ho HOW he hgd1 hg1 hL
      go_wp2_with fail
      refine HBT.out.mono ?_
      rintro x w1 ⟨rfl, ho1⟩
      have HO1 := hid (HC1.out.trans ho1 (fun _ _ e => e))
      have hz1 := HO1.out.size
      clear ho1
      go_wp2_with ((guard_target =~ wpList _ _ _ (⟨some 21, _, _, _, _, _⟩ :: _) _ _); refine wpList_gr (o := ⟨some 21, _, _, _, _, _⟩) rfl elStr (.tmp 17) (.tmp 20) rfl (HGR.out.only (HO1.out.trans (only_new w1 _) (fun _ _ e => e)) (fun _ _ e => e)) rfl (some ⟨w1.heap.size, 0, none⟩) 1 1 rfl [strV L] (SrcG.new (blk_new w1 _) rfl (by simp [strV, Value.oneCell'])) (by omega) (by omega) ?_; intro ao9 cp9 w9 hg9 ha9 ho9; have HG9 := hid hg9; have HA9 := hid ha9; have HO9 := hid ho9; clear hg9 ha9 ho9)
      have HC9 : Hid (Only (fun k => ad = some ⟨k, 0, none⟩) w1 w9) := hid (((only_new w1 _).mono (fun _ _ e => e.elim)).trans HO9.out (fun _ _ e => e))
      go_roundw
      case rel =>
        refine ⟨n + 1, cp9, ao9, by go_num, by omega, rfl, by rw [HWT.out]; exact HG9.out, ?_, ?_⟩
        · intro q hq
          rcases HA9.out with e | e
          · exact HAD.out q (by rw [← e]; exact hq)
          · rw [hq] at e
            simp only [Option.some.injEq, Addr.mk.injEq, and_true] at e
            rw [World.size_alloc] at e
            omega
        · exact (HO.out.trans HO1.out (fun _ _ e => e)).trans HC9.out (fun k hk e => by have := HAD.out k e; omega)
      case measure => simp [intOf]; omega
    · obtain rfl : n = es.length := by omega
      rw [List.take_length] at HGR
      obtain ⟨wr0, hwr0⟩ : ∃ x, x = wr := ⟨wr, rfl⟩
      subst hwr0
      have HBR := hid (blk_only HB0.out ho (fun e => e))
      have HCC := hid (HCH.out wr0 ad cp HGR.out)
      rw [← chainS_T] at HCC
      clear hgr had ho
      go_wp2_with ((guard_target =~ wpList _ _ _ (⟨some 23, _, _, _, _, _⟩ :: _) _ _); refine wpList_load_row rfl 29 (.tmp 2) rfl w.heap.size rfl 29 S (0, 0) _ HBR.out Try.underlying29 rfl HINF.out ?_)
      refine HCC.out.mono ?_
      rintro x w1 ⟨a1, c1, rfl, hg1, ha1, ho1⟩
      have HG1 := hid hg1; have HO1 := hid ho1
      have HT : Hid (∀ q, a1 = some ⟨q, 0, none⟩ → q < w1.heap.size) := hid fun q hq => hg1.lt hq
      have h32 := chainS_32 s es
      have hcl := chainS_len s es
      obtain ⟨L, hL⟩ : ∃ x, chainS s es = x := ⟨_, rfl⟩
      rw [hL] at HG1 h32 hcl
      have HL := hid hL; have HCL := hid hcl
      have hz1 := ho1.size
      clear hg1 ha1 ho1 hL hcl
      go_wp2_with fail
      go_loopw [8, 27] (fun o i wr => ∃ (n cp : Nat) (ad : Option Addr), i = .int .i64 n ∧ n ≤ es.length ∧ o = .slice ad n cp ∧ Gr wr 29 32 ad n cp ((L.take n).flatMap bytesV) ∧ (∀ q, ad = some ⟨q, 0, none⟩ → w1.heap.size ≤ q) ∧ Only (fun _ => False) w1 wr) (fun _ i _ => es.length - (intOf i).toNat)
      case atStart => exact ⟨0, 0, none, rfl, Nat.zero_le _, rfl, Gr.nil, by simp, Only.refl _ _⟩
      case round =>
        obtain ⟨n, cp, ad, rfl, hnl, rfl, hgr, had, ho⟩ := hrel
        have HGR2 := hid hgr; have HAD2 := hid had; have HO2 := hid ho
        have hoz := ho.size
        by_cases hlt : n < es.length
        · have hni : (n : Int) < es.length := by omega
          obtain ⟨d, hd⟩ : ∃ d, L[n]? = some d := ⟨_, List.getElem?_eq_getElem (by have := HCL.out; omega)⟩
          have hd32 := h32 d (List.mem_of_getElem? hd)
          obtain ⟨q1, hq1, hcells⟩ := HG1.out.cells (by omega)
          subst hq1
          have hql := HG1.out.lt rfl
          have HRG : Hid (wr.rangeAt q1 (n * 32) (bytesV d)) := hid fun j u hu => by
            rw [(World.cell?_of_block (ho.block q1 hql (fun e => e)))]
            exact hcells _ u (flat_cell h32 hd j u hu)
          have hF := flat_takeB hd
          have hIL : (Try.prog.info? 28).map (·.size) = some (bytesV d).length := by rw [infoA32]; simp [hd32]
          have hbs := bslice_sum wr d hd32
          have hl32 : (bytesV d).length = 1 * 32 := by simp [hd32]
          have hones := oneCell_bytesV d
          have hIN : (Try.prog.info? 28).map (·.size) = some ((bytesV d).toArray).size := by rw [infoA32]; simp [hd32]
          have HBS : Hid (∀ W : World, (Instr.buildSlice 64 1 #[(0, .agg (bytesV d).toArray)]).run Try.prog W = .ok (.slice (some ⟨W.heap.size, 0, none⟩) 1 1) (W.alloc (.cells (bytesV d).toArray 29))) := hid fun W => bslice_sum W d hd32
          obtain ⟨D, hD⟩ : ∃ x, bytesV d = x := ⟨_, rfl⟩
          rw [hD] at hF hl32 hones HRG hIN hIL HBS
          have HF := hid hF; have HL32 := hid hl32; have HONES := hid hones; have HIN := hid hIN; have HIL := hid hIL
          have hsz : (D.toArray).size = (byA st0 0).size := by have := HL32.out; simp [byA]; omega
          have hon : (D.toArray).all (·.oneCell') = true := by simpa using HONES.out
          have HSZ := hid hsz; have HON := hid hon
          clear hF hl32 hones hIN hIL hbs hD hd hgr had ho hcells hd32 hsz hon
          go_upto_region 11 with (first
            | ((guard_target =~ wpList _ _ _ (⟨some 30, _, _, _, _, _⟩ :: _) _ _); refine wpList_load_mid rfl 28 (.tmp 29) rfl q1 (n * 32) rfl D _ HRG.out Try.underlying28 rfl HIL.out ?_)
            | ((guard_target =~ wpList _ _ _ (⟨none, .store _ _ _, _, _, _, _⟩ :: _) _ _); refine wpList_store_all rfl 28 (.tmp 10) (.tmp 30) rfl wr.heap.size D.toArray rfl rfl (byA st0 0) 28 (blk_new wr _) HSZ.out HIN.out HON.out ?_; intro w2 hb2 ho2 hs2; have HB2 := hid hb2; have HS2 := hid hs2; have HO3 := hid ((only_new wr (.cells (byA st0 0) 28)).trans ho2 (fun k hk e => by have e' : k = wr.heap.size := e; omega)); clear hb2 ho2 hs2))
          have HBSx := HBS.out w2
          have hz2 := HO3.out.size
          go_wp2_with (first
            | ((guard_target =~ wpList _ _ _ (⟨some 32, _, _, _, _, _⟩ :: _) _ _); refine wpList_load_row rfl 28 (.tmp 10) rfl wr.heap.size rfl 28 D.toArray (0, 0) _ HB2.out Try.underlying28 rfl HIN.out ?_)
            | ((guard_target =~ wpList _ _ _ (⟨some 33, _, _, _, _, _⟩ :: _) _ _); refine wpList_bldS rfl _ 0 (.tmp 32) rfl (.agg D.toArray) rfl _ _ HBSx ?_)
            | ((guard_target =~ wpList _ _ _ (⟨some 34, _, _, _, _, _⟩ :: _) _ _); refine wpList_gr (o := ⟨some 34, _, _, _, _, _⟩) rfl elS (.tmp 31) (.tmp 33) rfl (HGR2.out.only (HO3.out.trans (only_new w2 _) (fun _ _ e => e)) (fun _ _ e => e)) rfl (some ⟨w2.heap.size, 0, none⟩) 1 1 rfl D (SrcG.new (blk_new w2 _) HL32.out HONES.out) (by omega) (by omega) ?_; intro ao9 cp9 w9 hg9 ha9 ho9; have HG9 := hid hg9; have HA9 := hid ha9; have HO9 := hid ho9; clear hg9 ha9 ho9))
          have HC9 : Hid (Only (fun k => ad = some ⟨k, 0, none⟩) w2 w9) := hid (((only_new w2 _).mono (fun _ _ e => e.elim)).trans HO9.out (fun _ _ e => e))
          go_roundw
          case rel =>
            refine ⟨n + 1, cp9, ao9, by go_num, by omega, rfl, by rw [HF.out]; exact HG9.out, ?_, ?_⟩
            · intro q hq
              rcases HA9.out with e | e
              · exact HAD2.out q (by rw [← e]; exact hq)
              · rw [hq] at e
                simp only [Option.some.injEq, Addr.mk.injEq, and_true] at e
                rw [World.size_alloc] at e
                omega
            · exact (HO2.out.trans HO3.out (fun _ _ e => e)).trans HC9.out (fun k hk e => by have := HAD2.out k e; omega)
          case measure => simp [intOf]; omega
        · obtain rfl : n = es.length := by omega
          have hLt : L.take es.length = L := List.take_of_length_le (by have := HCL.out; omega)
          rw [hLt] at HGR2
          clear hgr had ho hLt
          go_wp2_with fail
          go_ret
          exact ⟨_, _, rfl, by rw [HL.out]; exact HGR2.out, fun q hq => by have := HAD2.out q hq; omega, ((HO0.out.trans HO.out (fun _ _ e => e)).trans HO1.out (fun _ _ e => e)).trans HO2.out (fun _ _ e => e)⟩
end
end Go.Proofs.Ytnoopajedgllhaa
