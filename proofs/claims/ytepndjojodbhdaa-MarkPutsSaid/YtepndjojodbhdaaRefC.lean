/- The reference's Read and Get. -/
import Derived.Test.YtepndjojodbhdaaRefB
import Derived.Test.YtepndjojodbhdaaWhole
import Derived.Test.YtepndjojodbhdaaRegion
import Derived.Deep.RegionLaw
import Derived.IntWalk
namespace Go.Proofs.Ytepndjojodbhdaa
open Go.RowKit

theorem infoU64 : (Try.prog.info? 43).map (fun i => (i.zero, i.size, i.bytes)) = some (some (.int .u64 0), 1, 8) := by kernel_rfl
theorem info_ref : (Try.prog.info? 62).map (·.size) = some 2 := by kernel_rfl

/-- What bytes are as a reference's mark: its number, its numbers. -/
def refNums (l : List UInt8) : List Nat := (List.range 6).map fun i => deAt l (i + 1)
def refK (l : List UInt8) (k : Nat) : List Nat := (List.range k).map fun i => deAt l (i + 1)
/-- What is read: the number, the numbers. -/
def refS (l : List UInt8) : Nat := if readOk l = true then deAt l 0 else 0
def refW (l : List UInt8) : List Nat := if readOk l = true then refK l 6 else []
theorem refK_len (l : List UInt8) (k : Nat) : (refK l k).length = k := by simp [refK]
theorem refK_succ (l : List UInt8) (k : Nat) : refK l (k + 1) = refK l k ++ [deAt l (k + 1)] := by simp [refK, List.range_succ]
theorem refK_lt (l : List UInt8) (k : Nat) : ∀ x ∈ refK l k, x < 18446744073709551616 := by
  intro x hx
  obtain ⟨i, _, rfl⟩ := List.mem_map.1 hx
  exact deAt_lt _ _
theorem mk_ref (l : List UInt8) : mkMark (deAt l 0) (refK l 6) = decM l := rfl
theorem ref_extract (l : List UInt8) (k : Nat) : (strOf l).extract (8 + 8 * k) (16 + 8 * k) = strOf ((l.drop (8 * (k + 1))).take 8) := by
  rw [show 16 + 8 * k = (8 + 8 * k) + 8 from by omega, show 8 * (k + 1) = 8 + 8 * k from by omega]
  apply ByteArray.ext
  apply Array.ext'
  simp [strOf, ByteArray.data_extract, List.extract_eq_take_drop]

theorem set_second {w : World} {b : Nat} {a0 a1 : Value} {T : TypeId} (h : w.heap[b]? = some (.cells #[a0, a1] T (0, 0))) (v : Value) : (w.setCell ⟨b, 1, none⟩ v).heap[b]? = some (.cells #[a0, v] T (0, 0)) := by
  have h0 := blk_set h 1 v
  simp only [List.setIfInBounds_toArray, List.set_cons_succ, List.set_cons_zero] at h0
  exact h0
/-- The numbers that have been read so far. -/
def NOut (w : World) (ao : Option Addr) (cap : Nat) (xs : List Nat) (lo : Nat) : Prop :=
  (ao = none ∧ cap = 0 ∧ xs = []) ∨ ∃ g, ao = some ⟨g, 0, none⟩ ∧ lo ≤ g ∧ Row w g 43 cap (nat64 xs)
theorem NOut.only {w w' : World} {ao : Option Addr} {cap : Nat} {xs : List Nat} {lo : Nat} {F : Nat → Prop} (h : NOut w ao cap xs lo) (ho : Only F w w') (hF : ∀ k, lo ≤ k → ¬ F k) : NOut w' ao cap xs lo := by
  rcases h with h | ⟨g, rfl, hg, hr⟩
  · exact .inl h
  · exact .inr ⟨g, rfl, hg, hr.only ho (hF g hg)⟩
theorem NOut.src {w : World} {ao : Option Addr} {cap : Nat} {xs : List Nat} {lo : Nat} (h : NOut w ao cap xs lo) : SrcV w (.slice ao xs.length cap) (nat64 xs) := by
  rcases h with ⟨rfl, rfl, rfl⟩ | ⟨g, rfl, hg, hr⟩
  · exact ⟨none, 0, rfl, fun e => absurd rfl e⟩
  · refine ⟨_, cap, by rw [length_nat64], fun _ => ⟨g, 0, rfl, fun i u hu => ?_⟩⟩
    have := hr.news i u hu
    rw [addr_add] at this
    exact this

theorem NOut.lo {w : World} {ao : Option Addr} {cap : Nat} {xs : List Nat} {lo g o : Nat} (h : NOut w ao cap xs lo) (e : ao = some ⟨g, o, none⟩) : lo ≤ g := by
  rcases h with ⟨rfl, -, -⟩ | ⟨g', rfl, hg, -⟩
  · cases e
  · simp only [Option.some.injEq, Addr.mk.injEq] at e
    omega

section
variable {ops : Array Oper} {a : Act} {w : World} {o : Oper} {Q : Exit → Act → World → Prop}
theorem wp_addn {K : Act → World → Prop} (s x : Operand) (ho : o.op = .call { callee := .builtin .append, args := #[s, x], argTypes := #[60, 60] })
    (bo : Option Addr) (cap lo n : Nat) (xs : List Nat) (hn : xs.length = n) (hs : a.eval s = .slice bo n cap) (hrow : NOut w bo cap xs lo) (hlo : lo ≤ w.heap.size)
    (gx : Nat) (y : Int) (z : Nat) (hyz : y = z) (hx : a.eval x = .slice (some ⟨gx, 0, none⟩) 1 1) (hcell : w.cell? ⟨gx, 0, none⟩ = some (.int .u64 y)) (hb : n ≤ 1000000)
    (h : ∀ bo' cap' w', NOut w' bo' cap' (xs ++ [z]) lo → Only (fun k => lo ≤ k) w w' → K (a.put o.dst (.slice bo' (n + 1) cap')) w') :
    o.wp Try.prog a w K Q := by
  subst hyz
  subst hn
  obtain ⟨i0, hi, hz0, hz1, hz2⟩ := info_parts infoU64
  have hnews : ∀ j u, (nat64 [z])[j]? = some u → w.cell? ((⟨gx, 0, none⟩ : Addr).add j) = some u := by
    intro j u hu
    match j with
    | 0 => simp [nat64] at hu; subst hu; exact hcell
    | j + 1 => simp [nat64] at hu
  rcases hrow with ⟨rfl, rfl, rfl⟩ | ⟨g, rfl, hg, hrow⟩
  · refine wp_app_nil s x _ ho 43 i0 (.int .u64 0) 1 8 Try.underlying60 hi hz0 hz1 hz2 rfl hs ⟨gx, 0, none⟩ 1 1 hx (nat64 [z]) (by simp) hnews (by omega) (by omega) (by omega) ?_
    intro cap' w' h1 h2 h3
    rw [Nat.mul_one] at h2
    exact h _ cap' w' (.inr ⟨_, rfl, hlo, h2⟩) (h3.mono (fun _ _ e => e.elim))
  · refine wp_app s x _ ho 43 i0 (.int .u64 0) 1 8 Try.underlying60 hi hz0 hz1 hz2 rfl g xs.length cap (nat64 xs) hs (by rw [Nat.mul_one]; exact hrow) (by simp) ⟨gx, 0, none⟩ 1 1 hx (nat64 [z]) (by simp) hnews (fun u hu => by simp [nat64] at hu; subst hu; rfl) (by omega) (by omega) ?_
    intro g' cap' w' h1 h2 h3 h4
    have e : nat64 xs ++ nat64 [z] = nat64 (xs ++ [z]) := by simp [nat64]
    rw [Nat.mul_one, e] at h2
    exact h _ cap' w' (.inr ⟨g', rfl, by omega, h2⟩) (h4.mono (fun k _ e => e ▸ hg))
end

theorem le8_deN (x : List UInt8) (h : x.length = 8) : le8 (deN x) = x := by
  have key : ∀ (k : Nat) (x : List UInt8), x.length = k → (List.range k).map (byteAt (deN x)) = x := by
    intro k
    induction k with
    | zero => intro x hx; rw [List.eq_nil_of_length_eq_zero hx]; rfl
    | succ k ih =>
      intro x hx
      match x, hx with
      | y :: ys, hx =>
        rw [List.range_succ_eq_map, List.map_cons, List.map_map]
        have e : byteAt (deN (y :: ys)) ∘ Nat.succ = byteAt (deN ys) := funext fun j => by
          show byteAt (deN (y :: ys)) (j + 1) = _
          rw [byteAt_succ]
          congr 1
          have := y.toNat_lt
          simp only [deN]; omega
        rw [e, ih ys (by simpa using hx)]
        congr 1
        unfold byteAt
        apply UInt8.toNat_inj.1
        have := y.toNat_lt
        simp [deN]
  exact key 8 x h
theorem enc_dec {l : List UInt8} (hl : l.length = 128) (h : readOk l = true) : enc (decM l) = l := by
  have hc : ∀ i, i < 7 → le8 (deAt l i) = (l.drop (8 * i)).take 8 := fun i hi => by
    unfold deAt; exact le8_deN _ (by simp; omega)
  have hcat : ∀ a b, (l.drop a).take b ++ (l.drop (a + b)).take 8 = (l.drop a).take (b + 8) := fun a b => by
    rw [List.take_add, List.drop_drop]
  have hH : encH (decM l) = l.take 56 := by
    have h1 : encH (decM l) = le8 (deAt l 0) ++ le8 (deAt l 1) ++ le8 (deAt l 2) ++ le8 (deAt l 3) ++ le8 (deAt l 4) ++ le8 (deAt l 5) ++ le8 (deAt l 6) := by
      simp [encH, MarkM.nums, decM]
    rw [h1, hc 0 (by omega), hc 1 (by omega), hc 2 (by omega), hc 3 (by omega), hc 4 (by omega), hc 5 (by omega), hc 6 (by omega)]
    have e1 := hcat 0 8
    have e2 := hcat 0 16
    have e3 := hcat 0 24
    have e4 := hcat 0 32
    have e5 := hcat 0 40
    have e6 := hcat 0 48
    simp only [Nat.zero_add, List.drop_zero, Nat.mul_zero, Nat.reduceMul, Nat.reduceAdd] at e1 e2 e3 e4 e5 e6 ⊢
    rw [e1, e2, e3, e4, e5, e6]
  unfold readOk at h
  simp only [Bool.and_eq_true, beq_iff_eq] at h
  obtain ⟨-, h56, hz⟩ := h
  have h16 : l.drop 112 = zeros 16 := by
    refine List.eq_replicate_iff.2 ⟨by simp [hl], fun b hb => by simpa using List.all_eq_true.1 hz b hb⟩
  unfold enc
  rw [hH]
  have e : l.take 56 ++ l.take 56 = l.take 112 := by
    rw [show 112 = 56 + 56 from rfl, List.take_add, ← h56]
  rw [e, ← h16, List.take_append_drop]
theorem readOk_iff {l : List UInt8} (hl : l.length = 128) : readOk l = true ↔ enc (decM l) = l :=
  ⟨enc_dec hl, fun h => by rw [← h]; exact readOk_enc _⟩

set_option maxRecDepth 100000 in
set_option maxHeartbeats 3200000 in
theorem refRead_c (w : World) (l : List UInt8) (hl : l.length = 128) :
    Calls Try.prog 75 #[.string (strOf l)] w fun e w' => ∃ v, e = .returned v ∧ RefV w' v (refS l) (refW l) w.heap.size ∧ Only (fun _ => False) w w' := by
  have hsz : ((strOf l).size : Int) = 128 := by rw [strOf_size, hl]; rfl
  have HL := hid hl
  have hex0 : (strOf l).extract 0 8 = strOf (l.take 8) := by
    apply ByteArray.ext
    apply Array.ext'
    simp [strOf, ByteArray.data_extract, List.extract_eq_take_drop]
  have HLow := fun w1 => hid (low_c w1 (l.take 8) (by simp; omega))
  have HLowK := fun w1 k (hk : k < 6) => hid (low_c w1 ((l.drop (8 * (k + 1))).take 8) (by simp; omega))
  clear hl
  go_enter Try.func75, Try.ntmps75
  go_wp2_with (first | (go_at_call 102; refine (HLow _).out.mono ?_; rintro e w1 ⟨rfl, rfl⟩))
  obtain ⟨s0, hs0⟩ : ∃ s0, deN (l.take 8) = s0 := ⟨_, rfl⟩
  have hs0' : deAt l 0 = s0 := hs0
  rw [hs0]
  have Hs0 := hid hs0'
  clear hs0 hs0' hex0 HLow
  go_loopw [4] (fun i wr => ∃ (k : Nat) (ao : Option Addr) (cap : Nat), i = .int .i64 k ∧ k ≤ 6 ∧ wr.heap[w.heap.size + 1]? = some (.cells #[.int .u64 s0, .slice ao k cap] 62 (0, 0)) ∧ NOut wr ao cap (refK l k) (w.heap.size + 2) ∧ wr.heap[w.heap.size]? = some (.cells #[.int .u64 0, .slice none 0 0] 62 (0, 0)) ∧ w.heap.size + 2 ≤ wr.heap.size ∧ Only (fun _ => False) w wr) (fun i _ => 6 - (intOf i).toNat)
  case atStart =>
    refine ⟨0, none, 0, rfl, by omega, ?_, .inl ⟨rfl, rfl, rfl⟩, blk_alloc (blk_new w _), by simp, ((Only.refl _ _).alloc _).alloc _⟩
    have := blk_new (w.alloc (.cells #[.int .u64 0, .slice none 0 0] 62)) (.cells #[.int .u64 s0, .slice none 0 0] 62)
    rwa [World.size_alloc] at this
  case round =>
    obtain ⟨k, ao, cap, rfl, hk, hb, hn, hb0, hlo, ho⟩ := hrel
    have hc1 : wr.cell? ⟨w.heap.size + 1, 1, none⟩ = some (.slice ao k cap) := cell_blk hb 1
    have hcA : ∀ ob, (wr.alloc ob).cell? ⟨w.heap.size + 1, 1, none⟩ = some (.slice ao k cap) := fun ob => (World.cell?_alloc_lt wr ob _ (by show w.heap.size + 1 < wr.heap.size; omega)).trans hc1
    have Hb := hid hb; have HN := hid hn; have Hb0 := hid hb0; have Ho := hid ho
    clear hb hn hb0 ho
    by_cases hk6 : k < 6
    · have hexk := ref_extract l k
      have hle1 : (8 + 8 * (k : Int)) ≤ (16 + 8 * (k : Int)) := by omega
      have hle0 : 0 ≤ (8 + 8 * (k : Int)) := by omega
      have hle3 : (16 + 8 * (k : Int)) ≤ 128 := by omega
      have hsz2 : (strOf l).size = 128 := by omega
      have hw1 : IntKind.i64.wrap (8 * (k : Int)) = 8 * (k : Int) := IntWalk.i64_in _ (by omega)
      have hw2 : IntKind.i64.wrap (8 + 8 * (k : Int)) = 8 + 8 * (k : Int) := IntWalk.i64_in _ (by omega)
      have hw3 : IntKind.i64.wrap (16 + 8 * (k : Int)) = 16 + 8 * (k : Int) := IntWalk.i64_in _ (by omega)
      have hn1 : (8 + 8 * (k : Int)).toNat = 8 + 8 * k := by omega
      have hn2 : (16 + 8 * (k : Int)).toNat = 16 + 8 * k := by omega
      have hle2 : (16 + 8 * (k : Int)) ≤ ((strOf l).size : Int) := by omega
      have hda : deN ((l.drop (8 * (k + 1))).take 8) = deAt l (k + 1) := rfl
      have HLw := fun w1 => HLowK w1 k hk6
      rw [hda] at HLw
      clear hda
      obtain ⟨d, hd⟩ : ∃ d, deAt l (k + 1) = d := ⟨_, rfl⟩
      rw [hd] at HLw
      have Hd := hid hd
      clear hd
      go_wp2_with fail
      go_region_law (first | (refine step_of rfl (wp_callc (o := ⟨some 23, _, _, _, _, _⟩) (f := 102) (args := #[.string (strOf ((l.drop (8 * (k + 1))).take 8))]) (by kernel_rfl) ?_); refine (HLw _).out.mono ?_; rintro e w' ⟨rfl, rfl⟩; refine ⟨_, rfl, ?_⟩) | (refine step_of rfl (wp_addn (.tmp 14) (.tmp 24) rfl ao cap (w.heap.size + 2) k (refK l k) (refK_len l k) rfl (HN.out.only (((Only.refl (fun _ => False) wr).drew).alloc _) (fun _ _ e => e)) (by simp; omega) wr.heap.size _ d rfl rfl (cell_blk (blk_new wr.drew _) 0) (by omega) ?_); intro bo' cap' w5 hn5 ho5; have hb5 := (ho5.block (w.heap.size + 1) (blk_lt (blk_alloc (w := wr.drew) Hb.out)) (by show ¬ w.heap.size + 2 ≤ w.heap.size + 1; omega)).trans (blk_alloc (w := wr.drew) Hb.out); have hc5 := cell_blk hb5; have hz5 := frozen_blk hb5; have Hb5 := hid hb5; have Hn5 := hid hn5; have Ho5 := hid ho5; clear hn5 ho5 hb5))
      all_goals
        go_wp2_with fail
        go_roundw
        case rel =>
          refine ⟨k + 1, bo', cap', by go_num, by omega, set_second Hb5.out _, ?_, ?_, ?_, ?_⟩
          · have h1 := Hn5.out
            rw [← Hd.out, ← refK_succ] at h1
            exact h1.only (only_set (w.heap.size + 1) 1 (.slice bo' (k + 1) cap')) (fun j hj e => by have e' : j = w.heap.size + 1 := e; omega)
          · exact blk_set_other (blk_only (blk_alloc (w := wr.drew) Hb0.out) Ho5.out (by show ¬ w.heap.size + 2 ≤ w.heap.size; omega)) (by omega)
          · have := Ho5.out.size
            simp at this ⊢; omega
          · exact (((Ho.out.drew).alloc _).trans Ho5.out (fun j hj e => by have e' : w.heap.size + 2 ≤ j := e; omega)).setCell _ _ (fun h => absurd h (by show ¬ w.heap.size + 1 < w.heap.size; omega))
        case measure => simp [intOf]; omega
    · obtain rfl : k = 6 := by omega
      have hc0 : wr.cell? ⟨w.heap.size + 1, 0, none⟩ = some (.int .u64 s0) := cell_blk Hb.out 0
      have hrv : RefV wr (.agg #[.int .u64 s0, .slice ao 6 cap]) s0 (refK l 6) 0 := ⟨ao, cap, by rw [refK_len], HN.out.src, fun _ _ _ => Nat.zero_le _⟩
      have hs0 : s0 < 18446744073709551616 := by rw [← Hs0.out]; exact deAt_lt _ _
      have HT := hid (text_c wr _ s0 (refK l 6) 0 hrv hs0 (refK_lt l 6) (by rw [refK_len]; decide))
      have em : mkMark s0 (refK l 6) = decM l := by rw [← Hs0.out]; rfl
      rw [em] at HT
      clear hrv hs0 em hcA
      by_cases hok : readOk l = true
      · have he := enc_dec HL.out hok
        rw [he] at HT
        have Hok := hid hok
        have hse : ((strOf l).toList == (strOf l).toList) = true := beq_self_eq_true _
        clear he hok
        go_wp2_with (first | (go_at_call 68; refine HT.out.mono ?_; rintro e w2 ⟨rfl, ho2⟩; have hb2 := blk_only Hb.out ho2 (fun e => e); have h20 : w2.cell? ⟨w.heap.size + 1, 0, none⟩ = some (.int .u64 s0) := cell_blk hb2 0; have h21 : w2.cell? ⟨w.heap.size + 1, 1, none⟩ = some (.slice ao 6 cap) := cell_blk hb2 1; have Ho2 := hid (Ho.out.trans ho2 (fun _ _ e => e)); have Hn2 := hid (HN.out.only ho2 (fun _ _ e => e)); have Hb20 := hid (blk_only Hb0.out ho2 (fun e => e)); clear ho2 hb2) | (refine wpList_store_all rfl 62 (.tmp 2) (.tmp 32) rfl w.heap.size #[.int .u64 s0, .slice ao 6 cap] rfl rfl #[.int .u64 0, .slice none 0 0] 62 Hb20.out rfl info_ref (by simp [Value.oneCell']) ?_; intro w3 hb3 ho3 hs3; have Hb3 := hid hb3; have Ho3 := hid ho3; clear hb3 ho3 hs3))
        refine bodyPost_ret (results_cell_row rfl _ _ w.heap.size 62 #[.int .u64 s0, .slice ao 6 cap] (0, 0) _ rfl Hb3.out Try.underlying62 rfl info_ref) rfl ⟨_, rfl, ?_, ?_⟩
        · rw [show refS l = deAt l 0 from if_pos Hok.out, show refW l = refK l 6 from if_pos Hok.out]
          have hn3 := Hn2.out.only Ho3.out (fun k hk e => by have e' : k = w.heap.size := e; omega)
          exact ⟨ao, cap, by rw [Hs0.out, refK_len], hn3.src, fun g o e => by have := hn3.lo e; omega⟩
        · exact Ho2.out.trans Ho3.out (fun k hk e => absurd hk (by rw [e]; exact Nat.lt_irrefl _))
      · have hne : enc (decM l) ≠ l := fun e => hok ((readOk_iff HL.out).2 e)
        have hse : ((strOf (enc (decM l))).toList == (strOf l).toList) = false := by rw [strOf_list, strOf_list]; simpa using hne
        have Hok := hid hok
        clear hne hok
        go_wp2_with (first | (go_at_call 68; refine HT.out.mono ?_; rintro e w2 ⟨rfl, ho2⟩; have Ho2 := hid (Ho.out.trans ho2 (fun _ _ e => e)); have Hb20 := hid (blk_only Hb0.out ho2 (fun e => e)); clear ho2) | (refine wpList_store_all rfl 62 (.tmp 2) (.tmp 31) rfl w.heap.size #[.int .u64 0, .slice none 0 0] rfl rfl #[.int .u64 0, .slice none 0 0] 62 Hb20.out rfl info_ref (by simp [Value.oneCell']) ?_; intro w3 hb3 ho3 hs3; have Hb3 := hid hb3; have Ho3 := hid ho3; clear hb3 ho3 hs3))
        refine bodyPost_ret (results_cell_row rfl _ _ w.heap.size 62 #[.int .u64 0, .slice none 0 0] (0, 0) _ rfl Hb3.out Try.underlying62 rfl info_ref) rfl ⟨_, rfl, ?_, ?_⟩
        · rw [show refS l = 0 from if_neg Hok.out, show refW l = [] from if_neg Hok.out]
          exact ⟨none, 0, rfl, ⟨none, 0, rfl, fun e => absurd rfl e⟩, fun g o e => by cases e⟩
        · exact Ho2.out.trans Ho3.out (fun k hk e => absurd hk (by rw [e]; exact Nat.lt_irrefl _))
end Go.Proofs.Ytepndjojodbhdaa
