/- Strings that grow from nil; the disk's reference: New. -/
import Derived.Test.YtepndjojodbhdaaRfP
namespace Go.Proofs.Ytepndjojodbhdaa
open Go.RowKit

theorem infoS : (Try.prog.info? 9).map (fun i => (i.zero, i.size, i.bytes)) = some (some (.string ⟨#[]⟩), 1, 16) := by kernel_rfl
theorem strs_one (xs : List (List UInt8)) : ∀ u ∈ strs xs, u.oneCell' = true := by
  intro u hu
  obtain ⟨x, _, rfl⟩ := List.mem_map.1 hu
  rfl
/-- A slice of strings that grows from nil. -/
def SOut (w : World) (ao : Option Addr) (cap : Nat) (xs : List (List UInt8)) (lo : Nat) : Prop :=
  (ao = none ∧ cap = 0 ∧ xs = []) ∨ ∃ g, ao = some ⟨g, 0, none⟩ ∧ lo ≤ g ∧ Row w g 9 cap (strs xs)
theorem SOut.only {w w' : World} {ao : Option Addr} {cap : Nat} {xs : List (List UInt8)} {lo : Nat} {F : Nat → Prop} (h : SOut w ao cap xs lo) (ho : Only F w w') (hF : ∀ k, k < w.heap.size → lo ≤ k → ¬ F k) : SOut w' ao cap xs lo := by
  rcases h with h | ⟨g, rfl, hg, hr⟩
  · exact .inl h
  · exact .inr ⟨g, rfl, hg, hr.only ho (hF g hr.lt hg)⟩
theorem SOut.src {w : World} {ao : Option Addr} {cap : Nat} {xs : List (List UInt8)} {lo : Nat} (h : SOut w ao cap xs lo) : SrcV w (.slice ao xs.length cap) (strs xs) := by
  rcases h with ⟨rfl, rfl, rfl⟩ | ⟨g, rfl, hg, hr⟩
  · exact ⟨none, 0, rfl, fun e => absurd rfl e⟩
  · refine ⟨_, cap, by rw [length_strs], fun _ => ⟨g, 0, rfl, fun i u hu => ?_⟩⟩
    have := hr.news i u hu
    rw [addr_add] at this
    exact this
section
variable {ops : Array Oper} {rest : List Oper} {a : Act} {w : World} {o : Oper} {Q : Exit → Act → World → Prop}
theorem wp_addstr {K : Act → World → Prop} (s x : Operand) (ho : o.op = .call { callee := .builtin .append, args := #[s, x], argTypes := #[93, 93] })
    (bo : Option Addr) (cap lo n : Nat) (xs : List (List UInt8)) (hn : xs.length = n) (hs : a.eval s = .slice bo n cap) (hrow : SOut w bo cap xs lo) (hlo : lo ≤ w.heap.size)
    (gx : Nat) (z : List UInt8) (hx : a.eval x = .slice (some ⟨gx, 0, none⟩) 1 1) (hcell : w.cell? ⟨gx, 0, none⟩ = some (.string (strOf z))) (hb : n ≤ 1000000)
    (h : ∀ bo' cap' w', SOut w' bo' cap' (xs ++ [z]) lo → Only (fun k => lo ≤ k) w w' → K (a.put o.dst (.slice bo' (n + 1) cap')) w') :
    o.wp Try.prog a w K Q := by
  subst hn
  obtain ⟨i0, hi, hz0, hz1, hz2⟩ := info_parts infoS
  have hnews : ∀ j u, (strs [z])[j]? = some u → w.cell? ((⟨gx, 0, none⟩ : Addr).add j) = some u := by
    intro j u hu
    match j with
    | 0 => simp [strs] at hu; subst hu; exact hcell
    | j + 1 => simp [strs] at hu
  rcases hrow with ⟨rfl, rfl, rfl⟩ | ⟨g, rfl, hg, hrow⟩
  · refine wp_app_nil s x _ ho 9 i0 (.string ⟨#[]⟩) 1 16 Try.underlying93 hi hz0 hz1 hz2 rfl hs ⟨gx, 0, none⟩ 1 1 hx (strs [z]) (by simp) hnews (by omega) (by omega) (by omega) ?_
    intro cap' w' h1 h2 h3
    rw [Nat.mul_one] at h2
    exact h _ cap' w' (.inr ⟨_, rfl, hlo, h2⟩) (h3.mono (fun _ _ e => e.elim))
  · refine wp_app s x _ ho 9 i0 (.string ⟨#[]⟩) 1 16 Try.underlying93 hi hz0 hz1 hz2 rfl g xs.length cap (strs xs) hs (by rw [Nat.mul_one]; exact hrow) (by simp) ⟨gx, 0, none⟩ 1 1 hx (strs [z]) (by simp) hnews (strs_one _) (by omega) (by omega) ?_
    intro g' cap' w' h1 h2 h3 h4
    have e : strs xs ++ strs [z] = strs (xs ++ [z]) := by simp [strs]
    rw [Nat.mul_one, e] at h2
    exact h _ cap' w' (.inr ⟨g', rfl, by omega, h2⟩) (h4.mono (fun k _ e => e ▸ hg))
theorem wpList_addstr (hgd : o.guard = none) (s x : Operand) (ho : o.op = .call { callee := .builtin .append, args := #[s, x], argTypes := #[93, 93] })
    (bo : Option Addr) (cap lo n : Nat) (xs : List (List UInt8)) (hn : xs.length = n) (hs : a.eval s = .slice bo n cap) (hrow : SOut w bo cap xs lo) (hlo : lo ≤ w.heap.size)
    (gx : Nat) (z : List UInt8) (hx : a.eval x = .slice (some ⟨gx, 0, none⟩) 1 1) (hcell : w.cell? ⟨gx, 0, none⟩ = some (.string (strOf z))) (hb : n ≤ 1000000)
    (h : ∀ bo' cap' w', SOut w' bo' cap' (xs ++ [z]) lo → Only (fun k => lo ≤ k) w w' → wpList Try.prog ops Q rest (a.put o.dst (.slice bo' (n + 1) cap')) w') :
    wpList Try.prog ops Q (o :: rest) a w :=
  wpList_plain hgd fun _ hK => wp_addstr s x ho bo cap lo n xs hn hs hrow hlo gx z hx hcell hb (fun x0 x1 x2 x3 x4 => hK _ _ (h x0 x1 x2 x3 x4))
end

def RM.new (n : Nat) : RM := ⟨List.replicate n (zeros 128), [], false, -1, 0, 0⟩
theorem zeros_succ (i : Nat) : zeros i ++ [0] = zeros (i + 1) := by simp [zeros, List.replicate_succ']
/-- In the middle of New. -/
def RNInv (w wr : World) (k : Nat) : Prop :=
  ∃ bo cap, wr.heap[w.heap.size + 1]? = some (.cells #[.slice bo k cap, .slice none 0 0, .bool false, .int .i64 (-1), .int .i64 0, .int .i64 0] 113 (0, 0)) ∧
    wr.heap[w.heap.size]? = some (.cells #[.slice none 0 0, .slice none 0 0, .bool false, .int .i64 0, .int .i64 0, .int .i64 0] 113 (0, 0)) ∧ SOut wr bo cap (List.replicate k (zeros 128)) (w.heap.size + 2) ∧ Only (fun _ => False) w wr
set_option maxRecDepth 100000 in
set_option maxHeartbeats 3200000 in
theorem rnew_c (w : World) (n : Nat) (hn : n ≤ 1000) :
    Calls Try.prog 63 #[.int .i64 n] w fun e w' => ∃ cs G, e = .returned (.agg cs) ∧ RefAt w' cs (RM.new n) G ∧ (∀ k, G k → w.heap.size ≤ k) ∧ Only (fun _ => False) w w' := by
  go_enter Try.func63, Try.ntmps63
  go_wp2_with fail
  go_loopw [4, 5, 6] (fun i _ _ wr => ∃ k : Nat, i = .int .i64 k ∧ k ≤ n ∧ RNInv w wr k) (fun i _ _ _ => n - (intOf i).toNat)
  case atStart =>
    refine ⟨0, rfl, Nat.zero_le _, none, 0, blk2 w _ _, blk_alloc (blk_new w _), .inl ⟨rfl, rfl, rfl⟩, ((Only.refl _ w).alloc _).alloc _⟩
  case round =>
    obtain ⟨k, rfl, hk, hinv⟩ := hrel
    have HI := hid hinv
    clear hinv
    obtain ⟨bo, cap, hb1, hb0, hso, ho⟩ := HI.out
    have Hb1 := hid hb1; have Hb0 := hid hb0; have Hso := hid hso; have Ho := hid ho
    have hc := cell_blk hb1
    have hz := frozen_blk hb1
    have hca : ∀ ob, (wr.alloc ob).cell? ⟨w.heap.size + 1, 0, none⟩ = some (.slice bo k cap) := fun ob => cell_blk (blk_alloc hb1) 0
    have hbl := blk_lt hb1
    clear hb1 hb0 hso ho
    by_cases hkn : k < n
    · have hki : (k : Int) < n := by omega
      go_wp2_with fail
      go_loop [6, 5] (fun j s => ∃ i : Nat, j = .int .i64 i ∧ i ≤ 128 ∧ s = .string (strOf (zeros i))) (fun j _ => 128 - (intOf j).toNat)
      case atStart => exact ⟨0, rfl, by decide, rfl⟩
      case round =>
        obtain ⟨i, rfl, hi, rfl⟩ := hrel
        by_cases hi8 : i < 128
        · have hii : (i : Int) < 128 := by omega
          have hcat : (strOf (zeros i)).size + (⟨#[0]⟩ : ByteArray).size ≤ 9223372036854775807 := by
            have : (strOf (zeros i)).size = i := by show (zeros i).length = i; simp
            have h1 : (⟨#[0]⟩ : ByteArray).size = 1 := rfl
            omega
          have hcc : strOf (zeros i) ++ (⟨#[0]⟩ : ByteArray) = strOf (zeros (i + 1)) := by
            rw [← zeros_succ, ← strS_append]; rfl
          go_wp2_with fail
          go_round
          case rel => exact ⟨i + 1, by go_num, by omega, by first | rfl | rw [hcc]⟩
          case measure => simp [intOf]; omega
        · obtain rfl : i = 128 := by omega
          have Hk1 := hid (show k ≤ 1000000 by omega)
          go_wp2_with (refine wpList_addstr rfl (.tmp 20) (.tmp 22) rfl bo cap (w.heap.size + 2) k (List.replicate k (zeros 128)) (by simp) rfl (Hso.out.only ((Only.refl (fun _ => False) wr).alloc _) (fun _ _ _ e => e)) (by simp; omega) wr.heap.size (zeros 128) rfl (cell_blk (blk_new wr _) 0) Hk1.out ?_; intro bo' cap' w5 hso5 ho5; have hb5 := blk_only (blk_alloc Hb1.out) ho5 (show ¬ w.heap.size + 2 ≤ w.heap.size + 1 by omega); have hb05 := blk_only (blk_alloc Hb0.out) ho5 (show ¬ w.heap.size + 2 ≤ w.heap.size by omega); have hc5 := cell_blk hb5; have hz5 := frozen_blk hb5; have Hb5 := hid hb5; have Hb05 := hid hb05; have Hso5 := hid hso5; have Ho5 := hid ho5; clear hso5 ho5 hb5 hb05)
          go_roundw
          case rel =>
            have hset : Only (fun j => j = w.heap.size + 1) w5 (w5.setCell ⟨w.heap.size + 1, 0, none⟩ (.slice bo' (k + 1) cap')) := only_set _ _ _
            refine ⟨k + 1, by go_num, by omega, bo', cap', blk_set Hb5.out 0 _, blk_only Hb05.out hset (show ¬ w.heap.size = w.heap.size + 1 by omega), ?_, ?_⟩
            · rw [List.replicate_succ']
              exact Hso5.out.only hset (fun j _ hj e => by have e' : j = w.heap.size + 1 := e; omega)
            · exact ((Ho.out.alloc _).trans Ho5.out (fun j hj e => by have e' : w.heap.size + 2 ≤ j := e; omega)).trans hset (fun j hj e => by have e' : j = w.heap.size + 1 := e; omega)
          case measure => simp [intOf]; omega
    · obtain rfl : k = n := by omega
      go_wp2_with (refine wpList_store_all rfl 113 (.tmp 2) (.tmp 25) rfl w.heap.size #[.slice bo k cap, .slice none 0 0, .bool false, .int .i64 (-1), .int .i64 0, .int .i64 0] rfl rfl #[.slice none 0 0, .slice none 0 0, .bool false, .int .i64 0, .int .i64 0, .int .i64 0] 113 Hb0.out rfl info_rdisk (by simp [Value.oneCell']) ?_; intro w5 hb5 ho5 hs5; have Hb5 := hid hb5; have Ho5 := hid ho5; clear hb5 ho5 hs5)
      refine bodyPost_ret (results_cell0 rfl _ _ w.heap.size 113 #[.slice bo k cap, .slice none 0 0, .bool false, .int .i64 (-1), .int .i64 0, .int .i64 0] _ _ rfl Hb5.out Try.underlying113 rfl info_rdisk) rfl ?_
      have hso := Hso.out.only Ho5.out (fun j _ hj e => by have e' : j = w.heap.size := e; omega)
      have hsrc := hso.src
      refine ⟨_, fun j => w.heap.size ≤ j ∧ j < w5.heap.size, rfl, ⟨⟨bo, cap, none, 0, by unfold RM.cells RM.new; simp, by simpa [RM.new] using hsrc, ⟨none, 0, rfl, fun e => absurd rfl e⟩, fun g o e => ?_, fun g o e => by cases e⟩, fun j hj => hj.2⟩, fun j hj => hj.1, Ho.out.trans Ho5.out (fun j hj e => by have e' : j = w.heap.size := e; omega)⟩
      rcases hso with ⟨e', -, -⟩ | ⟨g', e', hg, hr⟩
      · rw [e'] at e; cases e
      · rw [e'] at e
        simp only [Option.some.injEq, Addr.mk.injEq] at e
        have := hr.lt
        omega
end Go.Proofs.Ytepndjojodbhdaa
