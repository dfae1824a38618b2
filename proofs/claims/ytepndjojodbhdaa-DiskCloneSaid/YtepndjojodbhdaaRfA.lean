/- The disk's reference: how its value lies, and its small functions. -/
import Derived.Test.YtepndjojodbhdaaSure
import Derived.Test.YtepndjojodbhdaaWhole
namespace Go.Proofs.Ytepndjojodbhdaa
open Go.RowKit

structure RM where
  sure : List (List UInt8)
  ws : List (Int × List UInt8)
  down : Bool
  fuse : Int
  written : Int
  flushed : Int
def strs (l : List (List UInt8)) : List Value := l.map fun s => .string (strOf s)
@[simp] theorem length_strs (l : List (List UInt8)) : (strs l).length = l.length := by simp [strs]
/-- A slice value that reads as these writes. -/
def SrcP (w : World) (v : Value) (l : List (Int × List UInt8)) : Prop :=
  ∃ a c, v = .slice a l.length c ∧ (l ≠ [] → ∃ g o, a = some ⟨g, o, none⟩ ∧ ∀ (i : Nat) (p : Int × List UInt8), l[i]? = some p → w.cell? ⟨g, o + i * 2, none⟩ = some (.int .i64 p.1) ∧ w.cell? ⟨g, o + i * 2 + 1, none⟩ = some (.string (strOf p.2)))
theorem SrcP.only {w w' : World} {v : Value} {l : List (Int × List UInt8)} {F : Nat → Prop} (h : SrcP w v l) (ho : Only F w w') (hF : ∀ g o c, v = .slice (some ⟨g, o, none⟩) l.length c → ¬ F g) : SrcP w' v l := by
  obtain ⟨a, c, rfl, h⟩ := h
  refine ⟨a, c, rfl, fun hne => ?_⟩
  obtain ⟨g, o, rfl, hc⟩ := h hne
  refine ⟨g, o, rfl, fun i p hp => ?_⟩
  obtain ⟨h1, h2⟩ := hc i p hp
  have hb := ho.block g (World.block_lt_of_cell? _ _ h1) (hF g o c rfl)
  exact ⟨(World.cell?_of_block hb).trans h1, (World.cell?_of_block hb).trans h2⟩
def RM.cells (r : RM) (sa : Option Addr) (sc : Nat) (wa : Option Addr) (wc : Nat) : Array Value := #[.slice sa r.sure.length sc, .slice wa r.ws.length wc, .bool r.down, .int .i64 r.fuse, .int .i64 r.written, .int .i64 r.flushed]
/-- The cells cs read as the reference's disk r; what they hold lies in the blocks G. -/
structure RefAt (w : World) (cs : Array Value) (r : RM) (G : Nat → Prop) : Prop where
  ex : ∃ sa sc wa wc, cs = r.cells sa sc wa wc ∧ SrcV w (.slice sa r.sure.length sc) (strs r.sure) ∧ SrcP w (.slice wa r.ws.length wc) r.ws ∧ (∀ g o, sa = some ⟨g, o, none⟩ → G g) ∧ ∀ g o, wa = some ⟨g, o, none⟩ → G g
  lt : ∀ k, G k → k < w.heap.size
theorem RefAt.only {w w' : World} {cs : Array Value} {r : RM} {F G : Nat → Prop} (h : RefAt w cs r G) (ho : Only F w w') (hd : ∀ k, G k → ¬ F k) : RefAt w' cs r G := by
  obtain ⟨sa, sc, wa, wc, e, h1, h2, h3, h4⟩ := h.ex
  refine ⟨⟨sa, sc, wa, wc, e, h1.only ho (fun _ g o c e _ => ?_), h2.only ho (fun g o c e => ?_), h3, h4⟩, fun k hk => Nat.lt_of_lt_of_le (h.lt k hk) ho.size⟩
  · simp only [Value.slice.injEq] at e
    exact hd g (h3 g o e.1)
  · simp only [Value.slice.injEq] at e
    exact hd g (h4 g o e.1)
/-- Other plain fields. -/
theorem RefAt.plain {w : World} {r : RM} {G : Nat → Prop} {sa wa : Option Addr} {sc wc : Nat} (h1 : SrcV w (.slice sa r.sure.length sc) (strs r.sure)) (h2 : SrcP w (.slice wa r.ws.length wc) r.ws) (h3 : ∀ g o, sa = some ⟨g, o, none⟩ → G g) (h4 : ∀ g o, wa = some ⟨g, o, none⟩ → G g) (hl : ∀ k, G k → k < w.heap.size) : RefAt w (r.cells sa sc wa wc) r G :=
  ⟨⟨sa, sc, wa, wc, rfl, h1, h2, h3, h4⟩, hl⟩

def RM.burn (r : RM) : RM × Bool := if r.fuse = 0 then ({ r with down := true, fuse := -1 }, false) else if 0 < r.fuse then ({ r with fuse := r.fuse - 1 }, true) else (r, true)
theorem info_rdisk : (Try.prog.info? 113).map (·.size) = some 6 := by kernel_rfl

theorem blk2 (w : World) (o1 o2 : Obj) : ((w.alloc o1).alloc o2).heap[w.heap.size + 1]? = some o2 := by
  have := blk_new (w.alloc o1) o2
  rw [World.size_alloc] at this
  exact this
/-- The result is a struct's variable. -/
theorem results_cell0 {P : Program} {fn : Func} {p : Tmp} {ty : TypeId} (h : fn.results = #[.cell p ty]) (tmps : Array Value) (w : World) (g : Nat) (t : TypeId) (cs : Array Value) (fr : Nat × Nat) (d : TypeDesc)
    (hp : tmps.getD p undef = .pointer (some ⟨g, 0, none⟩)) (hg : w.heap[g]? = some (.cells cs t fr))
    (hu : P.underlying ty = some d) (hd : (match d with | .struct _ | .array _ _ => true | _ => false) = true) (hi : (P.info? ty).map (·.size) = some cs.size) :
    (results fn tmps).run P w = .ok (.agg cs) w := by
  have hp' : tmps[p]?.getD undef = .pointer (some ⟨g, 0, none⟩) := by simpa using hp
  simp [results, h, hp', asAddr, run_loadVar_row w g t ty cs fr d hg hu hd hi]
/-- The last write of a sector. -/
def lastW (n : Int) : List (Int × List UInt8) → Option (List UInt8) → Option (List UInt8)
  | [], acc => acc
  | p :: ps, acc => lastW n ps (if p.1 = n then some p.2 else acc)
theorem lastW_app (n : Int) : ∀ (xs ys : List (Int × List UInt8)) (acc : Option (List UInt8)), lastW n (xs ++ ys) acc = lastW n ys (lastW n xs acc)
  | [], _, _ => rfl
  | _ :: ps, ys, _ => lastW_app n ps ys _
theorem lastW_take {n : Int} {ws : List (Int × List UInt8)} {k : Nat} {p : Int × List UInt8} (h : ws[k]? = some p) : lastW n (ws.take (k + 1)) none = if p.1 = n then some p.2 else lastW n (ws.take k) none := by
  rw [List.take_add_one, h, lastW_app]; rfl
def RM.last (r : RM) (n : Int) : Option (List UInt8) := lastW n r.ws none
def RM.get (r : RM) (n : Int) : List UInt8 × Int :=
  if r.down then ([], 50) else if n < 0 ∨ (r.sure.length : Int) ≤ n then ([], 1) else (((r.last n).getD (r.sure.getD n.toNat [])), 0)
def RM.up (r : RM) : RM := { r with ws := if r.down then [] else r.ws, down := false }

section
variable {w : World} {cs : Array Value} {r : RM} {G : Nat → Prop}
set_option maxRecDepth 100000 in
set_option maxHeartbeats 1600000 in
theorem rburn_c (h : RefAt w cs r G) (hf : -1 ≤ r.fuse ∧ r.fuse ≤ 9223372036854775807) :
    Calls Try.prog 113 #[.agg cs] w fun e w' => ∃ cs', e = .returned (.tuple #[.agg cs', .bool r.burn.2]) ∧ RefAt w' cs' r.burn.1 G ∧ Only (fun _ => False) w w' := by
  obtain ⟨sa, sc, wa, wc, rfl, h1, h2, h3, h4⟩ := h.ex
  have H1 := hid h1; have H2 := hid h2; have H3 := hid h3; have H4 := hid h4; have HL := hid h.lt
  unfold RM.cells
  clear h h1 h2 h3 h4
  by_cases h0 : r.fuse = 0
  · have hb : r.burn = (({ r with down := true, fuse := -1 } : RM), false) := by unfold RM.burn; rw [if_pos h0]
    have Hb := hid hb
    have hb0 : (r.fuse == 0) = true := by simp [h0]
    clear hb
    go_enter Try.func113, Try.ntmps113
    go_wp2_with fail
    refine bodyPost_ret (results_cell1 (q := 3) rfl _ _ (w.heap.size + 1) 113 (RM.cells ({ r with down := true, fuse := -1 } : RM) sa sc wa wc) _ _ rfl (blk2 w _ _) Try.underlying113 rfl info_rdisk) rfl ?_
    rw [Hb.out]
    exact ⟨_, rfl, RefAt.plain (r := ({ r with down := true, fuse := -1 } : RM)) (H1.out.only (((Only.refl (fun _ => False) w).alloc _).alloc _) (fun _ _ _ _ _ _ e => e)) (H2.out.only (((Only.refl (fun _ => False) w).alloc _).alloc _) (fun _ _ _ _ e => e)) H3.out H4.out (fun k hk => by have := HL.out k hk; simp; omega), ((Only.refl _ w).alloc _).alloc _⟩
  by_cases h1 : 0 < r.fuse
  · have hb : r.burn = (({ r with fuse := r.fuse - 1 } : RM), true) := by unfold RM.burn; rw [if_neg h0, if_pos h1]
    have Hb := hid hb
    have hb0 : (r.fuse == 0) = false := by simp [h0]
    clear hb
    go_enter Try.func113, Try.ntmps113
    go_wp2_with fail
    refine bodyPost_ret (results_cell1 (q := 3) rfl _ _ (w.heap.size + 1) 113 (RM.cells ({ r with fuse := r.fuse - 1 } : RM) sa sc wa wc) _ _ rfl (blk2 w _ _) Try.underlying113 rfl info_rdisk) rfl ?_
    rw [Hb.out]
    exact ⟨_, rfl, RefAt.plain (r := ({ r with fuse := r.fuse - 1 } : RM)) (H1.out.only (((Only.refl (fun _ => False) w).alloc _).alloc _) (fun _ _ _ _ _ _ e => e)) (H2.out.only (((Only.refl (fun _ => False) w).alloc _).alloc _) (fun _ _ _ _ e => e)) H3.out H4.out (fun k hk => by have := HL.out k hk; simp; omega), ((Only.refl _ w).alloc _).alloc _⟩
  · have hb : r.burn = (r, true) := by unfold RM.burn; rw [if_neg h0, if_neg h1]
    have Hb := hid hb
    have hb0 : (r.fuse == 0) = false := by simp [h0]
    clear hb
    go_enter Try.func113, Try.ntmps113
    go_wp2_with fail
    refine bodyPost_ret (results_cell1 (q := 3) rfl _ _ (w.heap.size + 1) 113 (RM.cells r sa sc wa wc) _ _ rfl (blk2 w _ _) Try.underlying113 rfl info_rdisk) rfl ?_
    rw [Hb.out]
    exact ⟨_, rfl, RefAt.plain (r := r) (H1.out.only (((Only.refl (fun _ => False) w).alloc _).alloc _) (fun _ _ _ _ _ _ e => e)) (H2.out.only (((Only.refl (fun _ => False) w).alloc _).alloc _) (fun _ _ _ _ e => e)) H3.out H4.out (fun k hk => by have := HL.out k hk; simp; omega), ((Only.refl _ w).alloc _).alloc _⟩
set_option maxRecDepth 100000 in
set_option maxHeartbeats 1600000 in
theorem rup_c (h : RefAt w cs r G) :
    Calls Try.prog 97 #[.agg cs] w fun e w' => ∃ cs', e = .returned (.agg cs') ∧ RefAt w' cs' r.up G ∧ Only (fun _ => False) w w' := by
  obtain ⟨sa, sc, wa, wc, rfl, h1, h2, h3, h4⟩ := h.ex
  have H1 := hid h1; have H2 := hid h2; have H3 := hid h3; have H4 := hid h4; have HL := hid h.lt
  unfold RM.cells
  clear h h1 h2 h3 h4
  cases hd : r.down with
  | true =>
    have hu : r.up = { r with ws := [], down := false } := by unfold RM.up; rw [hd]; rfl
    have Hu := hid hu
    clear hu hd
    go_enter Try.func97, Try.ntmps97
    go_wp2_with fail
    refine bodyPost_ret (results_cell0 rfl _ _ (w.heap.size + 1) 113 (RM.cells ({ r with ws := [], down := false } : RM) sa sc none 0) _ _ rfl (blk2 w _ _) Try.underlying113 rfl info_rdisk) rfl ?_
    rw [Hu.out]
    exact ⟨_, rfl, RefAt.plain (r := ({ r with ws := [], down := false } : RM)) (H1.out.only (((Only.refl (fun _ => False) w).alloc _).alloc _) (fun _ _ _ _ _ _ e => e)) ⟨none, 0, rfl, fun e => absurd rfl e⟩ H3.out (fun g o e => by cases e) (fun k hk => by have := HL.out k hk; simp; omega), ((Only.refl _ w).alloc _).alloc _⟩
  | false =>
    have hu : r.up = { r with down := false } := by unfold RM.up; rw [hd]; rfl
    have Hu := hid hu
    clear hu hd
    go_enter Try.func97, Try.ntmps97
    go_wp2_with fail
    refine bodyPost_ret (results_cell0 rfl _ _ (w.heap.size + 1) 113 (RM.cells ({ r with down := false } : RM) sa sc wa wc) _ _ rfl (blk2 w _ _) Try.underlying113 rfl info_rdisk) rfl ?_
    rw [Hu.out]
    exact ⟨_, rfl, RefAt.plain (r := ({ r with down := false } : RM)) (H1.out.only (((Only.refl (fun _ => False) w).alloc _).alloc _) (fun _ _ _ _ _ _ e => e)) (H2.out.only (((Only.refl (fun _ => False) w).alloc _).alloc _) (fun _ _ _ _ e => e)) H3.out H4.out (fun k hk => by have := HL.out k hk; simp; omega), ((Only.refl _ w).alloc _).alloc _⟩

set_option maxRecDepth 100000 in
set_option maxHeartbeats 1600000 in
theorem rlast_c (h : RefAt w cs r G) (hl : r.ws.length ≤ 1000000) (n : Int) :
    Calls Try.prog 114 #[.agg cs, .int .i64 n] w fun e w' => e = .returned (.tuple #[.string (strOf ((r.last n).getD [])), .bool (r.last n).isSome]) ∧ Only (fun _ => False) w w' := by
  obtain ⟨sa, sc, wa, wc, rfl, h1, ⟨wa', wc', e, h2⟩, h3, h4⟩ := h.ex
  simp only [Value.slice.injEq, true_and] at e
  obtain ⟨rfl, rfl⟩ := e
  have H2 := hid h2
  unfold RM.cells
  clear h h1 h2 h3 h4
  go_enter Try.func114, Try.ntmps114
  go_wp2_with fail
  go_loopw [8, 6, 7] (fun i s o wr => ∃ k : Nat, i = .int .i64 k ∧ k ≤ r.ws.length ∧ s = .string (strOf ((lastW n (r.ws.take k) none).getD [])) ∧ o = .bool (lastW n (r.ws.take k) none).isSome ∧ wr = w.alloc (.cells #[.slice sa r.sure.length sc, .slice wa r.ws.length wc, .bool r.down, .int .i64 r.fuse, .int .i64 r.written, .int .i64 r.flushed] 113)) (fun i _ _ _ => r.ws.length - (intOf i).toNat)
  case atStart => exact ⟨0, rfl, Nat.zero_le _, rfl, rfl, rfl⟩
  case round =>
    obtain ⟨k, rfl, hk, rfl, rfl, hw⟩ := hrel
    subst hw
    by_cases hkl : k < r.ws.length
    · obtain ⟨p, hp⟩ : ∃ p, r.ws[k]? = some p := ⟨_, List.getElem?_eq_getElem hkl⟩
      obtain ⟨g, o, rfl, hc⟩ := H2.out (by rintro e; rw [e] at hkl; simp at hkl)
      obtain ⟨q1, q2⟩ := hc k p hp
      have hgl := World.block_lt_of_cell? _ _ q1
      have Hp := hid (lastW_take (n := n) hp)
      have hki : (k : Int) < r.ws.length := by omega
      clear hp hc
      by_cases hn : p.1 = n
      · have hb : (p.1 == n) = true := by simp [hn]
        have Hn := hid hn
        clear hn
        go_wp2_with fail
        go_roundw
        case rel => exact ⟨k + 1, by go_num, by omega, by rw [Hp.out, if_pos Hn.out]; rfl, by rw [Hp.out, if_pos Hn.out]; rfl, by first | rfl | trivial⟩
        case measure => simp [intOf]; omega
      · have hb : (p.1 == n) = false := by simp [hn]
        have Hn := hid hn
        clear hn
        go_wp2_with fail
        go_roundw
        case rel => exact ⟨k + 1, by go_num, by omega, by rw [Hp.out, if_neg Hn.out], by rw [Hp.out, if_neg Hn.out], by first | rfl | trivial⟩
        case measure => simp [intOf]; omega
    · obtain rfl : k = r.ws.length := by omega
      go_wp2_with fail
      go_ret2
      refine ⟨?_, (Only.refl _ _).alloc _⟩
      unfold RM.last
      simp
end
end Go.Proofs.Ytepndjojodbhdaa
