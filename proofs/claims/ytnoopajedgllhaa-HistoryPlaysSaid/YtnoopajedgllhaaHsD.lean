/- (*History).check: may events follow? -/
import Derived.Test.YtnoopajedgllhaaHsC
import Derived.Deep.RegionHeld3
namespace Go.Proofs.Ytnoopajedgllhaa
open Go.RowKit
section
variable {w : World} {hb : Nat} {F G : Nat → Prop} {s : List UInt8} {es : List EM}
set_option maxRecDepth 100000 in
set_option maxHeartbeats 6400000 in
theorem hcheck_c (h : HistAt w hb F s es) {v : Value} {l : List EM} (hE : EvsV w G v l) (hG : ∀ k, G k → k < w.heap.size) (hg : ∀ e ∈ l, e.rg) (hll : l.length ≤ 1000000) :
    Calls Try.prog 49 #[.pointer (some ⟨hb, 0, none⟩), v] w fun x w' => x = .returned (.int .i64 (hchk (closedL es) es.length (lastT 0 es) l)) ∧ Only (fun _ => False) w w' := by
  have HC := hid (hclosed_c (w := w.drew) (h.same ((Only.refl _ w).drew)))
  obtain ⟨lo, lc, xl, so, sc, h⟩ := h
  have HC0 : Hid (∀ W, Only (fun _ => False) w W → W.cell? ⟨hb, 0, none⟩ = some (.slice lo es.length lc) ∧ W.cell? ⟨hb, 34, none⟩ = some (.int .i64 (lastT 0 es))) := hid fun W ho => ⟨(h.same ho).c0, (h.same ho).ct⟩
  obtain ⟨c0, ct⟩ := HC0.out w (Only.refl _ _)
  have hn4 := h.n
  have HGl := hid hG; have Hg := hid hg
  obtain ⟨ad, cap, g, o, rfl, hne, hel⟩ := hE
  have HNE := hid hne; have HEL := hid hel
  obtain ⟨cl0, hcl0⟩ : ∃ x, closedL es = x := ⟨_, rfl⟩
  obtain ⟨t0, ht0⟩ : ∃ x, lastT 0 es = x := ⟨_, rfl⟩
  obtain ⟨n0, hn0⟩ : ∃ x, es.length = x := ⟨_, rfl⟩
  rw [hcl0, ht0, hn0]
  rw [hcl0] at HC
  rw [ht0, hn0] at HC0
  rw [ht0] at ct
  rw [hn0] at c0 hn4
  clear h hG hg hne hel hcl0 ht0 hn0
  go_enter Try.func49, Try.ntmps49
  go_wp2_with fail
  go_region_held3 (fun W => W.cell? ⟨hb, 0, none⟩ = some (.slice lo n0 lc) ∧ W.cell? ⟨hb, 34, none⟩ = some (.int .i64 t0))
    (first | with_reducible exact HSK.out | go_keep)
    ((go_at_call 30; (with_reducible refine HC.out.mono ?_); rintro x w2 ⟨rfl, ho2⟩; have hp2 : Only (fun _ => False) w w2 := ((Only.refl _ w).drew).trans ho2 (fun _ _ e => e); have HSK := hid (HC0.out w2 hp2); have HP2 := hid hp2; clear ho2 hp2))
  clear c0 ct HC
  go_wp2_with fail
  go_loopw [24, 6, 5, 7] (fun i nn cc tt wr => ∃ (j n : Nat) (c : Bool) (t : Int), i = .int .i64 j ∧ j ≤ l.length ∧ nn = .int .i64 n ∧ n = n0 + j ∧ cc = .bool c ∧ tt = .int .i64 t ∧ hchk cl0 n0 t0 l = hchk c n t (l.drop j) ∧ Only (fun _ => False) w wr) (fun i _ _ _ _ => l.length - (intOf i).toNat)
  case atStart => exact ⟨0, n0, cl0, t0, rfl, Nat.zero_le _, rfl, rfl, rfl, rfl, rfl, HP2.out⟩
  case round =>
    obtain ⟨j, n, c, t, rfl, hj, rfl, hnj, rfl, rfl, hfj, ho⟩ := hrel
    have HO := hid ho; have HFJ := hid hfj; have HNJ := hid hnj
    have hso := ho.size
    clear hfj ho
    have hn5 : n ≤ 2000000 := by omega
    clear hnj
    by_cases hjl : j < l.length
    · have hji : (j : Int) < l.length := by omega
      obtain ⟨e, he⟩ : ∃ t, l[j]? = some t := ⟨_, List.getElem?_eq_getElem hjl⟩
      obtain ⟨rfl, hGg⟩ := HNE.out (by rintro rfl; simp at hjl)
      obtain ⟨cs, hcs, hEe⟩ := HEL.out j e he
      have hrg := Hg.out e (List.mem_of_getElem? he)
      have HCH : Hid (hchk cl0 n0 t0 l = hchk c n t (e :: l.drop (j + 1))) := hid (by rw [HFJ.out, drop_get he])
      have hcw : ∀ i u, cs[i]? = some u → wr.cell? ⟨g, o + j * 11 + i, none⟩ = some u := fun i u hu =>
        (World.cell?_of_block (HO.out.block g (World.block_lt_of_cell? _ _ (hcs i u hu)) (fun e => e))).trans (hcs i u hu)
      have hEw := hEe.same HO.out
      obtain ⟨vk, vn, vs, va, vm, vc, rfl, hV⟩ := hEw.form
      have e0 := hcw 0 _ rfl
      rw [Nat.add_zero] at e0
      have e1 := hcw 1 _ rfl
      have e2 := hcw 2 _ rfl
      have e3 := hcw 3 _ rfl
      have e4 := hcw 4 _ rfl
      have e5 := hcw 5 _ rfl
      have e6 := hcw 6 _ rfl
      have e7 := hcw 7 _ rfl
      have e8 := hcw 8 _ rfl
      have e9 := hcw 9 _ rfl
      have e10 := hcw 10 _ rfl
      have ho2 : Only (fun _ => False) wr ((wr.alloc (.cells #[.int .i64 e.id, .int .i64 e.tm, .int .i64 e.k, .int .i64 e.a, .int .i64 e.b, .string (strOf e.name), .string (strOf e.text), .int .i64 vk, .int .i64 vn, .string (strOf vs), .slice va vm vc] 44)).alloc (.cells #[.int .i64 (n + 1), .int .i64 e.tm, .int .i64 e.k, .int .i64 e.a, .int .i64 e.b, .string (strOf e.name), .string (strOf e.text), .int .i64 vk, .int .i64 vn, .string (strOf vs), .slice va vm vc] 44)) := (only_new _ _).trans (only_new _ _) (fun _ _ e => e)
      have HBE : Hid (((wr.alloc (.cells #[.int .i64 e.id, .int .i64 e.tm, .int .i64 e.k, .int .i64 e.a, .int .i64 e.b, .string (strOf e.name), .string (strOf e.text), .int .i64 vk, .int .i64 vn, .string (strOf vs), .slice va vm vc] 44)).alloc (.cells #[.int .i64 (n + 1), .int .i64 e.tm, .int .i64 e.k, .int .i64 e.a, .int .i64 e.b, .string (strOf e.name), .string (strOf e.text), .int .i64 vk, .int .i64 vn, .string (strOf vs), .slice va vm vc] 44)).heap[wr.heap.size]? = some (.cells #[.int .i64 e.id, .int .i64 e.tm, .int .i64 e.k, .int .i64 e.a, .int .i64 e.b, .string (strOf e.name), .string (strOf e.text), .int .i64 vk, .int .i64 vn, .string (strOf vs), .slice va vm vc] 44 (0, 0))) := hid (blk_alloc (blk_new wr _))
      have HBX : Hid (((wr.alloc (.cells #[.int .i64 e.id, .int .i64 e.tm, .int .i64 e.k, .int .i64 e.a, .int .i64 e.b, .string (strOf e.name), .string (strOf e.text), .int .i64 vk, .int .i64 vn, .string (strOf vs), .slice va vm vc] 44)).alloc (.cells #[.int .i64 (n + 1), .int .i64 e.tm, .int .i64 e.k, .int .i64 e.a, .int .i64 e.b, .string (strOf e.name), .string (strOf e.text), .int .i64 vk, .int .i64 vn, .string (strOf vs), .slice va vm vc] 44)).heap[wr.heap.size + 1]? = some (.cells #[.int .i64 (n + 1), .int .i64 e.tm, .int .i64 e.k, .int .i64 e.a, .int .i64 e.b, .string (strOf e.name), .string (strOf e.text), .int .i64 vk, .int .i64 vn, .string (strOf vs), .slice va vm vc] 44 (0, 0))) := hid (by have := blk_new (wr.alloc (.cells #[.int .i64 e.id, .int .i64 e.tm, .int .i64 e.k, .int .i64 e.a, .int .i64 e.b, .string (strOf e.name), .string (strOf e.text), .int .i64 vk, .int .i64 vn, .string (strOf vs), .slice va vm vc] 44)) (.cells #[.int .i64 (n + 1), .int .i64 e.tm, .int .i64 e.k, .int .i64 e.a, .int .i64 e.b, .string (strOf e.name), .string (strOf e.text), .int .i64 vk, .int .i64 vn, .string (strOf vs), .slice va vm vc] 44); rw [World.size_alloc] at this; exact this)
      have HEX : Hid (EAt wr G (e.nth n) [.int .i64 (n + 1), .int .i64 e.tm, .int .i64 e.k, .int .i64 e.a, .int .i64 e.b, .string (strOf e.name), .string (strOf e.text), .int .i64 vk, .int .i64 vn, .string (strOf vs), .slice va vm vc]) := hid ⟨[.int .i64 vk, .int .i64 vn, .string (strOf vs), .slice va vm vc], rfl, hV⟩
      have HCK : Hid (∀ W, Only (fun _ => False) ((wr.alloc (.cells #[.int .i64 e.id, .int .i64 e.tm, .int .i64 e.k, .int .i64 e.a, .int .i64 e.b, .string (strOf e.name), .string (strOf e.text), .int .i64 vk, .int .i64 vn, .string (strOf vs), .slice va vm vc] 44)).alloc (.cells #[.int .i64 (n + 1), .int .i64 e.tm, .int .i64 e.k, .int .i64 e.a, .int .i64 e.b, .string (strOf e.name), .string (strOf e.text), .int .i64 vk, .int .i64 vn, .string (strOf vs), .slice va vm vc] 44)) W → Calls Try.prog 75 #[.agg #[.int .i64 (n + 1), .int .i64 e.tm, .int .i64 e.k, .int .i64 e.a, .int .i64 e.b, .string (strOf e.name), .string (strOf e.text), .int .i64 vk, .int .i64 vn, .string (strOf vs), .slice va vm vc]] W fun x w' => x = .returned (.int .i64 (e.nth n).chk) ∧ Only (fun _ => False) W w') := hid fun W hW => echeck_c (cs := [.int .i64 (n + 1), .int .i64 e.tm, .int .i64 e.k, .int .i64 e.a, .int .i64 e.b, .string (strOf e.name), .string (strOf e.text), .int .i64 vk, .int .i64 vn, .string (strOf vs), .slice va vm vc]) (HEX.out.same (ho2.trans hW (fun _ _ e => e))) (fun k hk => by have h1 := HGl.out k hk; have h2 := (ho2.trans hW (fun _ _ e => e)).size; omega) ⟨⟨by show (_ : Int) ≤ ((n + 1 : Nat) : Int); omega, by show ((n + 1 : Nat) : Int) ≤ _; omega⟩, hrg.2⟩
      have HOU : Hid (∀ W, Only (fun _ => False) ((wr.alloc (.cells #[.int .i64 e.id, .int .i64 e.tm, .int .i64 e.k, .int .i64 e.a, .int .i64 e.b, .string (strOf e.name), .string (strOf e.text), .int .i64 vk, .int .i64 vn, .string (strOf vs), .slice va vm vc] 44)).alloc (.cells #[.int .i64 (n + 1), .int .i64 e.tm, .int .i64 e.k, .int .i64 e.a, .int .i64 e.b, .string (strOf e.name), .string (strOf e.text), .int .i64 vk, .int .i64 vn, .string (strOf vs), .slice va vm vc] 44)) W → Calls Try.prog 51 #[.agg #[.int .i64 e.id, .int .i64 e.tm, .int .i64 e.k, .int .i64 e.a, .int .i64 e.b, .string (strOf e.name), .string (strOf e.text), .int .i64 vk, .int .i64 vn, .string (strOf vs), .slice va vm vc]] W fun x w' => x = .returned (.bool (outsideB e.k)) ∧ Only (fun _ => False) W w') := hid fun W hW => outside_c (hEw.same (ho2.trans hW (fun _ _ e => e)))
      have HCZ : Hid (∀ W, Only (fun _ => False) ((wr.alloc (.cells #[.int .i64 e.id, .int .i64 e.tm, .int .i64 e.k, .int .i64 e.a, .int .i64 e.b, .string (strOf e.name), .string (strOf e.text), .int .i64 vk, .int .i64 vn, .string (strOf vs), .slice va vm vc] 44)).alloc (.cells #[.int .i64 (n + 1), .int .i64 e.tm, .int .i64 e.k, .int .i64 e.a, .int .i64 e.b, .string (strOf e.name), .string (strOf e.text), .int .i64 vk, .int .i64 vn, .string (strOf vs), .slice va vm vc] 44)) W → Calls Try.prog 33 #[.agg #[.int .i64 e.id, .int .i64 e.tm, .int .i64 e.k, .int .i64 e.a, .int .i64 e.b, .string (strOf e.name), .string (strOf e.text), .int .i64 vk, .int .i64 vn, .string (strOf vs), .slice va vm vc]] W fun x w' => x = .returned (.bool (closesB e.k)) ∧ Only (fun _ => False) W w') := hid fun W hW => closes_c (hEw.same (ho2.trans hW (fun _ _ e => e)))
      have HO2 := hid (HO.out.trans ho2 (fun _ _ e => e))
      clear hEw hEe hcs hcw hV hrg he ho2 hGg
      by_cases h1 : 4096 < n + 1
      · have h1i : (4096 : Int) < n + 1 := by omega
        have HR : Hid (hchk cl0 n0 t0 l = 3) := hid (by rw [HCH.out, hchk, if_pos h1])
        go_wp2_with fail
        go_ret
        exact ⟨by rw [HR.out]; rfl, HO2.out⟩
      have h1i : ¬ (4096 : Int) < n + 1 := by omega
      by_cases h2 : e.id ≠ 0 ∧ e.id ≠ ((n + 1 : Nat) : Int)
      · have HR : Hid (hchk cl0 n0 t0 l = 180) := hid (by rw [HCH.out, hchk, if_neg h1, if_pos h2])
        obtain ⟨h2a, h2b⟩ := h2
        have h2c : (e.id != (n : Int) + 1) = true := by simp; omega
        have h2d : (e.id != 0) = true := by simp; omega
        clear h2b h2a
        go_wp2_with fail
        go_ret
        exact ⟨by rw [HR.out]; rfl, HO2.out⟩
      have HCH2 : Hid (hchk cl0 n0 t0 l = if (e.nth n).chk ≠ 0 then (e.nth n).chk else if c = true then 181 else if (n = 0 ∧ e.k ≠ 1) ∨ (n ≠ 0 ∧ e.k = 1) then 7 else if outsideB e.k = true ∧ e.tm < t then 1 else hchk (closesB e.k) (n + 1) (if outsideB e.k = true then e.tm else t) (l.drop (j + 1))) := hid (by rw [HCH.out, hchk, if_neg h1, if_neg h2])
      clear HCH
      have h2' : e.id = 0 ∨ e.id = ((n + 1 : Nat) : Int) := by omega
      obtain ⟨ck, hck⟩ : ∃ x, (e.nth n).chk = x := ⟨_, rfl⟩
      obtain ⟨ob, hob⟩ : ∃ x, outsideB e.k = x := ⟨_, rfl⟩
      obtain ⟨cb, hcb⟩ : ∃ x, closesB e.k = x := ⟨_, rfl⟩
      rw [hck] at HCK HCH2
      rw [hob] at HOU HCH2
      rw [hcb] at HCZ HCH2
      clear hck hob hcb
      have hbE := HBE.out
      have hbX := HBX.out
      rcases h2' with h2' | h2'
      · have hq : (e.id != 0) = false := by simp [h2']
        clear h2 h2' hbE hbX
        go_wp2_with fail
        refine (HCK.out _ (Only.refl _ _)).mono ?_
        rintro x w5 ⟨rfl, ho5⟩
        have HP5 := hid (ho5)
        have hbE := blk_only HBE.out HP5.out (fun e => e)
        have hbX := blk_only HBX.out HP5.out (fun e => e)
        have c0 : w5.cell? ⟨wr.heap.size, 0, none⟩ = some (.int .i64 e.id) := cell_blk hbE 0
        have c1 : w5.cell? ⟨wr.heap.size, 1, none⟩ = some (.int .i64 e.tm) := cell_blk hbE 1
        have c2 : w5.cell? ⟨wr.heap.size, 2, none⟩ = some (.int .i64 e.k) := cell_blk hbE 2
        have c3 : w5.cell? ⟨wr.heap.size, 3, none⟩ = some (.int .i64 e.a) := cell_blk hbE 3
        have c4 : w5.cell? ⟨wr.heap.size, 4, none⟩ = some (.int .i64 e.b) := cell_blk hbE 4
        have c5 : w5.cell? ⟨wr.heap.size, 5, none⟩ = some (.string (strOf e.name)) := cell_blk hbE 5
        have c6 : w5.cell? ⟨wr.heap.size, 6, none⟩ = some (.string (strOf e.text)) := cell_blk hbE 6
        have c7 : w5.cell? ⟨wr.heap.size, 7, none⟩ = some (.int .i64 vk) := cell_blk hbE 7
        have c8 : w5.cell? ⟨wr.heap.size, 8, none⟩ = some (.int .i64 vn) := cell_blk hbE 8
        have c9 : w5.cell? ⟨wr.heap.size, 9, none⟩ = some (.string (strOf vs)) := cell_blk hbE 9
        have c10 : w5.cell? ⟨wr.heap.size, 10, none⟩ = some (.slice va vm vc) := cell_blk hbE 10
        have x0 : w5.cell? ⟨(wr.heap.size + 1), 0, none⟩ = some (.int .i64 (n + 1)) := cell_blk hbX 0
        have x1 : w5.cell? ⟨(wr.heap.size + 1), 1, none⟩ = some (.int .i64 e.tm) := cell_blk hbX 1
        have x2 : w5.cell? ⟨(wr.heap.size + 1), 2, none⟩ = some (.int .i64 e.k) := cell_blk hbX 2
        have x3 : w5.cell? ⟨(wr.heap.size + 1), 3, none⟩ = some (.int .i64 e.a) := cell_blk hbX 3
        have x4 : w5.cell? ⟨(wr.heap.size + 1), 4, none⟩ = some (.int .i64 e.b) := cell_blk hbX 4
        have x5 : w5.cell? ⟨(wr.heap.size + 1), 5, none⟩ = some (.string (strOf e.name)) := cell_blk hbX 5
        have x6 : w5.cell? ⟨(wr.heap.size + 1), 6, none⟩ = some (.string (strOf e.text)) := cell_blk hbX 6
        have x7 : w5.cell? ⟨(wr.heap.size + 1), 7, none⟩ = some (.int .i64 vk) := cell_blk hbX 7
        have x8 : w5.cell? ⟨(wr.heap.size + 1), 8, none⟩ = some (.int .i64 vn) := cell_blk hbX 8
        have x9 : w5.cell? ⟨(wr.heap.size + 1), 9, none⟩ = some (.string (strOf vs)) := cell_blk hbX 9
        have x10 : w5.cell? ⟨(wr.heap.size + 1), 10, none⟩ = some (.slice va vm vc) := cell_blk hbX 10
        have hl5 := HP5.out.size
        clear hbE hbX ho5
        by_cases hck : ck ≠ 0
        · have HR : Hid (hchk cl0 n0 t0 l = ck) := hid (by rw [HCH2.out, if_pos hck])
          have hck2 : ¬ ck = 0 := hck
          clear hck
          go_wp2_with fail
          refine (HCK.out _ HP5.out).mono ?_
          rintro x w6 ⟨rfl, ho6⟩
          have HP6 := hid (HP5.out.trans ho6 (fun _ _ e => e))
          clear ho6
          go_wp2_with fail
          go_ret
          exact ⟨by rw [HR.out]; rfl, HO2.out.trans HP6.out (fun _ _ e => e)⟩
        · obtain rfl : ck = 0 := Decidable.not_not.1 hck
          clear hck
          have HCH3 := hid (show hchk cl0 n0 t0 l = _ from HCH2.out.trans (if_neg (by simp)))
          cases c with
          | true =>
            have HR : Hid (hchk cl0 n0 t0 l = 181) := hid (by rw [HCH3.out, if_pos rfl])
            go_wp2_with fail
            go_ret
            exact ⟨by rw [HR.out]; rfl, HO2.out.trans HP5.out (fun _ _ e => e)⟩
          | false =>
            have HCH4 := hid (show hchk cl0 n0 t0 l = _ from HCH3.out.trans (if_neg (by simp)))
            by_cases hs : (n = 0 ∧ e.k ≠ 1) ∨ (n ≠ 0 ∧ e.k = 1)
            · have HR : Hid (hchk cl0 n0 t0 l = 7) := hid (by rw [HCH4.out, if_pos hs])
              have hst : (!(((n : Int) + 1 == 1) == (e.k == 1))) = true := by
                rcases hs with ⟨a, b⟩ | ⟨a, b⟩
                · have a' : ((n : Int) + 1 == 1) = true := by simp; omega
                  have b' : (e.k == 1) = false := by simpa using b
                  rw [a', b']; rfl
                · have a' : ((n : Int) + 1 == 1) = false := by simp; omega
                  have b' : (e.k == 1) = true := by simpa using b
                  rw [a', b']; rfl
              clear hs
              go_wp2_with fail
              go_ret
              exact ⟨by rw [HR.out]; rfl, HO2.out.trans HP5.out (fun _ _ e => e)⟩
            · have HCH5 := hid (show hchk cl0 n0 t0 l = _ from HCH4.out.trans (if_neg hs))
              have hst : (!(((n : Int) + 1 == 1) == (e.k == 1))) = false := by
                by_cases a : n = 0
                · have b : e.k = 1 := by omega
                  have a' : ((n : Int) + 1 == 1) = true := by simp; omega
                  have b' : (e.k == 1) = true := by simpa using b
                  rw [a', b']; rfl
                · have b : e.k ≠ 1 := by omega
                  have a' : ((n : Int) + 1 == 1) = false := by simp; omega
                  have b' : (e.k == 1) = false := by simpa using b
                  rw [a', b']; rfl
              clear hs
              go_wp2_with fail
              refine (HOU.out _ HP5.out).mono ?_
              rintro x w6 ⟨rfl, ho6⟩
              have HP6 := hid (HP5.out.trans ho6 (fun _ _ e => e))
              clear c0 c1 c2 c3 c4 c5 c6 c7 c8 c9 c10 x0 x1 x2 x3 x4 x5 x6 x7 x8 x9 x10
              have hbE := blk_only HBE.out HP6.out (fun e => e)
              have hbX := blk_only HBX.out HP6.out (fun e => e)
              have c0 : w6.cell? ⟨wr.heap.size, 0, none⟩ = some (.int .i64 e.id) := cell_blk hbE 0
              have c1 : w6.cell? ⟨wr.heap.size, 1, none⟩ = some (.int .i64 e.tm) := cell_blk hbE 1
              have c2 : w6.cell? ⟨wr.heap.size, 2, none⟩ = some (.int .i64 e.k) := cell_blk hbE 2
              have c3 : w6.cell? ⟨wr.heap.size, 3, none⟩ = some (.int .i64 e.a) := cell_blk hbE 3
              have c4 : w6.cell? ⟨wr.heap.size, 4, none⟩ = some (.int .i64 e.b) := cell_blk hbE 4
              have c5 : w6.cell? ⟨wr.heap.size, 5, none⟩ = some (.string (strOf e.name)) := cell_blk hbE 5
              have c6 : w6.cell? ⟨wr.heap.size, 6, none⟩ = some (.string (strOf e.text)) := cell_blk hbE 6
              have c7 : w6.cell? ⟨wr.heap.size, 7, none⟩ = some (.int .i64 vk) := cell_blk hbE 7
              have c8 : w6.cell? ⟨wr.heap.size, 8, none⟩ = some (.int .i64 vn) := cell_blk hbE 8
              have c9 : w6.cell? ⟨wr.heap.size, 9, none⟩ = some (.string (strOf vs)) := cell_blk hbE 9
              have c10 : w6.cell? ⟨wr.heap.size, 10, none⟩ = some (.slice va vm vc) := cell_blk hbE 10
              have x0 : w6.cell? ⟨(wr.heap.size + 1), 0, none⟩ = some (.int .i64 (n + 1)) := cell_blk hbX 0
              have x1 : w6.cell? ⟨(wr.heap.size + 1), 1, none⟩ = some (.int .i64 e.tm) := cell_blk hbX 1
              have x2 : w6.cell? ⟨(wr.heap.size + 1), 2, none⟩ = some (.int .i64 e.k) := cell_blk hbX 2
              have x3 : w6.cell? ⟨(wr.heap.size + 1), 3, none⟩ = some (.int .i64 e.a) := cell_blk hbX 3
              have x4 : w6.cell? ⟨(wr.heap.size + 1), 4, none⟩ = some (.int .i64 e.b) := cell_blk hbX 4
              have x5 : w6.cell? ⟨(wr.heap.size + 1), 5, none⟩ = some (.string (strOf e.name)) := cell_blk hbX 5
              have x6 : w6.cell? ⟨(wr.heap.size + 1), 6, none⟩ = some (.string (strOf e.text)) := cell_blk hbX 6
              have x7 : w6.cell? ⟨(wr.heap.size + 1), 7, none⟩ = some (.int .i64 vk) := cell_blk hbX 7
              have x8 : w6.cell? ⟨(wr.heap.size + 1), 8, none⟩ = some (.int .i64 vn) := cell_blk hbX 8
              have x9 : w6.cell? ⟨(wr.heap.size + 1), 9, none⟩ = some (.string (strOf vs)) := cell_blk hbX 9
              have x10 : w6.cell? ⟨(wr.heap.size + 1), 10, none⟩ = some (.slice va vm vc) := cell_blk hbX 10
              have hl6 := HP6.out.size
              clear hbE hbX ho6
              cases ob with
              | false =>
                have HR : Hid (hchk cl0 n0 t0 l = hchk cb (n + 1) t (l.drop (j + 1))) := hid (by rw [HCH5.out]; simp)
                go_wp2_with fail
                refine (HOU.out _ HP6.out).mono ?_
                rintro x w7 ⟨rfl, ho7⟩
                have HP7 := hid (HP6.out.trans ho7 (fun _ _ e => e))
                clear c0 c1 c2 c3 c4 c5 c6 c7 c8 c9 c10 x0 x1 x2 x3 x4 x5 x6 x7 x8 x9 x10
                have hbE := blk_only HBE.out HP7.out (fun e => e)
                have hbX := blk_only HBX.out HP7.out (fun e => e)
                have c0 : w7.cell? ⟨wr.heap.size, 0, none⟩ = some (.int .i64 e.id) := cell_blk hbE 0
                have c1 : w7.cell? ⟨wr.heap.size, 1, none⟩ = some (.int .i64 e.tm) := cell_blk hbE 1
                have c2 : w7.cell? ⟨wr.heap.size, 2, none⟩ = some (.int .i64 e.k) := cell_blk hbE 2
                have c3 : w7.cell? ⟨wr.heap.size, 3, none⟩ = some (.int .i64 e.a) := cell_blk hbE 3
                have c4 : w7.cell? ⟨wr.heap.size, 4, none⟩ = some (.int .i64 e.b) := cell_blk hbE 4
                have c5 : w7.cell? ⟨wr.heap.size, 5, none⟩ = some (.string (strOf e.name)) := cell_blk hbE 5
                have c6 : w7.cell? ⟨wr.heap.size, 6, none⟩ = some (.string (strOf e.text)) := cell_blk hbE 6
                have c7 : w7.cell? ⟨wr.heap.size, 7, none⟩ = some (.int .i64 vk) := cell_blk hbE 7
                have c8 : w7.cell? ⟨wr.heap.size, 8, none⟩ = some (.int .i64 vn) := cell_blk hbE 8
                have c9 : w7.cell? ⟨wr.heap.size, 9, none⟩ = some (.string (strOf vs)) := cell_blk hbE 9
                have c10 : w7.cell? ⟨wr.heap.size, 10, none⟩ = some (.slice va vm vc) := cell_blk hbE 10
                have x0 : w7.cell? ⟨(wr.heap.size + 1), 0, none⟩ = some (.int .i64 (n + 1)) := cell_blk hbX 0
                have x1 : w7.cell? ⟨(wr.heap.size + 1), 1, none⟩ = some (.int .i64 e.tm) := cell_blk hbX 1
                have x2 : w7.cell? ⟨(wr.heap.size + 1), 2, none⟩ = some (.int .i64 e.k) := cell_blk hbX 2
                have x3 : w7.cell? ⟨(wr.heap.size + 1), 3, none⟩ = some (.int .i64 e.a) := cell_blk hbX 3
                have x4 : w7.cell? ⟨(wr.heap.size + 1), 4, none⟩ = some (.int .i64 e.b) := cell_blk hbX 4
                have x5 : w7.cell? ⟨(wr.heap.size + 1), 5, none⟩ = some (.string (strOf e.name)) := cell_blk hbX 5
                have x6 : w7.cell? ⟨(wr.heap.size + 1), 6, none⟩ = some (.string (strOf e.text)) := cell_blk hbX 6
                have x7 : w7.cell? ⟨(wr.heap.size + 1), 7, none⟩ = some (.int .i64 vk) := cell_blk hbX 7
                have x8 : w7.cell? ⟨(wr.heap.size + 1), 8, none⟩ = some (.int .i64 vn) := cell_blk hbX 8
                have x9 : w7.cell? ⟨(wr.heap.size + 1), 9, none⟩ = some (.string (strOf vs)) := cell_blk hbX 9
                have x10 : w7.cell? ⟨(wr.heap.size + 1), 10, none⟩ = some (.slice va vm vc) := cell_blk hbX 10
                have hl7 := HP7.out.size
                clear hbE hbX ho7
                go_wp2_with fail
                refine (HCZ.out _ HP7.out).mono ?_
                rintro x w8 ⟨rfl, ho8⟩
                have HP8 := hid (HP7.out.trans ho8 (fun _ _ e => e))
                clear c0 c1 c2 c3 c4 c5 c6 c7 c8 c9 c10 x0 x1 x2 x3 x4 x5 x6 x7 x8 x9 x10
                have hbE := blk_only HBE.out HP8.out (fun e => e)
                have hbX := blk_only HBX.out HP8.out (fun e => e)
                have c0 : w8.cell? ⟨wr.heap.size, 0, none⟩ = some (.int .i64 e.id) := cell_blk hbE 0
                have c1 : w8.cell? ⟨wr.heap.size, 1, none⟩ = some (.int .i64 e.tm) := cell_blk hbE 1
                have c2 : w8.cell? ⟨wr.heap.size, 2, none⟩ = some (.int .i64 e.k) := cell_blk hbE 2
                have c3 : w8.cell? ⟨wr.heap.size, 3, none⟩ = some (.int .i64 e.a) := cell_blk hbE 3
                have c4 : w8.cell? ⟨wr.heap.size, 4, none⟩ = some (.int .i64 e.b) := cell_blk hbE 4
                have c5 : w8.cell? ⟨wr.heap.size, 5, none⟩ = some (.string (strOf e.name)) := cell_blk hbE 5
                have c6 : w8.cell? ⟨wr.heap.size, 6, none⟩ = some (.string (strOf e.text)) := cell_blk hbE 6
                have c7 : w8.cell? ⟨wr.heap.size, 7, none⟩ = some (.int .i64 vk) := cell_blk hbE 7
                have c8 : w8.cell? ⟨wr.heap.size, 8, none⟩ = some (.int .i64 vn) := cell_blk hbE 8
                have c9 : w8.cell? ⟨wr.heap.size, 9, none⟩ = some (.string (strOf vs)) := cell_blk hbE 9
                have c10 : w8.cell? ⟨wr.heap.size, 10, none⟩ = some (.slice va vm vc) := cell_blk hbE 10
                have x0 : w8.cell? ⟨(wr.heap.size + 1), 0, none⟩ = some (.int .i64 (n + 1)) := cell_blk hbX 0
                have x1 : w8.cell? ⟨(wr.heap.size + 1), 1, none⟩ = some (.int .i64 e.tm) := cell_blk hbX 1
                have x2 : w8.cell? ⟨(wr.heap.size + 1), 2, none⟩ = some (.int .i64 e.k) := cell_blk hbX 2
                have x3 : w8.cell? ⟨(wr.heap.size + 1), 3, none⟩ = some (.int .i64 e.a) := cell_blk hbX 3
                have x4 : w8.cell? ⟨(wr.heap.size + 1), 4, none⟩ = some (.int .i64 e.b) := cell_blk hbX 4
                have x5 : w8.cell? ⟨(wr.heap.size + 1), 5, none⟩ = some (.string (strOf e.name)) := cell_blk hbX 5
                have x6 : w8.cell? ⟨(wr.heap.size + 1), 6, none⟩ = some (.string (strOf e.text)) := cell_blk hbX 6
                have x7 : w8.cell? ⟨(wr.heap.size + 1), 7, none⟩ = some (.int .i64 vk) := cell_blk hbX 7
                have x8 : w8.cell? ⟨(wr.heap.size + 1), 8, none⟩ = some (.int .i64 vn) := cell_blk hbX 8
                have x9 : w8.cell? ⟨(wr.heap.size + 1), 9, none⟩ = some (.string (strOf vs)) := cell_blk hbX 9
                have x10 : w8.cell? ⟨(wr.heap.size + 1), 10, none⟩ = some (.slice va vm vc) := cell_blk hbX 10
                have hl8 := HP8.out.size
                clear hbE hbX ho8
                go_wp2_with fail
                go_roundw
                case rel => exact ⟨j + 1, n + 1, cb, t, by go_num, by omega, rfl, by have := HNJ.out; omega, rfl, rfl, HR.out, HO2.out.trans HP8.out (fun _ _ e => e)⟩
                case measure => simp [intOf]; omega
              | true =>
                by_cases h6 : e.tm < t
                · have HR : Hid (hchk cl0 n0 t0 l = 1) := hid (by rw [HCH5.out, if_pos ⟨rfl, h6⟩])
                  go_wp2_with fail
                  go_ret
                  exact ⟨by rw [HR.out]; rfl, HO2.out.trans HP6.out (fun _ _ e => e)⟩
                · have HR : Hid (hchk cl0 n0 t0 l = hchk cb (n + 1) e.tm (l.drop (j + 1))) := hid (by rw [HCH5.out, if_neg (fun h => h6 h.2), if_pos rfl])
                  go_wp2_with fail
                  refine (HOU.out _ HP6.out).mono ?_
                  rintro x w7 ⟨rfl, ho7⟩
                  have HP7 := hid (HP6.out.trans ho7 (fun _ _ e => e))
                  clear c0 c1 c2 c3 c4 c5 c6 c7 c8 c9 c10 x0 x1 x2 x3 x4 x5 x6 x7 x8 x9 x10
                  have hbE := blk_only HBE.out HP7.out (fun e => e)
                  have hbX := blk_only HBX.out HP7.out (fun e => e)
                  have c0 : w7.cell? ⟨wr.heap.size, 0, none⟩ = some (.int .i64 e.id) := cell_blk hbE 0
                  have c1 : w7.cell? ⟨wr.heap.size, 1, none⟩ = some (.int .i64 e.tm) := cell_blk hbE 1
                  have c2 : w7.cell? ⟨wr.heap.size, 2, none⟩ = some (.int .i64 e.k) := cell_blk hbE 2
                  have c3 : w7.cell? ⟨wr.heap.size, 3, none⟩ = some (.int .i64 e.a) := cell_blk hbE 3
                  have c4 : w7.cell? ⟨wr.heap.size, 4, none⟩ = some (.int .i64 e.b) := cell_blk hbE 4
                  have c5 : w7.cell? ⟨wr.heap.size, 5, none⟩ = some (.string (strOf e.name)) := cell_blk hbE 5
                  have c6 : w7.cell? ⟨wr.heap.size, 6, none⟩ = some (.string (strOf e.text)) := cell_blk hbE 6
                  have c7 : w7.cell? ⟨wr.heap.size, 7, none⟩ = some (.int .i64 vk) := cell_blk hbE 7
                  have c8 : w7.cell? ⟨wr.heap.size, 8, none⟩ = some (.int .i64 vn) := cell_blk hbE 8
                  have c9 : w7.cell? ⟨wr.heap.size, 9, none⟩ = some (.string (strOf vs)) := cell_blk hbE 9
                  have c10 : w7.cell? ⟨wr.heap.size, 10, none⟩ = some (.slice va vm vc) := cell_blk hbE 10
                  have x0 : w7.cell? ⟨(wr.heap.size + 1), 0, none⟩ = some (.int .i64 (n + 1)) := cell_blk hbX 0
                  have x1 : w7.cell? ⟨(wr.heap.size + 1), 1, none⟩ = some (.int .i64 e.tm) := cell_blk hbX 1
                  have x2 : w7.cell? ⟨(wr.heap.size + 1), 2, none⟩ = some (.int .i64 e.k) := cell_blk hbX 2
                  have x3 : w7.cell? ⟨(wr.heap.size + 1), 3, none⟩ = some (.int .i64 e.a) := cell_blk hbX 3
                  have x4 : w7.cell? ⟨(wr.heap.size + 1), 4, none⟩ = some (.int .i64 e.b) := cell_blk hbX 4
                  have x5 : w7.cell? ⟨(wr.heap.size + 1), 5, none⟩ = some (.string (strOf e.name)) := cell_blk hbX 5
                  have x6 : w7.cell? ⟨(wr.heap.size + 1), 6, none⟩ = some (.string (strOf e.text)) := cell_blk hbX 6
                  have x7 : w7.cell? ⟨(wr.heap.size + 1), 7, none⟩ = some (.int .i64 vk) := cell_blk hbX 7
                  have x8 : w7.cell? ⟨(wr.heap.size + 1), 8, none⟩ = some (.int .i64 vn) := cell_blk hbX 8
                  have x9 : w7.cell? ⟨(wr.heap.size + 1), 9, none⟩ = some (.string (strOf vs)) := cell_blk hbX 9
                  have x10 : w7.cell? ⟨(wr.heap.size + 1), 10, none⟩ = some (.slice va vm vc) := cell_blk hbX 10
                  have hl7 := HP7.out.size
                  clear hbE hbX ho7
                  go_wp2_with fail
                  refine (HCZ.out _ HP7.out).mono ?_
                  rintro x w8 ⟨rfl, ho8⟩
                  have HP8 := hid (HP7.out.trans ho8 (fun _ _ e => e))
                  clear c0 c1 c2 c3 c4 c5 c6 c7 c8 c9 c10 x0 x1 x2 x3 x4 x5 x6 x7 x8 x9 x10
                  have hbE := blk_only HBE.out HP8.out (fun e => e)
                  have hbX := blk_only HBX.out HP8.out (fun e => e)
                  have c0 : w8.cell? ⟨wr.heap.size, 0, none⟩ = some (.int .i64 e.id) := cell_blk hbE 0
                  have c1 : w8.cell? ⟨wr.heap.size, 1, none⟩ = some (.int .i64 e.tm) := cell_blk hbE 1
                  have c2 : w8.cell? ⟨wr.heap.size, 2, none⟩ = some (.int .i64 e.k) := cell_blk hbE 2
                  have c3 : w8.cell? ⟨wr.heap.size, 3, none⟩ = some (.int .i64 e.a) := cell_blk hbE 3
                  have c4 : w8.cell? ⟨wr.heap.size, 4, none⟩ = some (.int .i64 e.b) := cell_blk hbE 4
                  have c5 : w8.cell? ⟨wr.heap.size, 5, none⟩ = some (.string (strOf e.name)) := cell_blk hbE 5
                  have c6 : w8.cell? ⟨wr.heap.size, 6, none⟩ = some (.string (strOf e.text)) := cell_blk hbE 6
                  have c7 : w8.cell? ⟨wr.heap.size, 7, none⟩ = some (.int .i64 vk) := cell_blk hbE 7
                  have c8 : w8.cell? ⟨wr.heap.size, 8, none⟩ = some (.int .i64 vn) := cell_blk hbE 8
                  have c9 : w8.cell? ⟨wr.heap.size, 9, none⟩ = some (.string (strOf vs)) := cell_blk hbE 9
                  have c10 : w8.cell? ⟨wr.heap.size, 10, none⟩ = some (.slice va vm vc) := cell_blk hbE 10
                  have x0 : w8.cell? ⟨(wr.heap.size + 1), 0, none⟩ = some (.int .i64 (n + 1)) := cell_blk hbX 0
                  have x1 : w8.cell? ⟨(wr.heap.size + 1), 1, none⟩ = some (.int .i64 e.tm) := cell_blk hbX 1
                  have x2 : w8.cell? ⟨(wr.heap.size + 1), 2, none⟩ = some (.int .i64 e.k) := cell_blk hbX 2
                  have x3 : w8.cell? ⟨(wr.heap.size + 1), 3, none⟩ = some (.int .i64 e.a) := cell_blk hbX 3
                  have x4 : w8.cell? ⟨(wr.heap.size + 1), 4, none⟩ = some (.int .i64 e.b) := cell_blk hbX 4
                  have x5 : w8.cell? ⟨(wr.heap.size + 1), 5, none⟩ = some (.string (strOf e.name)) := cell_blk hbX 5
                  have x6 : w8.cell? ⟨(wr.heap.size + 1), 6, none⟩ = some (.string (strOf e.text)) := cell_blk hbX 6
                  have x7 : w8.cell? ⟨(wr.heap.size + 1), 7, none⟩ = some (.int .i64 vk) := cell_blk hbX 7
                  have x8 : w8.cell? ⟨(wr.heap.size + 1), 8, none⟩ = some (.int .i64 vn) := cell_blk hbX 8
                  have x9 : w8.cell? ⟨(wr.heap.size + 1), 9, none⟩ = some (.string (strOf vs)) := cell_blk hbX 9
                  have x10 : w8.cell? ⟨(wr.heap.size + 1), 10, none⟩ = some (.slice va vm vc) := cell_blk hbX 10
                  have hl8 := HP8.out.size
                  clear hbE hbX ho8
                  go_wp2_with fail
                  go_roundw
                  case rel => exact ⟨j + 1, n + 1, cb, e.tm, by go_num, by omega, rfl, by have := HNJ.out; omega, rfl, rfl, HR.out, HO2.out.trans HP8.out (fun _ _ e => e)⟩
                  case measure => simp [intOf]; omega
      · have hq : (e.id != (n : Int) + 1) = false := by simp [h2']
        have hq2 : (e.id != 0) = true := by simp; omega
        clear h2 h2' hbE hbX
        go_wp2_with fail
        refine (HCK.out _ (Only.refl _ _)).mono ?_
        rintro x w5 ⟨rfl, ho5⟩
        have HP5 := hid (ho5)
        have hbE := blk_only HBE.out HP5.out (fun e => e)
        have hbX := blk_only HBX.out HP5.out (fun e => e)
        have c0 : w5.cell? ⟨wr.heap.size, 0, none⟩ = some (.int .i64 e.id) := cell_blk hbE 0
        have c1 : w5.cell? ⟨wr.heap.size, 1, none⟩ = some (.int .i64 e.tm) := cell_blk hbE 1
        have c2 : w5.cell? ⟨wr.heap.size, 2, none⟩ = some (.int .i64 e.k) := cell_blk hbE 2
        have c3 : w5.cell? ⟨wr.heap.size, 3, none⟩ = some (.int .i64 e.a) := cell_blk hbE 3
        have c4 : w5.cell? ⟨wr.heap.size, 4, none⟩ = some (.int .i64 e.b) := cell_blk hbE 4
        have c5 : w5.cell? ⟨wr.heap.size, 5, none⟩ = some (.string (strOf e.name)) := cell_blk hbE 5
        have c6 : w5.cell? ⟨wr.heap.size, 6, none⟩ = some (.string (strOf e.text)) := cell_blk hbE 6
        have c7 : w5.cell? ⟨wr.heap.size, 7, none⟩ = some (.int .i64 vk) := cell_blk hbE 7
        have c8 : w5.cell? ⟨wr.heap.size, 8, none⟩ = some (.int .i64 vn) := cell_blk hbE 8
        have c9 : w5.cell? ⟨wr.heap.size, 9, none⟩ = some (.string (strOf vs)) := cell_blk hbE 9
        have c10 : w5.cell? ⟨wr.heap.size, 10, none⟩ = some (.slice va vm vc) := cell_blk hbE 10
        have x0 : w5.cell? ⟨(wr.heap.size + 1), 0, none⟩ = some (.int .i64 (n + 1)) := cell_blk hbX 0
        have x1 : w5.cell? ⟨(wr.heap.size + 1), 1, none⟩ = some (.int .i64 e.tm) := cell_blk hbX 1
        have x2 : w5.cell? ⟨(wr.heap.size + 1), 2, none⟩ = some (.int .i64 e.k) := cell_blk hbX 2
        have x3 : w5.cell? ⟨(wr.heap.size + 1), 3, none⟩ = some (.int .i64 e.a) := cell_blk hbX 3
        have x4 : w5.cell? ⟨(wr.heap.size + 1), 4, none⟩ = some (.int .i64 e.b) := cell_blk hbX 4
        have x5 : w5.cell? ⟨(wr.heap.size + 1), 5, none⟩ = some (.string (strOf e.name)) := cell_blk hbX 5
        have x6 : w5.cell? ⟨(wr.heap.size + 1), 6, none⟩ = some (.string (strOf e.text)) := cell_blk hbX 6
        have x7 : w5.cell? ⟨(wr.heap.size + 1), 7, none⟩ = some (.int .i64 vk) := cell_blk hbX 7
        have x8 : w5.cell? ⟨(wr.heap.size + 1), 8, none⟩ = some (.int .i64 vn) := cell_blk hbX 8
        have x9 : w5.cell? ⟨(wr.heap.size + 1), 9, none⟩ = some (.string (strOf vs)) := cell_blk hbX 9
        have x10 : w5.cell? ⟨(wr.heap.size + 1), 10, none⟩ = some (.slice va vm vc) := cell_blk hbX 10
        have hl5 := HP5.out.size
        clear hbE hbX ho5
        by_cases hck : ck ≠ 0
        · have HR : Hid (hchk cl0 n0 t0 l = ck) := hid (by rw [HCH2.out, if_pos hck])
          have hck2 : ¬ ck = 0 := hck
          clear hck
          go_wp2_with fail
          refine (HCK.out _ HP5.out).mono ?_
          rintro x w6 ⟨rfl, ho6⟩
          have HP6 := hid (HP5.out.trans ho6 (fun _ _ e => e))
          clear ho6
          go_wp2_with fail
          go_ret
          exact ⟨by rw [HR.out]; rfl, HO2.out.trans HP6.out (fun _ _ e => e)⟩
        · obtain rfl : ck = 0 := Decidable.not_not.1 hck
          clear hck
          have HCH3 := hid (show hchk cl0 n0 t0 l = _ from HCH2.out.trans (if_neg (by simp)))
          cases c with
          | true =>
            have HR : Hid (hchk cl0 n0 t0 l = 181) := hid (by rw [HCH3.out, if_pos rfl])
            go_wp2_with fail
            go_ret
            exact ⟨by rw [HR.out]; rfl, HO2.out.trans HP5.out (fun _ _ e => e)⟩
          | false =>
            have HCH4 := hid (show hchk cl0 n0 t0 l = _ from HCH3.out.trans (if_neg (by simp)))
            by_cases hs : (n = 0 ∧ e.k ≠ 1) ∨ (n ≠ 0 ∧ e.k = 1)
            · have HR : Hid (hchk cl0 n0 t0 l = 7) := hid (by rw [HCH4.out, if_pos hs])
              have hst : (!(((n : Int) + 1 == 1) == (e.k == 1))) = true := by
                rcases hs with ⟨a, b⟩ | ⟨a, b⟩
                · have a' : ((n : Int) + 1 == 1) = true := by simp; omega
                  have b' : (e.k == 1) = false := by simpa using b
                  rw [a', b']; rfl
                · have a' : ((n : Int) + 1 == 1) = false := by simp; omega
                  have b' : (e.k == 1) = true := by simpa using b
                  rw [a', b']; rfl
              clear hs
              go_wp2_with fail
              go_ret
              exact ⟨by rw [HR.out]; rfl, HO2.out.trans HP5.out (fun _ _ e => e)⟩
            · have HCH5 := hid (show hchk cl0 n0 t0 l = _ from HCH4.out.trans (if_neg hs))
              have hst : (!(((n : Int) + 1 == 1) == (e.k == 1))) = false := by
                by_cases a : n = 0
                · have b : e.k = 1 := by omega
                  have a' : ((n : Int) + 1 == 1) = true := by simp; omega
                  have b' : (e.k == 1) = true := by simpa using b
                  rw [a', b']; rfl
                · have b : e.k ≠ 1 := by omega
                  have a' : ((n : Int) + 1 == 1) = false := by simp; omega
                  have b' : (e.k == 1) = false := by simpa using b
                  rw [a', b']; rfl
              clear hs
              go_wp2_with fail
              refine (HOU.out _ HP5.out).mono ?_
              rintro x w6 ⟨rfl, ho6⟩
              have HP6 := hid (HP5.out.trans ho6 (fun _ _ e => e))
              clear c0 c1 c2 c3 c4 c5 c6 c7 c8 c9 c10 x0 x1 x2 x3 x4 x5 x6 x7 x8 x9 x10
              have hbE := blk_only HBE.out HP6.out (fun e => e)
              have hbX := blk_only HBX.out HP6.out (fun e => e)
              have c0 : w6.cell? ⟨wr.heap.size, 0, none⟩ = some (.int .i64 e.id) := cell_blk hbE 0
              have c1 : w6.cell? ⟨wr.heap.size, 1, none⟩ = some (.int .i64 e.tm) := cell_blk hbE 1
              have c2 : w6.cell? ⟨wr.heap.size, 2, none⟩ = some (.int .i64 e.k) := cell_blk hbE 2
              have c3 : w6.cell? ⟨wr.heap.size, 3, none⟩ = some (.int .i64 e.a) := cell_blk hbE 3
              have c4 : w6.cell? ⟨wr.heap.size, 4, none⟩ = some (.int .i64 e.b) := cell_blk hbE 4
              have c5 : w6.cell? ⟨wr.heap.size, 5, none⟩ = some (.string (strOf e.name)) := cell_blk hbE 5
              have c6 : w6.cell? ⟨wr.heap.size, 6, none⟩ = some (.string (strOf e.text)) := cell_blk hbE 6
              have c7 : w6.cell? ⟨wr.heap.size, 7, none⟩ = some (.int .i64 vk) := cell_blk hbE 7
              have c8 : w6.cell? ⟨wr.heap.size, 8, none⟩ = some (.int .i64 vn) := cell_blk hbE 8
              have c9 : w6.cell? ⟨wr.heap.size, 9, none⟩ = some (.string (strOf vs)) := cell_blk hbE 9
              have c10 : w6.cell? ⟨wr.heap.size, 10, none⟩ = some (.slice va vm vc) := cell_blk hbE 10
              have x0 : w6.cell? ⟨(wr.heap.size + 1), 0, none⟩ = some (.int .i64 (n + 1)) := cell_blk hbX 0
              have x1 : w6.cell? ⟨(wr.heap.size + 1), 1, none⟩ = some (.int .i64 e.tm) := cell_blk hbX 1
              have x2 : w6.cell? ⟨(wr.heap.size + 1), 2, none⟩ = some (.int .i64 e.k) := cell_blk hbX 2
              have x3 : w6.cell? ⟨(wr.heap.size + 1), 3, none⟩ = some (.int .i64 e.a) := cell_blk hbX 3
              have x4 : w6.cell? ⟨(wr.heap.size + 1), 4, none⟩ = some (.int .i64 e.b) := cell_blk hbX 4
              have x5 : w6.cell? ⟨(wr.heap.size + 1), 5, none⟩ = some (.string (strOf e.name)) := cell_blk hbX 5
              have x6 : w6.cell? ⟨(wr.heap.size + 1), 6, none⟩ = some (.string (strOf e.text)) := cell_blk hbX 6
              have x7 : w6.cell? ⟨(wr.heap.size + 1), 7, none⟩ = some (.int .i64 vk) := cell_blk hbX 7
              have x8 : w6.cell? ⟨(wr.heap.size + 1), 8, none⟩ = some (.int .i64 vn) := cell_blk hbX 8
              have x9 : w6.cell? ⟨(wr.heap.size + 1), 9, none⟩ = some (.string (strOf vs)) := cell_blk hbX 9
              have x10 : w6.cell? ⟨(wr.heap.size + 1), 10, none⟩ = some (.slice va vm vc) := cell_blk hbX 10
              have hl6 := HP6.out.size
              clear hbE hbX ho6
              cases ob with
              | false =>
                have HR : Hid (hchk cl0 n0 t0 l = hchk cb (n + 1) t (l.drop (j + 1))) := hid (by rw [HCH5.out]; simp)
                go_wp2_with fail
                refine (HOU.out _ HP6.out).mono ?_
                rintro x w7 ⟨rfl, ho7⟩
                have HP7 := hid (HP6.out.trans ho7 (fun _ _ e => e))
                clear c0 c1 c2 c3 c4 c5 c6 c7 c8 c9 c10 x0 x1 x2 x3 x4 x5 x6 x7 x8 x9 x10
                have hbE := blk_only HBE.out HP7.out (fun e => e)
                have hbX := blk_only HBX.out HP7.out (fun e => e)
                have c0 : w7.cell? ⟨wr.heap.size, 0, none⟩ = some (.int .i64 e.id) := cell_blk hbE 0
                have c1 : w7.cell? ⟨wr.heap.size, 1, none⟩ = some (.int .i64 e.tm) := cell_blk hbE 1
                have c2 : w7.cell? ⟨wr.heap.size, 2, none⟩ = some (.int .i64 e.k) := cell_blk hbE 2
                have c3 : w7.cell? ⟨wr.heap.size, 3, none⟩ = some (.int .i64 e.a) := cell_blk hbE 3
                have c4 : w7.cell? ⟨wr.heap.size, 4, none⟩ = some (.int .i64 e.b) := cell_blk hbE 4
                have c5 : w7.cell? ⟨wr.heap.size, 5, none⟩ = some (.string (strOf e.name)) := cell_blk hbE 5
                have c6 : w7.cell? ⟨wr.heap.size, 6, none⟩ = some (.string (strOf e.text)) := cell_blk hbE 6
                have c7 : w7.cell? ⟨wr.heap.size, 7, none⟩ = some (.int .i64 vk) := cell_blk hbE 7
                have c8 : w7.cell? ⟨wr.heap.size, 8, none⟩ = some (.int .i64 vn) := cell_blk hbE 8
                have c9 : w7.cell? ⟨wr.heap.size, 9, none⟩ = some (.string (strOf vs)) := cell_blk hbE 9
                have c10 : w7.cell? ⟨wr.heap.size, 10, none⟩ = some (.slice va vm vc) := cell_blk hbE 10
                have x0 : w7.cell? ⟨(wr.heap.size + 1), 0, none⟩ = some (.int .i64 (n + 1)) := cell_blk hbX 0
                have x1 : w7.cell? ⟨(wr.heap.size + 1), 1, none⟩ = some (.int .i64 e.tm) := cell_blk hbX 1
                have x2 : w7.cell? ⟨(wr.heap.size + 1), 2, none⟩ = some (.int .i64 e.k) := cell_blk hbX 2
                have x3 : w7.cell? ⟨(wr.heap.size + 1), 3, none⟩ = some (.int .i64 e.a) := cell_blk hbX 3
                have x4 : w7.cell? ⟨(wr.heap.size + 1), 4, none⟩ = some (.int .i64 e.b) := cell_blk hbX 4
                have x5 : w7.cell? ⟨(wr.heap.size + 1), 5, none⟩ = some (.string (strOf e.name)) := cell_blk hbX 5
                have x6 : w7.cell? ⟨(wr.heap.size + 1), 6, none⟩ = some (.string (strOf e.text)) := cell_blk hbX 6
                have x7 : w7.cell? ⟨(wr.heap.size + 1), 7, none⟩ = some (.int .i64 vk) := cell_blk hbX 7
                have x8 : w7.cell? ⟨(wr.heap.size + 1), 8, none⟩ = some (.int .i64 vn) := cell_blk hbX 8
                have x9 : w7.cell? ⟨(wr.heap.size + 1), 9, none⟩ = some (.string (strOf vs)) := cell_blk hbX 9
                have x10 : w7.cell? ⟨(wr.heap.size + 1), 10, none⟩ = some (.slice va vm vc) := cell_blk hbX 10
                have hl7 := HP7.out.size
                clear hbE hbX ho7
                go_wp2_with fail
                refine (HCZ.out _ HP7.out).mono ?_
                rintro x w8 ⟨rfl, ho8⟩
                have HP8 := hid (HP7.out.trans ho8 (fun _ _ e => e))
                clear c0 c1 c2 c3 c4 c5 c6 c7 c8 c9 c10 x0 x1 x2 x3 x4 x5 x6 x7 x8 x9 x10
                have hbE := blk_only HBE.out HP8.out (fun e => e)
                have hbX := blk_only HBX.out HP8.out (fun e => e)
                have c0 : w8.cell? ⟨wr.heap.size, 0, none⟩ = some (.int .i64 e.id) := cell_blk hbE 0
                have c1 : w8.cell? ⟨wr.heap.size, 1, none⟩ = some (.int .i64 e.tm) := cell_blk hbE 1
                have c2 : w8.cell? ⟨wr.heap.size, 2, none⟩ = some (.int .i64 e.k) := cell_blk hbE 2
                have c3 : w8.cell? ⟨wr.heap.size, 3, none⟩ = some (.int .i64 e.a) := cell_blk hbE 3
                have c4 : w8.cell? ⟨wr.heap.size, 4, none⟩ = some (.int .i64 e.b) := cell_blk hbE 4
                have c5 : w8.cell? ⟨wr.heap.size, 5, none⟩ = some (.string (strOf e.name)) := cell_blk hbE 5
                have c6 : w8.cell? ⟨wr.heap.size, 6, none⟩ = some (.string (strOf e.text)) := cell_blk hbE 6
                have c7 : w8.cell? ⟨wr.heap.size, 7, none⟩ = some (.int .i64 vk) := cell_blk hbE 7
                have c8 : w8.cell? ⟨wr.heap.size, 8, none⟩ = some (.int .i64 vn) := cell_blk hbE 8
                have c9 : w8.cell? ⟨wr.heap.size, 9, none⟩ = some (.string (strOf vs)) := cell_blk hbE 9
                have c10 : w8.cell? ⟨wr.heap.size, 10, none⟩ = some (.slice va vm vc) := cell_blk hbE 10
                have x0 : w8.cell? ⟨(wr.heap.size + 1), 0, none⟩ = some (.int .i64 (n + 1)) := cell_blk hbX 0
                have x1 : w8.cell? ⟨(wr.heap.size + 1), 1, none⟩ = some (.int .i64 e.tm) := cell_blk hbX 1
                have x2 : w8.cell? ⟨(wr.heap.size + 1), 2, none⟩ = some (.int .i64 e.k) := cell_blk hbX 2
                have x3 : w8.cell? ⟨(wr.heap.size + 1), 3, none⟩ = some (.int .i64 e.a) := cell_blk hbX 3
                have x4 : w8.cell? ⟨(wr.heap.size + 1), 4, none⟩ = some (.int .i64 e.b) := cell_blk hbX 4
                have x5 : w8.cell? ⟨(wr.heap.size + 1), 5, none⟩ = some (.string (strOf e.name)) := cell_blk hbX 5
                have x6 : w8.cell? ⟨(wr.heap.size + 1), 6, none⟩ = some (.string (strOf e.text)) := cell_blk hbX 6
                have x7 : w8.cell? ⟨(wr.heap.size + 1), 7, none⟩ = some (.int .i64 vk) := cell_blk hbX 7
                have x8 : w8.cell? ⟨(wr.heap.size + 1), 8, none⟩ = some (.int .i64 vn) := cell_blk hbX 8
                have x9 : w8.cell? ⟨(wr.heap.size + 1), 9, none⟩ = some (.string (strOf vs)) := cell_blk hbX 9
                have x10 : w8.cell? ⟨(wr.heap.size + 1), 10, none⟩ = some (.slice va vm vc) := cell_blk hbX 10
                have hl8 := HP8.out.size
                clear hbE hbX ho8
                go_wp2_with fail
                go_roundw
                case rel => exact ⟨j + 1, n + 1, cb, t, by go_num, by omega, rfl, by have := HNJ.out; omega, rfl, rfl, HR.out, HO2.out.trans HP8.out (fun _ _ e => e)⟩
                case measure => simp [intOf]; omega
              | true =>
                by_cases h6 : e.tm < t
                · have HR : Hid (hchk cl0 n0 t0 l = 1) := hid (by rw [HCH5.out, if_pos ⟨rfl, h6⟩])
                  go_wp2_with fail
                  go_ret
                  exact ⟨by rw [HR.out]; rfl, HO2.out.trans HP6.out (fun _ _ e => e)⟩
                · have HR : Hid (hchk cl0 n0 t0 l = hchk cb (n + 1) e.tm (l.drop (j + 1))) := hid (by rw [HCH5.out, if_neg (fun h => h6 h.2), if_pos rfl])
                  go_wp2_with fail
                  refine (HOU.out _ HP6.out).mono ?_
                  rintro x w7 ⟨rfl, ho7⟩
                  have HP7 := hid (HP6.out.trans ho7 (fun _ _ e => e))
                  clear c0 c1 c2 c3 c4 c5 c6 c7 c8 c9 c10 x0 x1 x2 x3 x4 x5 x6 x7 x8 x9 x10
                  have hbE := blk_only HBE.out HP7.out (fun e => e)
                  have hbX := blk_only HBX.out HP7.out (fun e => e)
                  have c0 : w7.cell? ⟨wr.heap.size, 0, none⟩ = some (.int .i64 e.id) := cell_blk hbE 0
                  have c1 : w7.cell? ⟨wr.heap.size, 1, none⟩ = some (.int .i64 e.tm) := cell_blk hbE 1
                  have c2 : w7.cell? ⟨wr.heap.size, 2, none⟩ = some (.int .i64 e.k) := cell_blk hbE 2
                  have c3 : w7.cell? ⟨wr.heap.size, 3, none⟩ = some (.int .i64 e.a) := cell_blk hbE 3
                  have c4 : w7.cell? ⟨wr.heap.size, 4, none⟩ = some (.int .i64 e.b) := cell_blk hbE 4
                  have c5 : w7.cell? ⟨wr.heap.size, 5, none⟩ = some (.string (strOf e.name)) := cell_blk hbE 5
                  have c6 : w7.cell? ⟨wr.heap.size, 6, none⟩ = some (.string (strOf e.text)) := cell_blk hbE 6
                  have c7 : w7.cell? ⟨wr.heap.size, 7, none⟩ = some (.int .i64 vk) := cell_blk hbE 7
                  have c8 : w7.cell? ⟨wr.heap.size, 8, none⟩ = some (.int .i64 vn) := cell_blk hbE 8
                  have c9 : w7.cell? ⟨wr.heap.size, 9, none⟩ = some (.string (strOf vs)) := cell_blk hbE 9
                  have c10 : w7.cell? ⟨wr.heap.size, 10, none⟩ = some (.slice va vm vc) := cell_blk hbE 10
                  have x0 : w7.cell? ⟨(wr.heap.size + 1), 0, none⟩ = some (.int .i64 (n + 1)) := cell_blk hbX 0
                  have x1 : w7.cell? ⟨(wr.heap.size + 1), 1, none⟩ = some (.int .i64 e.tm) := cell_blk hbX 1
                  have x2 : w7.cell? ⟨(wr.heap.size + 1), 2, none⟩ = some (.int .i64 e.k) := cell_blk hbX 2
                  have x3 : w7.cell? ⟨(wr.heap.size + 1), 3, none⟩ = some (.int .i64 e.a) := cell_blk hbX 3
                  have x4 : w7.cell? ⟨(wr.heap.size + 1), 4, none⟩ = some (.int .i64 e.b) := cell_blk hbX 4
                  have x5 : w7.cell? ⟨(wr.heap.size + 1), 5, none⟩ = some (.string (strOf e.name)) := cell_blk hbX 5
                  have x6 : w7.cell? ⟨(wr.heap.size + 1), 6, none⟩ = some (.string (strOf e.text)) := cell_blk hbX 6
                  have x7 : w7.cell? ⟨(wr.heap.size + 1), 7, none⟩ = some (.int .i64 vk) := cell_blk hbX 7
                  have x8 : w7.cell? ⟨(wr.heap.size + 1), 8, none⟩ = some (.int .i64 vn) := cell_blk hbX 8
                  have x9 : w7.cell? ⟨(wr.heap.size + 1), 9, none⟩ = some (.string (strOf vs)) := cell_blk hbX 9
                  have x10 : w7.cell? ⟨(wr.heap.size + 1), 10, none⟩ = some (.slice va vm vc) := cell_blk hbX 10
                  have hl7 := HP7.out.size
                  clear hbE hbX ho7
                  go_wp2_with fail
                  refine (HCZ.out _ HP7.out).mono ?_
                  rintro x w8 ⟨rfl, ho8⟩
                  have HP8 := hid (HP7.out.trans ho8 (fun _ _ e => e))
                  clear c0 c1 c2 c3 c4 c5 c6 c7 c8 c9 c10 x0 x1 x2 x3 x4 x5 x6 x7 x8 x9 x10
                  have hbE := blk_only HBE.out HP8.out (fun e => e)
                  have hbX := blk_only HBX.out HP8.out (fun e => e)
                  have c0 : w8.cell? ⟨wr.heap.size, 0, none⟩ = some (.int .i64 e.id) := cell_blk hbE 0
                  have c1 : w8.cell? ⟨wr.heap.size, 1, none⟩ = some (.int .i64 e.tm) := cell_blk hbE 1
                  have c2 : w8.cell? ⟨wr.heap.size, 2, none⟩ = some (.int .i64 e.k) := cell_blk hbE 2
                  have c3 : w8.cell? ⟨wr.heap.size, 3, none⟩ = some (.int .i64 e.a) := cell_blk hbE 3
                  have c4 : w8.cell? ⟨wr.heap.size, 4, none⟩ = some (.int .i64 e.b) := cell_blk hbE 4
                  have c5 : w8.cell? ⟨wr.heap.size, 5, none⟩ = some (.string (strOf e.name)) := cell_blk hbE 5
                  have c6 : w8.cell? ⟨wr.heap.size, 6, none⟩ = some (.string (strOf e.text)) := cell_blk hbE 6
                  have c7 : w8.cell? ⟨wr.heap.size, 7, none⟩ = some (.int .i64 vk) := cell_blk hbE 7
                  have c8 : w8.cell? ⟨wr.heap.size, 8, none⟩ = some (.int .i64 vn) := cell_blk hbE 8
                  have c9 : w8.cell? ⟨wr.heap.size, 9, none⟩ = some (.string (strOf vs)) := cell_blk hbE 9
                  have c10 : w8.cell? ⟨wr.heap.size, 10, none⟩ = some (.slice va vm vc) := cell_blk hbE 10
                  have x0 : w8.cell? ⟨(wr.heap.size + 1), 0, none⟩ = some (.int .i64 (n + 1)) := cell_blk hbX 0
                  have x1 : w8.cell? ⟨(wr.heap.size + 1), 1, none⟩ = some (.int .i64 e.tm) := cell_blk hbX 1
                  have x2 : w8.cell? ⟨(wr.heap.size + 1), 2, none⟩ = some (.int .i64 e.k) := cell_blk hbX 2
                  have x3 : w8.cell? ⟨(wr.heap.size + 1), 3, none⟩ = some (.int .i64 e.a) := cell_blk hbX 3
                  have x4 : w8.cell? ⟨(wr.heap.size + 1), 4, none⟩ = some (.int .i64 e.b) := cell_blk hbX 4
                  have x5 : w8.cell? ⟨(wr.heap.size + 1), 5, none⟩ = some (.string (strOf e.name)) := cell_blk hbX 5
                  have x6 : w8.cell? ⟨(wr.heap.size + 1), 6, none⟩ = some (.string (strOf e.text)) := cell_blk hbX 6
                  have x7 : w8.cell? ⟨(wr.heap.size + 1), 7, none⟩ = some (.int .i64 vk) := cell_blk hbX 7
                  have x8 : w8.cell? ⟨(wr.heap.size + 1), 8, none⟩ = some (.int .i64 vn) := cell_blk hbX 8
                  have x9 : w8.cell? ⟨(wr.heap.size + 1), 9, none⟩ = some (.string (strOf vs)) := cell_blk hbX 9
                  have x10 : w8.cell? ⟨(wr.heap.size + 1), 10, none⟩ = some (.slice va vm vc) := cell_blk hbX 10
                  have hl8 := HP8.out.size
                  clear hbE hbX ho8
                  go_wp2_with fail
                  go_roundw
                  case rel => exact ⟨j + 1, n + 1, cb, e.tm, by go_num, by omega, rfl, by have := HNJ.out; omega, rfl, rfl, HR.out, HO2.out.trans HP8.out (fun _ _ e => e)⟩
                  case measure => simp [intOf]; omega
    · have HR : Hid (hchk cl0 n0 t0 l = 0) := hid (by rw [HFJ.out, List.drop_of_length_le (by omega), hchk])
      have hjl2 : ¬ (j : Int) < l.length := by omega
      go_wp2_with fail
      go_ret
      exact ⟨by rw [HR.out]; rfl, HO.out⟩
end
end Go.Proofs.Ytnoopajedgllhaa
