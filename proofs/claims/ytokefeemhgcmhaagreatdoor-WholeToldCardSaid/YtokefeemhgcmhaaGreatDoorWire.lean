/- wire.Writer: how it lies; its methods. -/
import Derived.Test.YtokefeemhgcmhaaGreatDoorGrow
import Derived.Test.YtokefeemhgcmhaaGreatDoorValC
import Derived.Laws.BitsAllLaws
import Derived.Deep.RegionLaw
import Derived.IntWalk
namespace Go.Proofs.YtokefeemhgcmhaaGreatDoor
open Go.RowKit

def WrP (w : World) (b : Nat) (ao : Option Addr) (cap : Nat) (bs : List UInt8) : Prop :=
  w.heap[b]? = some (.cells #[.slice ao bs.length cap] 54 (0, 0)) ∧ Gr w 5 1 ao bs.length cap (bytesV bs) ∧ ao ≠ some ⟨b, 0, none⟩
/-- At block b lies a writer; all its blocks are F. -/
def Wr (w : World) (b : Nat) (F : Nat → Prop) (bs : List UInt8) : Prop := ∃ ao cap, WrP w b ao cap bs ∧ ∀ k, F k ↔ k = b ∨ ao = some ⟨k, 0, none⟩
/-- What a step on a writer leaves. -/
def WStep (w w' : World) (b : Nat) (F : Nat → Prop) (bs : List UInt8) : Prop := ∃ F', Wr w' b F' bs ∧ Only F w w' ∧ ∀ k, F' k → F k ∨ w.heap.size ≤ k
section
variable {w w' w1 w2 : World} {b : Nat} {F G : Nat → Prop} {bs : List UInt8}
theorem Wr.step (h : Wr w b F bs) : WStep w w b F bs := ⟨F, h, Only.refl _ _, fun _ hk => .inl hk⟩
theorem Wr.self (h : Wr w b F bs) : F b := let ⟨_, _, _, hf⟩ := h; (hf b).2 (.inl rfl)
theorem Wr.lt (h : Wr w b F bs) {k : Nat} (hk : F k) : k < w.heap.size := by
  obtain ⟨ao, cap, hp, hf⟩ := h
  rcases (hf k).1 hk with rfl | e
  · exact blk_lt hp.1
  · exact hp.2.1.lt e
theorem Wr.only (h : Wr w b F bs) (ho : Only G w w') (hd : ∀ k, F k → ¬ G k) : Wr w' b F bs := by
  obtain ⟨ao, cap, hp, hf⟩ := h
  exact ⟨ao, cap, ⟨blk_only hp.1 ho (hd b ((hf b).2 (.inl rfl))), hp.2.1.only ho (fun g e => hd g ((hf g).2 (.inr e))), hp.2.2⟩, hf⟩
theorem Wr.same (h : Wr w b F bs) (ho : Only (fun _ => False) w w') : Wr w' b F bs := h.only ho (fun _ _ e => e)
theorem WStep.trans {bs1 : List UInt8} (h : WStep w w1 b F bs) (g : ∀ F1, Wr w1 b F1 bs → (∀ k, F1 k → F k ∨ w.heap.size ≤ k) → WStep w1 w2 b F1 bs1) : WStep w w2 b F bs1 := by
  obtain ⟨F1, h1, h2, h3⟩ := h
  obtain ⟨F2, g1, g2, g3⟩ := g F1 h1 h3
  refine ⟨F2, g1, h2.trans g2 (fun k hk hf => (h3 k hf).resolve_right (by omega)), fun k hk => ?_⟩
  rcases g3 k hk with e | e
  · exact h3 k e
  · have := h2.size; exact .inr (by omega)
theorem WStep.same (h : WStep w w1 b F bs) (ho : Only (fun _ => False) w1 w2) : WStep w w2 b F bs :=
  h.trans fun _ h1 _ => ⟨_, h1.same ho, ho.mono (fun _ _ e => e.elim), fun _ hk => .inl hk⟩
theorem WStep.pre (ho : Only (fun _ => False) w w1) (h : WStep w1 w2 b F bs) (_hF : ∀ k, F k → k < w.heap.size) : WStep w w2 b F bs := by
  obtain ⟨F', h1, h2, h3⟩ := h
  refine ⟨F', h1, (ho.mono (G := F) (fun _ _ e => e.elim)).trans h2 (fun _ _ e => e), fun k hk => ?_⟩
  rcases h3 k hk with e | e
  · exact .inl e
  · have := ho.size; exact .inr (by omega)
/-- A writer of which nothing was written. -/
theorem Wr.new (h : w.heap[b]? = some (.cells #[.slice none 0 0] 54 (0, 0))) : Wr w b (fun k => k = b) [] :=
  ⟨none, 0, ⟨h, Gr.nil, by simp⟩, fun k => by simp⟩

theorem wr_fin {ao ao' : Option Addr} {cap cap' n' : Nat} {x : List UInt8} (hp : WrP w b ao cap bs) (hf : ∀ k, F k ↔ k = b ∨ ao = some ⟨k, 0, none⟩) (h01 : Only (fun _ => False) w w1)
    (hg : Gr w2 5 1 ao' n' cap' (bytesV bs ++ bytesV x)) (ha : ao' = ao ∨ ao' = some ⟨w1.heap.size, 0, none⟩) (h12 : Only (fun k => ao = some ⟨k, 0, none⟩) w1 w2) :
    WStep w (w2.setCell ⟨b, 0, none⟩ (.slice ao' n' cap')) b F (bs ++ x) := by
  have hs1 := h01.size
  have hb := blk_lt hp.1
  have hgb : ao' ≠ some ⟨b, 0, none⟩ := by
    rcases ha with e | e
    · rw [e]; exact hp.2.2
    · rw [e]; intro e2; simp only [Option.some.injEq, Addr.mk.injEq, and_true] at e2; omega
  have hn : n' = (bs ++ x).length := by have := hg.1; simp at this; simp; omega
  subst hn
  have h02 : Only (fun k => ao = some ⟨k, 0, none⟩) w w2 := (h01.mono (G := fun k => ao = some ⟨k, 0, none⟩) (fun _ _ e => e.elim)).trans h12 (fun _ _ e => e)
  have hb2 := blk_only hp.1 h02 hp.2.2
  refine ⟨fun k => k = b ∨ ao' = some ⟨k, 0, none⟩, ⟨ao', cap', ⟨?_, ?_, hgb⟩, fun k => Iff.rfl⟩, (h02.mono (G := F) (fun k _ e => (hf k).2 (.inr e))).trans (only_set b 0 _) (fun k _ e => (hf k).2 (.inl e)), fun k hk => ?_⟩
  · have := blk_set hb2 0 (.slice ao' (bs ++ x).length cap')
    simpa using this
  · rw [← bytesV_append] at hg
    exact hg.only (only_set b 0 _) (fun g e1 e2 => hgb (by rw [e1, e2]))
  · rcases hk with e | e
    · exact .inl ((hf k).2 (.inl e))
    · rcases ha with e1 | e1
      · exact .inl ((hf k).2 (.inr (by rw [← e1]; exact e)))
      · rw [e1] at e; simp only [Option.some.injEq, Addr.mk.injEq, and_true] at e; exact .inr (by omega)
theorem WStep.comp {w0 : World} {F1 : Nat → Prop} (ho : Only F w0 w) (hF : ∀ k, F1 k → F k ∨ w0.heap.size ≤ k) (h : WStep w w2 b F1 bs) : WStep w0 w2 b F bs := by
  obtain ⟨F2, g1, g2, g3⟩ := h
  refine ⟨F2, g1, ho.trans g2 (fun k hk hf => (hF k hf).resolve_right (by omega)), fun k hk => ?_⟩
  rcases g3 k hk with e | e
  · exact hF k e
  · have := ho.size; exact .inr (by omega)
theorem wr_fin2 {w0 : World} {F1 : Nat → Prop} {ao ao' : Option Addr} {cap cap' n' : Nat} {x : List UInt8} (hp : WrP w b ao cap bs) (hf : ∀ k, F1 k ↔ k = b ∨ ao = some ⟨k, 0, none⟩) (ho : Only F w0 w) (hF : ∀ k, F1 k → F k ∨ w0.heap.size ≤ k) (h01 : Only (fun _ => False) w w1)
    (hg : Gr w2 5 1 ao' n' cap' (bytesV bs ++ bytesV x)) (ha : ao' = ao ∨ ao' = some ⟨w1.heap.size, 0, none⟩) (h12 : Only (fun k => ao = some ⟨k, 0, none⟩) w1 w2) :
    WStep w0 (w2.setCell ⟨b, 0, none⟩ (.slice ao' n' cap')) b F (bs ++ x) :=
  (wr_fin hp hf h01 hg ha h12).comp ho hF
end

/-- A slice of numbers, all of whose blocks are of G. -/
def NumsV (w : World) (G : Nat → Prop) (v : Value) (ns : List Nat) : Prop :=
  ∃ a c, v = .slice a ns.length c ∧ ns.length ≤ 1000000 ∧ ∀ (i n : Nat), ns[i]? = some n → n < 18446744073709551616 ∧ ∃ g o, a = some ⟨g, o, none⟩ ∧ G g ∧ w.cell? ⟨g, o + i, none⟩ = some (.int .u64 n)
theorem numF_len : ∀ (k n : Nat), (numF k n).length ≤ k + 1
  | 0, _ => by simp [numF]
  | k + 1, n => by rw [numF]; have := numF_len k (n / 128); split <;> simp; omega
theorem numB_len (n : Nat) : (numB n).length ≤ 10 := numF_len 9 n
theorem flat_num_len : ∀ ns : List Nat, (ns.flatMap numB).length ≤ 10 * ns.length
  | [] => by simp
  | n :: ns => by rw [List.flatMap_cons, List.length_append, List.length_cons]; have := numB_len n; have := flat_num_len ns; omega
theorem or128 (n : Nat) : n % 256 ||| 128 = n % 128 + 128 := by
  have h1 : n % 256 = n % 128 ∨ n % 256 = n % 128 + 128 := by omega
  have h0 : ∀ x : Fin 128, (x.val ||| 128 = x.val + 128) ∧ ((x.val + 128) ||| 128 = x.val + 128) := by decide
  have := h0 ⟨n % 128, by omega⟩
  rcases h1 with e | e
  · rw [e]; exact this.1
  · rw [e]; exact this.2
theorem flat_take_succ {ns : List Nat} {i n : Nat} (h : ns[i]? = some n) : (ns.take (i + 1)).flatMap numB = (ns.take i).flatMap numB ++ numB n := by
  rw [List.take_add_one, h, List.flatMap_append]; simp

section
variable {w : World} {b : Nat} {F G : Nat → Prop} {bs : List UInt8}
set_option maxRecDepth 100000 in
theorem wlen_c (h : Wr w b F bs) : Calls Tryz.prog 20 #[.pointer (some ⟨b, 0, none⟩)] w fun e w' => e = .returned (.int .i64 bs.length) ∧ w = w' := by
  obtain ⟨ao, cap, hp, hf⟩ := h
  have h0 : w.cell? ⟨b, 0, none⟩ = some (.slice ao bs.length cap) := cell_blk hp.1 0
  clear hp hf
  go_enter Tryz.func20, Tryz.ntmps20
  go_wp2
  go_ret
  exact ⟨rfl, rfl⟩
/-- New bytes: a row of their own. -/
def NewB (w w' : World) (v : Value) (l : List UInt8) : Prop := ∃ ao cap, v = .slice ao l.length cap ∧ Gr w' 5 1 ao l.length cap (bytesV l) ∧ (∀ g, ao = some ⟨g, 0, none⟩ → w.heap.size ≤ g) ∧ Only (fun _ => False) w w'
set_option maxRecDepth 100000 in
theorem wbytes_c (h : Wr w b F bs) (hl : bs.length ≤ 1000000000) : Calls Tryz.prog 22 #[.pointer (some ⟨b, 0, none⟩)] w fun e w' => ∃ v, e = .returned v ∧ NewB w w' v bs := by
  obtain ⟨ao, cap, hp, hf⟩ := h
  have hbw := blk_lt hp.1
  have h0 : w.cell? ⟨b, 0, none⟩ = some (.slice ao bs.length cap) := cell_blk hp.1 0
  have HP := hid hp
  clear hp hf
  have hsrc : Src (w.alloc (.cells #[] 5)) (.slice ao bs.length cap) bs := (HP.out.2.1.only (only_new w (.cells #[] 5)) (fun _ _ e => e)).src
  obtain ⟨a1, c1, e1, hg⟩ := hsrc.g
  simp only [Value.slice.injEq, true_and] at e1
  obtain ⟨rfl, rfl⟩ := e1
  have HG := hid hg
  clear hsrc hg
  have HE : Hid (Gr (w.alloc (.cells #[] 5)) 5 1 (some ⟨w.heap.size, 0, none⟩) 0 0 []) := hid ⟨rfl, Nat.le_refl _, .inr ⟨_, rfl, [], blk_new w _, rfl⟩⟩
  go_enter Tryz.func22, Tryz.ntmps22
  go_wp2_with ((refine wpList_gr rfl el8 (.tmp 3) (.tmp 7) rfl HE.out rfl ao bs.length cap rfl (bytesV bs) HG.out (by omega) (by omega) ?_); intro ao' cap' w' hg' ha' ho')
  go_ret
  rw [Nat.zero_add, List.nil_append] at hg'
  refine ⟨_, rfl, ao', cap', rfl, hg', fun g e => ?_, (only_new w (.cells #[] 5)).trans ho' (fun k hk e => ?_)⟩
  · rcases ha' with e2 | e2
    · rw [e2] at e; simp only [Option.some.injEq, Addr.mk.injEq, and_true] at e; omega
    · rw [e2] at e; simp only [Option.some.injEq, Addr.mk.injEq, and_true, World.size_alloc] at e; omega
  · simp only [Option.some.injEq, Addr.mk.injEq, and_true] at e; omega
set_option maxRecDepth 100000 in
/-- Byte(list...). -/
theorem wbyte_c (h : Wr w b F bs) (v : Value) (l : List UInt8) (hs : Src w v l) (hl : bs.length + l.length ≤ 1000000000) : Calls Tryz.prog 40 #[.pointer (some ⟨b, 0, none⟩), v] w fun e w' => e = .returned (.tuple #[]) ∧ WStep w w' b F (bs ++ l) := by
  obtain ⟨ao, cap, hp, hf⟩ := h
  have h0 : w.cell? ⟨b, 0, none⟩ = some (.slice ao bs.length cap) := cell_blk hp.1 0
  have hz := frozen_blk hp.1
  have HP := hid hp; have HF := hid hf
  obtain ⟨ax, cx, rfl, hg⟩ := hs.g
  have HG := hid hg
  clear hp hf hs hg
  go_enter Tryz.func40, Tryz.ntmps40
  go_wp2_with ((refine wpList_gr rfl el8 (.tmp 8) (.tmp 9) rfl HP.out.2.1 rfl ax l.length cx rfl (bytesV l) HG.out (by omega) (by omega) ?_); intro ao' cap' w' hg' ha' ho'; have hb' := blk_only HP.out.1 ho' HP.out.2.2; have hc' := cell_blk hb' 0; have hz' := frozen_blk hb'; have Hg := hid hg'; have Ha := hid ha'; have Ho := hid ho'; clear hg' ha' ho' hb')
  go_end0
  exact ⟨rfl, wr_fin HP.out HF.out (Only.refl _ _) Hg.out Ha.out Ho.out⟩

set_option maxRecDepth 100000 in
set_option maxHeartbeats 1600000 in
theorem wnum_c (h : Wr w b F bs) (v : Value) (ns : List Nat) (hv : NumsV w G v ns) (hd : ∀ k, G k → ¬ F k) (hl : bs.length + 10 * ns.length ≤ 1000000000) :
    Calls Tryz.prog 43 #[.pointer (some ⟨b, 0, none⟩), v] w fun e w' => e = .returned (.tuple #[]) ∧ WStep w w' b F (bs ++ ns.flatMap numB) := by
  obtain ⟨a, c, rfl, hnl, hns⟩ := hv
  have HN := hid hns
  have HW := hid h
  have HD := hid hd
  clear hns h hd
  go_enter Tryz.func43, Tryz.ntmps43
  go_wp2_with fail
  go_loopw [8, 5] (fun i _ wr => ∃ k : Nat, i = .int .i64 k ∧ k ≤ ns.length ∧ WStep w wr b F (bs ++ (ns.take k).flatMap numB)) (fun i _ _ => ns.length - (intOf i).toNat)
  case atStart => exact ⟨0, rfl, Nat.zero_le _, by simpa using HW.out.step⟩
  case round =>
    obtain ⟨k, rfl, hk, hst⟩ := hrel
    have HS := hid hst
    clear hst
    by_cases hkl : k < ns.length
    · have hki : (k : Int) < ns.length := by omega
      obtain ⟨n, hn⟩ : ∃ n, ns[k]? = some n := ⟨_, List.getElem?_eq_getElem hkl⟩
      obtain ⟨hnlt, g, o, rfl, hgG, hcell⟩ := HN.out k n hn
      have hcw : wr.cell? ⟨g, o + k, none⟩ = some (.int .u64 n) := by
        obtain ⟨F', -, ho, -⟩ := HS.out
        exact (World.cell?_of_block (ho.block g (World.block_lt_of_cell? _ _ hcell) (HD.out g hgG))).trans hcell
      have Hfl := hid (flat_take_succ hn)
      have hll := flat_num_len (ns.take k)
      rw [List.length_take, Nat.min_eq_left hk] at hll
      clear hcell hn hgG
      go_wp2_with fail
      obtain ⟨pre0, hpre0⟩ : ∃ p, bs ++ (ns.take k).flatMap numB = p := ⟨_, rfl⟩
      rw [hpre0] at HS
      have hpl : pre0.length ≤ bs.length + 10 * k := by rw [← hpre0, List.length_append]; omega
      have Hpre := hid hpre0
      clear hpre0
      obtain ⟨wo, rfl⟩ : ∃ wo : World, wo = wr := ⟨_, rfl⟩
      clear hcw
      go_loopw [5] (fun x wq => ∃ (f m : Nat) (p : List UInt8), x = .int .u64 m ∧ p ++ numF f m = numB n ∧ m < 2 ^ (7 * f + 1) ∧ m < 18446744073709551616 ∧ WStep w wq b F (pre0 ++ p)) (fun x _ => (intOf x).toNat)
      case atStart => exact ⟨9, n, [], rfl, rfl, by omega, hnlt, by simpa using HS.out⟩
      case round =>
        obtain ⟨f, m, p, rfl, hp, hm1, hm2, hst⟩ := hrel
        have hnb := numB_len n
        rw [← hp, List.length_append] at hnb
        have hfp := numF_pos f m
        have hlp : (pre0 ++ p).length ≤ 1000000000 := by rw [List.length_append]; omega
        obtain ⟨q, hq⟩ : ∃ q, pre0 ++ p = q := ⟨_, rfl⟩
        rw [hq] at hst hlp
        have Hq := hid hq
        obtain ⟨F1, hw1, ho1, hF1⟩ := hst
        obtain ⟨ao, cap, hP, hF⟩ := hw1
        have h0 : wr.cell? ⟨b, 0, none⟩ = some (.slice ao q.length cap) := cell_blk hP.1 0
        have hz := frozen_blk hP.1
        have hbw := blk_lt hP.1
        have HP := hid hP; have HF := hid hF; have HO := hid ho1; have HF1 := hid hF1; have Hp := hid hp; have Hm1 := hid hm1
        clear hP hF ho1 hF1 hp hm1 hq
        by_cases h128 : 128 ≤ m
        · have hmi : 128 ≤ (m : Int) := by omega
          have hor : bits .or .u8 ((m : Int) % 256) 128 = ((m % 128 + 128 : Nat) : Int) := by
            have := u8_or_nat (m % 256) 128 (by omega) (by omega)
            rw [or128] at this
            rw [← this]; congr 1
          obtain ⟨y, hy⟩ : ∃ y, m % 128 + 128 = y := ⟨_, rfl⟩
          rw [hy] at hor
          have HG : Hid (SrcG (wr.alloc (.cells #[.int .u8 y] 5)) (some ⟨wr.heap.size, 0, none⟩) 1 1 (bytesV [UInt8.ofNat y])) := hid (SrcG.new (T := 5) (fr := (0, 0)) (by rw [blk_new]; simp [bytesV]; omega) (by simp) (oneCell_bytesV _))
          have HR : Hid (Gr (wr.alloc (.cells #[.int .u8 y] 5)) 5 1 ao q.length cap (bytesV q)) := hid (HP.out.2.1.only (only_new wr _) (fun _ _ e => e))
          have Hy := hid hy
          clear hy
          go_wp2_with ((refine wpList_gr rfl el8 (.tmp 18) (.tmp 22) rfl HR.out rfl _ 1 1 rfl _ HG.out (by omega) (by omega) ?_); intro ao' cap' w' hg' ha' ho'; have hb' := blk_only (blk_alloc HP.out.1) ho' HP.out.2.2; have hc' := cell_blk hb' 0; have hz' := frozen_blk hb'; have Hg := hid hg'; have Ha := hid ha'; have Ho := hid ho'; clear hg' ha' ho' hb')
          go_roundw
          case rel =>
            obtain ⟨f', rfl⟩ : ∃ f', f = f' + 1 := by
              cases f with
              | zero => have := Hm1.out; simp at this; omega
              | succ f' => exact ⟨f', rfl⟩
            refine ⟨f', m / 128, p ++ [UInt8.ofNat y], by go_num, ?_, ?_, by omega, ?_⟩
            · rw [← Hp.out, numF, if_neg (by omega), List.append_assoc, ← Hy.out]; rfl
            · have := Hm1.out
              rw [show 7 * (f' + 1) + 1 = (7 * f' + 1) + 7 from by omega, Nat.pow_add] at this
              exact Nat.div_lt_of_lt_mul (by rw [Nat.mul_comm]; exact this)
            · rw [← List.append_assoc, Hq.out]
              exact wr_fin2 HP.out HF.out HO.out HF1.out (only_new wr _) Hg.out Ha.out Ho.out
          case measure => simp [intOf]; omega
        · have hmi : (m : Int) < 128 := by omega
          have HG : Hid (SrcG (wr.alloc (.cells #[.int .u8 m] 5)) (some ⟨wr.heap.size, 0, none⟩) 1 1 (bytesV [UInt8.ofNat m])) := hid (SrcG.new (T := 5) (fr := (0, 0)) (by rw [blk_new]; simp [bytesV]; omega) (by simp) (oneCell_bytesV _))
          have HR : Hid (Gr (wr.alloc (.cells #[.int .u8 m] 5)) 5 1 ao q.length cap (bytesV q)) := hid (HP.out.2.1.only (only_new wr _) (fun _ _ e => e))
          go_wp2_with ((refine wpList_gr rfl el8 (.tmp 32) (.tmp 35) rfl HR.out rfl _ 1 1 rfl _ HG.out (by omega) (by omega) ?_); intro ao' cap' w' hg' ha' ho'; have hb' := blk_only (blk_alloc HP.out.1) ho' HP.out.2.2; have hc' := cell_blk hb' 0; have hz' := frozen_blk hb'; have Hg := hid hg'; have Ha := hid ha'; have Ho := hid ho'; clear hg' ha' ho' hb')
          go_roundw
          case rel =>
            refine ⟨k + 1, by go_num, by omega, ?_⟩
            have hx : numB n = p ++ [UInt8.ofNat m] := by
              rw [← Hp.out]
              cases f with
              | zero => rfl
              | succ f' => rw [numF, if_pos (by omega)]
            rw [Hfl.out, ← List.append_assoc, Hpre.out, hx, ← List.append_assoc, Hq.out]
            exact wr_fin2 HP.out HF.out HO.out HF1.out (only_new wr _) Hg.out Ha.out Ho.out
          case measure => simp [intOf]; omega
    · obtain rfl : k = ns.length := by omega
      go_wp2_with fail
      go_end0
      have := HS.out
      rw [List.take_length] at this
      exact ⟨rfl, this⟩

theorem xor_ones (a : Nat) (h : a < 18446744073709551616) : a ^^^ 18446744073709551615 = 18446744073709551615 - a := by
  have h1 : (BitVec.ofNat 64 a ^^^ BitVec.allOnes 64).toNat = a ^^^ 18446744073709551615 := by
    rw [BitVec.toNat_xor, BitVec.toNat_ofNat, BitVec.toNat_allOnes, Nat.mod_eq_of_lt (by omega)]
  have h2 : BitVec.ofNat 64 a ^^^ BitVec.allOnes 64 = ~~~(BitVec.ofNat 64 a) := by rw [BitVec.not_def, BitVec.xor_comm]
  rw [← h1, h2, BitVec.toNat_not, BitVec.toNat_ofNat, Nat.mod_eq_of_lt (by omega)]
theorem zig_neg (n : Int) (h1 : -9223372036854775808 ≤ n) (h2 : n < 0) : bits .xor .u64 (IntKind.u64.wrap (IntKind.u64.wrap n * 2)) (IntKind.u64.wrap (-1)) = ((zigN n : Nat) : Int) := by
  have e1 : IntKind.u64.wrap (IntKind.u64.wrap n * 2) = ((18446744073709551616 + 2 * n).toNat : Nat) := by
    rw [IntKind.wrap_u64, IntKind.wrap_u64]; omega
  have e2 : IntKind.u64.wrap (-1) = ((18446744073709551615 : Nat) : Int) := by rw [IntKind.wrap_u64]; rfl
  rw [e1, e2, u64_xor_nat _ _ (by omega) (by omega), xor_ones _ (by omega)]
  unfold zigN; rw [if_neg (by omega)]; omega
theorem i64_xor0 (m : Nat) (h : m < 9223372036854775808) : bits .xor .i64 (m : Int) 0 = (m : Int) := by
  show IntKind.i64.wrap ((BitVec.ofInt 64 (m : Int) ^^^ BitVec.ofInt 64 0).toNat : Int) = _
  have e : BitVec.ofInt 64 (m : Int) ^^^ BitVec.ofInt 64 0 = BitVec.ofNat 64 m := by rw [BitVec.ofInt_natCast]; simp
  rw [e, BitVec.toNat_ofNat, Nat.mod_eq_of_lt (by omega)]
  exact IntWalk.i64_in _ (by omega)
theorem i64_xor1 (m : Nat) (h : m < 9223372036854775808) : bits .xor .i64 (m : Int) (-1) = -(m : Int) - 1 := by
  show IntKind.i64.wrap ((BitVec.ofInt 64 (m : Int) ^^^ BitVec.ofInt 64 (-1)).toNat : Int) = _
  have e : BitVec.ofInt 64 (m : Int) ^^^ BitVec.ofInt 64 (-1) = ~~~(BitVec.ofNat 64 m) := by
    rw [BitVec.ofInt_natCast, show BitVec.ofInt 64 (-1) = BitVec.allOnes 64 from by decide, BitVec.not_def, BitVec.xor_comm]
  rw [e, BitVec.toNat_not, BitVec.toNat_ofNat, Nat.mod_eq_of_lt (by omega)]
  rw [IntKind.wrap_i64]
  omega
set_option maxRecDepth 100000 in
theorem zig_c (n : Int) (h1 : -9223372036854775808 ≤ n) (h2 : n ≤ 9223372036854775807) : Calls Tryz.prog 61 #[.int .i64 n] w fun e w' => e = .returned (.int .u64 (zigN n : Nat)) ∧ w = w' := by
  by_cases h0 : 0 ≤ n
  · have hs : n / 9223372036854775808 = 0 := by omega
    have hx : bits .xor .u64 (n * 2) 0 = ((zigN n : Nat) : Int) := by
      have := u64_xor_nat (2 * n).toNat 0 (by omega) (by omega)
      rw [Nat.xor_zero] at this
      rw [show n * 2 = (((2 * n).toNat : Nat) : Int) from by omega]
      unfold zigN; rw [if_pos h0]; exact this
    go_enter Tryz.func61, Tryz.ntmps61
    go_wp2
    go_ret
    exact ⟨rfl, rfl⟩
  · have hs : n / 9223372036854775808 = -1 := by omega
    go_enter Tryz.func61, Tryz.ntmps61
    go_wp2
    go_ret
    exact ⟨by rw [zig_neg n h1 (by omega)]; rfl, rfl⟩
set_option maxRecDepth 100000 in
theorem zag_c (n : Nat) (h : n < 18446744073709551616) : Calls Tryz.prog 82 #[.int .u64 n] w fun e w' => e = .returned (.int .i64 (zagN n)) ∧ w = w' := by
  have hand : bits .and .u64 (n : Nat) 1 = ((n % 2 : Nat) : Int) := (u64_and_nat n 1 h (by decide)).trans (by rw [Nat.and_one_is_mod])
  by_cases h0 : n % 2 = 0
  · rw [h0] at hand
    go_enter Tryz.func82, Tryz.ntmps82
    go_wp2
    go_ret
    exact ⟨by rw [show (n : Int) / 2 = ((n / 2 : Nat) : Int) from by omega, i64_xor0 _ (by omega)]; unfold zagN; rw [if_pos h0]; rfl, rfl⟩
  · rw [show n % 2 = 1 from by omega] at hand
    go_enter Tryz.func82, Tryz.ntmps82
    go_wp2
    go_ret
    exact ⟨by rw [show (n : Int) / 2 = ((n / 2 : Nat) : Int) from by omega, i64_xor1 _ (by omega)]; unfold zagN; rw [if_neg h0]; rfl, rfl⟩

theorem numsV_one {w : World} {g n : Nat} {G : Nat → Prop} {T : TypeId} {fr : Nat × Nat} (h : w.heap[g]? = some (.cells #[.int .u64 n] T fr)) (hn : n < 18446744073709551616) (hG : G g) : NumsV w G (.slice (some ⟨g, 0, none⟩) 1 1) [n] := by
  refine ⟨_, 1, rfl, by simp, fun i m hi => ?_⟩
  match i with
  | 0 =>
    simp only [List.getElem?_cons_zero, Option.some.injEq] at hi
    subst hi
    exact ⟨hn, g, 0, rfl, hG, cell_blk h 0⟩
  | i + 1 => simp at hi
theorem numsV_two {w : World} {g n m : Nat} {G : Nat → Prop} {T : TypeId} {fr : Nat × Nat} (h : w.heap[g]? = some (.cells #[.int .u64 n, .int .u64 m] T fr)) (hn : n < 18446744073709551616) (hm : m < 18446744073709551616) (hG : G g) : NumsV w G (.slice (some ⟨g, 0, none⟩) 2 2) [n, m] := by
  refine ⟨_, 2, rfl, by simp, fun i x hi => ?_⟩
  match i with
  | 0 =>
    simp only [List.getElem?_cons_zero, Option.some.injEq] at hi
    subst hi
    exact ⟨hn, g, 0, rfl, hG, cell_blk h 0⟩
  | 1 =>
    simp only [List.getElem?_cons_zero, List.getElem?_cons_succ, Option.some.injEq] at hi
    subst hi
    exact ⟨hm, g, 0, rfl, hG, cell_blk h 1⟩
  | i + 2 => simp at hi
/-- Num of one number. -/
theorem wnum1_c {w0 w : World} {b : Nat} {F : Nat → Prop} {bs : List UInt8} (h : Wr w0 b F bs) (n : Nat) (hn : n < 18446744073709551616) (hl : bs.length ≤ 999999000) (hw : w = w0.alloc (.cells #[.int .u64 n] 70)) :
    Calls Tryz.prog 43 #[.pointer (some ⟨b, 0, none⟩), .slice (some ⟨w0.heap.size, 0, none⟩) 1 1] w fun e w' => e = .returned (.tuple #[]) ∧ WStep w0 w' b F (bs ++ numB n) := by
  subst hw
  refine (wnum_c (h.same (only_new w0 _)) _ [n] (numsV_one (G := fun k => k = w0.heap.size) (blk_new w0 _) hn rfl) (fun k hk hf => ?_) (by simp; omega)).mono fun e w' hh => ⟨hh.1, ?_⟩
  · have := h.lt hf
    have hk' : k = w0.heap.size := hk
    omega
  · have := hh.2
    simp only [List.flatMap_cons, List.flatMap_nil, List.append_nil] at this
    exact this.pre (only_new w0 _) (fun k hk => h.lt hk)
set_option maxRecDepth 100000 in
set_option maxHeartbeats 800000 in
/-- Int of one number. -/
theorem wint_c (h : Wr w b F bs) (g : Nat) (n : Int) (hg : w.cell? ⟨g, 0, none⟩ = some (.int .i64 n)) (hgF : ¬ F g) (h1 : -9223372036854775808 ≤ n) (h2 : n ≤ 9223372036854775807) (hl : bs.length ≤ 999999000) :
    Calls Tryz.prog 41 #[.pointer (some ⟨b, 0, none⟩), .slice (some ⟨g, 0, none⟩) 1 1] w fun e w' => e = .returned (.tuple #[]) ∧ WStep w w' b F (bs ++ numB (zigN n)) := by
  have HW := hid h
  have hgw := World.block_lt_of_cell? _ _ hg
  have hzl := zigN_lt h1 h2
  have HG := hid hg
  clear h hg
  go_enter Tryz.func41, Tryz.ntmps41
  go_wp2_with fail
  go_loopw [8, 5] (fun i _ wr => (i = .int .i64 0 ∧ WStep w wr b F bs) ∨ (i = .int .i64 1 ∧ WStep w wr b F (bs ++ numB (zigN n)))) (fun i _ _ => 1 - (intOf i).toNat)
  case atStart => exact .inl ⟨rfl, HW.out.step⟩
  case round =>
    rcases hrel with ⟨rfl, hst⟩ | ⟨rfl, hst⟩
    · have hc : wr.cell? ⟨g, 0, none⟩ = some (.int .i64 n) := by
        obtain ⟨F', -, ho, -⟩ := hst
        exact (World.cell?_of_block (ho.block g hgw hgF)).trans HG.out
      have HS := hid hst
      clear hst
      obtain ⟨y, hy⟩ : ∃ y, zigN n = y := ⟨_, rfl⟩
      have HZ := fun w1 => hid (zig_c (w := w1) n h1 h2)
      rw [hy] at hzl
      simp only [hy] at HZ
      rw [hy]
      clear hy
      obtain ⟨F1, hw1, ho1, hF1⟩ := HS.out
      have HN := hid (wnum1_c (w := wr.alloc (.cells #[.int .u64 y] 70)) hw1 y hzl hl rfl)
      have HO := hid ho1; have HF1 := hid hF1; have HW1 := hid hw1
      clear ho1 hF1 hw1
      go_wp2_with (first | (go_at_call 61; refine (HZ _).out.mono ?_; rintro e w1 ⟨rfl, rfl⟩) | (go_at_call 43; refine HN.out.mono ?_; rintro e w1 ⟨rfl, hst⟩; have HST := hid hst; clear hst))
      go_roundw
      case rel => exact .inr ⟨rfl, HST.out.comp HO.out HF1.out⟩
      case measure => simp [intOf]
    · go_wp2_with fail
      go_end0
      exact ⟨rfl, hst⟩

set_option maxRecDepth 100000 in
theorem wtext_c (h : Wr w b F bs) (l : List UInt8) (hl : bs.length + l.length ≤ 999990000) :
    Calls Tryz.prog 42 #[.pointer (some ⟨b, 0, none⟩), .string (strOf l)] w fun e w' => e = .returned (.tuple #[]) ∧ WStep w w' b F (bs ++ textB l) := by
  have HW := hid h
  have hsz : (strOf l).size = l.length := rfl
  have HN := hid (wnum1_c (w := w.alloc (.cells #[.int .u64 l.length] 70)) h l.length (by omega) (by omega) rfl)
  have hnl := numB_len l.length
  clear h
  go_enter Tryz.func42, Tryz.ntmps42
  go_wp2_with fail
  refine HN.out.mono ?_
  rintro e w1 ⟨rfl, F1, ⟨ao, cap, hP, hF⟩, ho, hF1⟩
  obtain ⟨q, hq⟩ : ∃ q, bs ++ numB l.length = q := ⟨_, rfl⟩
  have hql : q.length ≤ bs.length + 10 := by rw [← hq, List.length_append]; omega
  rw [hq] at hP
  have Hq := hid hq
  have h0 : w1.cell? ⟨b, 0, none⟩ = some (.slice ao q.length cap) := cell_blk hP.1 0
  have hz := frozen_blk hP.1
  have HP := hid hP; have HF := hid hF; have HO := hid ho; have HF1 := hid hF1
  clear hP hF ho hF1 hq
  go_wp2_with ((refine wpList_grS rfl el8 Tryz.underlying9 (.tmp 14) (.tmp 15) rfl l (by kernel_rfl) HP.out.2.1 rfl rfl (by omega) ?_); intro ao' cap' w' hg' ha' ho'; have hb' := blk_only HP.out.1 ho' HP.out.2.2; have hc' := cell_blk hb' 0; have hz' := frozen_blk hb'; have Hg := hid hg'; have Ha := hid ha'; have Ho := hid ho'; clear hg' ha' ho' hb')
  go_end0
  refine ⟨rfl, ?_⟩
  have := wr_fin2 HP.out HF.out HO.out HF1.out (Only.refl _ _) Hg.out Ha.out Ho.out
  have e : bs ++ textB l = q ++ l := by rw [← Hq.out, List.append_assoc]; rfl
  rw [e]; exact this

end
end Go.Proofs.YtokefeemhgcmhaaGreatDoor
