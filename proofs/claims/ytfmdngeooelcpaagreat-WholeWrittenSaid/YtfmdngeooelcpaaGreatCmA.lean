/- How a command lies in memory; command.fields, Name, Ends. -/
import Derived.Test.YtfmdngeooelcpaaGreatEvA
import Derived.Test.YtfmdngeooelcpaaGreatCmE
import Derived.Test.YtfmdngeooelcpaaGreatWhole
namespace Go.Proofs.YtfmdngeooelcpaaGreat
open Go.RowKit

/-- The cells of a command, but for its value's. -/
def EM.ccells (e : EM) (vc : List Value) : List Value := [.int .i64 e.k, .int .i64 e.tm, .int .i64 e.a, .int .i64 e.b, .string (strOf e.name)] ++ vc
/-- Nine cells read as a command. -/
def CAt (w : World) (G : Nat → Prop) (e : EM) (cs : List Value) : Prop := ∃ vc, cs = e.ccells vc ∧ VAt w G e.v vc
/-- Which fields a kind of command has. -/
def fA (k : Int) : Bool := k == 1 || k == 2 || k == 3
def fB (k : Int) : Bool := k == 1 || k == 3
def fN (k : Int) : Bool := k == 3 || k == 5
def fV (k : Int) : Bool := k == 3 || k == 4 || k == 6
def fK (k : Int) : Bool := decide (1 ≤ k ∧ k ≤ 6)
theorem c_k7 (k : Int) : k = 1 ∨ k = 2 ∨ k = 3 ∨ k = 4 ∨ k = 5 ∨ k = 6 ∨ ¬ (1 ≤ k ∧ k ≤ 6) := by omega
theorem fK_name (k : Int) : cName k = [] ↔ fK k = false := by
  unfold fK
  constructor
  · intro h; exact decide_eq_false (fun g => cName_ne g h)
  · intro h; unfold cName; rw [if_neg (of_decide_eq_false h)]

theorem fA_mem (k : Int) : 65 ∉ cFlds k ↔ fA k = false := by
  rcases c_k7 k with rfl | rfl | rfl | rfl | rfl | rfl | h
  all_goals try decide
  unfold cFlds fA
  rw [if_neg h]
  constructor
  · intro _
    simp only [Bool.or_eq_false_iff, beq_eq_false_iff_ne]
    omega
  · intro _; simp
theorem fB_mem (k : Int) : 66 ∉ cFlds k ↔ fB k = false := by
  rcases c_k7 k with rfl | rfl | rfl | rfl | rfl | rfl | h
  all_goals try decide
  unfold cFlds fB
  rw [if_neg h]
  constructor
  · intro _
    simp only [Bool.or_eq_false_iff, beq_eq_false_iff_ne]
    omega
  · intro _; simp
theorem fN_mem (k : Int) : 78 ∉ cFlds k ↔ fN k = false := by
  rcases c_k7 k with rfl | rfl | rfl | rfl | rfl | rfl | h
  all_goals try decide
  unfold cFlds fN
  rw [if_neg h]
  constructor
  · intro _
    simp only [Bool.or_eq_false_iff, beq_eq_false_iff_ne]
    omega
  · intro _; simp
theorem fV_mem (k : Int) : 86 ∉ cFlds k ↔ fV k = false := by
  rcases c_k7 k with rfl | rfl | rfl | rfl | rfl | rfl | h
  all_goals try decide
  unfold cFlds fV
  rw [if_neg h]
  constructor
  · intro _
    simp only [Bool.or_eq_false_iff, beq_eq_false_iff_ne]
    omega
  · intro _; simp
section
variable {w w' : World} {G F : Nat → Prop} {e : EM} {cs : List Value}
theorem CAt.only (h : CAt w G e cs) (ho : Only F w w') (hd : ∀ k, G k → ¬ F k) : CAt w' G e cs := let ⟨vc, h1, h2⟩ := h; ⟨vc, h1, h2.only ho hd⟩
theorem CAt.same (h : CAt w G e cs) (ho : Only (fun _ => False) w w') : CAt w' G e cs := h.only ho (fun _ _ e => e)
theorem CAt.mono {G' : Nat → Prop} (h : CAt w G e cs) (hd : ∀ k, G k → G' k) : CAt w G' e cs := let ⟨vc, h1, h2⟩ := h; ⟨vc, h1, h2.mono hd⟩
theorem CAt.form (h : CAt w G e cs) : ∃ k n s a m c, cs = [.int .i64 e.k, .int .i64 e.tm, .int .i64 e.a, .int .i64 e.b, .string (strOf e.name), .int .i64 k, .int .i64 n, .string (strOf s), .slice a m c] ∧ VAt w G e.v [.int .i64 k, .int .i64 n, .string (strOf s), .slice a m c] := by
  obtain ⟨vc, h1, h2⟩ := h
  obtain ⟨k, n, s, a, m, c, rfl⟩ := h2.form
  exact ⟨k, n, s, a, m, c, h1, h2⟩
theorem CAt.len (h : CAt w G e cs) : cs.length = 9 := by obtain ⟨k, n, s, a, m, c, rfl, -⟩ := h.form; rfl
theorem CAt.one (h : CAt w G e cs) : ∀ u ∈ cs, u.oneCell' = true := by
  obtain ⟨k, n, s, a, m, c, rfl, -⟩ := h.form
  intro u hu
  simp only [List.mem_cons, List.not_mem_nil, or_false] at hu
  rcases hu with rfl | rfl | rfl | rfl | rfl | rfl | rfl | rfl | rfl <;> rfl
end
section
variable {w : World} {G : Nat → Prop} {e : EM} {cs : List Value}
theorem info_fd : (Tryz.prog.info? 93).map (·.size) = some 4 := by kernel_rfl
set_option maxRecDepth 100000 in
theorem fields_c (k : Int) : Calls Tryz.prog 27 #[.int .i64 k] w fun x w' => x = .returned (.tuple #[.agg #[.bool (fA k), .bool (fB k), .bool (fN k), .bool (fV k)], .bool (fK k)]) ∧ Only (fun _ => False) w w' := by
  rcases c_k7 k with rfl | rfl | rfl | rfl | rfl | rfl | h
  case inr.inr.inr.inr.inr.inr =>
    have b1 : (k == 1) = false := by simp; omega
    have b2 : (k == 2) = false := by simp; omega
    have b3 : (k == 3) = false := by simp; omega
    have b4 : (k == 4) = false := by simp; omega
    have b5 : (k == 5) = false := by simp; omega
    have b6 : (k == 6) = false := by simp; omega
    have HF : Hid (fA k = false ∧ fB k = false ∧ fN k = false ∧ fV k = false ∧ fK k = false) := hid (by unfold fA fB fN fV fK; rw [b1, b2, b3, b4, b5, b6]; exact ⟨rfl, rfl, rfl, rfl, decide_eq_false h⟩)
    clear h
    go_enter Tryz.func27, Tryz.ntmps27
    go_wp2_with fail
    refine bodyPost_ret (results_cell1 rfl _ _ w.heap.size 93 #[.bool false, .bool false, .bool false, .bool false] (0, 0) _ rfl (blk_new w _) Tryz.underlying93 rfl info_fd) rfl ?_
    obtain ⟨h1, h2, h3, h4, h5⟩ := HF.out
    rw [h1, h2, h3, h4, h5]
    exact ⟨rfl, only_new _ _⟩
  all_goals
    go_enter Tryz.func27, Tryz.ntmps27
    go_wp2_with fail
    refine bodyPost_ret (results_cell1 rfl _ _ w.heap.size 93 _ (0, 0) _ rfl (blk_new w _) Tryz.underlying93 rfl info_fd) rfl ?_
    exact ⟨rfl, only_new _ _⟩
set_option maxRecDepth 100000 in
theorem cmends_c (hE : CAt w G e cs) : Calls Tryz.prog 17 #[.agg cs.toArray] w fun x w' => x = .returned (.bool (cEnds e.k)) ∧ Only (fun _ => False) w w' := by
  obtain ⟨vk, vn, vs, va, vm, vc, rfl, -⟩ := hE.form
  obtain ⟨id, tm, k, a, b, nn, tt, v⟩ := e
  have HO := hid (only_new w (.cells #[.int .i64 k, .int .i64 tm, .int .i64 a, .int .i64 b, .string (strOf nn), .int .i64 vk, .int .i64 vn, .string (strOf vs), .slice va vm vc] 38))
  clear hE
  simp only
  by_cases h4 : k = 4
  · subst h4
    have HF : Hid (cEnds 4 = true) := hid rfl
    go_enter Tryz.func17, Tryz.ntmps17
    go_wp2_with fail
    go_ret
    rw [HF.out]; exact ⟨rfl, HO.out⟩
  have b4 : (k == 4) = false := by simpa using h4
  by_cases h5 : k = 5
  · subst h5
    have HF : Hid (cEnds 5 = true) := hid rfl
    go_enter Tryz.func17, Tryz.ntmps17
    go_wp2_with fail
    go_ret
    rw [HF.out]; exact ⟨rfl, HO.out⟩
  have b5 : (k == 5) = false := by simpa using h5
  by_cases h6 : k = 6
  · subst h6
    have HF : Hid (cEnds 6 = true) := hid rfl
    go_enter Tryz.func17, Tryz.ntmps17
    go_wp2_with fail
    go_ret
    rw [HF.out]; exact ⟨rfl, HO.out⟩
  have b6 : (k == 6) = false := by simpa using h6
  have HF : Hid (cEnds k = false) := hid (by unfold cEnds; rw [b4, b5, b6]; rfl)
  clear h4 h5 h6
  go_enter Tryz.func17, Tryz.ntmps17
  go_wp2_with fail
  go_ret
  rw [HF.out]; exact ⟨rfl, HO.out⟩
end
end Go.Proofs.YtfmdngeooelcpaaGreat
