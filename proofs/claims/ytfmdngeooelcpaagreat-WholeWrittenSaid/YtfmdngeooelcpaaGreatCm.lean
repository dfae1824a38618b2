/- Commands: their kinds, bytes, how they are checked and read. A command is kept as an event without number and text. Plain, no program. -/
import Derived.Test.YtfmdngeooelcpaaGreatEvL
namespace Go.Proofs.YtfmdngeooelcpaaGreat

def cTab : List (List UInt8 × List UInt8) :=
  [([115, 116, 97, 114, 116, 45, 116, 105, 109, 101, 114], [65, 66]),
   ([99, 97, 110, 99, 101, 108, 45, 116, 105, 109, 101, 114], [65]),
   ([115, 99, 104, 101, 100, 117, 108, 101], [65, 66, 78, 86]),
   ([99, 111, 109, 112, 108, 101, 116, 101], [86]),
   ([102, 97, 105, 108], [78]),
   ([97, 103, 97, 105, 110], [86])]
def cName (k : Int) : List UInt8 := if 1 ≤ k ∧ k ≤ 6 then (cTab.getD (k.toNat - 1) ([], [])).1 else []
def cFlds (k : Int) : List UInt8 := if 1 ≤ k ∧ k ≤ 6 then (cTab.getD (k.toNat - 1) ([], [])).2 else []
/-- command.Check. -/
def EM.cchk (e : EM) : Int :=
  if cName e.k = [] then 9
  else if e.tm < 0 ∨ 4611686018427387903 < e.tm ∨ e.a < 0 ∨ e.b < 0 ∨ (65 ∉ cFlds e.k ∧ e.a ≠ 0) ∨ (66 ∉ cFlds e.k ∧ e.b ≠ 0) then 1
  else if 64 < e.name.length then 2
  else if (78 ∉ cFlds e.k ∧ e.name ≠ []) ∨ (86 ∉ cFlds e.k ∧ e.v.k ≠ 0) then 8
  else e.v.chk
/-- A command's bytes. -/
def EM.cwr (e : EM) : List UInt8 := UInt8.ofNat (e.k % 256).toNat :: (numB e.tm.toNat ++ (cFlds e.k).flatMap e.fb)
/-- A command: no number, no text. -/
def EM.isC (e : EM) : Prop := e.id = 0 ∧ e.text = []
structure EM.CGood (e : EM) : Prop where
  k : 1 ≤ e.k ∧ e.k ≤ 6
  tm : 0 ≤ e.tm ∧ e.tm ≤ 4611686018427387903
  a0 : 0 ≤ e.a
  b0 : 0 ≤ e.b
  aF : 65 ∉ cFlds e.k → e.a = 0
  bF : 66 ∉ cFlds e.k → e.b = 0
  nL : e.name.length ≤ 64
  nF : 78 ∉ cFlds e.k → e.name = []
  vF : 86 ∉ cFlds e.k → e.v.k = 0
  v : e.v.chk = 0
theorem cName_rng {k : Int} (h : cName k ≠ []) : 1 ≤ k ∧ k ≤ 6 := by
  unfold cName at h
  by_cases g : 1 ≤ k ∧ k ≤ 6
  · exact g
  · rw [if_neg g] at h; exact absurd rfl h
theorem cName_ne {k : Int} (h : 1 ≤ k ∧ k ≤ 6) : cName k ≠ [] := by
  obtain ⟨h1, h2⟩ := h
  have : k = 1 ∨ k = 2 ∨ k = 3 ∨ k = 4 ∨ k = 5 ∨ k = 6 := by omega
  rcases this with rfl|rfl|rfl|rfl|rfl|rfl <;> decide
theorem cchk_good {e : EM} (h : e.cchk = 0) : e.CGood := by
  unfold EM.cchk at h
  by_cases h1 : cName e.k = []
  · rw [if_pos h1] at h; simp at h
  rw [if_neg h1] at h
  by_cases h2 : e.tm < 0 ∨ 4611686018427387903 < e.tm ∨ e.a < 0 ∨ e.b < 0 ∨ (65 ∉ cFlds e.k ∧ e.a ≠ 0) ∨ (66 ∉ cFlds e.k ∧ e.b ≠ 0)
  · rw [if_pos h2] at h; simp at h
  rw [if_neg h2] at h
  by_cases h4 : 64 < e.name.length
  · rw [if_pos h4] at h; simp at h
  rw [if_neg h4] at h
  by_cases h5 : (78 ∉ cFlds e.k ∧ e.name ≠ []) ∨ (86 ∉ cFlds e.k ∧ e.v.k ≠ 0)
  · rw [if_pos h5] at h; simp at h
  rw [if_neg h5] at h
  simp only [not_or, not_and, Decidable.not_not, Int.not_lt] at h2 h5
  exact ⟨cName_rng h1, ⟨by omega, by omega⟩, h2.2.2.1, h2.2.2.2.1, h2.2.2.2.2.1, h2.2.2.2.2.2, by omega, h5.1, h5.2, h⟩
theorem cgood_chk {e : EM} (h : e.CGood) : e.cchk = 0 := by
  unfold EM.cchk
  have h1 := cName_ne h.k
  have t := h.tm
  have a := h.a0
  have b := h.b0
  rw [if_neg h1, if_neg, if_neg (by have := h.nL; omega), if_neg]
  · exact h.v
  · rintro (⟨x, y⟩ | ⟨x, y⟩)
    · exact y (h.nF x)
    · exact y (h.vF x)
  · rintro (x | x | x | x | ⟨x, y⟩ | ⟨x, y⟩)
    · omega
    · omega
    · omega
    · omega
    · exact y (h.aF x)
    · exact y (h.bF x)
theorem EM.CGood.fit {e : EM} (h : e.CGood) (hg : e.rg) (hc : e.isC) : e.Fit := by
  obtain ⟨-, -, -, ga, gb, gn, gt, gv⟩ := hg
  exact ⟨⟨h.a0, ga.2⟩, ⟨h.b0, gb.2⟩, by have := h.nL; omega, by rw [hc.2]; simp, gv, h.v⟩
/-- command.All: the first error. -/
def cEnds (k : Int) : Bool := k == 4 || k == 6 || k == 5
def cAllL : List EM → Int
  | [] => 0
  | e :: es => if e.cchk ≠ 0 then e.cchk else if cEnds e.k = true ∧ es ≠ [] then 7 else cAllL es
def cAll (l : List EM) : Int := if 256 < l.length then 2 else cAllL l
def cwrL (l : List EM) : List UInt8 := numB l.length ++ l.flatMap EM.cwr
theorem cAllL_good : ∀ {l : List EM}, cAllL l = 0 → ∀ e ∈ l, e.CGood
  | [], _, _, h => by simp at h
  | x :: l, h, e, he => by
    rw [cAllL] at h
    by_cases h1 : x.cchk ≠ 0
    · rw [if_pos h1] at h; exact absurd h h1
    rw [if_neg h1] at h
    have h1 := Decidable.not_not.1 h1
    split at h
    · simp at h
    · rcases List.mem_cons.1 he with rfl | he
      · exact cchk_good h1
      · exact cAllL_good h e he
end Go.Proofs.YtfmdngeooelcpaaGreat
