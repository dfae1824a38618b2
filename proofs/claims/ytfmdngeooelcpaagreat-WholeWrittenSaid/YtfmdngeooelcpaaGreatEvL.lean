/- Events: their kinds, bytes, how they are checked and read. Plain, no program. Plain laws: an event that was written is read again; one that is read was written so; one that ends too soon. -/
import Derived.Test.YtfmdngeooelcpaaGreatValC
namespace Go.Proofs.YtfmdngeooelcpaaGreat

def evTab : List (List UInt8 × List UInt8) :=
  [([114, 117, 110, 45, 115, 116, 97, 114, 116, 101, 100], [65, 66, 78, 84, 86]),
   ([116, 97, 115, 107, 45, 115, 99, 104, 101, 100, 117, 108, 101, 100], [66]),
   ([116, 97, 115, 107, 45, 115, 116, 97, 114, 116, 101, 100], [65, 66]),
   ([116, 97, 115, 107, 45, 99, 111, 109, 112, 108, 101, 116, 101, 100], [65, 66]),
   ([116, 97, 115, 107, 45, 116, 105, 109, 101, 100, 45, 111, 117, 116], [66]),
   ([116, 97, 115, 107, 45, 102, 97, 105, 108, 101, 100], [66, 78]),
   ([97, 99, 116, 105, 118, 105, 116, 121, 45, 115, 99, 104, 101, 100, 117, 108, 101, 100], [65, 66, 78, 86]),
   ([97, 99, 116, 105, 118, 105, 116, 121, 45, 99, 111, 109, 112, 108, 101, 116, 101, 100], [65, 86]),
   ([97, 99, 116, 105, 118, 105, 116, 121, 45, 102, 97, 105, 108, 101, 100], [65, 78]),
   ([97, 99, 116, 105, 118, 105, 116, 121, 45, 116, 105, 109, 101, 100, 45, 111, 117, 116], [65]),
   ([116, 105, 109, 101, 114, 45, 115, 116, 97, 114, 116, 101, 100], [65, 66]),
   ([116, 105, 109, 101, 114, 45, 102, 105, 114, 101, 100], [65]),
   ([116, 105, 109, 101, 114, 45, 99, 97, 110, 99, 101, 108, 101, 100], [65]),
   ([115, 105, 103, 110, 97, 108, 45, 114, 101, 99, 101, 105, 118, 101, 100], [78, 86]),
   ([99, 97, 110, 99, 101, 108, 45, 114, 101, 113, 117, 101, 115, 116, 101, 100], []),
   ([114, 117, 110, 45, 99, 111, 109, 112, 108, 101, 116, 101, 100], [86]),
   ([114, 117, 110, 45, 102, 97, 105, 108, 101, 100], [78]),
   ([114, 117, 110, 45, 99, 97, 110, 99, 101, 108, 101, 100], []),
   ([114, 117, 110, 45, 116, 101, 114, 109, 105, 110, 97, 116, 101, 100], [78]),
   ([114, 117, 110, 45, 116, 105, 109, 101, 100, 45, 111, 117, 116], []),
   ([99, 111, 110, 116, 105, 110, 117, 101, 100, 45, 97, 115, 45, 110, 101, 119], [66, 86])]

/-- An event. -/
structure EM where
  id : Int
  tm : Int
  k : Int
  a : Int
  b : Int
  name : List UInt8
  text : List UInt8
  v : VT
def EM.zero : EM := ⟨0, 0, 0, 0, 0, [], [], .nil⟩
def evName (k : Int) : List UInt8 := if 1 ≤ k ∧ k ≤ 21 then (evTab.getD (k.toNat - 1) ([], [])).1 else []
def evFlds (k : Int) : List UInt8 := if 1 ≤ k ∧ k ≤ 21 then (evTab.getD (k.toNat - 1) ([], [])).2 else []
/-- event.Check. -/
def EM.chk (e : EM) : Int :=
  if evName e.k = [] then 9
  else if e.id < 1 ∨ 1048576 < e.id ∨ e.tm < 0 ∨ 4611686018427387903 < e.tm then 1
  else if e.a < 0 ∨ e.b < 0 ∨ (65 ∉ evFlds e.k ∧ e.a ≠ 0) ∨ (66 ∉ evFlds e.k ∧ e.b ≠ 0) then 1
  else if 64 < e.name.length ∨ 128 < e.text.length then 2
  else if (78 ∉ evFlds e.k ∧ e.name ≠ []) ∨ (84 ∉ evFlds e.k ∧ e.text ≠ []) then 8
  else if 86 ∉ evFlds e.k ∧ e.v.k ≠ 0 then 8
  else e.v.chk
/-- A field's bytes. -/
def EM.fb (e : EM) (c : UInt8) : List UInt8 :=
  if c = 65 then numB e.a.toNat else if c = 66 then numB e.b.toNat else if c = 78 then textB e.name else if c = 84 then textB e.text else if c = 86 then e.v.wr else []
/-- event.Write. -/
def EM.wr (e : EM) : List UInt8 := UInt8.ofNat (e.k % 256).toNat :: (numB e.id.toNat ++ (numB e.tm.toNat ++ (evFlds e.k).flatMap e.fb))
def EM.cl (e : EM) : EM := { e with v := e.v.cl }
def EM.rg (e : EM) : Prop := (-9223372036854775808 ≤ e.id ∧ e.id ≤ 9223372036854775807) ∧ (-9223372036854775808 ≤ e.tm ∧ e.tm ≤ 9223372036854775807) ∧ (-9223372036854775808 ≤ e.k ∧ e.k ≤ 9223372036854775807) ∧ (-9223372036854775808 ≤ e.a ∧ e.a ≤ 9223372036854775807) ∧ (-9223372036854775808 ≤ e.b ∧ e.b ≤ 9223372036854775807) ∧ e.name.length ≤ 9223372036854775807 ∧ e.text.length ≤ 9223372036854775807 ∧ e.v.rg
/-- A field that is read. -/
def rdF (c : UInt8) (x : EM × RdM) : EM × RdM :=
  if c = 65 then ({ x.1 with a := (x.2.num 9223372036854775807).1 }, (x.2.num 9223372036854775807).2)
  else if c = 66 then ({ x.1 with b := (x.2.num 9223372036854775807).1 }, (x.2.num 9223372036854775807).2)
  else if c = 78 then ({ x.1 with name := x.2.text.1 }, x.2.text.2)
  else if c = 84 then ({ x.1 with text := x.2.text.1 }, x.2.text.2)
  else if c = 86 then ({ x.1 with v := x.2.val.1 }, x.2.val.2)
  else x
def rdFs (fs : List UInt8) (x : EM × RdM) : EM × RdM := fs.foldl (fun x c => rdF c x) x
/-- An event's head that is read: kind, number, tick. -/
def rdKd (r : RdM) : RdM := if evName r.byte.1 = [] then r.byte.2.fail 9 else r.byte.2
def rdH (r : RdM) : EM × RdM := (⟨((rdKd r).num 1048576).1, (((rdKd r).num 1048576).2.num 4611686018427387903).1, r.byte.1, 0, 0, [], [], .nil⟩, (((rdKd r).num 1048576).2.num 4611686018427387903).2)
/-- What is left where an event is over. -/
def evEnd (x : EM × RdM) : RdM := if x.2.err = 0 then x.2.fail x.1.chk else x.2
def evOver (x : EM × RdM) : EM × RdM := (if (evEnd x).err ≠ 0 then .zero else x.1, evEnd x)
/-- event.Read. -/
def RdM.ev (r : RdM) : EM × RdM := evOver (rdFs (evFlds r.byte.1) (rdH r))
def EM.same (e f : EM) : Bool := e.id == f.id && e.tm == f.tm && e.k == f.k && e.a == f.a && e.b == f.b && e.name == f.name && e.text == f.text && e.v.cmp f.v == 0
end Go.Proofs.YtfmdngeooelcpaaGreat
namespace Go.Proofs.YtfmdngeooelcpaaGreat

theorem chk_walk {t : VT} (h : t.chk = 0) : ∃ q, t.walk 0 0 0 = (q, 0) ∧ t.wr.length ≤ 512 := by
  unfold VT.chk at h
  by_cases e : (t.walk 0 0 0).2 = 0
  · refine ⟨_, Prod.ext rfl e, ?_⟩
    rw [if_neg (by simpa using e)] at h
    by_cases g : 512 < t.wr.length
    · rw [if_pos g] at h; simp at h
    · omega
  · rw [if_pos e] at h; exact absurd h e
theorem chk_of {t : VT} {q : Nat} (h : t.walk 0 0 0 = (q, 0)) (hl : t.wr.length ≤ 512) : t.chk = 0 := by
  unfold VT.chk; rw [h]; rw [if_neg (by simp), if_neg (by omega)]
theorem over_err {from' : Nat} {r : RdM} (h : r.err ≠ 0) : r.over from' = r := by unfold RdM.over; rw [if_neg (fun e => h e.1)]
theorem val_rt {t : VT} {r : RdM} {post : List UInt8} (hg : t.rg) (hc : t.chk = 0) (he : r.err = 0) (hr : r.rest = t.wr ++ post) : r.val = (t.cl, r.adv t.wr.length) := by
  obtain ⟨q, hw, hl⟩ := chk_walk hc
  have h1 := rdV_rt t 8 0 0 q r post hg hw rfl he hr
  have h2 : (r.adv t.wr.length).over r.at' = r.adv t.wr.length := by
    unfold RdM.over; rw [if_neg (by rw [adv_at]; omega)]
  unfold RdM.val
  rw [h1]
  simp only
  rw [h2, if_neg (by rw [adv_err]; simp [he])]
theorem val_bad {r : RdM} (h : r.err ≠ 0) : r.val = (.nil, r) := by
  have h1 := rdV_bad 8 0 h
  unfold RdM.val
  rw [h1]
  simp only
  rw [over_err h, if_pos h]
theorem val_inv {r : RdM} (he : r.err = 0) (h : r.val.2.err = 0) : ∃ t post, r.val = (t, r.adv t.wr.length) ∧ r.rest = t.wr ++ post ∧ t.chk = 0 ∧ t.cl = t ∧ t.rg := by
  have h1 : ((rdV 9 r 0).r.over r.at').err = 0 := h
  have h2 : (rdV 9 r 0).r.err = 0 := by
    by_cases e : (rdV 9 r 0).r.err = 0
    · exact e
    · rw [over_err e] at h1; exact h1
  obtain ⟨post, e1, e2, e3, e4, e5⟩ := rdV_inv 8 0 rfl r 0 he h2
  have e1 : r.rest = (rdV 9 r 0).t.wr ++ post := e1
  have e2 : (rdV 9 r 0).r = r.adv (rdV 9 r 0).t.wr.length := e2
  have hl : ¬ 512 < (rdV 9 r 0).t.wr.length := by
    intro g
    unfold RdM.over at h1
    rw [e2] at h1
    have hc : (r.adv (rdV 9 r 0).t.wr.length).err = 0 ∧ 512 < (r.adv (rdV 9 r 0).t.wr.length).at' - r.at' := ⟨by rw [adv_err]; exact he, by rw [adv_at]; omega⟩
    rw [if_pos hc] at h1
    exact fail_ne (by decide) h1
  refine ⟨(rdV 9 r 0).t, post, ?_, e1, chk_of e3 (Nat.not_lt.1 hl), e4, e5⟩
  have h3 : (rdV 9 r 0).r.over r.at' = (rdV 9 r 0).r := by unfold RdM.over; rw [e2, if_neg (by rw [adv_at]; omega)]
  unfold RdM.val
  rw [h3, if_neg (by simp [h2])]
  exact Prod.ext rfl e2
/-- A field of an event, put into another one. -/
def EM.setF (e : EM) (c : UInt8) (x : EM) : EM :=
  if c = 65 then { x with a := e.a } else if c = 66 then { x with b := e.b } else if c = 78 then { x with name := e.name } else if c = 84 then { x with text := e.text } else if c = 86 then { x with v := e.v.cl } else x
/-- What makes a field one that may be. -/
structure EM.Fit (e : EM) : Prop where
  a : 0 ≤ e.a ∧ e.a ≤ 9223372036854775807
  b : 0 ≤ e.b ∧ e.b ≤ 9223372036854775807
  name : e.name.length ≤ 4096
  text : e.text.length ≤ 4096
  v : e.v.rg
  c : e.v.chk = 0
theorem rdF_rt {e : EM} (hf : e.Fit) (c : UInt8) (x : EM) {r : RdM} {post : List UInt8} (he : r.err = 0) (hr : r.rest = e.fb c ++ post) : rdF c (x, r) = (e.setF c x, r.adv (e.fb c).length) := by
  unfold rdF EM.setF
  unfold EM.fb at hr ⊢
  have ha := hf.a
  have hb := hf.b
  by_cases h1 : c = 65
  · subst h1
    simp only [if_true] at hr ⊢
    have := num_rt (most := 9223372036854775807) he (by omega) (by omega) hr
    rw [this, Int.toNat_of_nonneg ha.1]
  rw [if_neg h1] at hr; rw [if_neg h1, if_neg h1, if_neg h1]
  by_cases h2 : c = 66
  · subst h2
    simp only [if_true] at hr ⊢
    have := num_rt (most := 9223372036854775807) he (by omega) (by omega) hr
    rw [this, Int.toNat_of_nonneg hb.1]
  rw [if_neg h2] at hr; rw [if_neg h2, if_neg h2, if_neg h2]
  by_cases h3 : c = 78
  · subst h3
    simp only [if_true] at hr ⊢
    rw [text_rt hf.name he hr]
  rw [if_neg h3] at hr; rw [if_neg h3, if_neg h3, if_neg h3]
  by_cases h4 : c = 84
  · subst h4
    simp only [if_true] at hr ⊢
    rw [text_rt hf.text he hr]
  rw [if_neg h4] at hr; rw [if_neg h4, if_neg h4, if_neg h4]
  by_cases h5 : c = 86
  · subst h5
    simp only [if_true] at hr ⊢
    rw [val_rt hf.v hf.c he hr]
  rw [if_neg h5, if_neg h5, if_neg h5]; rfl
theorem rdFs_rt {e : EM} (hf : e.Fit) : ∀ (fs : List UInt8) (x : EM) {r : RdM} {post : List UInt8}, r.err = 0 → r.rest = fs.flatMap e.fb ++ post → rdFs fs (x, r) = (fs.foldl (fun x c => e.setF c x) x, r.adv (fs.flatMap e.fb).length)
  | [], x, r, _, _, _ => by simp [rdFs, adv_zero]
  | c :: cs, x, r, post, he, hr => by
    rw [List.flatMap_cons, List.append_assoc] at hr
    show rdFs cs (rdF c (x, r)) = _
    rw [rdF_rt hf c x he hr, rdFs_rt hf cs _ (by rw [adv_err]; exact he) (adv_rest' hr), adv_adv, List.flatMap_cons, List.length_append]; rfl
theorem setFs (e : EM) : ∀ (fs : List UInt8) (x : EM), fs.foldl (fun x c => e.setF c x) x = ⟨x.id, x.tm, x.k, if 65 ∈ fs then e.a else x.a, if 66 ∈ fs then e.b else x.b, if 78 ∈ fs then e.name else x.name, if 84 ∈ fs then e.text else x.text, if 86 ∈ fs then e.v.cl else x.v⟩
  | [], x => by simp
  | c :: cs, x => by
    rw [List.foldl_cons, setFs e cs]
    unfold EM.setF
    by_cases h1 : c = 65
    · subst h1; simp
    by_cases h2 : c = 66
    · subst h2; simp
    by_cases h3 : c = 78
    · subst h3; simp
    by_cases h4 : c = 84
    · subst h4; simp
    by_cases h5 : c = 86
    · subst h5; simp
    simp [h1, h2, h3, h4, h5, Ne.symm h1, Ne.symm h2, Ne.symm h3, Ne.symm h4, Ne.symm h5]
/-- What is known of an event that may be. -/
theorem evName_rng {k : Int} (h : evName k ≠ []) : 1 ≤ k ∧ k ≤ 21 := by
  unfold evName at h
  by_cases g : 1 ≤ k ∧ k ≤ 21
  · exact g
  · rw [if_neg g] at h; exact absurd rfl h
theorem evName_ne {k : Int} (h : 1 ≤ k ∧ k ≤ 21) : evName k ≠ [] := by
  obtain ⟨h1, h2⟩ := h
  obtain ⟨n, rfl⟩ := Int.eq_ofNat_of_zero_le (by omega : 0 ≤ k)
  have : n = 1 ∨ n = 2 ∨ n = 3 ∨ n = 4 ∨ n = 5 ∨ n = 6 ∨ n = 7 ∨ n = 8 ∨ n = 9 ∨ n = 10 ∨ n = 11 ∨ n = 12 ∨ n = 13 ∨ n = 14 ∨ n = 15 ∨ n = 16 ∨ n = 17 ∨ n = 18 ∨ n = 19 ∨ n = 20 ∨ n = 21 := by omega
  rcases this with rfl|rfl|rfl|rfl|rfl|rfl|rfl|rfl|rfl|rfl|rfl|rfl|rfl|rfl|rfl|rfl|rfl|rfl|rfl|rfl|rfl <;> decide
structure EM.Good (e : EM) : Prop where
  k : 1 ≤ e.k ∧ e.k ≤ 21
  id : 1 ≤ e.id ∧ e.id ≤ 1048576
  tm : 0 ≤ e.tm ∧ e.tm ≤ 4611686018427387903
  a0 : 0 ≤ e.a
  b0 : 0 ≤ e.b
  aF : 65 ∉ evFlds e.k → e.a = 0
  bF : 66 ∉ evFlds e.k → e.b = 0
  nL : e.name.length ≤ 64
  tL : e.text.length ≤ 128
  nF : 78 ∉ evFlds e.k → e.name = []
  tF : 84 ∉ evFlds e.k → e.text = []
  vF : 86 ∉ evFlds e.k → e.v.k = 0
  v : e.v.chk = 0
theorem chk_good {e : EM} (h : e.chk = 0) : e.Good := by
  unfold EM.chk at h
  by_cases h1 : evName e.k = []
  · rw [if_pos h1] at h; simp at h
  rw [if_neg h1] at h
  by_cases h2 : e.id < 1 ∨ 1048576 < e.id ∨ e.tm < 0 ∨ 4611686018427387903 < e.tm
  · rw [if_pos h2] at h; simp at h
  rw [if_neg h2] at h
  by_cases h3 : e.a < 0 ∨ e.b < 0 ∨ (65 ∉ evFlds e.k ∧ e.a ≠ 0) ∨ (66 ∉ evFlds e.k ∧ e.b ≠ 0)
  · rw [if_pos h3] at h; simp at h
  rw [if_neg h3] at h
  by_cases h4 : 64 < e.name.length ∨ 128 < e.text.length
  · rw [if_pos h4] at h; simp at h
  rw [if_neg h4] at h
  by_cases h5 : (78 ∉ evFlds e.k ∧ e.name ≠ []) ∨ (84 ∉ evFlds e.k ∧ e.text ≠ [])
  · rw [if_pos h5] at h; simp at h
  rw [if_neg h5] at h
  by_cases h6 : 86 ∉ evFlds e.k ∧ e.v.k ≠ 0
  · rw [if_pos h6] at h; simp at h
  rw [if_neg h6] at h
  simp only [not_or, not_and, Decidable.not_not, Int.not_lt] at h2 h3 h5 h6
  simp only [not_or, Nat.not_lt] at h4
  exact ⟨evName_rng h1, ⟨by omega, by omega⟩, ⟨by omega, by omega⟩, h3.1, h3.2.1, h3.2.2.1, h3.2.2.2, h4.1, h4.2, h5.1, h5.2, h6, h⟩
theorem good_chk {e : EM} (h : e.Good) : e.chk = 0 := by
  unfold EM.chk
  have h1 := evName_ne h.k
  have i := h.id
  have t := h.tm
  have a := h.a0
  have b := h.b0
  rw [if_neg h1, if_neg (by omega), if_neg, if_neg (by have := h.nL; have := h.tL; omega), if_neg, if_neg]
  · exact h.v
  · exact fun ⟨x, y⟩ => y (h.vF x)
  · rintro (⟨x, y⟩ | ⟨x, y⟩)
    · exact y (h.nF x)
    · exact y (h.tF x)
  · rintro (x | x | ⟨x, y⟩ | ⟨x, y⟩)
    · omega
    · omega
    · exact y (h.aF x)
    · exact y (h.bF x)
theorem EM.Good.fit {e : EM} (h : e.Good) (hg : e.rg) : e.Fit := by
  obtain ⟨-, -, -, ga, gb, gn, gt, gv⟩ := hg
  exact ⟨⟨h.a0, ga.2⟩, ⟨h.b0, gb.2⟩, by have := h.nL; omega, by have := h.tL; omega, gv, h.v⟩
theorem cl_k (t : VT) : t.cl.k = t.k := by cases t; rw [VT.cl]; rfl
theorem cl_nil {t : VT} (h : t.k = 0) : t.cl = .nil := by
  obtain ⟨k, n, s, l⟩ := t
  have h' : k = 0 := h
  subst h'
  rw [VT.cl]; simp [VT.nil]
theorem cl_good {e : EM} (h : e.Good) : e.cl.Good := ⟨h.k, h.id, h.tm, h.a0, h.b0, h.aF, h.bF, h.nL, h.tL, h.nF, h.tF, fun g => by show e.v.cl.k = 0; rw [cl_k]; exact h.vF g, by show e.v.cl.chk = 0; rw [cl_chk]; exact h.v⟩
theorem fail_zero (r : RdM) : r.fail 0 = r := by
  unfold RdM.fail
  split
  · rename_i h; cases r; simp only at h ⊢; rw [h]
  · rfl
/-- An event that was written is read again. -/
theorem rdH_rt {e : EM} (hg : e.Good) {r : RdM} {post : List UInt8} (he : r.err = 0) (hr : r.rest = e.wr ++ post) :
    r.byte.1 = e.k ∧ rdH r = (⟨e.id, e.tm, e.k, 0, 0, [], [], .nil⟩, ((r.adv 1).adv (numB e.id.toNat).length).adv (numB e.tm.toNat).length) ∧ (((r.adv 1).adv (numB e.id.toNat).length).adv (numB e.tm.toNat).length).rest = (evFlds e.k).flatMap e.fb ++ post := by
  unfold EM.wr at hr
  simp only [List.cons_append, List.append_assoc] at hr
  have hk := hg.k
  have hi := hg.id
  have ht := hg.tm
  have hb := byte_ok he hr
  have hx : (UInt8.ofNat (e.k % 256).toNat).toNat = e.k.toNat := by simp; omega
  rw [hx] at hb
  have hkk : (e.k.toNat : Int) = e.k := Int.toNat_of_nonneg (by omega)
  have hr1 := adv_rest' (a := [_]) hr
  rw [List.length_singleton] at hr1
  have n1 := num_rt (most := 1048576) (by rw [adv_err]; exact he) (by omega) (by omega) hr1
  have hr2 := adv_rest' hr1
  have n2 := num_rt (most := 4611686018427387903) (by rw [adv_err, adv_err]; exact he) (by omega) (by omega) hr2
  refine ⟨by rw [hb]; exact hkk, ?_, adv_rest' hr2⟩
  have hd : rdKd r = r.adv 1 := by
    unfold rdKd
    rw [hb]
    simp only [hkk]
    rw [if_neg (evName_ne hk)]
  unfold rdH
  rw [hd, hb]
  simp only [hkk]
  rw [n1]
  simp only
  rw [n2, Int.toNat_of_nonneg (by omega), Int.toNat_of_nonneg (by omega)]
theorem ev_rt {e : EM} (hg : e.Good) (hr0 : e.rg) {r : RdM} {post : List UInt8} (he : r.err = 0) (hr : r.rest = e.wr ++ post) : r.ev = (e.cl, r.adv e.wr.length) := by
  obtain ⟨h1, h2, h3⟩ := rdH_rt hg he hr
  have h4 := rdFs_rt (hg.fit hr0) (evFlds e.k) ⟨e.id, e.tm, e.k, 0, 0, [], [], .nil⟩ (by rw [adv_err, adv_err, adv_err]; exact he) h3
  have h5 : (evFlds e.k).foldl (fun x c => e.setF c x) ⟨e.id, e.tm, e.k, 0, 0, [], [], .nil⟩ = e.cl := by
    rw [setFs]
    unfold EM.cl
    have ia : (if 65 ∈ evFlds e.k then e.a else 0) = e.a := by split; rfl; rename_i g; exact (hg.aF g).symm
    have ib : (if 66 ∈ evFlds e.k then e.b else 0) = e.b := by split; rfl; rename_i g; exact (hg.bF g).symm
    have i1 : (if 78 ∈ evFlds e.k then e.name else []) = e.name := by split; rfl; rename_i g; exact (hg.nF g).symm
    have i2 : (if 84 ∈ evFlds e.k then e.text else []) = e.text := by split; rfl; rename_i g; exact (hg.tF g).symm
    have iv : (if 86 ∈ evFlds e.k then e.v.cl else .nil) = e.v.cl := by split; rfl; rename_i g; exact (cl_nil (hg.vF g)).symm
    rw [ia, ib, i1, i2, iv]
  have h6 : evEnd (e.cl, (((r.adv 1).adv (numB e.id.toNat).length).adv (numB e.tm.toNat).length).adv ((evFlds e.k).flatMap e.fb).length) = r.adv e.wr.length := by
    unfold evEnd
    simp only
    rw [good_chk (cl_good hg), fail_zero, ite_self, adv_adv, adv_adv, adv_adv, EM.wr, List.length_cons, List.length_append, List.length_append]
    congr 1; omega
  unfold RdM.ev
  rw [h1, h2, h4, h5, evOver, h6, if_neg (by rw [adv_err]; simp [he])]
end Go.Proofs.YtfmdngeooelcpaaGreat
