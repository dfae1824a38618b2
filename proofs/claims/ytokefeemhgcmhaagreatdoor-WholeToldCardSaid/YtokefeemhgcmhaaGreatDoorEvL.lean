/- Events: their kinds, bytes, how they are checked and read. Plain, no program. Plain laws: an event that was written is read again; one that is read was written so; one that ends too soon. -/
import Derived.Test.YtokefeemhgcmhaaGreatDoorValC
namespace Go.Proofs.YtokefeemhgcmhaaGreatDoor

def evTab : List (List UInt8 × List UInt8) :=
  [([114, 117, 110, 45, 115, 116, 97, 114, 116, 101, 100], [65, 66, 78, 84, 86]),
   ([116, 97, 115, 107, 45, 115, 99, 104, 101, 100, 117, 108, 101, 100], [66]),
   ([116, 97, 115, 107, 45, 115, 116, 97, 114, 116, 101, 100], [65, 66]),
   ([116, 97, 115, 107, 45, 99, 111, 109, 112, 108, 101, 116, 101, 100], [65, 66]),
   ([116, 97, 115, 107, 45, 116, 105, 109, 101, 100, 45, 111, 117, 116], [66]),
   ([116, 97, 115, 107, 45, 102, 97, 105, 108, 101, 100], [66, 78]),
   ([97, 99, 116, 105, 118, 105, 116, 121, 45, 115, 99, 104, 101, 100, 117, 108, 101, 100], [65, 66, 78, 86]),
   ([97, 99, 116, 105, 118, 105, 116, 121, 45, 99, 111, 109, 112, 108, 101, 116, 101, 100], [65, 86]),
   ([97, 99, 116, 105, 118, 105, 116, 121, 45, 102, 97, 105, 108, 101, 100], [65, 78]),
   ([97, 99, 116, 105, 118, 105, 116, 121, 45, 116, 105, 109, 101, 100, 45, 111, 117, 116], [65]),
   ([116, 105, 109, 101, 114, 45, 115, 116, 97, 114, 116, 101, 100], [65, 66]),
   ([116, 105, 109, 101, 114, 45, 102, 105, 114, 101, 100], [65]),
   ([116, 105, 109, 101, 114, 45, 99, 97, 110, 99, 101, 108, 101, 100], [65]),
   ([115, 105, 103, 110, 97, 108, 45, 114, 101, 99, 101, 105, 118, 101, 100], [78, 86]),
   ([99, 97, 110, 99, 101, 108, 45, 114, 101, 113, 117, 101, 115, 116, 101, 100], []),
   ([114, 117, 110, 45, 99, 111, 109, 112, 108, 101, 116, 101, 100], [86]),
   ([114, 117, 110, 45, 102, 97, 105, 108, 101, 100], [78]),
   ([114, 117, 110, 45, 99, 97, 110, 99, 101, 108, 101, 100], []),
   ([114, 117, 110, 45, 116, 101, 114, 109, 105, 110, 97, 116, 101, 100], [78]),
   ([114, 117, 110, 45, 116, 105, 109, 101, 100, 45, 111, 117, 116], []),
   ([99, 111, 110, 116, 105, 110, 117, 101, 100, 45, 97, 115, 45, 110, 101, 119], [66, 86])]

/-- An event. -/
structure EM where
  id : Int
  tm : Int
  k : Int
  a : Int
  b : Int
  name : List UInt8
  text : List UInt8
  v : VT
def EM.zero : EM := ⟨0, 0, 0, 0, 0, [], [], .nil⟩
def evName (k : Int) : List UInt8 := if 1 ≤ k ∧ k ≤ 21 then (evTab.getD (k.toNat - 1) ([], [])).1 else []
def evFlds (k : Int) : List UInt8 := if 1 ≤ k ∧ k ≤ 21 then (evTab.getD (k.toNat - 1) ([], [])).2 else []
/-- event.Check. -/
def EM.chk (e : EM) : Int :=
  if evName e.k = [] then 9
  else if e.id < 1 ∨ 1048576 < e.id ∨ e.tm < 0 ∨ 4611686018427387903 < e.tm then 1
  else if e.a < 0 ∨ e.b < 0 ∨ (65 ∉ evFlds e.k ∧ e.a ≠ 0) ∨ (66 ∉ evFlds e.k ∧ e.b ≠ 0) then 1
  else if 64 < e.name.length ∨ 128 < e.text.length then 2
  else if (78 ∉ evFlds e.k ∧ e.name ≠ []) ∨ (84 ∉ evFlds e.k ∧ e.text ≠ []) then 8
  else if 86 ∉ evFlds e.k ∧ e.v.k ≠ 0 then 8
  else e.v.chk
/-- A field's bytes. -/
def EM.fb (e : EM) (c : UInt8) : List UInt8 :=
  if c = 65 then numB e.a.toNat else if c = 66 then numB e.b.toNat else if c = 78 then textB e.name else if c = 84 then textB e.text else if c = 86 then e.v.wr else []
/-- event.Write. -/
def EM.wr (e : EM) : List UInt8 := UInt8.ofNat (e.k % 256).toNat :: (numB e.id.toNat ++ (numB e.tm.toNat ++ (evFlds e.k).flatMap e.fb))
def EM.cl (e : EM) : EM := { e with v := e.v.cl }
def EM.rg (e : EM) : Prop := (-9223372036854775808 ≤ e.id ∧ e.id ≤ 9223372036854775807) ∧ (-9223372036854775808 ≤ e.tm ∧ e.tm ≤ 9223372036854775807) ∧ (-9223372036854775808 ≤ e.k ∧ e.k ≤ 9223372036854775807) ∧ (-9223372036854775808 ≤ e.a ∧ e.a ≤ 9223372036854775807) ∧ (-9223372036854775808 ≤ e.b ∧ e.b ≤ 9223372036854775807) ∧ e.name.length ≤ 9223372036854775807 ∧ e.text.length ≤ 9223372036854775807 ∧ e.v.rg
/-- A field that is read. -/
def rdF (c : UInt8) (x : EM × RdM) : EM × RdM :=
  if c = 65 then ({ x.1 with a := (x.2.num 9223372036854775807).1 }, (x.2.num 9223372036854775807).2)
  else if c = 66 then ({ x.1 with b := (x.2.num 9223372036854775807).1 }, (x.2.num 9223372036854775807).2)
  else if c = 78 then ({ x.1 with name := x.2.text.1 }, x.2.text.2)
  else if c = 84 then ({ x.1 with text := x.2.text.1 }, x.2.text.2)
  else if c = 86 then ({ x.1 with v := x.2.val.1 }, x.2.val.2)
  else x
def rdFs (fs : List UInt8) (x : EM × RdM) : EM × RdM := fs.foldl (fun x c => rdF c x) x
/-- An event's head that is read: kind, number, tick. -/
def rdKd (r : RdM) : RdM := if evName r.byte.1 = [] then r.byte.2.fail 9 else r.byte.2
def rdH (r : RdM) : EM × RdM := (⟨((rdKd r).num 1048576).1, (((rdKd r).num 1048576).2.num 4611686018427387903).1, r.byte.1, 0, 0, [], [], .nil⟩, (((rdKd r).num 1048576).2.num 4611686018427387903).2)
/-- What is left where an event is over. -/
def evEnd (x : EM × RdM) : RdM := if x.2.err = 0 then x.2.fail x.1.chk else x.2
def evOver (x : EM × RdM) : EM × RdM := (if (evEnd x).err ≠ 0 then .zero else x.1, evEnd x)
/-- event.Read. -/
def RdM.ev (r : RdM) : EM × RdM := evOver (rdFs (evFlds r.byte.1) (rdH r))
def EM.same (e f : EM) : Bool := e.id == f.id && e.tm == f.tm && e.k == f.k && e.a == f.a && e.b == f.b && e.name == f.name && e.text == f.text && e.v.cmp f.v == 0
end Go.Proofs.YtokefeemhgcmhaaGreatDoor
namespace Go.Proofs.YtokefeemhgcmhaaGreatDoor

theorem chk_walk {t : VT} (h : t.chk = 0) : ∃ q, t.walk 0 0 0 = (q, 0) ∧ t.wr.length ≤ 512 := by
  unfold VT.chk at h
  by_cases e : (t.walk 0 0 0).2 = 0
  · refine ⟨_, Prod.ext rfl e, ?_⟩
    rw [if_neg (by simpa using e)] at h
    by_cases g : 512 < t.wr.length
    · rw [if_pos g] at h; simp at h
    · omega
  · rw [if_pos e] at h; exact absurd h e
theorem chk_of {t : VT} {q : Nat} (h : t.walk 0 0 0 = (q, 0)) (hl : t.wr.length ≤ 512) : t.chk = 0 := by
  unfold VT.chk; rw [h]; rw [if_neg (by simp), if_neg (by omega)]
theorem over_err {from' : Nat} {r : RdM} (h : r.err ≠ 0) : r.over from' = r := by unfold RdM.over; rw [if_neg (fun e => h e.1)]
theorem val_rt {t : VT} {r : RdM} {post : List UInt8} (hg : t.rg) (hc : t.chk = 0) (he : r.err = 0) (hr : r.rest = t.wr ++ post) : r.val = (t.cl, r.adv t.wr.length) := by
  obtain ⟨q, hw, hl⟩ := chk_walk hc
  have h1 := rdV_rt t 8 0 0 q r post hg hw rfl he hr
  have h2 : (r.adv t.wr.length).over r.at' = r.adv t.wr.length := by
    unfold RdM.over; rw [if_neg (by rw [adv_at]; omega)]
  unfold RdM.val
  rw [h1]
  simp only
  rw [h2, if_neg (by rw [adv_err]; simp [he])]
theorem val_bad {r : RdM} (h : r.err ≠ 0) : r.val = (.nil, r) := by
  have h1 := rdV_bad 8 0 h
  unfold RdM.val
  rw [h1]
  simp only
  rw [over_err h, if_pos h]
theorem val_inv {r : RdM} (he : r.err = 0) (h : r.val.2.err = 0) : ∃ t post, r.val = (t, r.adv t.wr.length) ∧ r.rest = t.wr ++ post ∧ t.chk = 0 ∧ t.cl = t ∧ t.rg := by
  have h1 : ((rdV 9 r 0).r.over r.at').err = 0 := h
  have h2 : (rdV 9 r 0).r.err = 0 := by
    by_cases e : (rdV 9 r 0).r.err = 0
    · exact e
    · rw [over_err e] at h1; exact h1
  obtain ⟨post, e1, e2, e3, e4, e5⟩ := rdV_inv 8 0 rfl r 0 he h2
  have e1 : r.rest = (rdV 9 r 0).t.wr ++ post := e1
  have e2 : (rdV 9 r 0).r = r.adv (rdV 9 r 0).t.wr.length := e2
  have hl : ¬ 512 < (rdV 9 r 0).t.wr.length := by
    intro g
    unfold RdM.over at h1
    rw [e2] at h1
    have hc : (r.adv (rdV 9 r 0).t.wr.length).err = 0 ∧ 512 < (r.adv (rdV 9 r 0).t.wr.length).at' - r.at' := ⟨by rw [adv_err]; exact he, by rw [adv_at]; omega⟩
    rw [if_pos hc] at h1
    exact fail_ne (by decide) h1
  refine ⟨(rdV 9 r 0).t, post, ?_, e1, chk_of e3 (Nat.not_lt.1 hl), e4, e5⟩
  have h3 : (rdV 9 r 0).r.over r.at' = (rdV 9 r 0).r := by unfold RdM.over; rw [e2, if_neg (by rw [adv_at]; omega)]
  unfold RdM.val
  rw [h3, if_neg (by simp [h2])]
  exact Prod.ext rfl e2
theorem val_cut {t : VT} {r : RdM} {cut : Nat} (hg : t.rg) (hc : t.chk = 0) (he : r.err = 0) (hl : cut < t.wr.length) (hr : r.rest = t.wr.take cut) : r.val.2.err = 6 := by
  obtain ⟨q, hw, -⟩ := chk_walk hc
  have h1 := rdV_cut t 8 0 0 q cut r hg hw rfl he hl hr
  show ((rdV 9 r 0).r.over r.at').err = 6
  rw [over_err (by rw [h1]; decide)]; exact h1

/-- A field of an event, put into another one. -/
def EM.setF (e : EM) (c : UInt8) (x : EM) : EM :=
  if c = 65 then { x with a := e.a } else if c = 66 then { x with b := e.b } else if c = 78 then { x with name := e.name } else if c = 84 then { x with text := e.text } else if c = 86 then { x with v := e.v.cl } else x
theorem setF_head (e : EM) (c : UInt8) (x : EM) : (e.setF c x).id = x.id ∧ (e.setF c x).tm = x.tm ∧ (e.setF c x).k = x.k := by
  unfold EM.setF; repeat' split
  all_goals exact ⟨rfl, rfl, rfl⟩
/-- What makes a field one that may be. -/
structure EM.Fit (e : EM) : Prop where
  a : 0 ≤ e.a ∧ e.a ≤ 9223372036854775807
  b : 0 ≤ e.b ∧ e.b ≤ 9223372036854775807
  name : e.name.length ≤ 4096
  text : e.text.length ≤ 4096
  v : e.v.rg
  c : e.v.chk = 0
theorem rdF_rt {e : EM} (hf : e.Fit) (c : UInt8) (x : EM) {r : RdM} {post : List UInt8} (he : r.err = 0) (hr : r.rest = e.fb c ++ post) : rdF c (x, r) = (e.setF c x, r.adv (e.fb c).length) := by
  unfold rdF EM.setF
  unfold EM.fb at hr ⊢
  have ha := hf.a
  have hb := hf.b
  by_cases h1 : c = 65
  · subst h1
    simp only [if_true] at hr ⊢
    have := num_rt (most := 9223372036854775807) he (by omega) (by omega) hr
    rw [this, Int.toNat_of_nonneg ha.1]
  rw [if_neg h1] at hr; rw [if_neg h1, if_neg h1, if_neg h1]
  by_cases h2 : c = 66
  · subst h2
    simp only [if_true] at hr ⊢
    have := num_rt (most := 9223372036854775807) he (by omega) (by omega) hr
    rw [this, Int.toNat_of_nonneg hb.1]
  rw [if_neg h2] at hr; rw [if_neg h2, if_neg h2, if_neg h2]
  by_cases h3 : c = 78
  · subst h3
    simp only [if_true] at hr ⊢
    rw [text_rt hf.name he hr]
  rw [if_neg h3] at hr; rw [if_neg h3, if_neg h3, if_neg h3]
  by_cases h4 : c = 84
  · subst h4
    simp only [if_true] at hr ⊢
    rw [text_rt hf.text he hr]
  rw [if_neg h4] at hr; rw [if_neg h4, if_neg h4, if_neg h4]
  by_cases h5 : c = 86
  · subst h5
    simp only [if_true] at hr ⊢
    rw [val_rt hf.v hf.c he hr]
  rw [if_neg h5, if_neg h5, if_neg h5]; rfl
theorem rdF_bad (c : UInt8) (x : EM) {r : RdM} (he : r.err ≠ 0) : (rdF c (x, r)).2 = r := by
  unfold rdF
  repeat' split
  · rw [num_bad he]
  · rw [num_bad he]
  · rw [text_bad he]
  · rw [text_bad he]
  · rw [val_bad he]
  · rfl
theorem rdFs_bad : ∀ (fs : List UInt8) (x : EM) {r : RdM}, r.err ≠ 0 → (rdFs fs (x, r)).2 = r
  | [], _, _, _ => rfl
  | c :: cs, x, r, he => by
    show (rdFs cs (rdF c (x, r))).2 = r
    have h1 := rdF_bad c x he
    rw [show rdF c (x, r) = ((rdF c (x, r)).1, r) from Prod.ext rfl h1]
    exact rdFs_bad cs _ he
theorem rdFs_rt {e : EM} (hf : e.Fit) : ∀ (fs : List UInt8) (x : EM) {r : RdM} {post : List UInt8}, r.err = 0 → r.rest = fs.flatMap e.fb ++ post → rdFs fs (x, r) = (fs.foldl (fun x c => e.setF c x) x, r.adv (fs.flatMap e.fb).length)
  | [], x, r, _, _, _ => by simp [rdFs, adv_zero]
  | c :: cs, x, r, post, he, hr => by
    rw [List.flatMap_cons, List.append_assoc] at hr
    show rdFs cs (rdF c (x, r)) = _
    rw [rdF_rt hf c x he hr, rdFs_rt hf cs _ (by rw [adv_err]; exact he) (adv_rest' hr), adv_adv, List.flatMap_cons, List.length_append]; rfl
theorem setFs (e : EM) : ∀ (fs : List UInt8) (x : EM), fs.foldl (fun x c => e.setF c x) x = ⟨x.id, x.tm, x.k, if 65 ∈ fs then e.a else x.a, if 66 ∈ fs then e.b else x.b, if 78 ∈ fs then e.name else x.name, if 84 ∈ fs then e.text else x.text, if 86 ∈ fs then e.v.cl else x.v⟩
  | [], x => by simp
  | c :: cs, x => by
    rw [List.foldl_cons, setFs e cs]
    unfold EM.setF
    by_cases h1 : c = 65
    · subst h1; simp
    by_cases h2 : c = 66
    · subst h2; simp
    by_cases h3 : c = 78
    · subst h3; simp
    by_cases h4 : c = 84
    · subst h4; simp
    by_cases h5 : c = 86
    · subst h5; simp
    simp [h1, h2, h3, h4, h5, Ne.symm h1, Ne.symm h2, Ne.symm h3, Ne.symm h4, Ne.symm h5]
/-- A field that is read was written so. -/
theorem rdF_inv {c : UInt8} {x : EM} {r : RdM} (he : r.err = 0) (h : (rdF c (x, r)).2.err = 0) :
    ∃ (e : EM) (post : List UInt8), rdF c (x, r) = (e.setF c x, r.adv (e.fb c).length) ∧ r.rest = e.fb c ++ post ∧ e.Fit ∧ e.v.cl = e.v := by
  have z : EM.zero.Fit := ⟨by decide, by decide, by decide, by decide, by simp [EM.zero, VT.nil, VT.rg, VT.rgL], by decide⟩
  have hz : EM.zero.v.cl = EM.zero.v := by rw [EM.zero, VT.nil, VT.cl]; simp
  unfold rdF at h ⊢
  by_cases h1 : c = 65
  · subst h1
    simp only [if_true] at h ⊢
    obtain ⟨n, post, e1, e2, e3, e4⟩ := num_inv he h
    refine ⟨{ EM.zero with a := n }, post, ?_, by simpa [EM.fb] using e2, ⟨by simp; omega, z.b, z.name, z.text, z.v, z.c⟩, hz⟩
    rw [e1]; simp [EM.setF, EM.fb]
  rw [if_neg h1] at h ⊢
  by_cases h2 : c = 66
  · subst h2
    simp only [if_true] at h ⊢
    obtain ⟨n, post, e1, e2, e3, e4⟩ := num_inv he h
    refine ⟨{ EM.zero with b := n }, post, ?_, by simpa [EM.fb] using e2, ⟨z.a, by simp; omega, z.name, z.text, z.v, z.c⟩, hz⟩
    rw [e1]; simp [EM.setF, EM.fb]
  rw [if_neg h2] at h ⊢
  by_cases h3 : c = 78
  · subst h3
    simp only [if_true] at h ⊢
    obtain ⟨s, post, e1, e2, e3⟩ := text_inv he h
    refine ⟨{ EM.zero with name := s }, post, ?_, by simpa [EM.fb] using e2, ⟨z.a, z.b, e3, z.text, z.v, z.c⟩, hz⟩
    rw [e1]; simp [EM.setF, EM.fb]
  rw [if_neg h3] at h ⊢
  by_cases h4 : c = 84
  · subst h4
    simp only [if_true] at h ⊢
    obtain ⟨s, post, e1, e2, e3⟩ := text_inv he h
    refine ⟨{ EM.zero with text := s }, post, ?_, by simpa [EM.fb] using e2, ⟨z.a, z.b, z.name, e3, z.v, z.c⟩, hz⟩
    rw [e1]; simp [EM.setF, EM.fb]
  rw [if_neg h4] at h ⊢
  by_cases h5 : c = 86
  · subst h5
    simp only [if_true] at h ⊢
    obtain ⟨t, post, e1, e2, e3, e4, e5⟩ := val_inv he h
    refine ⟨{ EM.zero with v := t }, post, ?_, by simpa [EM.fb] using e2, ⟨z.a, z.b, z.name, z.text, e5, e3⟩, e4⟩
    rw [e1]; simp [EM.setF, EM.fb, e4]
  rw [if_neg h5] at h ⊢
  exact ⟨EM.zero, r.rest, by simp [EM.setF, EM.fb, h1, h2, h3, h4, h5, adv_zero], by simp [EM.fb, h1, h2, h3, h4, h5], z, hz⟩
/-- What a field's bytes hang on. -/
theorem setF_fb (e x : EM) (c : UInt8) : (e.setF c x).fb c = if c = 86 then e.v.cl.wr else e.fb c := by
  unfold EM.setF EM.fb
  by_cases h1 : c = 65
  · subst h1; simp
  by_cases h2 : c = 66
  · subst h2; simp
  by_cases h3 : c = 78
  · subst h3; simp
  by_cases h4 : c = 84
  · subst h4; simp
  by_cases h5 : c = 86
  · subst h5; simp
  simp [h1, h2, h3, h4, h5]
theorem setF_fb_ne (e x : EM) {c d : UInt8} (h : d ≠ c) : (e.setF c x).fb d = x.fb d := by
  unfold EM.setF
  by_cases h1 : c = 65
  · subst h1; simp [EM.fb, h]
  by_cases h2 : c = 66
  · subst h2; by_cases g1 : d = 65 <;> simp [EM.fb, h, g1]
  by_cases h3 : c = 78
  · subst h3; by_cases g1 : d = 65 <;> by_cases g2 : d = 66 <;> simp [EM.fb, h, g1, g2]
  by_cases h4 : c = 84
  · subst h4; by_cases g1 : d = 65 <;> by_cases g2 : d = 66 <;> by_cases g3 : d = 78 <;> simp [EM.fb, h, g1, g2, g3]
  by_cases h5 : c = 86
  · subst h5; by_cases g1 : d = 65 <;> by_cases g2 : d = 66 <;> by_cases g3 : d = 78 <;> by_cases g4 : d = 84 <;> simp [EM.fb, h, g1, g2, g3, g4]
  simp [h1, h2, h3, h4, h5]
theorem setF_fit {e x : EM} {c : UInt8} (he : e.Fit) (hx : x.Fit) : (e.setF c x).Fit := by
  unfold EM.setF
  repeat' split
  · exact ⟨he.a, hx.b, hx.name, hx.text, hx.v, hx.c⟩
  · exact ⟨hx.a, he.b, hx.name, hx.text, hx.v, hx.c⟩
  · exact ⟨hx.a, hx.b, he.name, hx.text, hx.v, hx.c⟩
  · exact ⟨hx.a, hx.b, hx.name, he.text, hx.v, hx.c⟩
  · exact ⟨hx.a, hx.b, hx.name, hx.text, cl_rg _ he.v, by show e.v.cl.chk = 0; rw [cl_chk]; exact he.c⟩
  · exact hx
theorem setF_cl {e x : EM} {c : UInt8} (hx : x.v.cl = x.v) : (e.setF c x).v.cl = (e.setF c x).v := by
  unfold EM.setF
  repeat' split
  all_goals first | exact hx | exact cl_cl _
/-- Fields, each once, that are read were written so. -/
theorem rdFs_inv : ∀ (fs : List UInt8) (x : EM) (r : RdM), fs.Nodup → x.Fit → x.v.cl = x.v → r.err = 0 → (rdFs fs (x, r)).2.err = 0 →
    ∃ (y : EM) (post : List UInt8), rdFs fs (x, r) = (y, r.adv (fs.flatMap y.fb).length) ∧ r.rest = fs.flatMap y.fb ++ post ∧ y.Fit ∧ y.v.cl = y.v ∧ (y.id = x.id ∧ y.tm = x.tm ∧ y.k = x.k) ∧ ((65 ∉ fs → y.a = x.a) ∧ (66 ∉ fs → y.b = x.b) ∧ (78 ∉ fs → y.name = x.name) ∧ (84 ∉ fs → y.text = x.text) ∧ (86 ∉ fs → y.v = x.v)) ∧ ∀ d, d ∉ fs → y.fb d = x.fb d
  | [], x, r, _, hx, hc, _, _ => ⟨x, r.rest, rfl, rfl, hx, hc, ⟨rfl, rfl, rfl⟩, ⟨fun _ => rfl, fun _ => rfl, fun _ => rfl, fun _ => rfl, fun _ => rfl⟩, fun _ _ => rfl⟩
  | c :: cs, x, r, hn, hx, hc, he, h => by
    have hn' := List.nodup_cons.1 hn
    have h1 : (rdF c (x, r)).2.err = 0 := by
      by_cases g : (rdF c (x, r)).2.err = 0
      · exact g
      · have : (rdFs cs (rdF c (x, r))).2.err = 0 := h
        rw [show rdF c (x, r) = ((rdF c (x, r)).1, (rdF c (x, r)).2) from rfl, rdFs_bad cs _ g] at this
        exact this
    obtain ⟨e, post, e1, e2, e3, e4⟩ := rdF_inv he h1
    have h2 : (rdFs cs (e.setF c x, r.adv (e.fb c).length)).2.err = 0 := by rw [← e1]; exact h
    obtain ⟨y, post2, f1, f2, f3, f4, f5, f6, f7⟩ := rdFs_inv cs (e.setF c x) (r.adv (e.fb c).length) hn'.2 (setF_fit e3 hx) (setF_cl hc) (by rw [adv_err]; exact he) h2
    have hfb : y.fb c = e.fb c := by
      rw [f7 c hn'.1, setF_fb]
      split
      · rename_i h86; subst h86; rw [cl_wr]; rfl
      · rfl
    have hh := setF_head e c x
    refine ⟨y, post2, ?_, ?_, f3, f4, ⟨f5.1.trans hh.1, f5.2.1.trans hh.2.1, f5.2.2.trans hh.2.2⟩, ⟨fun g => ?_, fun g => ?_, fun g => ?_, fun g => ?_, fun g => ?_⟩, fun d hd => ?_⟩
    · show rdFs cs (rdF c (x, r)) = _
      rw [e1, f1, adv_adv, List.flatMap_cons, List.length_append, hfb]
    · rw [List.flatMap_cons, List.append_assoc, hfb, ← f2, adv_rest' e2, e2]
    · rw [f6.1 (fun m => g (List.mem_cons_of_mem _ m))]
      have : c ≠ 65 := fun e => g (by rw [e]; exact List.mem_cons_self)
      unfold EM.setF; rw [if_neg this]; repeat' split
      all_goals rfl
    · rw [f6.2.1 (fun m => g (List.mem_cons_of_mem _ m))]
      have : c ≠ 66 := fun e => g (by rw [e]; exact List.mem_cons_self)
      unfold EM.setF; rw [if_neg this]; repeat' split
      all_goals rfl
    · rw [f6.2.2.1 (fun m => g (List.mem_cons_of_mem _ m))]
      have : c ≠ 78 := fun e => g (by rw [e]; exact List.mem_cons_self)
      unfold EM.setF; rw [if_neg this]; repeat' split
      all_goals rfl
    · rw [f6.2.2.2.1 (fun m => g (List.mem_cons_of_mem _ m))]
      have : c ≠ 84 := fun e => g (by rw [e]; exact List.mem_cons_self)
      unfold EM.setF; rw [if_neg this]; repeat' split
      all_goals rfl
    · rw [f6.2.2.2.2 (fun m => g (List.mem_cons_of_mem _ m))]
      have : c ≠ 86 := fun e => g (by rw [e]; exact List.mem_cons_self)
      unfold EM.setF; rw [if_neg this]; repeat' split
      all_goals rfl
    · rw [f7 d (fun m => hd (List.mem_cons_of_mem _ m)), setF_fb_ne _ _ (fun e => hd (by rw [e]; exact List.mem_cons_self))]
/-- A field of which the end is missing. -/
theorem rdF_cut {e : EM} (hf : e.Fit) (c : UInt8) (x : EM) {r : RdM} {cut : Nat} (he : r.err = 0) (hc : cut < (e.fb c).length) (hr : r.rest = (e.fb c).take cut) : (rdF c (x, r)).2.err = 6 := by
  have ha := hf.a
  have hb := hf.b
  unfold rdF
  unfold EM.fb at hr hc
  by_cases h1 : c = 65
  · subst h1
    simp only [if_true] at hr hc ⊢
    exact (num_cut he (by omega) hc hr).2
  rw [if_neg h1] at hr hc ⊢
  by_cases h2 : c = 66
  · subst h2
    simp only [if_true] at hr hc ⊢
    exact (num_cut he (by omega) hc hr).2
  rw [if_neg h2] at hr hc ⊢
  by_cases h3 : c = 78
  · subst h3
    simp only [if_true] at hr hc ⊢
    exact (text_cut hf.name he hc hr).2
  rw [if_neg h3] at hr hc ⊢
  by_cases h4 : c = 84
  · subst h4
    simp only [if_true] at hr hc ⊢
    exact (text_cut hf.text he hc hr).2
  rw [if_neg h4] at hr hc ⊢
  by_cases h5 : c = 86
  · subst h5
    simp only [if_true] at hr hc ⊢
    exact val_cut hf.v hf.c he hc hr
  rw [if_neg h5] at hc
  simp at hc
theorem rdFs_cut {e : EM} (hf : e.Fit) : ∀ (fs : List UInt8) (x : EM) {r : RdM} {cut : Nat}, r.err = 0 → cut < (fs.flatMap e.fb).length → r.rest = (fs.flatMap e.fb).take cut → (rdFs fs (x, r)).2.err = 6
  | [], x, r, cut, _, hc, _ => by simp at hc
  | c :: cs, x, r, cut, he, hc, hr => by
    rw [List.flatMap_cons, take_app] at hr
    rw [List.flatMap_cons, List.length_append] at hc
    show (rdFs cs (rdF c (x, r))).2.err = 6
    by_cases h : cut < (e.fb c).length
    · rw [if_pos h] at hr
      have h1 := rdF_cut hf c x he h hr
      rw [show rdF c (x, r) = ((rdF c (x, r)).1, (rdF c (x, r)).2) from rfl, rdFs_bad cs _ (by rw [h1]; decide)]
      exact h1
    · rw [if_neg h] at hr
      rw [rdF_rt hf c x he hr]
      exact rdFs_cut hf cs _ (by rw [adv_err]; exact he) (by omega) (adv_rest' hr)

/-- What is known of an event that may be. -/
theorem evName_rng {k : Int} (h : evName k ≠ []) : 1 ≤ k ∧ k ≤ 21 := by
  unfold evName at h
  by_cases g : 1 ≤ k ∧ k ≤ 21
  · exact g
  · rw [if_neg g] at h; exact absurd rfl h
theorem evName_ne {k : Int} (h : 1 ≤ k ∧ k ≤ 21) : evName k ≠ [] := by
  obtain ⟨h1, h2⟩ := h
  obtain ⟨n, rfl⟩ := Int.eq_ofNat_of_zero_le (by omega : 0 ≤ k)
  have : n = 1 ∨ n = 2 ∨ n = 3 ∨ n = 4 ∨ n = 5 ∨ n = 6 ∨ n = 7 ∨ n = 8 ∨ n = 9 ∨ n = 10 ∨ n = 11 ∨ n = 12 ∨ n = 13 ∨ n = 14 ∨ n = 15 ∨ n = 16 ∨ n = 17 ∨ n = 18 ∨ n = 19 ∨ n = 20 ∨ n = 21 := by omega
  rcases this with rfl|rfl|rfl|rfl|rfl|rfl|rfl|rfl|rfl|rfl|rfl|rfl|rfl|rfl|rfl|rfl|rfl|rfl|rfl|rfl|rfl <;> decide
theorem evFlds_nodup (k : Int) : (evFlds k).Nodup := by
  unfold evFlds
  by_cases h : 1 ≤ k ∧ k ≤ 21
  · rw [if_pos h]
    obtain ⟨h1, h2⟩ := h
    obtain ⟨n, rfl⟩ := Int.eq_ofNat_of_zero_le (by omega : 0 ≤ k)
    have : n = 1 ∨ n = 2 ∨ n = 3 ∨ n = 4 ∨ n = 5 ∨ n = 6 ∨ n = 7 ∨ n = 8 ∨ n = 9 ∨ n = 10 ∨ n = 11 ∨ n = 12 ∨ n = 13 ∨ n = 14 ∨ n = 15 ∨ n = 16 ∨ n = 17 ∨ n = 18 ∨ n = 19 ∨ n = 20 ∨ n = 21 := by omega
    rcases this with rfl|rfl|rfl|rfl|rfl|rfl|rfl|rfl|rfl|rfl|rfl|rfl|rfl|rfl|rfl|rfl|rfl|rfl|rfl|rfl|rfl <;> decide
  · rw [if_neg h]; exact List.nodup_nil
structure EM.Good (e : EM) : Prop where
  k : 1 ≤ e.k ∧ e.k ≤ 21
  id : 1 ≤ e.id ∧ e.id ≤ 1048576
  tm : 0 ≤ e.tm ∧ e.tm ≤ 4611686018427387903
  a0 : 0 ≤ e.a
  b0 : 0 ≤ e.b
  aF : 65 ∉ evFlds e.k → e.a = 0
  bF : 66 ∉ evFlds e.k → e.b = 0
  nL : e.name.length ≤ 64
  tL : e.text.length ≤ 128
  nF : 78 ∉ evFlds e.k → e.name = []
  tF : 84 ∉ evFlds e.k → e.text = []
  vF : 86 ∉ evFlds e.k → e.v.k = 0
  v : e.v.chk = 0
theorem chk_good {e : EM} (h : e.chk = 0) : e.Good := by
  unfold EM.chk at h
  by_cases h1 : evName e.k = []
  · rw [if_pos h1] at h; simp at h
  rw [if_neg h1] at h
  by_cases h2 : e.id < 1 ∨ 1048576 < e.id ∨ e.tm < 0 ∨ 4611686018427387903 < e.tm
  · rw [if_pos h2] at h; simp at h
  rw [if_neg h2] at h
  by_cases h3 : e.a < 0 ∨ e.b < 0 ∨ (65 ∉ evFlds e.k ∧ e.a ≠ 0) ∨ (66 ∉ evFlds e.k ∧ e.b ≠ 0)
  · rw [if_pos h3] at h; simp at h
  rw [if_neg h3] at h
  by_cases h4 : 64 < e.name.length ∨ 128 < e.text.length
  · rw [if_pos h4] at h; simp at h
  rw [if_neg h4] at h
  by_cases h5 : (78 ∉ evFlds e.k ∧ e.name ≠ []) ∨ (84 ∉ evFlds e.k ∧ e.text ≠ [])
  · rw [if_pos h5] at h; simp at h
  rw [if_neg h5] at h
  by_cases h6 : 86 ∉ evFlds e.k ∧ e.v.k ≠ 0
  · rw [if_pos h6] at h; simp at h
  rw [if_neg h6] at h
  simp only [not_or, not_and, Decidable.not_not, Int.not_lt] at h2 h3 h5 h6
  simp only [not_or, Nat.not_lt] at h4
  exact ⟨evName_rng h1, ⟨by omega, by omega⟩, ⟨by omega, by omega⟩, h3.1, h3.2.1, h3.2.2.1, h3.2.2.2, h4.1, h4.2, h5.1, h5.2, h6, h⟩
theorem good_chk {e : EM} (h : e.Good) : e.chk = 0 := by
  unfold EM.chk
  have h1 := evName_ne h.k
  have i := h.id
  have t := h.tm
  have a := h.a0
  have b := h.b0
  rw [if_neg h1, if_neg (by omega), if_neg, if_neg (by have := h.nL; have := h.tL; omega), if_neg, if_neg]
  · exact h.v
  · exact fun ⟨x, y⟩ => y (h.vF x)
  · rintro (⟨x, y⟩ | ⟨x, y⟩)
    · exact y (h.nF x)
    · exact y (h.tF x)
  · rintro (x | x | ⟨x, y⟩ | ⟨x, y⟩)
    · omega
    · omega
    · exact y (h.aF x)
    · exact y (h.bF x)
theorem EM.Good.fit {e : EM} (h : e.Good) (hg : e.rg) : e.Fit := by
  obtain ⟨-, -, -, ga, gb, gn, gt, gv⟩ := hg
  exact ⟨⟨h.a0, ga.2⟩, ⟨h.b0, gb.2⟩, by have := h.nL; omega, by have := h.tL; omega, gv, h.v⟩
theorem cl_k (t : VT) : t.cl.k = t.k := by cases t; rw [VT.cl]; rfl
theorem cl_nil {t : VT} (h : t.k = 0) : t.cl = .nil := by
  obtain ⟨k, n, s, l⟩ := t
  have h' : k = 0 := h
  subst h'
  rw [VT.cl]; simp [VT.nil]
theorem cl_good {e : EM} (h : e.Good) : e.cl.Good := ⟨h.k, h.id, h.tm, h.a0, h.b0, h.aF, h.bF, h.nL, h.tL, h.nF, h.tF, fun g => by show e.v.cl.k = 0; rw [cl_k]; exact h.vF g, by show e.v.cl.chk = 0; rw [cl_chk]; exact h.v⟩
theorem cl_fb (e : EM) (c : UInt8) : e.cl.fb c = e.fb c := by unfold EM.fb EM.cl; simp only [cl_wr]
theorem ecl_wr (e : EM) : e.cl.wr = e.wr := by
  unfold EM.wr
  rw [show e.cl.fb = e.fb from funext (cl_fb e)]; rfl
theorem zero_fit (i t k : Int) : (⟨i, t, k, 0, 0, [], [], .nil⟩ : EM).Fit := ⟨⟨by show (0 : Int) ≤ 0; decide, by show (0 : Int) ≤ 9223372036854775807; decide⟩, ⟨by show (0 : Int) ≤ 0; decide, by show (0 : Int) ≤ 9223372036854775807; decide⟩, by show 0 ≤ 4096; decide, by show 0 ≤ 4096; decide, by simp [VT.nil, VT.rg, VT.rgL], by show VT.nil.chk = 0; decide⟩
theorem fail_zero (r : RdM) : r.fail 0 = r := by
  unfold RdM.fail
  split
  · rename_i h; cases r; simp only at h ⊢; rw [h]
  · rfl
/-- An event that was written is read again. -/
theorem rdH_rt {e : EM} (hg : e.Good) {r : RdM} {post : List UInt8} (he : r.err = 0) (hr : r.rest = e.wr ++ post) :
    r.byte.1 = e.k ∧ rdH r = (⟨e.id, e.tm, e.k, 0, 0, [], [], .nil⟩, ((r.adv 1).adv (numB e.id.toNat).length).adv (numB e.tm.toNat).length) ∧ (((r.adv 1).adv (numB e.id.toNat).length).adv (numB e.tm.toNat).length).rest = (evFlds e.k).flatMap e.fb ++ post := by
  unfold EM.wr at hr
  simp only [List.cons_append, List.append_assoc] at hr
  have hk := hg.k
  have hi := hg.id
  have ht := hg.tm
  have hb := byte_ok he hr
  have hx : (UInt8.ofNat (e.k % 256).toNat).toNat = e.k.toNat := by simp; omega
  rw [hx] at hb
  have hkk : (e.k.toNat : Int) = e.k := Int.toNat_of_nonneg (by omega)
  have hr1 := adv_rest' (a := [_]) hr
  rw [List.length_singleton] at hr1
  have n1 := num_rt (most := 1048576) (by rw [adv_err]; exact he) (by omega) (by omega) hr1
  have hr2 := adv_rest' hr1
  have n2 := num_rt (most := 4611686018427387903) (by rw [adv_err, adv_err]; exact he) (by omega) (by omega) hr2
  refine ⟨by rw [hb]; exact hkk, ?_, adv_rest' hr2⟩
  have hd : rdKd r = r.adv 1 := by
    unfold rdKd
    rw [hb]
    simp only [hkk]
    rw [if_neg (evName_ne hk)]
  unfold rdH
  rw [hd, hb]
  simp only [hkk]
  rw [n1]
  simp only
  rw [n2, Int.toNat_of_nonneg (by omega), Int.toNat_of_nonneg (by omega)]
theorem ev_rt {e : EM} (hg : e.Good) (hr0 : e.rg) {r : RdM} {post : List UInt8} (he : r.err = 0) (hr : r.rest = e.wr ++ post) : r.ev = (e.cl, r.adv e.wr.length) := by
  obtain ⟨h1, h2, h3⟩ := rdH_rt hg he hr
  have h4 := rdFs_rt (hg.fit hr0) (evFlds e.k) ⟨e.id, e.tm, e.k, 0, 0, [], [], .nil⟩ (by rw [adv_err, adv_err, adv_err]; exact he) h3
  have h5 : (evFlds e.k).foldl (fun x c => e.setF c x) ⟨e.id, e.tm, e.k, 0, 0, [], [], .nil⟩ = e.cl := by
    rw [setFs]
    unfold EM.cl
    have ia : (if 65 ∈ evFlds e.k then e.a else 0) = e.a := by split; rfl; rename_i g; exact (hg.aF g).symm
    have ib : (if 66 ∈ evFlds e.k then e.b else 0) = e.b := by split; rfl; rename_i g; exact (hg.bF g).symm
    have i1 : (if 78 ∈ evFlds e.k then e.name else []) = e.name := by split; rfl; rename_i g; exact (hg.nF g).symm
    have i2 : (if 84 ∈ evFlds e.k then e.text else []) = e.text := by split; rfl; rename_i g; exact (hg.tF g).symm
    have iv : (if 86 ∈ evFlds e.k then e.v.cl else .nil) = e.v.cl := by split; rfl; rename_i g; exact (cl_nil (hg.vF g)).symm
    rw [ia, ib, i1, i2, iv]
  have h6 : evEnd (e.cl, (((r.adv 1).adv (numB e.id.toNat).length).adv (numB e.tm.toNat).length).adv ((evFlds e.k).flatMap e.fb).length) = r.adv e.wr.length := by
    unfold evEnd
    simp only
    rw [good_chk (cl_good hg), fail_zero, ite_self, adv_adv, adv_adv, adv_adv, EM.wr, List.length_cons, List.length_append, List.length_append]
    congr 1; omega
  unfold RdM.ev
  rw [h1, h2, h4, h5, evOver, h6, if_neg (by rw [adv_err]; simp [he])]
/-- An event that is read was written so. -/
theorem ev_inv {r : RdM} (he : r.err = 0) (h : r.ev.2.err = 0) : ∃ e post, r.ev = (e, r.adv e.wr.length) ∧ r.rest = e.wr ++ post ∧ e.Good ∧ e.rg ∧ e.cl = e := by
  unfold RdM.ev at h ⊢
  have h1 : (rdFs (evFlds r.byte.1) (rdH r)).2.err = 0 ∧ (rdFs (evFlds r.byte.1) (rdH r)).1.chk = 0 := by
    have h' : (evEnd (rdFs (evFlds r.byte.1) (rdH r))).err = 0 := h
    unfold evEnd at h'
    by_cases g : (rdFs (evFlds r.byte.1) (rdH r)).2.err = 0
    · rw [if_pos g, fail_err, if_pos g] at h'; exact ⟨g, h'⟩
    · rw [if_neg g] at h'; exact absurd h' g
  obtain ⟨h1, hchk⟩ := h1
  have h2 : (rdH r).2.err = 0 := by
    by_cases g : (rdH r).2.err = 0
    · exact g
    · rw [show rdH r = ((rdH r).1, (rdH r).2) from rfl, rdFs_bad _ _ g] at h1; exact h1
  have h2' : (((rdKd r).num 1048576).2.num 4611686018427387903).2.err = 0 := h2
  have h3 : ((rdKd r).num 1048576).2.err = 0 := by
    by_cases g : ((rdKd r).num 1048576).2.err = 0
    · exact g
    · rw [num_bad g] at h2'; exact h2'
  have h4 : (rdKd r).err = 0 := by
    by_cases g : (rdKd r).err = 0
    · exact g
    · rw [num_bad g] at h3; exact h3
  have h5 : evName r.byte.1 ≠ [] := by
    intro g
    unfold rdKd at h4
    rw [if_pos g] at h4
    exact fail_ne (by decide) h4
  have hd : rdKd r = r.byte.2 := by unfold rdKd; rw [if_neg h5]
  have h6 : r.byte.2.err = 0 := by rw [← hd]; exact h4
  rcases byte_cases r he with ⟨-, hb⟩ | ⟨x, b, hr, hb⟩
  · rw [hb, fail_err, if_pos he] at h6; simp at h6
  rw [hd, hb] at h2' h3
  obtain ⟨n1, p1, e1, e2, e3, e4⟩ := num_inv (by rw [adv_err]; exact he) h3
  rw [e1] at h2'
  obtain ⟨n2, p2, f1, f2, f3, f4⟩ := num_inv (by rw [adv_err, adv_err]; exact he) h2'
  have hH : rdH r = (⟨n1, n2, x.toNat, 0, 0, [], [], .nil⟩, ((r.adv 1).adv (numB n1).length).adv (numB n2).length) := by
    unfold rdH
    rw [hd, hb]
    simp only
    rw [e1]
    simp only
    rw [f1]
  rw [hb] at h5
  have hkx := evName_rng h5
  rw [hH, hb] at h1 hchk ⊢
  obtain ⟨y, post, g1, g2, g3, g4, g5, g6, -⟩ := rdFs_inv (evFlds (x.toNat : Int)) _ _ (evFlds_nodup _) (zero_fit _ _ _) (by show VT.nil.cl = VT.nil; rw [VT.nil, VT.cl]; simp) (by rw [adv_err, adv_err, adv_err]; exact he) h1
  rw [g1] at hchk ⊢
  simp only at hchk
  have hgd := chk_good hchk
  have hw : y.wr = x :: (numB n1 ++ (numB n2 ++ (evFlds (x.toNat : Int)).flatMap y.fb)) := by
    unfold EM.wr
    rw [g5.1, g5.2.1, g5.2.2]
    have : UInt8.ofNat ((x.toNat : Int) % 256).toNat = x := by
      have := x.toNat_lt
      rw [show ((x.toNat : Int) % 256).toNat = x.toNat from by omega]; simp
    simp only [Int.toNat_natCast, this]
  have hlen : (((r.adv 1).adv (numB n1).length).adv (numB n2).length).adv ((evFlds (x.toNat : Int)).flatMap y.fb).length = r.adv y.wr.length := by
    rw [hw]
    simp only [RdM.adv, List.length_cons, List.length_append]
    congr 1; omega
  refine ⟨y, post, ?_, ?_, hgd, ?_, ?_⟩
  · have h7 : evEnd (y, (((r.adv 1).adv (numB n1).length).adv (numB n2).length).adv ((evFlds (x.toNat : Int)).flatMap y.fb).length) = r.adv y.wr.length := by
      unfold evEnd
      simp only
      rw [hchk, fail_zero, ite_self]; exact hlen
    rw [evOver, h7, if_neg (by rw [adv_err]; simp [he])]
  · rw [hw, hr]
    simp only [List.cons_append, List.append_assoc]
    congr 1
    have e2' : (r.adv 1).rest = numB n1 ++ p1 := e2
    have f2' : ((r.adv 1).adv (numB n1).length).rest = numB n2 ++ p2 := f2
    rw [← g2, adv_rest' f2', ← f2', adv_rest' e2', ← e2']
    exact (adv_rest' (a := [x]) hr).symm
  · have t := g3
    have a := hgd.tm
    have b := hgd.id
    have c := hgd.k
    exact ⟨⟨by omega, by omega⟩, ⟨by omega, by omega⟩, ⟨by omega, by omega⟩, ⟨by have := t.a.1; omega, t.a.2⟩, ⟨by have := t.b.1; omega, t.b.2⟩, by have := t.name; omega, by have := t.text; omega, t.v⟩
  · unfold EM.cl; rw [g4]
/-- An event of which the end is missing. -/
theorem ev_cut {e : EM} (hg : e.Good) (hr0 : e.rg) {r : RdM} {cut : Nat} (he : r.err = 0) (hc : cut < e.wr.length) (hr : r.rest = e.wr.take cut) : r.ev.2.err = 6 := by
  have hk := hg.k
  have hi := hg.id
  have ht := hg.tm
  have key : ∀ x : EM × RdM, x.2.err = 6 → (evOver x).2.err = 6 := fun x hx => by
    show (evEnd x).err = 6
    unfold evEnd
    rw [if_neg (by rw [hx]; decide)]; exact hx
  refine key _ ?_
  have six : ∀ fs, (rdH r).2.err = 6 → (rdFs fs (rdH r)).2.err = 6 := fun fs hx => by
    rw [show rdH r = ((rdH r).1, (rdH r).2) from rfl, rdFs_bad _ _ (by rw [hx]; decide)]; exact hx
  unfold EM.wr at hr hc
  rcases Nat.eq_zero_or_pos cut with rfl | hpos
  · have hb := byte_short he hr
    have h6 : (r.fail 6).err = 6 := by rw [fail_err, if_pos he]
    refine six _ ?_
    have hd : rdKd r = r.fail 6 := by
      unfold rdKd
      rw [hb]
      split
      · exact fail_bad (by rw [h6]; decide)
      · rfl
    show (((rdKd r).num 1048576).2.num 4611686018427387903).2.err = 6
    have hne : (r.fail 6).err ≠ 0 := by rw [h6]; decide
    rw [hd, num_bad hne]
    simp only
    rw [num_bad hne]; exact h6
  obtain ⟨c, rfl⟩ : ∃ c, cut = c + 1 := ⟨cut - 1, by omega⟩
  rw [List.take_succ_cons] at hr
  rw [List.length_cons] at hc
  have hb := byte_ok he hr
  have hx : (UInt8.ofNat (e.k % 256).toNat).toNat = e.k.toNat := by simp; omega
  rw [hx] at hb
  have hkk : (e.k.toNat : Int) = e.k := Int.toNat_of_nonneg (by omega)
  have hr1 := adv_rest' (a := [_]) hr
  rw [List.length_singleton, take_app] at hr1
  have he1 : (r.adv 1).err = 0 := by rw [adv_err]; exact he
  have hH : rdH r = (⟨((r.adv 1).num 1048576).1, (((r.adv 1).num 1048576).2.num 4611686018427387903).1, e.k, 0, 0, [], [], .nil⟩, (((r.adv 1).num 1048576).2.num 4611686018427387903).2) := by
    have hd : rdKd r = r.adv 1 := by
      unfold rdKd
      rw [hb]
      simp only [hkk]
      rw [if_neg (evName_ne hk)]
    unfold rdH
    rw [hd, hb]
    simp only [hkk]
  by_cases c1 : c < (numB e.id.toNat).length
  · rw [if_pos c1] at hr1
    have h6 := (num_cut (most := 1048576) he1 (by omega) c1 hr1).2
    refine six _ ?_
    rw [hH]
    simp only
    rw [num_bad (by rw [h6]; decide)]; exact h6
  rw [if_neg c1] at hr1
  have n1 := num_rt (most := 1048576) he1 (by omega) (by omega) hr1
  have hr2 := adv_rest' hr1
  rw [take_app] at hr2
  have he2 : ((r.adv 1).adv (numB e.id.toNat).length).err = 0 := by rw [adv_err]; exact he1
  by_cases c2 : c - (numB e.id.toNat).length < (numB e.tm.toNat).length
  · rw [if_pos c2] at hr2
    have h6 := (num_cut (most := 4611686018427387903) he2 (by omega) c2 hr2).2
    refine six _ ?_
    rw [hH, n1]; exact h6
  rw [if_neg c2] at hr2
  have n2 := num_rt (most := 4611686018427387903) he2 (by omega) (by omega) hr2
  have hr3 := adv_rest' hr2
  rw [hb]
  simp only [hkk]
  rw [hH, n1]
  simp only
  rw [n2]
  simp only [List.length_append] at hc
  exact rdFs_cut (hg.fit hr0) _ _ (by rw [adv_err]; exact he2) (by omega) hr3
end Go.Proofs.YtokefeemhgcmhaaGreatDoor
