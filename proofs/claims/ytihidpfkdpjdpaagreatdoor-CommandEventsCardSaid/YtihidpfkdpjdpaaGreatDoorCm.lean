/- Commands: their kinds, bytes, how they are checked and read. A command is kept as an event without number and text. Plain, no program. -/
import Derived.Test.YtihidpfkdpjdpaaGreatDoorEvL
namespace Go.Proofs.YtihidpfkdpjdpaaGreatDoor

def cTab : List (List UInt8 × List UInt8) :=
  [([115, 116, 97, 114, 116, 45, 116, 105, 109, 101, 114], [65, 66]),
   ([99, 97, 110, 99, 101, 108, 45, 116, 105, 109, 101, 114], [65]),
   ([115, 99, 104, 101, 100, 117, 108, 101], [65, 66, 78, 86]),
   ([99, 111, 109, 112, 108, 101, 116, 101], [86]),
   ([102, 97, 105, 108], [78]),
   ([97, 103, 97, 105, 110], [86])]
def cName (k : Int) : List UInt8 := if 1 ≤ k ∧ k ≤ 6 then (cTab.getD (k.toNat - 1) ([], [])).1 else []
def cFlds (k : Int) : List UInt8 := if 1 ≤ k ∧ k ≤ 6 then (cTab.getD (k.toNat - 1) ([], [])).2 else []
/-- command.Check. -/
def EM.cchk (e : EM) : Int :=
  if cName e.k = [] then 9
  else if e.tm < 0 ∨ 4611686018427387903 < e.tm ∨ e.a < 0 ∨ e.b < 0 ∨ (65 ∉ cFlds e.k ∧ e.a ≠ 0) ∨ (66 ∉ cFlds e.k ∧ e.b ≠ 0) then 1
  else if 64 < e.name.length then 2
  else if (78 ∉ cFlds e.k ∧ e.name ≠ []) ∨ (86 ∉ cFlds e.k ∧ e.v.k ≠ 0) then 8
  else e.v.chk
/-- A command's bytes. -/
def EM.cwr (e : EM) : List UInt8 := UInt8.ofNat (e.k % 256).toNat :: (numB e.tm.toNat ++ (cFlds e.k).flatMap e.fb)
/-- A command: no number, no text. -/
def EM.isC (e : EM) : Prop := e.id = 0 ∧ e.text = []
structure EM.CGood (e : EM) : Prop where
  k : 1 ≤ e.k ∧ e.k ≤ 6
  tm : 0 ≤ e.tm ∧ e.tm ≤ 4611686018427387903
  a0 : 0 ≤ e.a
  b0 : 0 ≤ e.b
  aF : 65 ∉ cFlds e.k → e.a = 0
  bF : 66 ∉ cFlds e.k → e.b = 0
  nL : e.name.length ≤ 64
  nF : 78 ∉ cFlds e.k → e.name = []
  vF : 86 ∉ cFlds e.k → e.v.k = 0
  v : e.v.chk = 0
theorem cName_rng {k : Int} (h : cName k ≠ []) : 1 ≤ k ∧ k ≤ 6 := by
  unfold cName at h
  by_cases g : 1 ≤ k ∧ k ≤ 6
  · exact g
  · rw [if_neg g] at h; exact absurd rfl h
theorem cName_ne {k : Int} (h : 1 ≤ k ∧ k ≤ 6) : cName k ≠ [] := by
  obtain ⟨h1, h2⟩ := h
  have : k = 1 ∨ k = 2 ∨ k = 3 ∨ k = 4 ∨ k = 5 ∨ k = 6 := by omega
  rcases this with rfl|rfl|rfl|rfl|rfl|rfl <;> decide
theorem cFlds_nodup (k : Int) : (cFlds k).Nodup := by
  unfold cFlds
  by_cases h : 1 ≤ k ∧ k ≤ 6
  · rw [if_pos h]
    have : k = 1 ∨ k = 2 ∨ k = 3 ∨ k = 4 ∨ k = 5 ∨ k = 6 := by omega
    rcases this with rfl|rfl|rfl|rfl|rfl|rfl <;> decide
  · rw [if_neg h]; exact List.nodup_nil
theorem cFlds_no84 (k : Int) : (84 : UInt8) ∉ cFlds k := by
  unfold cFlds
  by_cases h : 1 ≤ k ∧ k ≤ 6
  · rw [if_pos h]
    have : k = 1 ∨ k = 2 ∨ k = 3 ∨ k = 4 ∨ k = 5 ∨ k = 6 := by omega
    rcases this with rfl|rfl|rfl|rfl|rfl|rfl <;> decide
  · rw [if_neg h]; simp
theorem cchk_good {e : EM} (h : e.cchk = 0) : e.CGood := by
  unfold EM.cchk at h
  by_cases h1 : cName e.k = []
  · rw [if_pos h1] at h; simp at h
  rw [if_neg h1] at h
  by_cases h2 : e.tm < 0 ∨ 4611686018427387903 < e.tm ∨ e.a < 0 ∨ e.b < 0 ∨ (65 ∉ cFlds e.k ∧ e.a ≠ 0) ∨ (66 ∉ cFlds e.k ∧ e.b ≠ 0)
  · rw [if_pos h2] at h; simp at h
  rw [if_neg h2] at h
  by_cases h4 : 64 < e.name.length
  · rw [if_pos h4] at h; simp at h
  rw [if_neg h4] at h
  by_cases h5 : (78 ∉ cFlds e.k ∧ e.name ≠ []) ∨ (86 ∉ cFlds e.k ∧ e.v.k ≠ 0)
  · rw [if_pos h5] at h; simp at h
  rw [if_neg h5] at h
  simp only [not_or, not_and, Decidable.not_not, Int.not_lt] at h2 h5
  exact ⟨cName_rng h1, ⟨by omega, by omega⟩, h2.2.2.1, h2.2.2.2.1, h2.2.2.2.2.1, h2.2.2.2.2.2, by omega, h5.1, h5.2, h⟩
theorem cgood_chk {e : EM} (h : e.CGood) : e.cchk = 0 := by
  unfold EM.cchk
  have h1 := cName_ne h.k
  have t := h.tm
  have a := h.a0
  have b := h.b0
  rw [if_neg h1, if_neg, if_neg (by have := h.nL; omega), if_neg]
  · exact h.v
  · rintro (⟨x, y⟩ | ⟨x, y⟩)
    · exact y (h.nF x)
    · exact y (h.vF x)
  · rintro (x | x | x | x | ⟨x, y⟩ | ⟨x, y⟩)
    · omega
    · omega
    · omega
    · omega
    · exact y (h.aF x)
    · exact y (h.bF x)
theorem EM.CGood.fit {e : EM} (h : e.CGood) (hg : e.rg) (hc : e.isC) : e.Fit := by
  obtain ⟨-, -, -, ga, gb, gn, gt, gv⟩ := hg
  exact ⟨⟨h.a0, ga.2⟩, ⟨h.b0, gb.2⟩, by have := h.nL; omega, by rw [hc.2]; simp, gv, h.v⟩
theorem cl_cgood {e : EM} (h : e.CGood) : e.cl.CGood := ⟨h.k, h.tm, h.a0, h.b0, h.aF, h.bF, h.nL, h.nF, fun g => by show e.v.cl.k = 0; rw [cl_k]; exact h.vF g, by show e.v.cl.chk = 0; rw [cl_chk]; exact h.v⟩
theorem ccl_wr (e : EM) : e.cl.cwr = e.cwr := by
  unfold EM.cwr
  rw [show e.cl.fb = e.fb from funext (cl_fb e)]; rfl
theorem cl_isC {e : EM} (h : e.isC) : e.cl.isC := h
/-- command.read: the head, the fields, the check. -/
def rdCk (r : RdM) : RdM := if cName r.byte.1 = [] then r.byte.2.fail 9 else r.byte.2
def rdCh (r : RdM) : EM × RdM := (⟨0, ((rdCk r).num 4611686018427387903).1, r.byte.1, 0, 0, [], [], .nil⟩, ((rdCk r).num 4611686018427387903).2)
def cEnd (x : EM × RdM) : RdM := if x.2.err = 0 then x.2.fail x.1.cchk else x.2
def RdM.cm (r : RdM) : EM × RdM := ((rdFs (cFlds r.byte.1) (rdCh r)).1, cEnd (rdFs (cFlds r.byte.1) (rdCh r)))
theorem cm_rt {e : EM} (hg : e.CGood) (hc : e.isC) (hr0 : e.rg) {r : RdM} {post : List UInt8} (he : r.err = 0) (hr : r.rest = e.cwr ++ post) : r.cm = (e.cl, r.adv e.cwr.length) := by
  have hr' := hr
  unfold EM.cwr at hr'
  simp only [List.cons_append, List.append_assoc] at hr'
  have hk := hg.k
  have ht := hg.tm
  have hb := byte_ok he hr'
  have hx : (UInt8.ofNat (e.k % 256).toNat).toNat = e.k.toNat := by simp; omega
  rw [hx] at hb
  have hkk : (e.k.toNat : Int) = e.k := Int.toNat_of_nonneg (by omega)
  have hr1 := adv_rest' (a := [_]) hr'
  rw [List.length_singleton] at hr1
  have n1 := num_rt (most := 4611686018427387903) (by rw [adv_err]; exact he) (by omega) (by omega) hr1
  have hr2 := adv_rest' hr1
  have hd : rdCk r = r.adv 1 := by
    unfold rdCk
    rw [hb]
    simp only [hkk]
    rw [if_neg (cName_ne hk)]
  have hh : rdCh r = (⟨0, e.tm, e.k, 0, 0, [], [], .nil⟩, (r.adv 1).adv (numB e.tm.toNat).length) := by
    unfold rdCh
    rw [hd, hb]
    simp only [hkk]
    rw [n1, Int.toNat_of_nonneg (by omega)]
  have h4 := rdFs_rt (hg.fit hr0 hc) (cFlds e.k) ⟨0, e.tm, e.k, 0, 0, [], [], .nil⟩ (by rw [adv_err, adv_err]; exact he) hr2
  have h5 : (cFlds e.k).foldl (fun x c => e.setF c x) ⟨0, e.tm, e.k, 0, 0, [], [], .nil⟩ = e.cl := by
    rw [setFs]
    unfold EM.cl
    have ia : (if 65 ∈ cFlds e.k then e.a else 0) = e.a := by split; rfl; rename_i g; exact (hg.aF g).symm
    have ib : (if 66 ∈ cFlds e.k then e.b else 0) = e.b := by split; rfl; rename_i g; exact (hg.bF g).symm
    have i1 : (if 78 ∈ cFlds e.k then e.name else []) = e.name := by split; rfl; rename_i g; exact (hg.nF g).symm
    have i2 : (if 84 ∈ cFlds e.k then e.text else []) = e.text := by rw [hc.2]; split <;> rfl
    have iv : (if 86 ∈ cFlds e.k then e.v.cl else .nil) = e.v.cl := by split; rfl; rename_i g; exact (cl_nil (hg.vF g)).symm
    rw [ia, ib, i1, i2, iv, hc.1]
  have hlen : ((r.adv 1).adv (numB e.tm.toNat).length).adv ((cFlds e.k).flatMap e.fb).length = r.adv e.cwr.length := by
    rw [adv_adv, adv_adv, EM.cwr, List.length_cons, List.length_append]
    congr 1; omega
  have hb1 : (r.byte.1 : Int) = e.k := by rw [hb]; exact hkk
  unfold RdM.cm
  rw [hb1, hh, h4, h5, hlen]
  unfold cEnd
  simp only
  rw [cgood_chk (cl_cgood hg), fail_zero, ite_self]
theorem cm_inv {r : RdM} (he : r.err = 0) (h : r.cm.2.err = 0) : ∃ e post, r.cm = (e, r.adv e.cwr.length) ∧ r.rest = e.cwr ++ post ∧ e.CGood ∧ e.isC ∧ e.rg ∧ e.cl = e := by
  unfold RdM.cm at h ⊢
  have h1 : (rdFs (cFlds r.byte.1) (rdCh r)).2.err = 0 ∧ (rdFs (cFlds r.byte.1) (rdCh r)).1.cchk = 0 := by
    have h' : (cEnd (rdFs (cFlds r.byte.1) (rdCh r))).err = 0 := h
    unfold cEnd at h'
    by_cases g : (rdFs (cFlds r.byte.1) (rdCh r)).2.err = 0
    · rw [if_pos g, fail_err, if_pos g] at h'; exact ⟨g, h'⟩
    · rw [if_neg g] at h'; exact absurd h' g
  obtain ⟨h1, hchk⟩ := h1
  have h2 : (rdCh r).2.err = 0 := by
    by_cases g : (rdCh r).2.err = 0
    · exact g
    · rw [show rdCh r = ((rdCh r).1, (rdCh r).2) from rfl, rdFs_bad _ _ g] at h1; exact h1
  have h3 : ((rdCk r).num 4611686018427387903).2.err = 0 := h2
  have h4 : (rdCk r).err = 0 := by
    by_cases g : (rdCk r).err = 0
    · exact g
    · rw [num_bad g] at h3; exact h3
  have h5 : cName r.byte.1 ≠ [] := by
    intro g
    unfold rdCk at h4
    rw [if_pos g] at h4
    exact fail_ne (by decide) h4
  have hd : rdCk r = r.byte.2 := by unfold rdCk; rw [if_neg h5]
  have h6 : r.byte.2.err = 0 := by rw [← hd]; exact h4
  rcases byte_cases r he with ⟨-, hb⟩ | ⟨x, b, hr, hb⟩
  · rw [hb, fail_err, if_pos he] at h6; simp at h6
  rw [hd, hb] at h3
  obtain ⟨n1, p1, e1, e2, e3, e4⟩ := num_inv (by rw [adv_err]; exact he) h3
  have hH : rdCh r = (⟨0, n1, x.toNat, 0, 0, [], [], .nil⟩, (r.adv 1).adv (numB n1).length) := by
    unfold rdCh
    rw [hd, hb]
    simp only
    rw [e1]
  rw [hb] at h5
  have hkx := cName_rng h5
  rw [hH, hb] at h1 hchk ⊢
  obtain ⟨y, post, g1, g2, g3, g4, g5, g6, -⟩ := rdFs_inv (cFlds (x.toNat : Int)) _ _ (cFlds_nodup _) (zero_fit _ _ _) (by show VT.nil.cl = VT.nil; rw [VT.nil, VT.cl]; simp) (by rw [adv_err, adv_err]; exact he) h1
  rw [g1] at hchk ⊢
  simp only at hchk
  have hgd := cchk_good hchk
  have hw : y.cwr = x :: (numB n1 ++ (cFlds (x.toNat : Int)).flatMap y.fb) := by
    unfold EM.cwr
    rw [g5.2.1, g5.2.2]
    have : UInt8.ofNat ((x.toNat : Int) % 256).toNat = x := by
      have := x.toNat_lt
      rw [show ((x.toNat : Int) % 256).toNat = x.toNat from by omega]; simp
    simp only [Int.toNat_natCast, this]
  have hlen : ((r.adv 1).adv (numB n1).length).adv ((cFlds (x.toNat : Int)).flatMap y.fb).length = r.adv y.cwr.length := by
    rw [hw]
    simp only [RdM.adv, List.length_cons, List.length_append]
    congr 1; omega
  have hrest : r.rest = y.cwr ++ post := by
    rw [hw, List.cons_append, hr]
    congr 1
    have e2' : (r.adv 1).rest = numB n1 ++ p1 := e2
    rw [adv_rest, hr] at e2'
    have g2' : ((r.adv 1).adv (numB n1).length).rest = (cFlds (x.toNat : Int)).flatMap y.fb ++ post := g2
    have hp : ((r.adv 1).adv (numB n1).length).rest = p1 := adv_rest' e2
    rw [hp] at g2'
    rw [List.append_assoc, ← g2']
    simpa using e2'
  refine ⟨y, post, ?_, hrest, hgd, ⟨g5.1, g6.2.2.2.1 (cFlds_no84 _)⟩, ?_, ?_⟩
  · show (_, cEnd _) = _
    unfold cEnd
    simp only
    rw [hlen, hchk, fail_zero, ite_self]
  · have ht := hgd.tm
    have hkk := hgd.k
    refine ⟨by rw [g5.1]; exact ⟨by show (-9223372036854775808 : Int) ≤ 0; decide, by show (0 : Int) ≤ 9223372036854775807; decide⟩, ⟨by omega, by omega⟩, ⟨by omega, by omega⟩, ⟨by have := g3.a; omega, g3.a.2⟩, ⟨by have := g3.b; omega, g3.b.2⟩, by have := g3.name; omega, by have := g3.text; omega, g3.v⟩
  · unfold EM.cl
    rw [g4]
/-- So many commands, one behind the other, up to the first that isn't one. -/
def rdCs : Nat → RdM → List EM × RdM
  | 0, r => ([], r)
  | n + 1, r => if r.cm.2.err ≠ 0 then ([], r.cm.2) else (r.cm.1 :: (rdCs n r.cm.2).1, (rdCs n r.cm.2).2)
/-- command.All: the first error. -/
def cEnds (k : Int) : Bool := k == 4 || k == 6 || k == 5
def cAllL : List EM → Int
  | [] => 0
  | e :: es => if e.cchk ≠ 0 then e.cchk else if cEnds e.k = true ∧ es ≠ [] then 7 else cAllL es
def cAll (l : List EM) : Int := if 256 < l.length then 2 else cAllL l
def cwrL (l : List EM) : List UInt8 := numB l.length ++ l.flatMap EM.cwr
/-- command.Decode. -/
def cdR (l : List UInt8) : List EM × Int :=
  if (rdCs ((RdM.of l).num 256).1 ((RdM.of l).num 256).2).2.done ≠ 0 then ([], (rdCs ((RdM.of l).num 256).1 ((RdM.of l).num 256).2).2.done)
  else if cAll (rdCs ((RdM.of l).num 256).1 ((RdM.of l).num 256).2).1 ≠ 0 then ([], cAll (rdCs ((RdM.of l).num 256).1 ((RdM.of l).num 256).2).1)
  else ((rdCs ((RdM.of l).num 256).1 ((RdM.of l).num 256).2).1, 0)
theorem cAllL_good : ∀ {l : List EM}, cAllL l = 0 → ∀ e ∈ l, e.CGood
  | [], _, _, h => by simp at h
  | x :: l, h, e, he => by
    rw [cAllL] at h
    by_cases h1 : x.cchk ≠ 0
    · rw [if_pos h1] at h; exact absurd h h1
    rw [if_neg h1] at h
    have h1 := Decidable.not_not.1 h1
    split at h
    · simp at h
    · rcases List.mem_cons.1 he with rfl | he
      · exact cchk_good h1
      · exact cAllL_good h e he
theorem rdCs_rt : ∀ (l : List EM) {r : RdM} {post : List UInt8}, (∀ e ∈ l, e.CGood ∧ e.isC ∧ e.rg) → r.err = 0 → r.rest = l.flatMap EM.cwr ++ post → rdCs l.length r = (l.map EM.cl, r.adv (l.flatMap EM.cwr).length)
  | [], r, _, _, _, _ => by simp [rdCs, adv_zero]
  | e :: l, r, post, hg, he, hr => by
    rw [List.flatMap_cons, List.append_assoc] at hr
    obtain ⟨g1, g2, g3⟩ := hg e List.mem_cons_self
    have h1 := cm_rt g1 g2 g3 he hr
    rw [List.length_cons, rdCs, h1]
    simp only
    rw [if_neg (by rw [adv_err]; simp [he]), rdCs_rt l (fun x hx => hg x (List.mem_cons_of_mem _ hx)) (by rw [adv_err]; exact he) (adv_rest' hr), adv_adv, List.flatMap_cons, List.length_append]
    rfl
theorem rdCs_inv : ∀ (n : Nat) (r : RdM), r.err = 0 → (rdCs n r).2.err = 0 → ∃ (l : List EM) (post : List UInt8), rdCs n r = (l, r.adv (l.flatMap EM.cwr).length) ∧ r.rest = l.flatMap EM.cwr ++ post ∧ l.length = n ∧ ∀ e ∈ l, e.CGood ∧ e.isC ∧ e.rg ∧ e.cl = e
  | 0, r, he, _ => ⟨[], r.rest, by simp [rdCs, adv_zero], by simp, rfl, by simp⟩
  | n + 1, r, he, h => by
    rw [rdCs] at h ⊢
    by_cases g : r.cm.2.err ≠ 0
    · rw [if_pos g] at h; exact absurd h g
    rw [if_neg g] at h ⊢
    obtain ⟨e, p, h1, h2, h3, h4, h5, h6⟩ := cm_inv he (Decidable.not_not.1 g)
    rw [h1] at h ⊢
    simp only at h ⊢
    obtain ⟨l, post, f1, f2, f3, f4⟩ := rdCs_inv n (r.adv e.cwr.length) (by rw [adv_err]; exact he) h
    refine ⟨e :: l, post, ?_, ?_, by rw [List.length_cons, f3], fun x hx => ?_⟩
    · rw [f1, adv_adv, List.flatMap_cons, List.length_append]
    · rw [List.flatMap_cons, List.append_assoc, ← f2, adv_rest' h2, h2]
    · rcases List.mem_cons.1 hx with rfl | hx
      · exact ⟨h3, h4, h5, h6⟩
      · exact f4 x hx
theorem cAllL_cl : ∀ l : List EM, cAllL (l.map EM.cl) = cAllL l
  | [] => rfl
  | e :: l => by
    have hk : e.cl.cchk = e.cchk := by unfold EM.cchk EM.cl; simp only [cl_k, cl_chk]
    rw [List.map_cons, cAllL, cAllL, hk, cAllL_cl l]
    cases l with
    | nil => rfl
    | cons x xs => simp [EM.cl]
theorem cAll_cl (l : List EM) : cAll (l.map EM.cl) = cAll l := by unfold cAll; rw [List.length_map, cAllL_cl]
/-- Commands that were written are read again. -/
theorem cd_enc {l : List EM} (ha : cAll l = 0) (hg : ∀ e ∈ l, e.isC ∧ e.rg) : cdR (cwrL l) = (l.map EM.cl, 0) := by
  have hl : l.length ≤ 256 := by unfold cAll at ha; by_cases g : 256 < l.length; rw [if_pos g] at ha; simp at ha; omega
  have hgd : cAllL l = 0 := by unfold cAll at ha; rw [if_neg (by omega)] at ha; exact ha
  have h1 := num_rt (r := RdM.of (cwrL l)) (most := 256) (n := l.length) (post := l.flatMap EM.cwr) rfl (by omega) (by omega) (by simp [RdM.of, RdM.rest, cwrL])
  have hr := adv_rest' (r := RdM.of (cwrL l)) (a := numB l.length) (b := l.flatMap EM.cwr) (by simp [RdM.of, RdM.rest, cwrL])
  have h2 := rdCs_rt l (r := (RdM.of (cwrL l)).adv (numB l.length).length) (post := []) (fun e he => ⟨cAllL_good hgd e he, hg e he⟩) rfl (by rw [hr, List.append_nil])
  unfold cdR
  rw [h1]
  simp only
  rw [h2]
  simp only
  have hd : (((RdM.of (cwrL l)).adv (numB l.length).length).adv (l.flatMap EM.cwr).length).done = 0 := by
    simp [RdM.done, RdM.adv, RdM.of, cwrL]
  rw [hd, if_neg (by simp), cAll_cl, ha, if_neg (by simp)]
/-- What is read as commands are those that they are written in. -/
theorem cd_inv {b : List UInt8} (h : (cdR b).2 = 0) : cAll (cdR b).1 = 0 ∧ cwrL (cdR b).1 = b ∧ ∀ e ∈ (cdR b).1, e.isC ∧ e.rg ∧ e.cl = e := by
  unfold cdR at h ⊢
  by_cases h1 : (rdCs ((RdM.of b).num 256).1 ((RdM.of b).num 256).2).2.done ≠ 0
  · rw [if_pos h1] at h; exact absurd h h1
  rw [if_neg h1] at h ⊢
  by_cases h2 : cAll (rdCs ((RdM.of b).num 256).1 ((RdM.of b).num 256).2).1 ≠ 0
  · rw [if_pos h2] at h; exact absurd h h2
  rw [if_neg h2] at h ⊢
  have h1 := Decidable.not_not.1 h1
  have h2 := Decidable.not_not.1 h2
  have he : (rdCs ((RdM.of b).num 256).1 ((RdM.of b).num 256).2).2.err = 0 := by
    unfold RdM.done at h1
    split at h1
    · simp at h1
    · exact h1
  have hn : ((RdM.of b).num 256).2.err = 0 := by
    by_cases g : ((RdM.of b).num 256).2.err = 0
    · exact g
    · exfalso
      have bad : ∀ (n : Nat) (r : RdM), r.err ≠ 0 → (rdCs n r).2.err ≠ 0 := by
        intro n r hr
        cases n with
        | zero => exact hr
        | succ n =>
          rw [rdCs]
          have : r.cm.2.err ≠ 0 := by
            have hb : r.byte.2 = r := by rw [byte_bad hr]
            have hk : (rdCk r).err ≠ 0 := by
              unfold rdCk; rw [hb]; split
              · rw [fail_bad hr]; exact hr
              · exact hr
            have hh : (rdCh r).2.err ≠ 0 := by
              show ((rdCk r).num 4611686018427387903).2.err ≠ 0
              rw [num_bad hk]; exact hk
            have hf : (rdFs (cFlds r.byte.1) (rdCh r)).2.err ≠ 0 := by
              rw [show rdCh r = ((rdCh r).1, (rdCh r).2) from rfl, rdFs_bad _ _ hh]; exact hh
            show (cEnd _).err ≠ 0
            unfold cEnd; rw [if_neg hf]; exact hf
          rw [if_pos this]; exact this
      exact bad _ _ g he
  obtain ⟨n, p1, e1, e2, e3, e4⟩ := num_inv (r := RdM.of b) rfl hn
  rw [e1] at he h1 h2 ⊢
  simp only at he h1 h2 ⊢
  obtain ⟨l, post, f1, f2, f3, f4⟩ := rdCs_inv n ((RdM.of b).adv (numB n).length) rfl he
  rw [f1] at h1 h2 ⊢
  simp only at h1 h2 ⊢
  refine ⟨h2, ?_, fun e he => ⟨(f4 e he).2.1, (f4 e he).2.2.1, (f4 e he).2.2.2⟩⟩
  have hb : b = numB n ++ p1 := by simpa [RdM.of, RdM.rest] using e2
  have hp : ((RdM.of b).adv (numB n).length).rest = p1 := adv_rest' e2
  rw [hp] at f2
  have hpost : post = [] := by
    simp only [RdM.done, RdM.adv, RdM.of] at h1
    have hlt : ¬ (0 + (numB n).length + (l.flatMap EM.cwr).length < b.length) := by
      intro g
      rw [if_pos ⟨trivial, g⟩] at h1
      simp at h1
    rw [hb, f2, List.length_append, List.length_append] at hlt
    exact List.eq_nil_of_length_eq_zero (by omega)
  unfold cwrL
  rw [f3, hb, f2, hpost, List.append_nil]
end Go.Proofs.YtihidpfkdpjdpaaGreatDoor
