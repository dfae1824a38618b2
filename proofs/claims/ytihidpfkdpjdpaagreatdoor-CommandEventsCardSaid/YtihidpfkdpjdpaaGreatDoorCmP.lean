/- Commands as lines of text: unlike ones have unlike lines; and what is written of a command. Plain. -/
import Derived.Test.YtihidpfkdpjdpaaGreatDoorCm
import Derived.Test.YtihidpfkdpjdpaaGreatDoorPrV
namespace Go.Proofs.YtihidpfkdpjdpaaGreatDoor

/-- A command's line. -/
def EM.cpr (e : EM) : List UInt8 := 64 :: (Lib.itoa e.tm ++ 32 :: (cName e.k ++ (cFlds e.k).flatMap e.ft))
theorem cft_app {e f : EM} (he : e.v.chk = 0) (hf : f.v.chk = 0) {c : UInt8} {a b : List UInt8} (ha : Dl a) (hb : Dl b) (h : e.ft c ++ a = f.ft c ++ b) : SameF e f c ∧ a = b := by
  unfold EM.ft at h
  by_cases h1 : c = 65
  · subst h1
    simp only [if_true, List.cons_append, List.cons.injEq, true_and] at h
    obtain ⟨e1, e2⟩ := itoa_app ha hb h
    exact ⟨⟨fun _ => e1, fun h => absurd h (by decide), fun h => absurd h (by decide), fun h => absurd h (by decide), fun h => absurd h (by decide)⟩, e2⟩
  rw [if_neg h1, if_neg h1] at h
  by_cases h2 : c = 66
  · subst h2
    simp only [if_true, List.cons_append, List.cons.injEq, true_and] at h
    obtain ⟨e1, e2⟩ := itoa_app ha hb h
    exact ⟨⟨fun h => absurd h (by decide), fun _ => e1, fun h => absurd h (by decide), fun h => absurd h (by decide), fun h => absurd h (by decide)⟩, e2⟩
  rw [if_neg h2, if_neg h2] at h
  by_cases h3 : c = 78
  · subst h3
    simp only [if_true, List.cons_append, List.cons.injEq, true_and] at h
    obtain ⟨e1, e2⟩ := quo_app' h
    exact ⟨⟨fun h => absurd h (by decide), fun h => absurd h (by decide), fun _ => e1, fun h => absurd h (by decide), fun h => absurd h (by decide)⟩, e2⟩
  rw [if_neg h3, if_neg h3] at h
  by_cases h4 : c = 84
  · subst h4
    simp only [if_true, List.cons_append, List.cons.injEq, true_and] at h
    obtain ⟨e1, e2⟩ := quo_app' h
    exact ⟨⟨fun h => absurd h (by decide), fun h => absurd h (by decide), fun h => absurd h (by decide), fun _ => e1, fun h => absurd h (by decide)⟩, e2⟩
  rw [if_neg h4, if_neg h4] at h
  by_cases h5 : c = 86
  · subst h5
    simp only [if_true, List.cons_append, List.cons.injEq, true_and] at h
    obtain ⟨e1, e2⟩ := pr_inj he hf ha hb h
    exact ⟨⟨fun h => absurd h (by decide), fun h => absurd h (by decide), fun h => absurd h (by decide), fun h => absurd h (by decide), fun _ => e1⟩, e2⟩
  rw [if_neg h5, if_neg h5] at h
  exact ⟨⟨fun x => absurd x h1, fun x => absurd x h2, fun x => absurd x h3, fun x => absurd x h4, fun x => absurd x h5⟩, h⟩
theorem cfts_app {e f : EM} (he : e.v.chk = 0) (hf : f.v.chk = 0) : ∀ {fs : List UInt8}, fs.flatMap e.ft = fs.flatMap f.ft → ∀ c ∈ fs, SameF e f c
  | [], _, c, hc => by simp at hc
  | d :: ds, h, c, hc => by
    rw [List.flatMap_cons, List.flatMap_cons] at h
    obtain ⟨e1, e2⟩ := cft_app he hf (ft_dl e ds) (ft_dl f ds) h
    rcases List.mem_cons.1 hc with rfl | hc
    · exact e1
    · exact cfts_app he hf e2 c hc
theorem c_inds {P : Int → Prop} (h : ∀ i : Fin 6, P (i.val + 1 : Nat)) {k : Int} (hk : 1 ≤ k ∧ k ≤ 6) : P k := by
  have := h ⟨k.toNat - 1, by omega⟩
  have e : ((k.toNat - 1 + 1 : Nat) : Int) = k := by omega
  rwa [e] at this
theorem cName_sp {k : Int} (hk : 1 ≤ k ∧ k ≤ 6) : ∀ c ∈ cName k, (c != 32) = true := by
  refine c_inds (P := fun k => ∀ c ∈ cName k, (c != 32) = true) ?_ hk
  decide
theorem cName_inj {k m : Int} (hk : 1 ≤ k ∧ k ≤ 6) (hm : 1 ≤ m ∧ m ≤ 6) (h : cName k = cName m) : k = m := by
  revert h
  refine c_inds (P := fun k => cName k = cName m → k = m) ?_ hk
  intro i
  refine c_inds (P := fun m => cName ((i.val + 1 : Nat) : Int) = cName m → ((i.val + 1 : Nat) : Int) = m) ?_ hm
  revert i
  decide
theorem cpr_inj {e f : EM} (he : e.CGood) (hf : f.CGood) (ce : e.isC) (cf : f.isC) (h : e.cpr = f.cpr) : e.cl = f.cl := by
  unfold EM.cpr at h
  have h1' := (List.cons.inj h).2
  obtain ⟨e2, h2⟩ := itoa_app (dl_sp _) (dl_sp _) h1'
  have h2' := (List.cons.inj h2).2
  obtain ⟨e3, h3⟩ := run_eq (p := fun c => c != 32) (cName_sp he.k) (cName_sp hf.k) (dl_sp' (fts_sp e (cFlds e.k))) (dl_sp' (fts_sp f (cFlds f.k))) h2'
  have hk := cName_inj he.k hf.k e3
  rw [← hk] at h3
  have hs := cfts_app he.v hf.v h3
  have ha : e.a = f.a := by
    by_cases m : (65 : UInt8) ∈ cFlds e.k
    · exact (hs _ m).1 rfl
    · rw [he.aF m, hf.aF (by rw [← hk]; exact m)]
  have hb : e.b = f.b := by
    by_cases m : (66 : UInt8) ∈ cFlds e.k
    · exact (hs _ m).2.1 rfl
    · rw [he.bF m, hf.bF (by rw [← hk]; exact m)]
  have hn : e.name = f.name := by
    by_cases m : (78 : UInt8) ∈ cFlds e.k
    · exact (hs _ m).2.2.1 rfl
    · rw [he.nF m, hf.nF (by rw [← hk]; exact m)]
  have hv : e.v.cl = f.v.cl := by
    by_cases m : (86 : UInt8) ∈ cFlds e.k
    · exact (hs _ m).2.2.2.2 rfl
    · rw [cl_nil (he.vF m), cl_nil (hf.vF (by rw [← hk]; exact m))]
  have hi : e.id = f.id := by rw [ce.1, cf.1]
  have ht : e.text = f.text := by rw [ce.2, cf.2]
  cases e; cases f
  simp only at hi ht e2 hk ha hb hn hv
  simp only [EM.cl, hi, ht, e2, hk, ha, hb, hn, hv]
theorem ccl_pr (e : EM) : e.cl.cpr = e.cpr := by
  unfold EM.cpr
  rw [show e.cl.ft = e.ft from funext (cl_ft e)]; rfl

/-- command.Saturate. -/
def satu (now t : Int) : Int := if now < 0 ∨ t < 0 then 0 else if 4611686018427387903 ≤ now ∨ 4611686018427387903 - now < t then 4611686018427387903 else now + t
/-- command.Event: what is written of a command. -/
def EM.cev (c : EM) : EM :=
  if c.k = 1 then ⟨0, c.tm, 11, c.a, satu c.tm c.b, [], [], .nil⟩
  else if c.k = 2 then ⟨0, c.tm, 13, c.a, 0, [], [], .nil⟩
  else if c.k = 3 then ⟨0, c.tm, 7, c.a, c.b, c.name, [], c.v.cl⟩
  else if c.k = 4 then ⟨0, c.tm, 16, 0, 0, [], [], c.v.cl⟩
  else if c.k = 5 then ⟨0, c.tm, 17, 0, 0, c.name, [], .nil⟩
  else if c.k = 6 then ⟨0, c.tm, 21, 0, 0, [], [], c.v.cl⟩
  else ⟨0, c.tm, 0, 0, 0, [], [], .nil⟩
/-- foliotref10.Event. -/
def EM.rev (c : EM) : EM :=
  if c.k = 1 then ⟨0, c.tm, 11, c.a, (if c.b ≤ 4611686018427387903 - c.tm then c.tm + c.b else 4611686018427387903), c.name, [], c.v⟩
  else if c.k = 2 then ⟨0, c.tm, 13, c.a, 0, c.name, [], c.v⟩
  else if c.k = 3 then ⟨0, c.tm, 7, c.a, c.b, c.name, [], c.v⟩
  else if c.k = 4 then ⟨0, c.tm, 16, 0, 0, c.name, [], c.v⟩
  else if c.k = 5 then ⟨0, c.tm, 17, 0, 0, c.name, [], c.v⟩
  else if c.k = 6 then ⟨0, c.tm, 21, 0, 0, c.name, [], c.v⟩
  else ⟨0, c.tm, 0, 0, 0, c.name, [], c.v⟩
theorem satu_rng {n t : Int} (h : 0 ≤ n ∧ n ≤ 4611686018427387903) (ht : 0 ≤ t) : 0 ≤ satu n t ∧ satu n t ≤ 4611686018427387903 := by
  unfold satu
  rw [if_neg (by omega)]
  split <;> omega
theorem c_k6 {k : Int} (h : 1 ≤ k ∧ k ≤ 6) : k = 1 ∨ k = 2 ∨ k = 3 ∨ k = 4 ∨ k = 5 ∨ k = 6 := by omega
theorem nil_cl : VT.nil.cl = VT.nil := by rw [VT.nil, VT.cl]; simp
/-- What is written of a command is the document's. -/
theorem cev_rev {c : EM} (h : c.CGood) : c.cev.cl = c.rev.cl := by
  obtain ⟨id, tm, k, a, b, name, text, v⟩ := c
  have ht := h.tm; have ha := h.aF; have hb := h.bF; have hn := h.nF; have hv := h.vF; have hb0 := h.b0
  simp only at ht ha hb hn hv hb0
  rcases c_k6 h.k with g | g | g | g | g | g
  all_goals
    simp only at g
    subst g
    simp only [EM.cev, EM.rev, EM.cl]
  · have h1 := hn (by decide); have h2 := cl_nil (hv (by decide))
    simp only [if_true, h1, h2, nil_cl, satu]
    rw [if_neg (by omega)]
    congr 1
    split <;> split <;> omega
  · have h1 := hn (by decide); have h2 := cl_nil (hv (by decide))
    simp [h1, h2, nil_cl]
  · simp [cl_cl]
  · have h1 := hn (by decide)
    simp [h1, cl_cl]
  · have h2 := cl_nil (hv (by decide))
    simp [h2, nil_cl]
  · have h1 := hn (by decide)
    simp [h1, cl_cl]
end Go.Proofs.YtihidpfkdpjdpaaGreatDoor
