/- What is written of commands: it may be as an event, fits its command, and two commands that fit one event are the same. Plain. -/
import Derived.Test.YtfmdngeooelcpaaGreatCmP
namespace Go.Proofs.YtfmdngeooelcpaaGreat

def EM.wid (e : EM) (n : Int) : EM := { e with id := n }
/-- command.Fits, the event that is held against it. -/
def EM.fitE (c e : EM) : EM := { c.cev with id := e.id, b := if c.cev.k = 21 then e.b else c.cev.b }
def EM.fits (c e : EM) : Bool := c.cev.k != 0 && (c.fitE e).same e
theorem cev_id (c : EM) : c.cev.id = 0 := by unfold EM.cev; repeat' split
                                             all_goals rfl
theorem cev_k {c : EM} (h : 1 ≤ c.k ∧ c.k ≤ 6) : c.cev.k = 7 ∨ c.cev.k = 11 ∨ c.cev.k = 13 ∨ c.cev.k = 16 ∨ c.cev.k = 17 ∨ c.cev.k = 21 := by
  unfold EM.cev
  rcases c_k6 h with g | g | g | g | g | g <;> simp [g]
theorem cev_v_cl (c : EM) : c.cev.v.cl = c.cev.v := by
  unfold EM.cev
  repeat' split
  all_goals first | exact nil_cl | exact cl_cl _
/-- What is written of a command may be as an event. -/
theorem cev_good {c : EM} (h : c.CGood) {n : Int} (hn : 1 ≤ n ∧ n ≤ 1048576) : (c.cev.wid n).Good := by
  obtain ⟨id, tm, k, a, b, name, text, v⟩ := c
  have ht := h.tm; have ha := h.a0; have hb := h.b0; have hv := h.v; have hl := h.nL
  simp only at ht ha hb hv hl
  have hs := satu_rng ht hb
  have hc : v.cl.chk = 0 := by rw [cl_chk]; exact hv
  have hz : VT.nil.chk = 0 := by decide
  have hzk : VT.nil.k = 0 := rfl
  rcases c_k6 h.k with g | g | g | g | g | g
  all_goals
    simp only at g
    subst g
  · exact ⟨by show (1 : Int) ≤ 11 ∧ (11 : Int) ≤ 21; decide, hn, ht, ha, hs.1, fun x => absurd (by show (65 : UInt8) ∈ evFlds 11; decide) x, fun x => absurd (by show (66 : UInt8) ∈ evFlds 11; decide) x, by show 0 ≤ 64; decide, by show 0 ≤ 128; decide, fun _ => rfl, fun _ => rfl, fun _ => rfl, hz⟩
  · exact ⟨by show (1 : Int) ≤ 13 ∧ (13 : Int) ≤ 21; decide, hn, ht, ha, Int.le_refl 0, fun x => absurd (by show (65 : UInt8) ∈ evFlds 13; decide) x, fun _ => rfl, by show 0 ≤ 64; decide, by show 0 ≤ 128; decide, fun _ => rfl, fun _ => rfl, fun _ => rfl, hz⟩
  · exact ⟨by show (1 : Int) ≤ 7 ∧ (7 : Int) ≤ 21; decide, hn, ht, ha, hb, fun x => absurd (by show (65 : UInt8) ∈ evFlds 7; decide) x, fun x => absurd (by show (66 : UInt8) ∈ evFlds 7; decide) x, hl, by show 0 ≤ 128; decide, fun x => absurd (by show (78 : UInt8) ∈ evFlds 7; decide) x, fun _ => rfl, fun x => absurd (by show (86 : UInt8) ∈ evFlds 7; decide) x, hc⟩
  · exact ⟨by show (1 : Int) ≤ 16 ∧ (16 : Int) ≤ 21; decide, hn, ht, Int.le_refl 0, Int.le_refl 0, fun _ => rfl, fun _ => rfl, by show 0 ≤ 64; decide, by show 0 ≤ 128; decide, fun _ => rfl, fun _ => rfl, fun x => absurd (by show (86 : UInt8) ∈ evFlds 16; decide) x, hc⟩
  · exact ⟨by show (1 : Int) ≤ 17 ∧ (17 : Int) ≤ 21; decide, hn, ht, Int.le_refl 0, Int.le_refl 0, fun _ => rfl, fun _ => rfl, hl, by show 0 ≤ 128; decide, fun x => absurd (by show (78 : UInt8) ∈ evFlds 17; decide) x, fun _ => rfl, fun _ => rfl, hz⟩
  · exact ⟨by show (1 : Int) ≤ 21 ∧ (21 : Int) ≤ 21; decide, hn, ht, Int.le_refl 0, Int.le_refl 0, fun _ => rfl, fun _ => rfl, by show 0 ≤ 64; decide, by show 0 ≤ 128; decide, fun _ => rfl, fun _ => rfl, fun x => absurd (by show (86 : UInt8) ∈ evFlds 21; decide) x, hc⟩
theorem cev_b21 {c : EM} (h : c.cev.k = 21) : c.cev.b = 0 := by
  unfold EM.cev at h ⊢
  by_cases h1 : c.k = 1
  · rw [if_pos h1] at h; simp at h
  by_cases h2 : c.k = 2
  · rw [if_neg h1, if_pos h2] at h; simp at h
  by_cases h3 : c.k = 3
  · rw [if_neg h1, if_neg h2, if_pos h3] at h; simp at h
  rw [if_neg h1, if_neg h2, if_neg h3]
  repeat' split
  all_goals rfl
/-- Whether a command fits what is written of another one. -/
theorem fits_iff {a b : EM} (hb : 1 ≤ b.k ∧ b.k ≤ 6) (n : Int) : b.fits (a.cev.wid n) = true ↔ b.cev = a.cev := by
  have hk := cev_k hb
  have h0 : (b.cev.k != 0) = true := by simp; omega
  unfold EM.fits
  rw [h0, Bool.true_and, same_iff]
  constructor
  · intro h
    have h' := h
    unfold EM.fitE EM.wid EM.cl at h
    simp only [EM.mk.injEq, true_and] at h
    obtain ⟨h1, h2, h3, h4, h5, h6, h7⟩ := h
    rw [cev_v_cl, cev_v_cl] at h7
    have hb' : b.cev.b = a.cev.b := by
      by_cases g : b.cev.k = 21
      · rw [cev_b21 g, cev_b21 (by rw [← h2]; exact g)]
      · rw [if_neg g] at h4; exact h4
    have hi : b.cev.id = a.cev.id := by rw [cev_id, cev_id]
    revert hi h1 h2 h3 hb' h5 h6 h7
    cases b.cev; cases a.cev
    simp only
    rintro rfl rfl rfl rfl rfl rfl rfl rfl
    rfl
  · intro h
    unfold EM.fitE EM.wid EM.cl
    rw [h]
    by_cases g : a.cev.k = 21
    · simp [g]
    · simp [g]
end Go.Proofs.YtfmdngeooelcpaaGreat
