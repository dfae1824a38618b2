/- The reference's Get; is a mark the reference's? a sector's durable bytes. -/
import Derived.Test.YtepndjojodbhdaaRefC
import Derived.Test.YtepndjojodbhdaaMarks
namespace Go.Proofs.Ytepndjojodbhdaa
open Go.RowKit

def refX (a : List UInt8) : Nat × List Nat := if refS a % 2 = 0 then (refS a, refW a) else (0, [])
def refY (b : List UInt8) : Nat × List Nat := if refS b % 2 = 1 then (refS b, refW b) else (0, [])
/-- The reference's last mark of two sectors. -/
def refGet (a b : List UInt8) : Nat × List Nat := if (refX a).1 < (refY b).1 then refY b else refX a

set_option maxRecDepth 100000 in
set_option maxHeartbeats 3200000 in
theorem refGet_c (w : World) (la lb : List UInt8) (hla : la.length = 128) (hlb : lb.length = 128) :
    Calls Try.prog 43 #[.string (strOf la), .string (strOf lb)] w fun e w' => ∃ v, e = .returned v ∧ RefV w' v (refGet la lb).1 (refGet la lb).2 w.heap.size ∧ Only (fun _ => False) w w' := by
  obtain ⟨G, hG⟩ : ∃ G, refGet la lb = G := ⟨_, rfl⟩
  have HG := hid hG
  rw [hG]
  unfold refGet refX refY at hG
  have hR1 := fun w => hid (refRead_c w la hla)
  have hR2 := fun w => hid (refRead_c w lb hlb)
  obtain ⟨sa, hsa⟩ : ∃ s, refS la = s := ⟨_, rfl⟩
  obtain ⟨xa, hxa⟩ : ∃ s, refW la = s := ⟨_, rfl⟩
  obtain ⟨sb, hsb⟩ : ∃ s, refS lb = s := ⟨_, rfl⟩
  obtain ⟨xb, hxb⟩ : ∃ s, refW lb = s := ⟨_, rfl⟩
  rw [hsa, hxa, hsb, hxb] at hG
  simp only [hsa, hxa] at hR1
  simp only [hsb, hxb] at hR2
  have HG2 := hid hG
  clear hG hsa hxa hsb hxb HG
  by_cases hpa : sa % 2 = 0
  · by_cases hpb : sb % 2 = 1
    · by_cases hlt : sa < sb
      · skip
        have hg : G = (sb, xb) := by rw [← HG2.out, if_pos hpa, if_pos hpb]; exact if_pos hlt
        have Hg := hid hg
        have hq1 : ((sa : Int) % 2 == 0) = true := by rw [beq_iff_eq]; omega
        have hq2 : ((sb : Int) % 2 == 1) = true := by rw [beq_iff_eq]; omega
        clear hg HG2 hpa hpb
        go_enter Try.func43, Try.ntmps43
        go_wp2_with fail
        refine (hR1 _).out.mono ?_
        rintro e w1 ⟨v1, rfl, hr1, ho1⟩
        obtain ⟨aa, ca, rfl, hs1, -⟩ := hr1.ex
        have Hr1 := hid hr1; have Hb1 := hid (blk_only (blk_new w (.cells #[.int .u64 0, .slice none 0 0] 62)) ho1 (fun e => e)); have Ho1 := hid (((Only.refl (fun _ => False) w).alloc (.cells #[.int .u64 0, .slice none 0 0] 62)).trans ho1 (fun _ _ e => e))
        clear hr1 ho1 hs1
        go_wp2_with fail
        refine (hR2 _).out.mono ?_
        rintro e w2 ⟨v2, rfl, hr2, ho2⟩
        obtain ⟨ab, cb, rfl, hs2, -⟩ := hr2.ex
        have Hr2 := hid hr2; have Hr1b := hid (Hr1.out.only ho2 (fun _ _ e => e)); have Hb2 := hid (blk_only Hb1.out ho2 (fun e => e)); have Ho2 := hid (Ho1.out.trans ho2 (fun _ _ e => e))
        clear hr2 ho2 hs2
        go_wp2_with (refine wpList_store_all rfl 62 (.tmp 4) (.tmp 26) rfl w.heap.size #[.int .u64 sb, .slice ab xb.length cb] rfl rfl #[.int .u64 0, .slice none 0 0] 62 (blk_alloc (blk_alloc Hb2.out)) rfl info_ref (by simp [Value.oneCell']) ?_; intro w3 hb3 ho3 hs3; have Hb3 := hid hb3; have Ho3 := hid ((((Only.refl (fun k => k = w.heap.size) w2).alloc _).alloc _).trans ho3 (fun _ _ e => e)); clear hb3 ho3 hs3)
        refine bodyPost_ret (results_cell_row rfl _ _ w.heap.size 62 #[.int .u64 sb, .slice ab xb.length cb] (0, 0) _ rfl Hb3.out Try.underlying62 rfl info_ref) rfl ⟨_, rfl, ?_, ?_⟩
        · rw [Hg.out]
          exact (Hr2.out.only Ho3.out (fun k hk e => by have e' : k = w.heap.size := e; have := blk_lt Hb1.out; omega)).mono (by have := Ho1.out.size; omega)
        · exact Ho2.out.trans Ho3.out (fun k hk e => absurd hk (by rw [e]; exact Nat.lt_irrefl _))
      · skip
        have hg : G = (sa, xa) := by rw [← HG2.out, if_pos hpa, if_pos hpb]; exact if_neg hlt
        have Hg := hid hg
        have hq1 : ((sa : Int) % 2 == 0) = true := by rw [beq_iff_eq]; omega
        have hq2 : ((sb : Int) % 2 == 1) = true := by rw [beq_iff_eq]; omega
        clear hg HG2 hpa hpb
        go_enter Try.func43, Try.ntmps43
        go_wp2_with fail
        refine (hR1 _).out.mono ?_
        rintro e w1 ⟨v1, rfl, hr1, ho1⟩
        obtain ⟨aa, ca, rfl, hs1, -⟩ := hr1.ex
        have Hr1 := hid hr1; have Hb1 := hid (blk_only (blk_new w (.cells #[.int .u64 0, .slice none 0 0] 62)) ho1 (fun e => e)); have Ho1 := hid (((Only.refl (fun _ => False) w).alloc (.cells #[.int .u64 0, .slice none 0 0] 62)).trans ho1 (fun _ _ e => e))
        clear hr1 ho1 hs1
        go_wp2_with fail
        refine (hR2 _).out.mono ?_
        rintro e w2 ⟨v2, rfl, hr2, ho2⟩
        obtain ⟨ab, cb, rfl, hs2, -⟩ := hr2.ex
        have Hr2 := hid hr2; have Hr1b := hid (Hr1.out.only ho2 (fun _ _ e => e)); have Hb2 := hid (blk_only Hb1.out ho2 (fun e => e)); have Ho2 := hid (Ho1.out.trans ho2 (fun _ _ e => e))
        clear hr2 ho2 hs2
        go_wp2_with (refine wpList_store_all rfl 62 (.tmp 4) (.tmp 27) rfl w.heap.size #[.int .u64 sa, .slice aa xa.length ca] rfl rfl #[.int .u64 0, .slice none 0 0] 62 (blk_alloc (blk_alloc Hb2.out)) rfl info_ref (by simp [Value.oneCell']) ?_; intro w3 hb3 ho3 hs3; have Hb3 := hid hb3; have Ho3 := hid ((((Only.refl (fun k => k = w.heap.size) w2).alloc _).alloc _).trans ho3 (fun _ _ e => e)); clear hb3 ho3 hs3)
        refine bodyPost_ret (results_cell_row rfl _ _ w.heap.size 62 #[.int .u64 sa, .slice aa xa.length ca] (0, 0) _ rfl Hb3.out Try.underlying62 rfl info_ref) rfl ⟨_, rfl, ?_, ?_⟩
        · rw [Hg.out]
          exact (Hr1b.out.only Ho3.out (fun k hk e => by have e' : k = w.heap.size := e; simp at hk; omega)).mono (by simp)
        · exact Ho2.out.trans Ho3.out (fun k hk e => absurd hk (by rw [e]; exact Nat.lt_irrefl _))
    · skip
      have hg : G = (sa, xa) := by rw [← HG2.out, if_pos hpa, if_neg hpb]; exact if_neg (Nat.not_lt_zero _)
      have Hg := hid hg
      have hq1 : ((sa : Int) % 2 == 0) = true := by rw [beq_iff_eq]; omega
      have hq2 : ((sb : Int) % 2 == 1) = false := by rw [beq_eq_false_iff_ne]; omega
      clear hg HG2 hpa hpb
      go_enter Try.func43, Try.ntmps43
      go_wp2_with fail
      refine (hR1 _).out.mono ?_
      rintro e w1 ⟨v1, rfl, hr1, ho1⟩
      obtain ⟨aa, ca, rfl, hs1, -⟩ := hr1.ex
      have Hr1 := hid hr1; have Hb1 := hid (blk_only (blk_new w (.cells #[.int .u64 0, .slice none 0 0] 62)) ho1 (fun e => e)); have Ho1 := hid (((Only.refl (fun _ => False) w).alloc (.cells #[.int .u64 0, .slice none 0 0] 62)).trans ho1 (fun _ _ e => e))
      clear hr1 ho1 hs1
      go_wp2_with fail
      refine (hR2 _).out.mono ?_
      rintro e w2 ⟨v2, rfl, hr2, ho2⟩
      obtain ⟨ab, cb, rfl, hs2, -⟩ := hr2.ex
      have Hr2 := hid hr2; have Hr1b := hid (Hr1.out.only ho2 (fun _ _ e => e)); have Hb2 := hid (blk_only Hb1.out ho2 (fun e => e)); have Ho2 := hid (Ho1.out.trans ho2 (fun _ _ e => e))
      clear hr2 ho2 hs2
      go_wp2_with (refine wpList_store_all rfl 62 (.tmp 4) (.tmp 27) rfl w.heap.size #[.int .u64 sa, .slice aa xa.length ca] rfl rfl #[.int .u64 0, .slice none 0 0] 62 (blk_alloc (blk_alloc Hb2.out)) rfl info_ref (by simp [Value.oneCell']) ?_; intro w3 hb3 ho3 hs3; have Hb3 := hid hb3; have Ho3 := hid ((((Only.refl (fun k => k = w.heap.size) w2).alloc _).alloc _).trans ho3 (fun _ _ e => e)); clear hb3 ho3 hs3)
      refine bodyPost_ret (results_cell_row rfl _ _ w.heap.size 62 #[.int .u64 sa, .slice aa xa.length ca] (0, 0) _ rfl Hb3.out Try.underlying62 rfl info_ref) rfl ⟨_, rfl, ?_, ?_⟩
      · rw [Hg.out]
        exact (Hr1b.out.only Ho3.out (fun k hk e => by have e' : k = w.heap.size := e; simp at hk; omega)).mono (by simp)
      · exact Ho2.out.trans Ho3.out (fun k hk e => absurd hk (by rw [e]; exact Nat.lt_irrefl _))
  · by_cases hpb : sb % 2 = 1
    · have hsb0 : 0 < sb := by omega
      have hg : G = (sb, xb) := by rw [← HG2.out, if_neg hpa, if_pos hpb]; exact if_pos hsb0
      have Hg := hid hg
      have hq1 : ((sa : Int) % 2 == 0) = false := by rw [beq_eq_false_iff_ne]; omega
      have hq2 : ((sb : Int) % 2 == 1) = true := by rw [beq_iff_eq]; omega
      clear hg HG2 hpa hpb
      go_enter Try.func43, Try.ntmps43
      go_wp2_with fail
      refine (hR1 _).out.mono ?_
      rintro e w1 ⟨v1, rfl, hr1, ho1⟩
      obtain ⟨aa, ca, rfl, hs1, -⟩ := hr1.ex
      have Hr1 := hid hr1; have Hb1 := hid (blk_only (blk_new w (.cells #[.int .u64 0, .slice none 0 0] 62)) ho1 (fun e => e)); have Ho1 := hid (((Only.refl (fun _ => False) w).alloc (.cells #[.int .u64 0, .slice none 0 0] 62)).trans ho1 (fun _ _ e => e))
      clear hr1 ho1 hs1
      go_wp2_with fail
      refine (hR2 _).out.mono ?_
      rintro e w2 ⟨v2, rfl, hr2, ho2⟩
      obtain ⟨ab, cb, rfl, hs2, -⟩ := hr2.ex
      have Hr2 := hid hr2; have Hr1b := hid (Hr1.out.only ho2 (fun _ _ e => e)); have Hb2 := hid (blk_only Hb1.out ho2 (fun e => e)); have Ho2 := hid (Ho1.out.trans ho2 (fun _ _ e => e))
      clear hr2 ho2 hs2
      go_wp2_with (refine wpList_store_all rfl 62 (.tmp 4) (.tmp 26) rfl w.heap.size #[.int .u64 sb, .slice ab xb.length cb] rfl rfl #[.int .u64 0, .slice none 0 0] 62 (blk_alloc (blk_alloc Hb2.out)) rfl info_ref (by simp [Value.oneCell']) ?_; intro w3 hb3 ho3 hs3; have Hb3 := hid hb3; have Ho3 := hid ((((Only.refl (fun k => k = w.heap.size) w2).alloc _).alloc _).trans ho3 (fun _ _ e => e)); clear hb3 ho3 hs3)
      refine bodyPost_ret (results_cell_row rfl _ _ w.heap.size 62 #[.int .u64 sb, .slice ab xb.length cb] (0, 0) _ rfl Hb3.out Try.underlying62 rfl info_ref) rfl ⟨_, rfl, ?_, ?_⟩
      · rw [Hg.out]
        exact (Hr2.out.only Ho3.out (fun k hk e => by have e' : k = w.heap.size := e; have := blk_lt Hb1.out; omega)).mono (by have := Ho1.out.size; omega)
      · exact Ho2.out.trans Ho3.out (fun k hk e => absurd hk (by rw [e]; exact Nat.lt_irrefl _))
    · skip
      have hg : G = (0, []) := by rw [← HG2.out, if_neg hpa, if_neg hpb]; rfl
      have Hg := hid hg
      have hq1 : ((sa : Int) % 2 == 0) = false := by rw [beq_eq_false_iff_ne]; omega
      have hq2 : ((sb : Int) % 2 == 1) = false := by rw [beq_eq_false_iff_ne]; omega
      clear hg HG2 hpa hpb
      go_enter Try.func43, Try.ntmps43
      go_wp2_with fail
      refine (hR1 _).out.mono ?_
      rintro e w1 ⟨v1, rfl, hr1, ho1⟩
      obtain ⟨aa, ca, rfl, hs1, -⟩ := hr1.ex
      have Hr1 := hid hr1; have Hb1 := hid (blk_only (blk_new w (.cells #[.int .u64 0, .slice none 0 0] 62)) ho1 (fun e => e)); have Ho1 := hid (((Only.refl (fun _ => False) w).alloc (.cells #[.int .u64 0, .slice none 0 0] 62)).trans ho1 (fun _ _ e => e))
      clear hr1 ho1 hs1
      go_wp2_with fail
      refine (hR2 _).out.mono ?_
      rintro e w2 ⟨v2, rfl, hr2, ho2⟩
      obtain ⟨ab, cb, rfl, hs2, -⟩ := hr2.ex
      have Hr2 := hid hr2; have Hr1b := hid (Hr1.out.only ho2 (fun _ _ e => e)); have Hb2 := hid (blk_only Hb1.out ho2 (fun e => e)); have Ho2 := hid (Ho1.out.trans ho2 (fun _ _ e => e))
      clear hr2 ho2 hs2
      go_wp2_with (refine wpList_store_all rfl 62 (.tmp 4) (.tmp 27) rfl w.heap.size #[.int .u64 0, .slice none 0 0] rfl rfl #[.int .u64 0, .slice none 0 0] 62 (blk_alloc (blk_alloc Hb2.out)) rfl info_ref (by simp [Value.oneCell']) ?_; intro w3 hb3 ho3 hs3; have Hb3 := hid hb3; have Ho3 := hid ((((Only.refl (fun k => k = w.heap.size) w2).alloc _).alloc _).trans ho3 (fun _ _ e => e)); clear hb3 ho3 hs3)
      refine bodyPost_ret (results_cell_row rfl _ _ w.heap.size 62 #[.int .u64 0, .slice none 0 0] (0, 0) _ rfl Hb3.out Try.underlying62 rfl info_ref) rfl ⟨_, rfl, ?_, ?_⟩
      · rw [Hg.out]
        exact ⟨none, 0, rfl, ⟨none, 0, rfl, fun e => absurd rfl e⟩, fun g o e => by cases e⟩
      · exact Ho2.out.trans Ho3.out (fun k hk e => absurd hk (by rw [e]; exact Nat.lt_irrefl _))
end Go.Proofs.Ytepndjojodbhdaa
