/- CommandKinds's walk. -/
import Derived.Test.YtihidpfkdpjdpaaDoorWants
import Derived.Test.YtihidpfkdpjdpaaDoorRf10
namespace Go.Proofs.YtihidpfkdpjdpaaDoor
open Go.RowKit
section
variable {w : World}
set_option maxRecDepth 100000 in
theorem kinds_1 (hT : Tab w) : Calls Tryd.prog 7 #[.int .i64 1] w fun x w' => x = .returned (.bool true) ∧ Only (fun _ => False) w w' := by
  have HTL := hid (wants_c hT)
  clear hT
  go_enter Tryd.func7, Tryd.ntmps7
  go_wp2_with fail
  refine HTL.out.mono ?_
  rintro x w1 ⟨rfl, ho1⟩
  have HO1 := hid ho1
  clear ho1 HTL
  have HNM := fun wc => hid (cmname_c (w := wc) 1)
  have HNR := fun wc => hid (r10name_c (w := wc) 1)
  obtain ⟨nm, hnm⟩ : ∃ x, cName 1 = x := ⟨_, rfl⟩
  simp only [hnm] at HNM HNR
  clear hnm
  have hbe : ((strOf nm).toList == (strOf nm).toList) = true := by simp
  go_wp2_with fail
  refine (HNM _).out.mono ?_
  rintro x w2 ⟨rfl, rfl⟩
  go_wp2_with fail
  refine (HNR _).out.mono ?_
  rintro x w3 ⟨rfl, ho3⟩
  have hoA := (only_new w1 (.cells #[.int .i64 1, .int .i64 0, .int .i64 0, .int .i64 0, .string ⟨#[]⟩, .int .i64 0, .int .i64 0, .string ⟨#[]⟩, .slice none 0 0] 29)).trans (only_new _ (.cells #[.int .i64 0, .int .i64 0, .int .i64 1, .int .i64 0, .int .i64 0, .string ⟨#[]⟩, .string ⟨#[]⟩, .int .i64 0, .int .i64 0, .string ⟨#[]⟩, .slice none 0 0] 47)) (fun _ _ e => e)
  have hbc := blk_only (blk_alloc (o' := (.cells #[.int .i64 0, .int .i64 0, .int .i64 1, .int .i64 0, .int .i64 0, .string ⟨#[]⟩, .string ⟨#[]⟩, .int .i64 0, .int .i64 0, .string ⟨#[]⟩, .slice none 0 0] 47)) (blk_new w1 (.cells #[.int .i64 1, .int .i64 0, .int .i64 0, .int .i64 0, .string ⟨#[]⟩, .int .i64 0, .int .i64 0, .string ⟨#[]⟩, .slice none 0 0] 29))) ho3 (fun e => e)
  have hbe2 := blk_only (blk_new2 w1 (.cells #[.int .i64 1, .int .i64 0, .int .i64 0, .int .i64 0, .string ⟨#[]⟩, .int .i64 0, .int .i64 0, .string ⟨#[]⟩, .slice none 0 0] 29) (.cells #[.int .i64 0, .int .i64 0, .int .i64 1, .int .i64 0, .int .i64 0, .string ⟨#[]⟩, .string ⟨#[]⟩, .int .i64 0, .int .i64 0, .string ⟨#[]⟩, .slice none 0 0] 47) rfl) ho3 (fun e => e)
  have c0 : w3.cell? ⟨w1.heap.size, 0, none⟩ = some (.int .i64 1) := cell_blk hbc 0
  have c1 : w3.cell? ⟨w1.heap.size, 1, none⟩ = some (.int .i64 0) := cell_blk hbc 1
  have c2 : w3.cell? ⟨w1.heap.size, 2, none⟩ = some (.int .i64 0) := cell_blk hbc 2
  have c3 : w3.cell? ⟨w1.heap.size, 3, none⟩ = some (.int .i64 0) := cell_blk hbc 3
  have c4 : w3.cell? ⟨w1.heap.size, 4, none⟩ = some (.string ⟨#[]⟩) := cell_blk hbc 4
  have c5 : w3.cell? ⟨w1.heap.size, 5, none⟩ = some (.int .i64 0) := cell_blk hbc 5
  have c6 : w3.cell? ⟨w1.heap.size, 6, none⟩ = some (.int .i64 0) := cell_blk hbc 6
  have c7 : w3.cell? ⟨w1.heap.size, 7, none⟩ = some (.string ⟨#[]⟩) := cell_blk hbc 7
  have c8 : w3.cell? ⟨w1.heap.size, 8, none⟩ = some (.slice none 0 0) := cell_blk hbc 8
  have d0 : w3.cell? ⟨w1.heap.size + 1, 0, none⟩ = some (.int .i64 0) := cell_blk hbe2 0
  have d1 : w3.cell? ⟨w1.heap.size + 1, 1, none⟩ = some (.int .i64 0) := cell_blk hbe2 1
  have d2 : w3.cell? ⟨w1.heap.size + 1, 2, none⟩ = some (.int .i64 1) := cell_blk hbe2 2
  have d3 : w3.cell? ⟨w1.heap.size + 1, 3, none⟩ = some (.int .i64 0) := cell_blk hbe2 3
  have d4 : w3.cell? ⟨w1.heap.size + 1, 4, none⟩ = some (.int .i64 0) := cell_blk hbe2 4
  have d5 : w3.cell? ⟨w1.heap.size + 1, 5, none⟩ = some (.string ⟨#[]⟩) := cell_blk hbe2 5
  have d6 : w3.cell? ⟨w1.heap.size + 1, 6, none⟩ = some (.string ⟨#[]⟩) := cell_blk hbe2 6
  have d7 : w3.cell? ⟨w1.heap.size + 1, 7, none⟩ = some (.int .i64 0) := cell_blk hbe2 7
  have d8 : w3.cell? ⟨w1.heap.size + 1, 8, none⟩ = some (.int .i64 0) := cell_blk hbe2 8
  have d9 : w3.cell? ⟨w1.heap.size + 1, 9, none⟩ = some (.string ⟨#[]⟩) := cell_blk hbe2 9
  have d10 : w3.cell? ⟨w1.heap.size + 1, 10, none⟩ = some (.slice none 0 0) := cell_blk hbe2 10
  have hl1 := blk_lt hbc
  have hl2 := blk_lt hbe2
  have HO3 := hid (HO1.out.trans (hoA.trans ho3 (fun _ _ e => e)) (fun _ _ e => e))
  have HBE := hid hbe2
  have HED := hid (cmends_c (w := w3) (G := fun _ => False) (e := ⟨0, 0, 1, 0, 0, [], [], .nil⟩) (cs := [.int .i64 1, .int .i64 0, .int .i64 0, .int .i64 0, .string ⟨#[]⟩, .int .i64 0, .int .i64 0, .string ⟨#[]⟩, .slice none 0 0]) ⟨_, rfl, novlc _ _ 0 0 []⟩)
  have hed : cEnds (EM.k ⟨0, 0, 1, 0, 0, [], [], .nil⟩) = false := by decide
  rw [hed] at HED
  clear hoA ho3 hbc hbe2 hed
  go_wp2_with fail
  refine HED.out.mono ?_
  rintro x w4 ⟨rfl, ho4⟩
  have HB4 := hid (blk_only HBE.out ho4 (fun e => e))
  have HO4 := hid (HO3.out.trans ho4 (fun _ _ e => e))
  clear ho4 HED c0 c1 c2 c3 c4 c5 c6 c7 c8 d0 d1 d2 d3 d4 d5 d6 d7 d8 d9 d10 hl1 hl2
  have d0 : w4.cell? ⟨w1.heap.size + 1, 0, none⟩ = some (.int .i64 0) := cell_blk HB4.out 0
  have d1 : w4.cell? ⟨w1.heap.size + 1, 1, none⟩ = some (.int .i64 0) := cell_blk HB4.out 1
  have d2 : w4.cell? ⟨w1.heap.size + 1, 2, none⟩ = some (.int .i64 1) := cell_blk HB4.out 2
  have d3 : w4.cell? ⟨w1.heap.size + 1, 3, none⟩ = some (.int .i64 0) := cell_blk HB4.out 3
  have d4 : w4.cell? ⟨w1.heap.size + 1, 4, none⟩ = some (.int .i64 0) := cell_blk HB4.out 4
  have d5 : w4.cell? ⟨w1.heap.size + 1, 5, none⟩ = some (.string ⟨#[]⟩) := cell_blk HB4.out 5
  have d6 : w4.cell? ⟨w1.heap.size + 1, 6, none⟩ = some (.string ⟨#[]⟩) := cell_blk HB4.out 6
  have d7 : w4.cell? ⟨w1.heap.size + 1, 7, none⟩ = some (.int .i64 0) := cell_blk HB4.out 7
  have d8 : w4.cell? ⟨w1.heap.size + 1, 8, none⟩ = some (.int .i64 0) := cell_blk HB4.out 8
  have d9 : w4.cell? ⟨w1.heap.size + 1, 9, none⟩ = some (.string ⟨#[]⟩) := cell_blk HB4.out 9
  have d10 : w4.cell? ⟨w1.heap.size + 1, 10, none⟩ = some (.slice none 0 0) := cell_blk HB4.out 10
  have hl4 := blk_lt HB4.out
  have HMD := hid (cmade_c (w := w4) (G := fun _ => False) (e := ⟨0, 0, 1, 0, 0, [], [], .nil⟩) (cs := [.int .i64 0, .int .i64 0, .int .i64 1, .int .i64 0, .int .i64 0, .string ⟨#[]⟩, .string ⟨#[]⟩, .int .i64 0, .int .i64 0, .string ⟨#[]⟩, .slice none 0 0]) ⟨_, rfl, novlc _ _ 0 0 []⟩)
  have hmd : madeB (EM.k ⟨0, 0, 1, 0, 0, [], [], .nil⟩) = false := by decide
  rw [hmd] at HMD
  clear hmd
  go_wp2_with fail
  refine HMD.out.mono ?_
  rintro x w5 ⟨rfl, ho5⟩
  have HO5 := hid (HO4.out.trans ho5 (fun _ _ e => e))
  clear ho5 HMD
  go_wp2_with fail
  go_ret
  exact ⟨rfl, HO5.out⟩
set_option maxRecDepth 100000 in
theorem kinds_2 (hT : Tab w) : Calls Tryd.prog 7 #[.int .i64 2] w fun x w' => x = .returned (.bool true) ∧ Only (fun _ => False) w w' := by
  have HTL := hid (wants_c hT)
  clear hT
  go_enter Tryd.func7, Tryd.ntmps7
  go_wp2_with fail
  refine HTL.out.mono ?_
  rintro x w1 ⟨rfl, ho1⟩
  have HO1 := hid ho1
  clear ho1 HTL
  have HNM := fun wc => hid (cmname_c (w := wc) 2)
  have HNR := fun wc => hid (r10name_c (w := wc) 2)
  obtain ⟨nm, hnm⟩ : ∃ x, cName 2 = x := ⟨_, rfl⟩
  simp only [hnm] at HNM HNR
  clear hnm
  have hbe : ((strOf nm).toList == (strOf nm).toList) = true := by simp
  go_wp2_with fail
  refine (HNM _).out.mono ?_
  rintro x w2 ⟨rfl, rfl⟩
  go_wp2_with fail
  refine (HNR _).out.mono ?_
  rintro x w3 ⟨rfl, ho3⟩
  have hoA := (only_new w1 (.cells #[.int .i64 2, .int .i64 0, .int .i64 0, .int .i64 0, .string ⟨#[]⟩, .int .i64 0, .int .i64 0, .string ⟨#[]⟩, .slice none 0 0] 29)).trans (only_new _ (.cells #[.int .i64 0, .int .i64 0, .int .i64 2, .int .i64 0, .int .i64 0, .string ⟨#[]⟩, .string ⟨#[]⟩, .int .i64 0, .int .i64 0, .string ⟨#[]⟩, .slice none 0 0] 47)) (fun _ _ e => e)
  have hbc := blk_only (blk_alloc (o' := (.cells #[.int .i64 0, .int .i64 0, .int .i64 2, .int .i64 0, .int .i64 0, .string ⟨#[]⟩, .string ⟨#[]⟩, .int .i64 0, .int .i64 0, .string ⟨#[]⟩, .slice none 0 0] 47)) (blk_new w1 (.cells #[.int .i64 2, .int .i64 0, .int .i64 0, .int .i64 0, .string ⟨#[]⟩, .int .i64 0, .int .i64 0, .string ⟨#[]⟩, .slice none 0 0] 29))) ho3 (fun e => e)
  have hbe2 := blk_only (blk_new2 w1 (.cells #[.int .i64 2, .int .i64 0, .int .i64 0, .int .i64 0, .string ⟨#[]⟩, .int .i64 0, .int .i64 0, .string ⟨#[]⟩, .slice none 0 0] 29) (.cells #[.int .i64 0, .int .i64 0, .int .i64 2, .int .i64 0, .int .i64 0, .string ⟨#[]⟩, .string ⟨#[]⟩, .int .i64 0, .int .i64 0, .string ⟨#[]⟩, .slice none 0 0] 47) rfl) ho3 (fun e => e)
  have c0 : w3.cell? ⟨w1.heap.size, 0, none⟩ = some (.int .i64 2) := cell_blk hbc 0
  have c1 : w3.cell? ⟨w1.heap.size, 1, none⟩ = some (.int .i64 0) := cell_blk hbc 1
  have c2 : w3.cell? ⟨w1.heap.size, 2, none⟩ = some (.int .i64 0) := cell_blk hbc 2
  have c3 : w3.cell? ⟨w1.heap.size, 3, none⟩ = some (.int .i64 0) := cell_blk hbc 3
  have c4 : w3.cell? ⟨w1.heap.size, 4, none⟩ = some (.string ⟨#[]⟩) := cell_blk hbc 4
  have c5 : w3.cell? ⟨w1.heap.size, 5, none⟩ = some (.int .i64 0) := cell_blk hbc 5
  have c6 : w3.cell? ⟨w1.heap.size, 6, none⟩ = some (.int .i64 0) := cell_blk hbc 6
  have c7 : w3.cell? ⟨w1.heap.size, 7, none⟩ = some (.string ⟨#[]⟩) := cell_blk hbc 7
  have c8 : w3.cell? ⟨w1.heap.size, 8, none⟩ = some (.slice none 0 0) := cell_blk hbc 8
  have d0 : w3.cell? ⟨w1.heap.size + 1, 0, none⟩ = some (.int .i64 0) := cell_blk hbe2 0
  have d1 : w3.cell? ⟨w1.heap.size + 1, 1, none⟩ = some (.int .i64 0) := cell_blk hbe2 1
  have d2 : w3.cell? ⟨w1.heap.size + 1, 2, none⟩ = some (.int .i64 2) := cell_blk hbe2 2
  have d3 : w3.cell? ⟨w1.heap.size + 1, 3, none⟩ = some (.int .i64 0) := cell_blk hbe2 3
  have d4 : w3.cell? ⟨w1.heap.size + 1, 4, none⟩ = some (.int .i64 0) := cell_blk hbe2 4
  have d5 : w3.cell? ⟨w1.heap.size + 1, 5, none⟩ = some (.string ⟨#[]⟩) := cell_blk hbe2 5
  have d6 : w3.cell? ⟨w1.heap.size + 1, 6, none⟩ = some (.string ⟨#[]⟩) := cell_blk hbe2 6
  have d7 : w3.cell? ⟨w1.heap.size + 1, 7, none⟩ = some (.int .i64 0) := cell_blk hbe2 7
  have d8 : w3.cell? ⟨w1.heap.size + 1, 8, none⟩ = some (.int .i64 0) := cell_blk hbe2 8
  have d9 : w3.cell? ⟨w1.heap.size + 1, 9, none⟩ = some (.string ⟨#[]⟩) := cell_blk hbe2 9
  have d10 : w3.cell? ⟨w1.heap.size + 1, 10, none⟩ = some (.slice none 0 0) := cell_blk hbe2 10
  have hl1 := blk_lt hbc
  have hl2 := blk_lt hbe2
  have HO3 := hid (HO1.out.trans (hoA.trans ho3 (fun _ _ e => e)) (fun _ _ e => e))
  have HBE := hid hbe2
  have HED := hid (cmends_c (w := w3) (G := fun _ => False) (e := ⟨0, 0, 2, 0, 0, [], [], .nil⟩) (cs := [.int .i64 2, .int .i64 0, .int .i64 0, .int .i64 0, .string ⟨#[]⟩, .int .i64 0, .int .i64 0, .string ⟨#[]⟩, .slice none 0 0]) ⟨_, rfl, novlc _ _ 0 0 []⟩)
  have hed : cEnds (EM.k ⟨0, 0, 2, 0, 0, [], [], .nil⟩) = false := by decide
  rw [hed] at HED
  clear hoA ho3 hbc hbe2 hed
  go_wp2_with fail
  refine HED.out.mono ?_
  rintro x w4 ⟨rfl, ho4⟩
  have HB4 := hid (blk_only HBE.out ho4 (fun e => e))
  have HO4 := hid (HO3.out.trans ho4 (fun _ _ e => e))
  clear ho4 HED c0 c1 c2 c3 c4 c5 c6 c7 c8 d0 d1 d2 d3 d4 d5 d6 d7 d8 d9 d10 hl1 hl2
  have d0 : w4.cell? ⟨w1.heap.size + 1, 0, none⟩ = some (.int .i64 0) := cell_blk HB4.out 0
  have d1 : w4.cell? ⟨w1.heap.size + 1, 1, none⟩ = some (.int .i64 0) := cell_blk HB4.out 1
  have d2 : w4.cell? ⟨w1.heap.size + 1, 2, none⟩ = some (.int .i64 2) := cell_blk HB4.out 2
  have d3 : w4.cell? ⟨w1.heap.size + 1, 3, none⟩ = some (.int .i64 0) := cell_blk HB4.out 3
  have d4 : w4.cell? ⟨w1.heap.size + 1, 4, none⟩ = some (.int .i64 0) := cell_blk HB4.out 4
  have d5 : w4.cell? ⟨w1.heap.size + 1, 5, none⟩ = some (.string ⟨#[]⟩) := cell_blk HB4.out 5
  have d6 : w4.cell? ⟨w1.heap.size + 1, 6, none⟩ = some (.string ⟨#[]⟩) := cell_blk HB4.out 6
  have d7 : w4.cell? ⟨w1.heap.size + 1, 7, none⟩ = some (.int .i64 0) := cell_blk HB4.out 7
  have d8 : w4.cell? ⟨w1.heap.size + 1, 8, none⟩ = some (.int .i64 0) := cell_blk HB4.out 8
  have d9 : w4.cell? ⟨w1.heap.size + 1, 9, none⟩ = some (.string ⟨#[]⟩) := cell_blk HB4.out 9
  have d10 : w4.cell? ⟨w1.heap.size + 1, 10, none⟩ = some (.slice none 0 0) := cell_blk HB4.out 10
  have hl4 := blk_lt HB4.out
  have HMD := hid (cmade_c (w := w4) (G := fun _ => False) (e := ⟨0, 0, 2, 0, 0, [], [], .nil⟩) (cs := [.int .i64 0, .int .i64 0, .int .i64 2, .int .i64 0, .int .i64 0, .string ⟨#[]⟩, .string ⟨#[]⟩, .int .i64 0, .int .i64 0, .string ⟨#[]⟩, .slice none 0 0]) ⟨_, rfl, novlc _ _ 0 0 []⟩)
  have hmd : madeB (EM.k ⟨0, 0, 2, 0, 0, [], [], .nil⟩) = false := by decide
  rw [hmd] at HMD
  clear hmd
  go_wp2_with fail
  refine HMD.out.mono ?_
  rintro x w5 ⟨rfl, ho5⟩
  have HO5 := hid (HO4.out.trans ho5 (fun _ _ e => e))
  clear ho5 HMD
  go_wp2_with fail
  go_ret
  exact ⟨rfl, HO5.out⟩
set_option maxRecDepth 100000 in
theorem kinds_3 (hT : Tab w) : Calls Tryd.prog 7 #[.int .i64 3] w fun x w' => x = .returned (.bool true) ∧ Only (fun _ => False) w w' := by
  have HTL := hid (wants_c hT)
  clear hT
  go_enter Tryd.func7, Tryd.ntmps7
  go_wp2_with fail
  refine HTL.out.mono ?_
  rintro x w1 ⟨rfl, ho1⟩
  have HO1 := hid ho1
  clear ho1 HTL
  have HNM := fun wc => hid (cmname_c (w := wc) 3)
  have HNR := fun wc => hid (r10name_c (w := wc) 3)
  obtain ⟨nm, hnm⟩ : ∃ x, cName 3 = x := ⟨_, rfl⟩
  simp only [hnm] at HNM HNR
  clear hnm
  have hbe : ((strOf nm).toList == (strOf nm).toList) = true := by simp
  go_wp2_with fail
  refine (HNM _).out.mono ?_
  rintro x w2 ⟨rfl, rfl⟩
  go_wp2_with fail
  refine (HNR _).out.mono ?_
  rintro x w3 ⟨rfl, ho3⟩
  have hoA := (only_new w1 (.cells #[.int .i64 3, .int .i64 0, .int .i64 0, .int .i64 0, .string ⟨#[]⟩, .int .i64 0, .int .i64 0, .string ⟨#[]⟩, .slice none 0 0] 29)).trans (only_new _ (.cells #[.int .i64 0, .int .i64 0, .int .i64 3, .int .i64 0, .int .i64 0, .string ⟨#[]⟩, .string ⟨#[]⟩, .int .i64 0, .int .i64 0, .string ⟨#[]⟩, .slice none 0 0] 47)) (fun _ _ e => e)
  have hbc := blk_only (blk_alloc (o' := (.cells #[.int .i64 0, .int .i64 0, .int .i64 3, .int .i64 0, .int .i64 0, .string ⟨#[]⟩, .string ⟨#[]⟩, .int .i64 0, .int .i64 0, .string ⟨#[]⟩, .slice none 0 0] 47)) (blk_new w1 (.cells #[.int .i64 3, .int .i64 0, .int .i64 0, .int .i64 0, .string ⟨#[]⟩, .int .i64 0, .int .i64 0, .string ⟨#[]⟩, .slice none 0 0] 29))) ho3 (fun e => e)
  have hbe2 := blk_only (blk_new2 w1 (.cells #[.int .i64 3, .int .i64 0, .int .i64 0, .int .i64 0, .string ⟨#[]⟩, .int .i64 0, .int .i64 0, .string ⟨#[]⟩, .slice none 0 0] 29) (.cells #[.int .i64 0, .int .i64 0, .int .i64 3, .int .i64 0, .int .i64 0, .string ⟨#[]⟩, .string ⟨#[]⟩, .int .i64 0, .int .i64 0, .string ⟨#[]⟩, .slice none 0 0] 47) rfl) ho3 (fun e => e)
  have c0 : w3.cell? ⟨w1.heap.size, 0, none⟩ = some (.int .i64 3) := cell_blk hbc 0
  have c1 : w3.cell? ⟨w1.heap.size, 1, none⟩ = some (.int .i64 0) := cell_blk hbc 1
  have c2 : w3.cell? ⟨w1.heap.size, 2, none⟩ = some (.int .i64 0) := cell_blk hbc 2
  have c3 : w3.cell? ⟨w1.heap.size, 3, none⟩ = some (.int .i64 0) := cell_blk hbc 3
  have c4 : w3.cell? ⟨w1.heap.size, 4, none⟩ = some (.string ⟨#[]⟩) := cell_blk hbc 4
  have c5 : w3.cell? ⟨w1.heap.size, 5, none⟩ = some (.int .i64 0) := cell_blk hbc 5
  have c6 : w3.cell? ⟨w1.heap.size, 6, none⟩ = some (.int .i64 0) := cell_blk hbc 6
  have c7 : w3.cell? ⟨w1.heap.size, 7, none⟩ = some (.string ⟨#[]⟩) := cell_blk hbc 7
  have c8 : w3.cell? ⟨w1.heap.size, 8, none⟩ = some (.slice none 0 0) := cell_blk hbc 8
  have d0 : w3.cell? ⟨w1.heap.size + 1, 0, none⟩ = some (.int .i64 0) := cell_blk hbe2 0
  have d1 : w3.cell? ⟨w1.heap.size + 1, 1, none⟩ = some (.int .i64 0) := cell_blk hbe2 1
  have d2 : w3.cell? ⟨w1.heap.size + 1, 2, none⟩ = some (.int .i64 3) := cell_blk hbe2 2
  have d3 : w3.cell? ⟨w1.heap.size + 1, 3, none⟩ = some (.int .i64 0) := cell_blk hbe2 3
  have d4 : w3.cell? ⟨w1.heap.size + 1, 4, none⟩ = some (.int .i64 0) := cell_blk hbe2 4
  have d5 : w3.cell? ⟨w1.heap.size + 1, 5, none⟩ = some (.string ⟨#[]⟩) := cell_blk hbe2 5
  have d6 : w3.cell? ⟨w1.heap.size + 1, 6, none⟩ = some (.string ⟨#[]⟩) := cell_blk hbe2 6
  have d7 : w3.cell? ⟨w1.heap.size + 1, 7, none⟩ = some (.int .i64 0) := cell_blk hbe2 7
  have d8 : w3.cell? ⟨w1.heap.size + 1, 8, none⟩ = some (.int .i64 0) := cell_blk hbe2 8
  have d9 : w3.cell? ⟨w1.heap.size + 1, 9, none⟩ = some (.string ⟨#[]⟩) := cell_blk hbe2 9
  have d10 : w3.cell? ⟨w1.heap.size + 1, 10, none⟩ = some (.slice none 0 0) := cell_blk hbe2 10
  have hl1 := blk_lt hbc
  have hl2 := blk_lt hbe2
  have HO3 := hid (HO1.out.trans (hoA.trans ho3 (fun _ _ e => e)) (fun _ _ e => e))
  have HBE := hid hbe2
  have HED := hid (cmends_c (w := w3) (G := fun _ => False) (e := ⟨0, 0, 3, 0, 0, [], [], .nil⟩) (cs := [.int .i64 3, .int .i64 0, .int .i64 0, .int .i64 0, .string ⟨#[]⟩, .int .i64 0, .int .i64 0, .string ⟨#[]⟩, .slice none 0 0]) ⟨_, rfl, novlc _ _ 0 0 []⟩)
  have hed : cEnds (EM.k ⟨0, 0, 3, 0, 0, [], [], .nil⟩) = false := by decide
  rw [hed] at HED
  clear hoA ho3 hbc hbe2 hed
  go_wp2_with fail
  refine HED.out.mono ?_
  rintro x w4 ⟨rfl, ho4⟩
  have HB4 := hid (blk_only HBE.out ho4 (fun e => e))
  have HO4 := hid (HO3.out.trans ho4 (fun _ _ e => e))
  clear ho4 HED c0 c1 c2 c3 c4 c5 c6 c7 c8 d0 d1 d2 d3 d4 d5 d6 d7 d8 d9 d10 hl1 hl2
  have d0 : w4.cell? ⟨w1.heap.size + 1, 0, none⟩ = some (.int .i64 0) := cell_blk HB4.out 0
  have d1 : w4.cell? ⟨w1.heap.size + 1, 1, none⟩ = some (.int .i64 0) := cell_blk HB4.out 1
  have d2 : w4.cell? ⟨w1.heap.size + 1, 2, none⟩ = some (.int .i64 3) := cell_blk HB4.out 2
  have d3 : w4.cell? ⟨w1.heap.size + 1, 3, none⟩ = some (.int .i64 0) := cell_blk HB4.out 3
  have d4 : w4.cell? ⟨w1.heap.size + 1, 4, none⟩ = some (.int .i64 0) := cell_blk HB4.out 4
  have d5 : w4.cell? ⟨w1.heap.size + 1, 5, none⟩ = some (.string ⟨#[]⟩) := cell_blk HB4.out 5
  have d6 : w4.cell? ⟨w1.heap.size + 1, 6, none⟩ = some (.string ⟨#[]⟩) := cell_blk HB4.out 6
  have d7 : w4.cell? ⟨w1.heap.size + 1, 7, none⟩ = some (.int .i64 0) := cell_blk HB4.out 7
  have d8 : w4.cell? ⟨w1.heap.size + 1, 8, none⟩ = some (.int .i64 0) := cell_blk HB4.out 8
  have d9 : w4.cell? ⟨w1.heap.size + 1, 9, none⟩ = some (.string ⟨#[]⟩) := cell_blk HB4.out 9
  have d10 : w4.cell? ⟨w1.heap.size + 1, 10, none⟩ = some (.slice none 0 0) := cell_blk HB4.out 10
  have hl4 := blk_lt HB4.out
  have HMD := hid (cmade_c (w := w4) (G := fun _ => False) (e := ⟨0, 0, 3, 0, 0, [], [], .nil⟩) (cs := [.int .i64 0, .int .i64 0, .int .i64 3, .int .i64 0, .int .i64 0, .string ⟨#[]⟩, .string ⟨#[]⟩, .int .i64 0, .int .i64 0, .string ⟨#[]⟩, .slice none 0 0]) ⟨_, rfl, novlc _ _ 0 0 []⟩)
  have hmd : madeB (EM.k ⟨0, 0, 3, 0, 0, [], [], .nil⟩) = false := by decide
  rw [hmd] at HMD
  clear hmd
  go_wp2_with fail
  refine HMD.out.mono ?_
  rintro x w5 ⟨rfl, ho5⟩
  have HO5 := hid (HO4.out.trans ho5 (fun _ _ e => e))
  clear ho5 HMD
  go_wp2_with fail
  go_ret
  exact ⟨rfl, HO5.out⟩
set_option maxRecDepth 100000 in
theorem kinds_4 (hT : Tab w) : Calls Tryd.prog 7 #[.int .i64 4] w fun x w' => x = .returned (.bool true) ∧ Only (fun _ => False) w w' := by
  have HTL := hid (wants_c hT)
  clear hT
  go_enter Tryd.func7, Tryd.ntmps7
  go_wp2_with fail
  refine HTL.out.mono ?_
  rintro x w1 ⟨rfl, ho1⟩
  have HO1 := hid ho1
  clear ho1 HTL
  have HNM := fun wc => hid (cmname_c (w := wc) 4)
  have HNR := fun wc => hid (r10name_c (w := wc) 4)
  obtain ⟨nm, hnm⟩ : ∃ x, cName 4 = x := ⟨_, rfl⟩
  simp only [hnm] at HNM HNR
  clear hnm
  have hbe : ((strOf nm).toList == (strOf nm).toList) = true := by simp
  go_wp2_with fail
  refine (HNM _).out.mono ?_
  rintro x w2 ⟨rfl, rfl⟩
  go_wp2_with fail
  refine (HNR _).out.mono ?_
  rintro x w3 ⟨rfl, ho3⟩
  have hoA := (only_new w1 (.cells #[.int .i64 4, .int .i64 0, .int .i64 0, .int .i64 0, .string ⟨#[]⟩, .int .i64 0, .int .i64 0, .string ⟨#[]⟩, .slice none 0 0] 29)).trans (only_new _ (.cells #[.int .i64 0, .int .i64 0, .int .i64 4, .int .i64 0, .int .i64 0, .string ⟨#[]⟩, .string ⟨#[]⟩, .int .i64 0, .int .i64 0, .string ⟨#[]⟩, .slice none 0 0] 47)) (fun _ _ e => e)
  have hbc := blk_only (blk_alloc (o' := (.cells #[.int .i64 0, .int .i64 0, .int .i64 4, .int .i64 0, .int .i64 0, .string ⟨#[]⟩, .string ⟨#[]⟩, .int .i64 0, .int .i64 0, .string ⟨#[]⟩, .slice none 0 0] 47)) (blk_new w1 (.cells #[.int .i64 4, .int .i64 0, .int .i64 0, .int .i64 0, .string ⟨#[]⟩, .int .i64 0, .int .i64 0, .string ⟨#[]⟩, .slice none 0 0] 29))) ho3 (fun e => e)
  have hbe2 := blk_only (blk_new2 w1 (.cells #[.int .i64 4, .int .i64 0, .int .i64 0, .int .i64 0, .string ⟨#[]⟩, .int .i64 0, .int .i64 0, .string ⟨#[]⟩, .slice none 0 0] 29) (.cells #[.int .i64 0, .int .i64 0, .int .i64 4, .int .i64 0, .int .i64 0, .string ⟨#[]⟩, .string ⟨#[]⟩, .int .i64 0, .int .i64 0, .string ⟨#[]⟩, .slice none 0 0] 47) rfl) ho3 (fun e => e)
  have c0 : w3.cell? ⟨w1.heap.size, 0, none⟩ = some (.int .i64 4) := cell_blk hbc 0
  have c1 : w3.cell? ⟨w1.heap.size, 1, none⟩ = some (.int .i64 0) := cell_blk hbc 1
  have c2 : w3.cell? ⟨w1.heap.size, 2, none⟩ = some (.int .i64 0) := cell_blk hbc 2
  have c3 : w3.cell? ⟨w1.heap.size, 3, none⟩ = some (.int .i64 0) := cell_blk hbc 3
  have c4 : w3.cell? ⟨w1.heap.size, 4, none⟩ = some (.string ⟨#[]⟩) := cell_blk hbc 4
  have c5 : w3.cell? ⟨w1.heap.size, 5, none⟩ = some (.int .i64 0) := cell_blk hbc 5
  have c6 : w3.cell? ⟨w1.heap.size, 6, none⟩ = some (.int .i64 0) := cell_blk hbc 6
  have c7 : w3.cell? ⟨w1.heap.size, 7, none⟩ = some (.string ⟨#[]⟩) := cell_blk hbc 7
  have c8 : w3.cell? ⟨w1.heap.size, 8, none⟩ = some (.slice none 0 0) := cell_blk hbc 8
  have d0 : w3.cell? ⟨w1.heap.size + 1, 0, none⟩ = some (.int .i64 0) := cell_blk hbe2 0
  have d1 : w3.cell? ⟨w1.heap.size + 1, 1, none⟩ = some (.int .i64 0) := cell_blk hbe2 1
  have d2 : w3.cell? ⟨w1.heap.size + 1, 2, none⟩ = some (.int .i64 4) := cell_blk hbe2 2
  have d3 : w3.cell? ⟨w1.heap.size + 1, 3, none⟩ = some (.int .i64 0) := cell_blk hbe2 3
  have d4 : w3.cell? ⟨w1.heap.size + 1, 4, none⟩ = some (.int .i64 0) := cell_blk hbe2 4
  have d5 : w3.cell? ⟨w1.heap.size + 1, 5, none⟩ = some (.string ⟨#[]⟩) := cell_blk hbe2 5
  have d6 : w3.cell? ⟨w1.heap.size + 1, 6, none⟩ = some (.string ⟨#[]⟩) := cell_blk hbe2 6
  have d7 : w3.cell? ⟨w1.heap.size + 1, 7, none⟩ = some (.int .i64 0) := cell_blk hbe2 7
  have d8 : w3.cell? ⟨w1.heap.size + 1, 8, none⟩ = some (.int .i64 0) := cell_blk hbe2 8
  have d9 : w3.cell? ⟨w1.heap.size + 1, 9, none⟩ = some (.string ⟨#[]⟩) := cell_blk hbe2 9
  have d10 : w3.cell? ⟨w1.heap.size + 1, 10, none⟩ = some (.slice none 0 0) := cell_blk hbe2 10
  have hl1 := blk_lt hbc
  have hl2 := blk_lt hbe2
  have HO3 := hid (HO1.out.trans (hoA.trans ho3 (fun _ _ e => e)) (fun _ _ e => e))
  have HBE := hid hbe2
  have HED := hid (cmends_c (w := w3) (G := fun _ => False) (e := ⟨0, 0, 4, 0, 0, [], [], .nil⟩) (cs := [.int .i64 4, .int .i64 0, .int .i64 0, .int .i64 0, .string ⟨#[]⟩, .int .i64 0, .int .i64 0, .string ⟨#[]⟩, .slice none 0 0]) ⟨_, rfl, novlc _ _ 0 0 []⟩)
  have hed : cEnds (EM.k ⟨0, 0, 4, 0, 0, [], [], .nil⟩) = true := by decide
  rw [hed] at HED
  clear hoA ho3 hbc hbe2 hed
  go_wp2_with fail
  refine HED.out.mono ?_
  rintro x w4 ⟨rfl, ho4⟩
  have HB4 := hid (blk_only HBE.out ho4 (fun e => e))
  have HO4 := hid (HO3.out.trans ho4 (fun _ _ e => e))
  clear ho4 HED c0 c1 c2 c3 c4 c5 c6 c7 c8 d0 d1 d2 d3 d4 d5 d6 d7 d8 d9 d10 hl1 hl2
  have d0 : w4.cell? ⟨w1.heap.size + 1, 0, none⟩ = some (.int .i64 0) := cell_blk HB4.out 0
  have d1 : w4.cell? ⟨w1.heap.size + 1, 1, none⟩ = some (.int .i64 0) := cell_blk HB4.out 1
  have d2 : w4.cell? ⟨w1.heap.size + 1, 2, none⟩ = some (.int .i64 4) := cell_blk HB4.out 2
  have d3 : w4.cell? ⟨w1.heap.size + 1, 3, none⟩ = some (.int .i64 0) := cell_blk HB4.out 3
  have d4 : w4.cell? ⟨w1.heap.size + 1, 4, none⟩ = some (.int .i64 0) := cell_blk HB4.out 4
  have d5 : w4.cell? ⟨w1.heap.size + 1, 5, none⟩ = some (.string ⟨#[]⟩) := cell_blk HB4.out 5
  have d6 : w4.cell? ⟨w1.heap.size + 1, 6, none⟩ = some (.string ⟨#[]⟩) := cell_blk HB4.out 6
  have d7 : w4.cell? ⟨w1.heap.size + 1, 7, none⟩ = some (.int .i64 0) := cell_blk HB4.out 7
  have d8 : w4.cell? ⟨w1.heap.size + 1, 8, none⟩ = some (.int .i64 0) := cell_blk HB4.out 8
  have d9 : w4.cell? ⟨w1.heap.size + 1, 9, none⟩ = some (.string ⟨#[]⟩) := cell_blk HB4.out 9
  have d10 : w4.cell? ⟨w1.heap.size + 1, 10, none⟩ = some (.slice none 0 0) := cell_blk HB4.out 10
  have hl4 := blk_lt HB4.out
  have HMD := hid (cmade_c (w := w4) (G := fun _ => False) (e := ⟨0, 0, 4, 0, 0, [], [], .nil⟩) (cs := [.int .i64 0, .int .i64 0, .int .i64 4, .int .i64 0, .int .i64 0, .string ⟨#[]⟩, .string ⟨#[]⟩, .int .i64 0, .int .i64 0, .string ⟨#[]⟩, .slice none 0 0]) ⟨_, rfl, novlc _ _ 0 0 []⟩)
  have hmd : madeB (EM.k ⟨0, 0, 4, 0, 0, [], [], .nil⟩) = false := by decide
  rw [hmd] at HMD
  clear hmd
  go_wp2_with fail
  refine HMD.out.mono ?_
  rintro x w5 ⟨rfl, ho5⟩
  have HO5 := hid (HO4.out.trans ho5 (fun _ _ e => e))
  clear ho5 HMD
  go_wp2_with fail
  go_ret
  exact ⟨rfl, HO5.out⟩
set_option maxRecDepth 100000 in
theorem kinds_5 (hT : Tab w) : Calls Tryd.prog 7 #[.int .i64 5] w fun x w' => x = .returned (.bool true) ∧ Only (fun _ => False) w w' := by
  have HTL := hid (wants_c hT)
  clear hT
  go_enter Tryd.func7, Tryd.ntmps7
  go_wp2_with fail
  refine HTL.out.mono ?_
  rintro x w1 ⟨rfl, ho1⟩
  have HO1 := hid ho1
  clear ho1 HTL
  have HNM := fun wc => hid (cmname_c (w := wc) 5)
  have HNR := fun wc => hid (r10name_c (w := wc) 5)
  obtain ⟨nm, hnm⟩ : ∃ x, cName 5 = x := ⟨_, rfl⟩
  simp only [hnm] at HNM HNR
  clear hnm
  have hbe : ((strOf nm).toList == (strOf nm).toList) = true := by simp
  go_wp2_with fail
  refine (HNM _).out.mono ?_
  rintro x w2 ⟨rfl, rfl⟩
  go_wp2_with fail
  refine (HNR _).out.mono ?_
  rintro x w3 ⟨rfl, ho3⟩
  have hoA := (only_new w1 (.cells #[.int .i64 5, .int .i64 0, .int .i64 0, .int .i64 0, .string ⟨#[]⟩, .int .i64 0, .int .i64 0, .string ⟨#[]⟩, .slice none 0 0] 29)).trans (only_new _ (.cells #[.int .i64 0, .int .i64 0, .int .i64 5, .int .i64 0, .int .i64 0, .string ⟨#[]⟩, .string ⟨#[]⟩, .int .i64 0, .int .i64 0, .string ⟨#[]⟩, .slice none 0 0] 47)) (fun _ _ e => e)
  have hbc := blk_only (blk_alloc (o' := (.cells #[.int .i64 0, .int .i64 0, .int .i64 5, .int .i64 0, .int .i64 0, .string ⟨#[]⟩, .string ⟨#[]⟩, .int .i64 0, .int .i64 0, .string ⟨#[]⟩, .slice none 0 0] 47)) (blk_new w1 (.cells #[.int .i64 5, .int .i64 0, .int .i64 0, .int .i64 0, .string ⟨#[]⟩, .int .i64 0, .int .i64 0, .string ⟨#[]⟩, .slice none 0 0] 29))) ho3 (fun e => e)
  have hbe2 := blk_only (blk_new2 w1 (.cells #[.int .i64 5, .int .i64 0, .int .i64 0, .int .i64 0, .string ⟨#[]⟩, .int .i64 0, .int .i64 0, .string ⟨#[]⟩, .slice none 0 0] 29) (.cells #[.int .i64 0, .int .i64 0, .int .i64 5, .int .i64 0, .int .i64 0, .string ⟨#[]⟩, .string ⟨#[]⟩, .int .i64 0, .int .i64 0, .string ⟨#[]⟩, .slice none 0 0] 47) rfl) ho3 (fun e => e)
  have c0 : w3.cell? ⟨w1.heap.size, 0, none⟩ = some (.int .i64 5) := cell_blk hbc 0
  have c1 : w3.cell? ⟨w1.heap.size, 1, none⟩ = some (.int .i64 0) := cell_blk hbc 1
  have c2 : w3.cell? ⟨w1.heap.size, 2, none⟩ = some (.int .i64 0) := cell_blk hbc 2
  have c3 : w3.cell? ⟨w1.heap.size, 3, none⟩ = some (.int .i64 0) := cell_blk hbc 3
  have c4 : w3.cell? ⟨w1.heap.size, 4, none⟩ = some (.string ⟨#[]⟩) := cell_blk hbc 4
  have c5 : w3.cell? ⟨w1.heap.size, 5, none⟩ = some (.int .i64 0) := cell_blk hbc 5
  have c6 : w3.cell? ⟨w1.heap.size, 6, none⟩ = some (.int .i64 0) := cell_blk hbc 6
  have c7 : w3.cell? ⟨w1.heap.size, 7, none⟩ = some (.string ⟨#[]⟩) := cell_blk hbc 7
  have c8 : w3.cell? ⟨w1.heap.size, 8, none⟩ = some (.slice none 0 0) := cell_blk hbc 8
  have d0 : w3.cell? ⟨w1.heap.size + 1, 0, none⟩ = some (.int .i64 0) := cell_blk hbe2 0
  have d1 : w3.cell? ⟨w1.heap.size + 1, 1, none⟩ = some (.int .i64 0) := cell_blk hbe2 1
  have d2 : w3.cell? ⟨w1.heap.size + 1, 2, none⟩ = some (.int .i64 5) := cell_blk hbe2 2
  have d3 : w3.cell? ⟨w1.heap.size + 1, 3, none⟩ = some (.int .i64 0) := cell_blk hbe2 3
  have d4 : w3.cell? ⟨w1.heap.size + 1, 4, none⟩ = some (.int .i64 0) := cell_blk hbe2 4
  have d5 : w3.cell? ⟨w1.heap.size + 1, 5, none⟩ = some (.string ⟨#[]⟩) := cell_blk hbe2 5
  have d6 : w3.cell? ⟨w1.heap.size + 1, 6, none⟩ = some (.string ⟨#[]⟩) := cell_blk hbe2 6
  have d7 : w3.cell? ⟨w1.heap.size + 1, 7, none⟩ = some (.int .i64 0) := cell_blk hbe2 7
  have d8 : w3.cell? ⟨w1.heap.size + 1, 8, none⟩ = some (.int .i64 0) := cell_blk hbe2 8
  have d9 : w3.cell? ⟨w1.heap.size + 1, 9, none⟩ = some (.string ⟨#[]⟩) := cell_blk hbe2 9
  have d10 : w3.cell? ⟨w1.heap.size + 1, 10, none⟩ = some (.slice none 0 0) := cell_blk hbe2 10
  have hl1 := blk_lt hbc
  have hl2 := blk_lt hbe2
  have HO3 := hid (HO1.out.trans (hoA.trans ho3 (fun _ _ e => e)) (fun _ _ e => e))
  have HBE := hid hbe2
  have HED := hid (cmends_c (w := w3) (G := fun _ => False) (e := ⟨0, 0, 5, 0, 0, [], [], .nil⟩) (cs := [.int .i64 5, .int .i64 0, .int .i64 0, .int .i64 0, .string ⟨#[]⟩, .int .i64 0, .int .i64 0, .string ⟨#[]⟩, .slice none 0 0]) ⟨_, rfl, novlc _ _ 0 0 []⟩)
  have hed : cEnds (EM.k ⟨0, 0, 5, 0, 0, [], [], .nil⟩) = true := by decide
  rw [hed] at HED
  clear hoA ho3 hbc hbe2 hed
  go_wp2_with fail
  refine HED.out.mono ?_
  rintro x w4 ⟨rfl, ho4⟩
  have HB4 := hid (blk_only HBE.out ho4 (fun e => e))
  have HO4 := hid (HO3.out.trans ho4 (fun _ _ e => e))
  clear ho4 HED c0 c1 c2 c3 c4 c5 c6 c7 c8 d0 d1 d2 d3 d4 d5 d6 d7 d8 d9 d10 hl1 hl2
  have d0 : w4.cell? ⟨w1.heap.size + 1, 0, none⟩ = some (.int .i64 0) := cell_blk HB4.out 0
  have d1 : w4.cell? ⟨w1.heap.size + 1, 1, none⟩ = some (.int .i64 0) := cell_blk HB4.out 1
  have d2 : w4.cell? ⟨w1.heap.size + 1, 2, none⟩ = some (.int .i64 5) := cell_blk HB4.out 2
  have d3 : w4.cell? ⟨w1.heap.size + 1, 3, none⟩ = some (.int .i64 0) := cell_blk HB4.out 3
  have d4 : w4.cell? ⟨w1.heap.size + 1, 4, none⟩ = some (.int .i64 0) := cell_blk HB4.out 4
  have d5 : w4.cell? ⟨w1.heap.size + 1, 5, none⟩ = some (.string ⟨#[]⟩) := cell_blk HB4.out 5
  have d6 : w4.cell? ⟨w1.heap.size + 1, 6, none⟩ = some (.string ⟨#[]⟩) := cell_blk HB4.out 6
  have d7 : w4.cell? ⟨w1.heap.size + 1, 7, none⟩ = some (.int .i64 0) := cell_blk HB4.out 7
  have d8 : w4.cell? ⟨w1.heap.size + 1, 8, none⟩ = some (.int .i64 0) := cell_blk HB4.out 8
  have d9 : w4.cell? ⟨w1.heap.size + 1, 9, none⟩ = some (.string ⟨#[]⟩) := cell_blk HB4.out 9
  have d10 : w4.cell? ⟨w1.heap.size + 1, 10, none⟩ = some (.slice none 0 0) := cell_blk HB4.out 10
  have hl4 := blk_lt HB4.out
  have HMD := hid (cmade_c (w := w4) (G := fun _ => False) (e := ⟨0, 0, 5, 0, 0, [], [], .nil⟩) (cs := [.int .i64 0, .int .i64 0, .int .i64 5, .int .i64 0, .int .i64 0, .string ⟨#[]⟩, .string ⟨#[]⟩, .int .i64 0, .int .i64 0, .string ⟨#[]⟩, .slice none 0 0]) ⟨_, rfl, novlc _ _ 0 0 []⟩)
  have hmd : madeB (EM.k ⟨0, 0, 5, 0, 0, [], [], .nil⟩) = false := by decide
  rw [hmd] at HMD
  clear hmd
  go_wp2_with fail
  refine HMD.out.mono ?_
  rintro x w5 ⟨rfl, ho5⟩
  have HO5 := hid (HO4.out.trans ho5 (fun _ _ e => e))
  clear ho5 HMD
  go_wp2_with fail
  go_ret
  exact ⟨rfl, HO5.out⟩
set_option maxRecDepth 100000 in
theorem kinds_6 (hT : Tab w) : Calls Tryd.prog 7 #[.int .i64 6] w fun x w' => x = .returned (.bool true) ∧ Only (fun _ => False) w w' := by
  have HTL := hid (wants_c hT)
  clear hT
  go_enter Tryd.func7, Tryd.ntmps7
  go_wp2_with fail
  refine HTL.out.mono ?_
  rintro x w1 ⟨rfl, ho1⟩
  have HO1 := hid ho1
  clear ho1 HTL
  have HNM := fun wc => hid (cmname_c (w := wc) 6)
  have HNR := fun wc => hid (r10name_c (w := wc) 6)
  obtain ⟨nm, hnm⟩ : ∃ x, cName 6 = x := ⟨_, rfl⟩
  simp only [hnm] at HNM HNR
  clear hnm
  have hbe : ((strOf nm).toList == (strOf nm).toList) = true := by simp
  go_wp2_with fail
  refine (HNM _).out.mono ?_
  rintro x w2 ⟨rfl, rfl⟩
  go_wp2_with fail
  refine (HNR _).out.mono ?_
  rintro x w3 ⟨rfl, ho3⟩
  have hoA := (only_new w1 (.cells #[.int .i64 6, .int .i64 0, .int .i64 0, .int .i64 0, .string ⟨#[]⟩, .int .i64 0, .int .i64 0, .string ⟨#[]⟩, .slice none 0 0] 29)).trans (only_new _ (.cells #[.int .i64 0, .int .i64 0, .int .i64 6, .int .i64 0, .int .i64 0, .string ⟨#[]⟩, .string ⟨#[]⟩, .int .i64 0, .int .i64 0, .string ⟨#[]⟩, .slice none 0 0] 47)) (fun _ _ e => e)
  have hbc := blk_only (blk_alloc (o' := (.cells #[.int .i64 0, .int .i64 0, .int .i64 6, .int .i64 0, .int .i64 0, .string ⟨#[]⟩, .string ⟨#[]⟩, .int .i64 0, .int .i64 0, .string ⟨#[]⟩, .slice none 0 0] 47)) (blk_new w1 (.cells #[.int .i64 6, .int .i64 0, .int .i64 0, .int .i64 0, .string ⟨#[]⟩, .int .i64 0, .int .i64 0, .string ⟨#[]⟩, .slice none 0 0] 29))) ho3 (fun e => e)
  have hbe2 := blk_only (blk_new2 w1 (.cells #[.int .i64 6, .int .i64 0, .int .i64 0, .int .i64 0, .string ⟨#[]⟩, .int .i64 0, .int .i64 0, .string ⟨#[]⟩, .slice none 0 0] 29) (.cells #[.int .i64 0, .int .i64 0, .int .i64 6, .int .i64 0, .int .i64 0, .string ⟨#[]⟩, .string ⟨#[]⟩, .int .i64 0, .int .i64 0, .string ⟨#[]⟩, .slice none 0 0] 47) rfl) ho3 (fun e => e)
  have c0 : w3.cell? ⟨w1.heap.size, 0, none⟩ = some (.int .i64 6) := cell_blk hbc 0
  have c1 : w3.cell? ⟨w1.heap.size, 1, none⟩ = some (.int .i64 0) := cell_blk hbc 1
  have c2 : w3.cell? ⟨w1.heap.size, 2, none⟩ = some (.int .i64 0) := cell_blk hbc 2
  have c3 : w3.cell? ⟨w1.heap.size, 3, none⟩ = some (.int .i64 0) := cell_blk hbc 3
  have c4 : w3.cell? ⟨w1.heap.size, 4, none⟩ = some (.string ⟨#[]⟩) := cell_blk hbc 4
  have c5 : w3.cell? ⟨w1.heap.size, 5, none⟩ = some (.int .i64 0) := cell_blk hbc 5
  have c6 : w3.cell? ⟨w1.heap.size, 6, none⟩ = some (.int .i64 0) := cell_blk hbc 6
  have c7 : w3.cell? ⟨w1.heap.size, 7, none⟩ = some (.string ⟨#[]⟩) := cell_blk hbc 7
  have c8 : w3.cell? ⟨w1.heap.size, 8, none⟩ = some (.slice none 0 0) := cell_blk hbc 8
  have d0 : w3.cell? ⟨w1.heap.size + 1, 0, none⟩ = some (.int .i64 0) := cell_blk hbe2 0
  have d1 : w3.cell? ⟨w1.heap.size + 1, 1, none⟩ = some (.int .i64 0) := cell_blk hbe2 1
  have d2 : w3.cell? ⟨w1.heap.size + 1, 2, none⟩ = some (.int .i64 6) := cell_blk hbe2 2
  have d3 : w3.cell? ⟨w1.heap.size + 1, 3, none⟩ = some (.int .i64 0) := cell_blk hbe2 3
  have d4 : w3.cell? ⟨w1.heap.size + 1, 4, none⟩ = some (.int .i64 0) := cell_blk hbe2 4
  have d5 : w3.cell? ⟨w1.heap.size + 1, 5, none⟩ = some (.string ⟨#[]⟩) := cell_blk hbe2 5
  have d6 : w3.cell? ⟨w1.heap.size + 1, 6, none⟩ = some (.string ⟨#[]⟩) := cell_blk hbe2 6
  have d7 : w3.cell? ⟨w1.heap.size + 1, 7, none⟩ = some (.int .i64 0) := cell_blk hbe2 7
  have d8 : w3.cell? ⟨w1.heap.size + 1, 8, none⟩ = some (.int .i64 0) := cell_blk hbe2 8
  have d9 : w3.cell? ⟨w1.heap.size + 1, 9, none⟩ = some (.string ⟨#[]⟩) := cell_blk hbe2 9
  have d10 : w3.cell? ⟨w1.heap.size + 1, 10, none⟩ = some (.slice none 0 0) := cell_blk hbe2 10
  have hl1 := blk_lt hbc
  have hl2 := blk_lt hbe2
  have HO3 := hid (HO1.out.trans (hoA.trans ho3 (fun _ _ e => e)) (fun _ _ e => e))
  have HBE := hid hbe2
  have HED := hid (cmends_c (w := w3) (G := fun _ => False) (e := ⟨0, 0, 6, 0, 0, [], [], .nil⟩) (cs := [.int .i64 6, .int .i64 0, .int .i64 0, .int .i64 0, .string ⟨#[]⟩, .int .i64 0, .int .i64 0, .string ⟨#[]⟩, .slice none 0 0]) ⟨_, rfl, novlc _ _ 0 0 []⟩)
  have hed : cEnds (EM.k ⟨0, 0, 6, 0, 0, [], [], .nil⟩) = true := by decide
  rw [hed] at HED
  clear hoA ho3 hbc hbe2 hed
  go_wp2_with fail
  refine HED.out.mono ?_
  rintro x w4 ⟨rfl, ho4⟩
  have HB4 := hid (blk_only HBE.out ho4 (fun e => e))
  have HO4 := hid (HO3.out.trans ho4 (fun _ _ e => e))
  clear ho4 HED c0 c1 c2 c3 c4 c5 c6 c7 c8 d0 d1 d2 d3 d4 d5 d6 d7 d8 d9 d10 hl1 hl2
  have d0 : w4.cell? ⟨w1.heap.size + 1, 0, none⟩ = some (.int .i64 0) := cell_blk HB4.out 0
  have d1 : w4.cell? ⟨w1.heap.size + 1, 1, none⟩ = some (.int .i64 0) := cell_blk HB4.out 1
  have d2 : w4.cell? ⟨w1.heap.size + 1, 2, none⟩ = some (.int .i64 6) := cell_blk HB4.out 2
  have d3 : w4.cell? ⟨w1.heap.size + 1, 3, none⟩ = some (.int .i64 0) := cell_blk HB4.out 3
  have d4 : w4.cell? ⟨w1.heap.size + 1, 4, none⟩ = some (.int .i64 0) := cell_blk HB4.out 4
  have d5 : w4.cell? ⟨w1.heap.size + 1, 5, none⟩ = some (.string ⟨#[]⟩) := cell_blk HB4.out 5
  have d6 : w4.cell? ⟨w1.heap.size + 1, 6, none⟩ = some (.string ⟨#[]⟩) := cell_blk HB4.out 6
  have d7 : w4.cell? ⟨w1.heap.size + 1, 7, none⟩ = some (.int .i64 0) := cell_blk HB4.out 7
  have d8 : w4.cell? ⟨w1.heap.size + 1, 8, none⟩ = some (.int .i64 0) := cell_blk HB4.out 8
  have d9 : w4.cell? ⟨w1.heap.size + 1, 9, none⟩ = some (.string ⟨#[]⟩) := cell_blk HB4.out 9
  have d10 : w4.cell? ⟨w1.heap.size + 1, 10, none⟩ = some (.slice none 0 0) := cell_blk HB4.out 10
  have hl4 := blk_lt HB4.out
  have HMD := hid (cmade_c (w := w4) (G := fun _ => False) (e := ⟨0, 0, 6, 0, 0, [], [], .nil⟩) (cs := [.int .i64 0, .int .i64 0, .int .i64 6, .int .i64 0, .int .i64 0, .string ⟨#[]⟩, .string ⟨#[]⟩, .int .i64 0, .int .i64 0, .string ⟨#[]⟩, .slice none 0 0]) ⟨_, rfl, novlc _ _ 0 0 []⟩)
  have hmd : madeB (EM.k ⟨0, 0, 6, 0, 0, [], [], .nil⟩) = false := by decide
  rw [hmd] at HMD
  clear hmd
  go_wp2_with fail
  refine HMD.out.mono ?_
  rintro x w5 ⟨rfl, ho5⟩
  have HO5 := hid (HO4.out.trans ho5 (fun _ _ e => e))
  clear ho5 HMD
  go_wp2_with fail
  go_ret
  exact ⟨rfl, HO5.out⟩
set_option maxRecDepth 100000 in
theorem kinds_7 (hT : Tab w) : Calls Tryd.prog 7 #[.int .i64 7] w fun x w' => x = .returned (.bool true) ∧ Only (fun _ => False) w w' := by
  have HTL := hid (wants_c hT)
  clear hT
  go_enter Tryd.func7, Tryd.ntmps7
  go_wp2_with fail
  refine HTL.out.mono ?_
  rintro x w1 ⟨rfl, ho1⟩
  have HO1 := hid ho1
  clear ho1 HTL
  have HNM := fun wc => hid (cmname_c (w := wc) 7)
  have HNR := fun wc => hid (r10name_c (w := wc) 7)
  obtain ⟨nm, hnm⟩ : ∃ x, cName 7 = x := ⟨_, rfl⟩
  simp only [hnm] at HNM HNR
  clear hnm
  have hbe : ((strOf nm).toList == (strOf nm).toList) = true := by simp
  go_wp2_with fail
  refine (HNM _).out.mono ?_
  rintro x w2 ⟨rfl, rfl⟩
  go_wp2_with fail
  refine (HNR _).out.mono ?_
  rintro x w3 ⟨rfl, ho3⟩
  have hoA := (only_new w1 (.cells #[.int .i64 7, .int .i64 0, .int .i64 0, .int .i64 0, .string ⟨#[]⟩, .int .i64 0, .int .i64 0, .string ⟨#[]⟩, .slice none 0 0] 29)).trans (only_new _ (.cells #[.int .i64 0, .int .i64 0, .int .i64 7, .int .i64 0, .int .i64 0, .string ⟨#[]⟩, .string ⟨#[]⟩, .int .i64 0, .int .i64 0, .string ⟨#[]⟩, .slice none 0 0] 47)) (fun _ _ e => e)
  have hbc := blk_only (blk_alloc (o' := (.cells #[.int .i64 0, .int .i64 0, .int .i64 7, .int .i64 0, .int .i64 0, .string ⟨#[]⟩, .string ⟨#[]⟩, .int .i64 0, .int .i64 0, .string ⟨#[]⟩, .slice none 0 0] 47)) (blk_new w1 (.cells #[.int .i64 7, .int .i64 0, .int .i64 0, .int .i64 0, .string ⟨#[]⟩, .int .i64 0, .int .i64 0, .string ⟨#[]⟩, .slice none 0 0] 29))) ho3 (fun e => e)
  have hbe2 := blk_only (blk_new2 w1 (.cells #[.int .i64 7, .int .i64 0, .int .i64 0, .int .i64 0, .string ⟨#[]⟩, .int .i64 0, .int .i64 0, .string ⟨#[]⟩, .slice none 0 0] 29) (.cells #[.int .i64 0, .int .i64 0, .int .i64 7, .int .i64 0, .int .i64 0, .string ⟨#[]⟩, .string ⟨#[]⟩, .int .i64 0, .int .i64 0, .string ⟨#[]⟩, .slice none 0 0] 47) rfl) ho3 (fun e => e)
  have c0 : w3.cell? ⟨w1.heap.size, 0, none⟩ = some (.int .i64 7) := cell_blk hbc 0
  have c1 : w3.cell? ⟨w1.heap.size, 1, none⟩ = some (.int .i64 0) := cell_blk hbc 1
  have c2 : w3.cell? ⟨w1.heap.size, 2, none⟩ = some (.int .i64 0) := cell_blk hbc 2
  have c3 : w3.cell? ⟨w1.heap.size, 3, none⟩ = some (.int .i64 0) := cell_blk hbc 3
  have c4 : w3.cell? ⟨w1.heap.size, 4, none⟩ = some (.string ⟨#[]⟩) := cell_blk hbc 4
  have c5 : w3.cell? ⟨w1.heap.size, 5, none⟩ = some (.int .i64 0) := cell_blk hbc 5
  have c6 : w3.cell? ⟨w1.heap.size, 6, none⟩ = some (.int .i64 0) := cell_blk hbc 6
  have c7 : w3.cell? ⟨w1.heap.size, 7, none⟩ = some (.string ⟨#[]⟩) := cell_blk hbc 7
  have c8 : w3.cell? ⟨w1.heap.size, 8, none⟩ = some (.slice none 0 0) := cell_blk hbc 8
  have d0 : w3.cell? ⟨w1.heap.size + 1, 0, none⟩ = some (.int .i64 0) := cell_blk hbe2 0
  have d1 : w3.cell? ⟨w1.heap.size + 1, 1, none⟩ = some (.int .i64 0) := cell_blk hbe2 1
  have d2 : w3.cell? ⟨w1.heap.size + 1, 2, none⟩ = some (.int .i64 7) := cell_blk hbe2 2
  have d3 : w3.cell? ⟨w1.heap.size + 1, 3, none⟩ = some (.int .i64 0) := cell_blk hbe2 3
  have d4 : w3.cell? ⟨w1.heap.size + 1, 4, none⟩ = some (.int .i64 0) := cell_blk hbe2 4
  have d5 : w3.cell? ⟨w1.heap.size + 1, 5, none⟩ = some (.string ⟨#[]⟩) := cell_blk hbe2 5
  have d6 : w3.cell? ⟨w1.heap.size + 1, 6, none⟩ = some (.string ⟨#[]⟩) := cell_blk hbe2 6
  have d7 : w3.cell? ⟨w1.heap.size + 1, 7, none⟩ = some (.int .i64 0) := cell_blk hbe2 7
  have d8 : w3.cell? ⟨w1.heap.size + 1, 8, none⟩ = some (.int .i64 0) := cell_blk hbe2 8
  have d9 : w3.cell? ⟨w1.heap.size + 1, 9, none⟩ = some (.string ⟨#[]⟩) := cell_blk hbe2 9
  have d10 : w3.cell? ⟨w1.heap.size + 1, 10, none⟩ = some (.slice none 0 0) := cell_blk hbe2 10
  have hl1 := blk_lt hbc
  have hl2 := blk_lt hbe2
  have HO3 := hid (HO1.out.trans (hoA.trans ho3 (fun _ _ e => e)) (fun _ _ e => e))
  have HBE := hid hbe2
  have HED := hid (cmends_c (w := w3) (G := fun _ => False) (e := ⟨0, 0, 7, 0, 0, [], [], .nil⟩) (cs := [.int .i64 7, .int .i64 0, .int .i64 0, .int .i64 0, .string ⟨#[]⟩, .int .i64 0, .int .i64 0, .string ⟨#[]⟩, .slice none 0 0]) ⟨_, rfl, novlc _ _ 0 0 []⟩)
  have hed : cEnds (EM.k ⟨0, 0, 7, 0, 0, [], [], .nil⟩) = false := by decide
  rw [hed] at HED
  clear hoA ho3 hbc hbe2 hed
  go_wp2_with fail
  refine HED.out.mono ?_
  rintro x w4 ⟨rfl, ho4⟩
  have HB4 := hid (blk_only HBE.out ho4 (fun e => e))
  have HO4 := hid (HO3.out.trans ho4 (fun _ _ e => e))
  clear ho4 HED c0 c1 c2 c3 c4 c5 c6 c7 c8 d0 d1 d2 d3 d4 d5 d6 d7 d8 d9 d10 hl1 hl2
  have d0 : w4.cell? ⟨w1.heap.size + 1, 0, none⟩ = some (.int .i64 0) := cell_blk HB4.out 0
  have d1 : w4.cell? ⟨w1.heap.size + 1, 1, none⟩ = some (.int .i64 0) := cell_blk HB4.out 1
  have d2 : w4.cell? ⟨w1.heap.size + 1, 2, none⟩ = some (.int .i64 7) := cell_blk HB4.out 2
  have d3 : w4.cell? ⟨w1.heap.size + 1, 3, none⟩ = some (.int .i64 0) := cell_blk HB4.out 3
  have d4 : w4.cell? ⟨w1.heap.size + 1, 4, none⟩ = some (.int .i64 0) := cell_blk HB4.out 4
  have d5 : w4.cell? ⟨w1.heap.size + 1, 5, none⟩ = some (.string ⟨#[]⟩) := cell_blk HB4.out 5
  have d6 : w4.cell? ⟨w1.heap.size + 1, 6, none⟩ = some (.string ⟨#[]⟩) := cell_blk HB4.out 6
  have d7 : w4.cell? ⟨w1.heap.size + 1, 7, none⟩ = some (.int .i64 0) := cell_blk HB4.out 7
  have d8 : w4.cell? ⟨w1.heap.size + 1, 8, none⟩ = some (.int .i64 0) := cell_blk HB4.out 8
  have d9 : w4.cell? ⟨w1.heap.size + 1, 9, none⟩ = some (.string ⟨#[]⟩) := cell_blk HB4.out 9
  have d10 : w4.cell? ⟨w1.heap.size + 1, 10, none⟩ = some (.slice none 0 0) := cell_blk HB4.out 10
  have hl4 := blk_lt HB4.out
  have HMD := hid (cmade_c (w := w4) (G := fun _ => False) (e := ⟨0, 0, 7, 0, 0, [], [], .nil⟩) (cs := [.int .i64 0, .int .i64 0, .int .i64 7, .int .i64 0, .int .i64 0, .string ⟨#[]⟩, .string ⟨#[]⟩, .int .i64 0, .int .i64 0, .string ⟨#[]⟩, .slice none 0 0]) ⟨_, rfl, novlc _ _ 0 0 []⟩)
  have hmd : madeB (EM.k ⟨0, 0, 7, 0, 0, [], [], .nil⟩) = true := by decide
  rw [hmd] at HMD
  clear hmd
  go_wp2_with fail
  refine HMD.out.mono ?_
  rintro x w5 ⟨rfl, ho5⟩
  have HO5 := hid (HO4.out.trans ho5 (fun _ _ e => e))
  clear ho5 HMD
  go_wp2_with fail
  go_ret
  exact ⟨rfl, HO5.out⟩
set_option maxRecDepth 100000 in
theorem kinds_11 (hT : Tab w) : Calls Tryd.prog 7 #[.int .i64 11] w fun x w' => x = .returned (.bool true) ∧ Only (fun _ => False) w w' := by
  have HTL := hid (wants_c hT)
  clear hT
  go_enter Tryd.func7, Tryd.ntmps7
  go_wp2_with fail
  refine HTL.out.mono ?_
  rintro x w1 ⟨rfl, ho1⟩
  have HO1 := hid ho1
  clear ho1 HTL
  have HNM := fun wc => hid (cmname_c (w := wc) 11)
  have HNR := fun wc => hid (r10name_c (w := wc) 11)
  obtain ⟨nm, hnm⟩ : ∃ x, cName 11 = x := ⟨_, rfl⟩
  simp only [hnm] at HNM HNR
  clear hnm
  have hbe : ((strOf nm).toList == (strOf nm).toList) = true := by simp
  go_wp2_with fail
  refine (HNM _).out.mono ?_
  rintro x w2 ⟨rfl, rfl⟩
  go_wp2_with fail
  refine (HNR _).out.mono ?_
  rintro x w3 ⟨rfl, ho3⟩
  have hoA := (only_new w1 (.cells #[.int .i64 11, .int .i64 0, .int .i64 0, .int .i64 0, .string ⟨#[]⟩, .int .i64 0, .int .i64 0, .string ⟨#[]⟩, .slice none 0 0] 29)).trans (only_new _ (.cells #[.int .i64 0, .int .i64 0, .int .i64 11, .int .i64 0, .int .i64 0, .string ⟨#[]⟩, .string ⟨#[]⟩, .int .i64 0, .int .i64 0, .string ⟨#[]⟩, .slice none 0 0] 47)) (fun _ _ e => e)
  have hbc := blk_only (blk_alloc (o' := (.cells #[.int .i64 0, .int .i64 0, .int .i64 11, .int .i64 0, .int .i64 0, .string ⟨#[]⟩, .string ⟨#[]⟩, .int .i64 0, .int .i64 0, .string ⟨#[]⟩, .slice none 0 0] 47)) (blk_new w1 (.cells #[.int .i64 11, .int .i64 0, .int .i64 0, .int .i64 0, .string ⟨#[]⟩, .int .i64 0, .int .i64 0, .string ⟨#[]⟩, .slice none 0 0] 29))) ho3 (fun e => e)
  have hbe2 := blk_only (blk_new2 w1 (.cells #[.int .i64 11, .int .i64 0, .int .i64 0, .int .i64 0, .string ⟨#[]⟩, .int .i64 0, .int .i64 0, .string ⟨#[]⟩, .slice none 0 0] 29) (.cells #[.int .i64 0, .int .i64 0, .int .i64 11, .int .i64 0, .int .i64 0, .string ⟨#[]⟩, .string ⟨#[]⟩, .int .i64 0, .int .i64 0, .string ⟨#[]⟩, .slice none 0 0] 47) rfl) ho3 (fun e => e)
  have c0 : w3.cell? ⟨w1.heap.size, 0, none⟩ = some (.int .i64 11) := cell_blk hbc 0
  have c1 : w3.cell? ⟨w1.heap.size, 1, none⟩ = some (.int .i64 0) := cell_blk hbc 1
  have c2 : w3.cell? ⟨w1.heap.size, 2, none⟩ = some (.int .i64 0) := cell_blk hbc 2
  have c3 : w3.cell? ⟨w1.heap.size, 3, none⟩ = some (.int .i64 0) := cell_blk hbc 3
  have c4 : w3.cell? ⟨w1.heap.size, 4, none⟩ = some (.string ⟨#[]⟩) := cell_blk hbc 4
  have c5 : w3.cell? ⟨w1.heap.size, 5, none⟩ = some (.int .i64 0) := cell_blk hbc 5
  have c6 : w3.cell? ⟨w1.heap.size, 6, none⟩ = some (.int .i64 0) := cell_blk hbc 6
  have c7 : w3.cell? ⟨w1.heap.size, 7, none⟩ = some (.string ⟨#[]⟩) := cell_blk hbc 7
  have c8 : w3.cell? ⟨w1.heap.size, 8, none⟩ = some (.slice none 0 0) := cell_blk hbc 8
  have d0 : w3.cell? ⟨w1.heap.size + 1, 0, none⟩ = some (.int .i64 0) := cell_blk hbe2 0
  have d1 : w3.cell? ⟨w1.heap.size + 1, 1, none⟩ = some (.int .i64 0) := cell_blk hbe2 1
  have d2 : w3.cell? ⟨w1.heap.size + 1, 2, none⟩ = some (.int .i64 11) := cell_blk hbe2 2
  have d3 : w3.cell? ⟨w1.heap.size + 1, 3, none⟩ = some (.int .i64 0) := cell_blk hbe2 3
  have d4 : w3.cell? ⟨w1.heap.size + 1, 4, none⟩ = some (.int .i64 0) := cell_blk hbe2 4
  have d5 : w3.cell? ⟨w1.heap.size + 1, 5, none⟩ = some (.string ⟨#[]⟩) := cell_blk hbe2 5
  have d6 : w3.cell? ⟨w1.heap.size + 1, 6, none⟩ = some (.string ⟨#[]⟩) := cell_blk hbe2 6
  have d7 : w3.cell? ⟨w1.heap.size + 1, 7, none⟩ = some (.int .i64 0) := cell_blk hbe2 7
  have d8 : w3.cell? ⟨w1.heap.size + 1, 8, none⟩ = some (.int .i64 0) := cell_blk hbe2 8
  have d9 : w3.cell? ⟨w1.heap.size + 1, 9, none⟩ = some (.string ⟨#[]⟩) := cell_blk hbe2 9
  have d10 : w3.cell? ⟨w1.heap.size + 1, 10, none⟩ = some (.slice none 0 0) := cell_blk hbe2 10
  have hl1 := blk_lt hbc
  have hl2 := blk_lt hbe2
  have HO3 := hid (HO1.out.trans (hoA.trans ho3 (fun _ _ e => e)) (fun _ _ e => e))
  have HBE := hid hbe2
  have HED := hid (cmends_c (w := w3) (G := fun _ => False) (e := ⟨0, 0, 11, 0, 0, [], [], .nil⟩) (cs := [.int .i64 11, .int .i64 0, .int .i64 0, .int .i64 0, .string ⟨#[]⟩, .int .i64 0, .int .i64 0, .string ⟨#[]⟩, .slice none 0 0]) ⟨_, rfl, novlc _ _ 0 0 []⟩)
  have hed : cEnds (EM.k ⟨0, 0, 11, 0, 0, [], [], .nil⟩) = false := by decide
  rw [hed] at HED
  clear hoA ho3 hbc hbe2 hed
  go_wp2_with fail
  refine HED.out.mono ?_
  rintro x w4 ⟨rfl, ho4⟩
  have HB4 := hid (blk_only HBE.out ho4 (fun e => e))
  have HO4 := hid (HO3.out.trans ho4 (fun _ _ e => e))
  clear ho4 HED c0 c1 c2 c3 c4 c5 c6 c7 c8 d0 d1 d2 d3 d4 d5 d6 d7 d8 d9 d10 hl1 hl2
  have d0 : w4.cell? ⟨w1.heap.size + 1, 0, none⟩ = some (.int .i64 0) := cell_blk HB4.out 0
  have d1 : w4.cell? ⟨w1.heap.size + 1, 1, none⟩ = some (.int .i64 0) := cell_blk HB4.out 1
  have d2 : w4.cell? ⟨w1.heap.size + 1, 2, none⟩ = some (.int .i64 11) := cell_blk HB4.out 2
  have d3 : w4.cell? ⟨w1.heap.size + 1, 3, none⟩ = some (.int .i64 0) := cell_blk HB4.out 3
  have d4 : w4.cell? ⟨w1.heap.size + 1, 4, none⟩ = some (.int .i64 0) := cell_blk HB4.out 4
  have d5 : w4.cell? ⟨w1.heap.size + 1, 5, none⟩ = some (.string ⟨#[]⟩) := cell_blk HB4.out 5
  have d6 : w4.cell? ⟨w1.heap.size + 1, 6, none⟩ = some (.string ⟨#[]⟩) := cell_blk HB4.out 6
  have d7 : w4.cell? ⟨w1.heap.size + 1, 7, none⟩ = some (.int .i64 0) := cell_blk HB4.out 7
  have d8 : w4.cell? ⟨w1.heap.size + 1, 8, none⟩ = some (.int .i64 0) := cell_blk HB4.out 8
  have d9 : w4.cell? ⟨w1.heap.size + 1, 9, none⟩ = some (.string ⟨#[]⟩) := cell_blk HB4.out 9
  have d10 : w4.cell? ⟨w1.heap.size + 1, 10, none⟩ = some (.slice none 0 0) := cell_blk HB4.out 10
  have hl4 := blk_lt HB4.out
  have HMD := hid (cmade_c (w := w4) (G := fun _ => False) (e := ⟨0, 0, 11, 0, 0, [], [], .nil⟩) (cs := [.int .i64 0, .int .i64 0, .int .i64 11, .int .i64 0, .int .i64 0, .string ⟨#[]⟩, .string ⟨#[]⟩, .int .i64 0, .int .i64 0, .string ⟨#[]⟩, .slice none 0 0]) ⟨_, rfl, novlc _ _ 0 0 []⟩)
  have hmd : madeB (EM.k ⟨0, 0, 11, 0, 0, [], [], .nil⟩) = true := by decide
  rw [hmd] at HMD
  clear hmd
  go_wp2_with fail
  refine HMD.out.mono ?_
  rintro x w5 ⟨rfl, ho5⟩
  have HO5 := hid (HO4.out.trans ho5 (fun _ _ e => e))
  clear ho5 HMD
  go_wp2_with fail
  go_ret
  exact ⟨rfl, HO5.out⟩
set_option maxRecDepth 100000 in
theorem kinds_13 (hT : Tab w) : Calls Tryd.prog 7 #[.int .i64 13] w fun x w' => x = .returned (.bool true) ∧ Only (fun _ => False) w w' := by
  have HTL := hid (wants_c hT)
  clear hT
  go_enter Tryd.func7, Tryd.ntmps7
  go_wp2_with fail
  refine HTL.out.mono ?_
  rintro x w1 ⟨rfl, ho1⟩
  have HO1 := hid ho1
  clear ho1 HTL
  have HNM := fun wc => hid (cmname_c (w := wc) 13)
  have HNR := fun wc => hid (r10name_c (w := wc) 13)
  obtain ⟨nm, hnm⟩ : ∃ x, cName 13 = x := ⟨_, rfl⟩
  simp only [hnm] at HNM HNR
  clear hnm
  have hbe : ((strOf nm).toList == (strOf nm).toList) = true := by simp
  go_wp2_with fail
  refine (HNM _).out.mono ?_
  rintro x w2 ⟨rfl, rfl⟩
  go_wp2_with fail
  refine (HNR _).out.mono ?_
  rintro x w3 ⟨rfl, ho3⟩
  have hoA := (only_new w1 (.cells #[.int .i64 13, .int .i64 0, .int .i64 0, .int .i64 0, .string ⟨#[]⟩, .int .i64 0, .int .i64 0, .string ⟨#[]⟩, .slice none 0 0] 29)).trans (only_new _ (.cells #[.int .i64 0, .int .i64 0, .int .i64 13, .int .i64 0, .int .i64 0, .string ⟨#[]⟩, .string ⟨#[]⟩, .int .i64 0, .int .i64 0, .string ⟨#[]⟩, .slice none 0 0] 47)) (fun _ _ e => e)
  have hbc := blk_only (blk_alloc (o' := (.cells #[.int .i64 0, .int .i64 0, .int .i64 13, .int .i64 0, .int .i64 0, .string ⟨#[]⟩, .string ⟨#[]⟩, .int .i64 0, .int .i64 0, .string ⟨#[]⟩, .slice none 0 0] 47)) (blk_new w1 (.cells #[.int .i64 13, .int .i64 0, .int .i64 0, .int .i64 0, .string ⟨#[]⟩, .int .i64 0, .int .i64 0, .string ⟨#[]⟩, .slice none 0 0] 29))) ho3 (fun e => e)
  have hbe2 := blk_only (blk_new2 w1 (.cells #[.int .i64 13, .int .i64 0, .int .i64 0, .int .i64 0, .string ⟨#[]⟩, .int .i64 0, .int .i64 0, .string ⟨#[]⟩, .slice none 0 0] 29) (.cells #[.int .i64 0, .int .i64 0, .int .i64 13, .int .i64 0, .int .i64 0, .string ⟨#[]⟩, .string ⟨#[]⟩, .int .i64 0, .int .i64 0, .string ⟨#[]⟩, .slice none 0 0] 47) rfl) ho3 (fun e => e)
  have c0 : w3.cell? ⟨w1.heap.size, 0, none⟩ = some (.int .i64 13) := cell_blk hbc 0
  have c1 : w3.cell? ⟨w1.heap.size, 1, none⟩ = some (.int .i64 0) := cell_blk hbc 1
  have c2 : w3.cell? ⟨w1.heap.size, 2, none⟩ = some (.int .i64 0) := cell_blk hbc 2
  have c3 : w3.cell? ⟨w1.heap.size, 3, none⟩ = some (.int .i64 0) := cell_blk hbc 3
  have c4 : w3.cell? ⟨w1.heap.size, 4, none⟩ = some (.string ⟨#[]⟩) := cell_blk hbc 4
  have c5 : w3.cell? ⟨w1.heap.size, 5, none⟩ = some (.int .i64 0) := cell_blk hbc 5
  have c6 : w3.cell? ⟨w1.heap.size, 6, none⟩ = some (.int .i64 0) := cell_blk hbc 6
  have c7 : w3.cell? ⟨w1.heap.size, 7, none⟩ = some (.string ⟨#[]⟩) := cell_blk hbc 7
  have c8 : w3.cell? ⟨w1.heap.size, 8, none⟩ = some (.slice none 0 0) := cell_blk hbc 8
  have d0 : w3.cell? ⟨w1.heap.size + 1, 0, none⟩ = some (.int .i64 0) := cell_blk hbe2 0
  have d1 : w3.cell? ⟨w1.heap.size + 1, 1, none⟩ = some (.int .i64 0) := cell_blk hbe2 1
  have d2 : w3.cell? ⟨w1.heap.size + 1, 2, none⟩ = some (.int .i64 13) := cell_blk hbe2 2
  have d3 : w3.cell? ⟨w1.heap.size + 1, 3, none⟩ = some (.int .i64 0) := cell_blk hbe2 3
  have d4 : w3.cell? ⟨w1.heap.size + 1, 4, none⟩ = some (.int .i64 0) := cell_blk hbe2 4
  have d5 : w3.cell? ⟨w1.heap.size + 1, 5, none⟩ = some (.string ⟨#[]⟩) := cell_blk hbe2 5
  have d6 : w3.cell? ⟨w1.heap.size + 1, 6, none⟩ = some (.string ⟨#[]⟩) := cell_blk hbe2 6
  have d7 : w3.cell? ⟨w1.heap.size + 1, 7, none⟩ = some (.int .i64 0) := cell_blk hbe2 7
  have d8 : w3.cell? ⟨w1.heap.size + 1, 8, none⟩ = some (.int .i64 0) := cell_blk hbe2 8
  have d9 : w3.cell? ⟨w1.heap.size + 1, 9, none⟩ = some (.string ⟨#[]⟩) := cell_blk hbe2 9
  have d10 : w3.cell? ⟨w1.heap.size + 1, 10, none⟩ = some (.slice none 0 0) := cell_blk hbe2 10
  have hl1 := blk_lt hbc
  have hl2 := blk_lt hbe2
  have HO3 := hid (HO1.out.trans (hoA.trans ho3 (fun _ _ e => e)) (fun _ _ e => e))
  have HBE := hid hbe2
  have HED := hid (cmends_c (w := w3) (G := fun _ => False) (e := ⟨0, 0, 13, 0, 0, [], [], .nil⟩) (cs := [.int .i64 13, .int .i64 0, .int .i64 0, .int .i64 0, .string ⟨#[]⟩, .int .i64 0, .int .i64 0, .string ⟨#[]⟩, .slice none 0 0]) ⟨_, rfl, novlc _ _ 0 0 []⟩)
  have hed : cEnds (EM.k ⟨0, 0, 13, 0, 0, [], [], .nil⟩) = false := by decide
  rw [hed] at HED
  clear hoA ho3 hbc hbe2 hed
  go_wp2_with fail
  refine HED.out.mono ?_
  rintro x w4 ⟨rfl, ho4⟩
  have HB4 := hid (blk_only HBE.out ho4 (fun e => e))
  have HO4 := hid (HO3.out.trans ho4 (fun _ _ e => e))
  clear ho4 HED c0 c1 c2 c3 c4 c5 c6 c7 c8 d0 d1 d2 d3 d4 d5 d6 d7 d8 d9 d10 hl1 hl2
  have d0 : w4.cell? ⟨w1.heap.size + 1, 0, none⟩ = some (.int .i64 0) := cell_blk HB4.out 0
  have d1 : w4.cell? ⟨w1.heap.size + 1, 1, none⟩ = some (.int .i64 0) := cell_blk HB4.out 1
  have d2 : w4.cell? ⟨w1.heap.size + 1, 2, none⟩ = some (.int .i64 13) := cell_blk HB4.out 2
  have d3 : w4.cell? ⟨w1.heap.size + 1, 3, none⟩ = some (.int .i64 0) := cell_blk HB4.out 3
  have d4 : w4.cell? ⟨w1.heap.size + 1, 4, none⟩ = some (.int .i64 0) := cell_blk HB4.out 4
  have d5 : w4.cell? ⟨w1.heap.size + 1, 5, none⟩ = some (.string ⟨#[]⟩) := cell_blk HB4.out 5
  have d6 : w4.cell? ⟨w1.heap.size + 1, 6, none⟩ = some (.string ⟨#[]⟩) := cell_blk HB4.out 6
  have d7 : w4.cell? ⟨w1.heap.size + 1, 7, none⟩ = some (.int .i64 0) := cell_blk HB4.out 7
  have d8 : w4.cell? ⟨w1.heap.size + 1, 8, none⟩ = some (.int .i64 0) := cell_blk HB4.out 8
  have d9 : w4.cell? ⟨w1.heap.size + 1, 9, none⟩ = some (.string ⟨#[]⟩) := cell_blk HB4.out 9
  have d10 : w4.cell? ⟨w1.heap.size + 1, 10, none⟩ = some (.slice none 0 0) := cell_blk HB4.out 10
  have hl4 := blk_lt HB4.out
  have HMD := hid (cmade_c (w := w4) (G := fun _ => False) (e := ⟨0, 0, 13, 0, 0, [], [], .nil⟩) (cs := [.int .i64 0, .int .i64 0, .int .i64 13, .int .i64 0, .int .i64 0, .string ⟨#[]⟩, .string ⟨#[]⟩, .int .i64 0, .int .i64 0, .string ⟨#[]⟩, .slice none 0 0]) ⟨_, rfl, novlc _ _ 0 0 []⟩)
  have hmd : madeB (EM.k ⟨0, 0, 13, 0, 0, [], [], .nil⟩) = true := by decide
  rw [hmd] at HMD
  clear hmd
  go_wp2_with fail
  refine HMD.out.mono ?_
  rintro x w5 ⟨rfl, ho5⟩
  have HO5 := hid (HO4.out.trans ho5 (fun _ _ e => e))
  clear ho5 HMD
  go_wp2_with fail
  go_ret
  exact ⟨rfl, HO5.out⟩
set_option maxRecDepth 100000 in
theorem kinds_16 (hT : Tab w) : Calls Tryd.prog 7 #[.int .i64 16] w fun x w' => x = .returned (.bool true) ∧ Only (fun _ => False) w w' := by
  have HTL := hid (wants_c hT)
  clear hT
  go_enter Tryd.func7, Tryd.ntmps7
  go_wp2_with fail
  refine HTL.out.mono ?_
  rintro x w1 ⟨rfl, ho1⟩
  have HO1 := hid ho1
  clear ho1 HTL
  have HNM := fun wc => hid (cmname_c (w := wc) 16)
  have HNR := fun wc => hid (r10name_c (w := wc) 16)
  obtain ⟨nm, hnm⟩ : ∃ x, cName 16 = x := ⟨_, rfl⟩
  simp only [hnm] at HNM HNR
  clear hnm
  have hbe : ((strOf nm).toList == (strOf nm).toList) = true := by simp
  go_wp2_with fail
  refine (HNM _).out.mono ?_
  rintro x w2 ⟨rfl, rfl⟩
  go_wp2_with fail
  refine (HNR _).out.mono ?_
  rintro x w3 ⟨rfl, ho3⟩
  have hoA := (only_new w1 (.cells #[.int .i64 16, .int .i64 0, .int .i64 0, .int .i64 0, .string ⟨#[]⟩, .int .i64 0, .int .i64 0, .string ⟨#[]⟩, .slice none 0 0] 29)).trans (only_new _ (.cells #[.int .i64 0, .int .i64 0, .int .i64 16, .int .i64 0, .int .i64 0, .string ⟨#[]⟩, .string ⟨#[]⟩, .int .i64 0, .int .i64 0, .string ⟨#[]⟩, .slice none 0 0] 47)) (fun _ _ e => e)
  have hbc := blk_only (blk_alloc (o' := (.cells #[.int .i64 0, .int .i64 0, .int .i64 16, .int .i64 0, .int .i64 0, .string ⟨#[]⟩, .string ⟨#[]⟩, .int .i64 0, .int .i64 0, .string ⟨#[]⟩, .slice none 0 0] 47)) (blk_new w1 (.cells #[.int .i64 16, .int .i64 0, .int .i64 0, .int .i64 0, .string ⟨#[]⟩, .int .i64 0, .int .i64 0, .string ⟨#[]⟩, .slice none 0 0] 29))) ho3 (fun e => e)
  have hbe2 := blk_only (blk_new2 w1 (.cells #[.int .i64 16, .int .i64 0, .int .i64 0, .int .i64 0, .string ⟨#[]⟩, .int .i64 0, .int .i64 0, .string ⟨#[]⟩, .slice none 0 0] 29) (.cells #[.int .i64 0, .int .i64 0, .int .i64 16, .int .i64 0, .int .i64 0, .string ⟨#[]⟩, .string ⟨#[]⟩, .int .i64 0, .int .i64 0, .string ⟨#[]⟩, .slice none 0 0] 47) rfl) ho3 (fun e => e)
  have c0 : w3.cell? ⟨w1.heap.size, 0, none⟩ = some (.int .i64 16) := cell_blk hbc 0
  have c1 : w3.cell? ⟨w1.heap.size, 1, none⟩ = some (.int .i64 0) := cell_blk hbc 1
  have c2 : w3.cell? ⟨w1.heap.size, 2, none⟩ = some (.int .i64 0) := cell_blk hbc 2
  have c3 : w3.cell? ⟨w1.heap.size, 3, none⟩ = some (.int .i64 0) := cell_blk hbc 3
  have c4 : w3.cell? ⟨w1.heap.size, 4, none⟩ = some (.string ⟨#[]⟩) := cell_blk hbc 4
  have c5 : w3.cell? ⟨w1.heap.size, 5, none⟩ = some (.int .i64 0) := cell_blk hbc 5
  have c6 : w3.cell? ⟨w1.heap.size, 6, none⟩ = some (.int .i64 0) := cell_blk hbc 6
  have c7 : w3.cell? ⟨w1.heap.size, 7, none⟩ = some (.string ⟨#[]⟩) := cell_blk hbc 7
  have c8 : w3.cell? ⟨w1.heap.size, 8, none⟩ = some (.slice none 0 0) := cell_blk hbc 8
  have d0 : w3.cell? ⟨w1.heap.size + 1, 0, none⟩ = some (.int .i64 0) := cell_blk hbe2 0
  have d1 : w3.cell? ⟨w1.heap.size + 1, 1, none⟩ = some (.int .i64 0) := cell_blk hbe2 1
  have d2 : w3.cell? ⟨w1.heap.size + 1, 2, none⟩ = some (.int .i64 16) := cell_blk hbe2 2
  have d3 : w3.cell? ⟨w1.heap.size + 1, 3, none⟩ = some (.int .i64 0) := cell_blk hbe2 3
  have d4 : w3.cell? ⟨w1.heap.size + 1, 4, none⟩ = some (.int .i64 0) := cell_blk hbe2 4
  have d5 : w3.cell? ⟨w1.heap.size + 1, 5, none⟩ = some (.string ⟨#[]⟩) := cell_blk hbe2 5
  have d6 : w3.cell? ⟨w1.heap.size + 1, 6, none⟩ = some (.string ⟨#[]⟩) := cell_blk hbe2 6
  have d7 : w3.cell? ⟨w1.heap.size + 1, 7, none⟩ = some (.int .i64 0) := cell_blk hbe2 7
  have d8 : w3.cell? ⟨w1.heap.size + 1, 8, none⟩ = some (.int .i64 0) := cell_blk hbe2 8
  have d9 : w3.cell? ⟨w1.heap.size + 1, 9, none⟩ = some (.string ⟨#[]⟩) := cell_blk hbe2 9
  have d10 : w3.cell? ⟨w1.heap.size + 1, 10, none⟩ = some (.slice none 0 0) := cell_blk hbe2 10
  have hl1 := blk_lt hbc
  have hl2 := blk_lt hbe2
  have HO3 := hid (HO1.out.trans (hoA.trans ho3 (fun _ _ e => e)) (fun _ _ e => e))
  have HBE := hid hbe2
  have HED := hid (cmends_c (w := w3) (G := fun _ => False) (e := ⟨0, 0, 16, 0, 0, [], [], .nil⟩) (cs := [.int .i64 16, .int .i64 0, .int .i64 0, .int .i64 0, .string ⟨#[]⟩, .int .i64 0, .int .i64 0, .string ⟨#[]⟩, .slice none 0 0]) ⟨_, rfl, novlc _ _ 0 0 []⟩)
  have hed : cEnds (EM.k ⟨0, 0, 16, 0, 0, [], [], .nil⟩) = false := by decide
  rw [hed] at HED
  clear hoA ho3 hbc hbe2 hed
  go_wp2_with fail
  refine HED.out.mono ?_
  rintro x w4 ⟨rfl, ho4⟩
  have HB4 := hid (blk_only HBE.out ho4 (fun e => e))
  have HO4 := hid (HO3.out.trans ho4 (fun _ _ e => e))
  clear ho4 HED c0 c1 c2 c3 c4 c5 c6 c7 c8 d0 d1 d2 d3 d4 d5 d6 d7 d8 d9 d10 hl1 hl2
  have d0 : w4.cell? ⟨w1.heap.size + 1, 0, none⟩ = some (.int .i64 0) := cell_blk HB4.out 0
  have d1 : w4.cell? ⟨w1.heap.size + 1, 1, none⟩ = some (.int .i64 0) := cell_blk HB4.out 1
  have d2 : w4.cell? ⟨w1.heap.size + 1, 2, none⟩ = some (.int .i64 16) := cell_blk HB4.out 2
  have d3 : w4.cell? ⟨w1.heap.size + 1, 3, none⟩ = some (.int .i64 0) := cell_blk HB4.out 3
  have d4 : w4.cell? ⟨w1.heap.size + 1, 4, none⟩ = some (.int .i64 0) := cell_blk HB4.out 4
  have d5 : w4.cell? ⟨w1.heap.size + 1, 5, none⟩ = some (.string ⟨#[]⟩) := cell_blk HB4.out 5
  have d6 : w4.cell? ⟨w1.heap.size + 1, 6, none⟩ = some (.string ⟨#[]⟩) := cell_blk HB4.out 6
  have d7 : w4.cell? ⟨w1.heap.size + 1, 7, none⟩ = some (.int .i64 0) := cell_blk HB4.out 7
  have d8 : w4.cell? ⟨w1.heap.size + 1, 8, none⟩ = some (.int .i64 0) := cell_blk HB4.out 8
  have d9 : w4.cell? ⟨w1.heap.size + 1, 9, none⟩ = some (.string ⟨#[]⟩) := cell_blk HB4.out 9
  have d10 : w4.cell? ⟨w1.heap.size + 1, 10, none⟩ = some (.slice none 0 0) := cell_blk HB4.out 10
  have hl4 := blk_lt HB4.out
  have HMD := hid (cmade_c (w := w4) (G := fun _ => False) (e := ⟨0, 0, 16, 0, 0, [], [], .nil⟩) (cs := [.int .i64 0, .int .i64 0, .int .i64 16, .int .i64 0, .int .i64 0, .string ⟨#[]⟩, .string ⟨#[]⟩, .int .i64 0, .int .i64 0, .string ⟨#[]⟩, .slice none 0 0]) ⟨_, rfl, novlc _ _ 0 0 []⟩)
  have hmd : madeB (EM.k ⟨0, 0, 16, 0, 0, [], [], .nil⟩) = true := by decide
  rw [hmd] at HMD
  clear hmd
  go_wp2_with fail
  refine HMD.out.mono ?_
  rintro x w5 ⟨rfl, ho5⟩
  have HO5 := hid (HO4.out.trans ho5 (fun _ _ e => e))
  clear ho5 HMD
  go_wp2_with fail
  go_ret
  exact ⟨rfl, HO5.out⟩
set_option maxRecDepth 100000 in
theorem kinds_17 (hT : Tab w) : Calls Tryd.prog 7 #[.int .i64 17] w fun x w' => x = .returned (.bool true) ∧ Only (fun _ => False) w w' := by
  have HTL := hid (wants_c hT)
  clear hT
  go_enter Tryd.func7, Tryd.ntmps7
  go_wp2_with fail
  refine HTL.out.mono ?_
  rintro x w1 ⟨rfl, ho1⟩
  have HO1 := hid ho1
  clear ho1 HTL
  have HNM := fun wc => hid (cmname_c (w := wc) 17)
  have HNR := fun wc => hid (r10name_c (w := wc) 17)
  obtain ⟨nm, hnm⟩ : ∃ x, cName 17 = x := ⟨_, rfl⟩
  simp only [hnm] at HNM HNR
  clear hnm
  have hbe : ((strOf nm).toList == (strOf nm).toList) = true := by simp
  go_wp2_with fail
  refine (HNM _).out.mono ?_
  rintro x w2 ⟨rfl, rfl⟩
  go_wp2_with fail
  refine (HNR _).out.mono ?_
  rintro x w3 ⟨rfl, ho3⟩
  have hoA := (only_new w1 (.cells #[.int .i64 17, .int .i64 0, .int .i64 0, .int .i64 0, .string ⟨#[]⟩, .int .i64 0, .int .i64 0, .string ⟨#[]⟩, .slice none 0 0] 29)).trans (only_new _ (.cells #[.int .i64 0, .int .i64 0, .int .i64 17, .int .i64 0, .int .i64 0, .string ⟨#[]⟩, .string ⟨#[]⟩, .int .i64 0, .int .i64 0, .string ⟨#[]⟩, .slice none 0 0] 47)) (fun _ _ e => e)
  have hbc := blk_only (blk_alloc (o' := (.cells #[.int .i64 0, .int .i64 0, .int .i64 17, .int .i64 0, .int .i64 0, .string ⟨#[]⟩, .string ⟨#[]⟩, .int .i64 0, .int .i64 0, .string ⟨#[]⟩, .slice none 0 0] 47)) (blk_new w1 (.cells #[.int .i64 17, .int .i64 0, .int .i64 0, .int .i64 0, .string ⟨#[]⟩, .int .i64 0, .int .i64 0, .string ⟨#[]⟩, .slice none 0 0] 29))) ho3 (fun e => e)
  have hbe2 := blk_only (blk_new2 w1 (.cells #[.int .i64 17, .int .i64 0, .int .i64 0, .int .i64 0, .string ⟨#[]⟩, .int .i64 0, .int .i64 0, .string ⟨#[]⟩, .slice none 0 0] 29) (.cells #[.int .i64 0, .int .i64 0, .int .i64 17, .int .i64 0, .int .i64 0, .string ⟨#[]⟩, .string ⟨#[]⟩, .int .i64 0, .int .i64 0, .string ⟨#[]⟩, .slice none 0 0] 47) rfl) ho3 (fun e => e)
  have c0 : w3.cell? ⟨w1.heap.size, 0, none⟩ = some (.int .i64 17) := cell_blk hbc 0
  have c1 : w3.cell? ⟨w1.heap.size, 1, none⟩ = some (.int .i64 0) := cell_blk hbc 1
  have c2 : w3.cell? ⟨w1.heap.size, 2, none⟩ = some (.int .i64 0) := cell_blk hbc 2
  have c3 : w3.cell? ⟨w1.heap.size, 3, none⟩ = some (.int .i64 0) := cell_blk hbc 3
  have c4 : w3.cell? ⟨w1.heap.size, 4, none⟩ = some (.string ⟨#[]⟩) := cell_blk hbc 4
  have c5 : w3.cell? ⟨w1.heap.size, 5, none⟩ = some (.int .i64 0) := cell_blk hbc 5
  have c6 : w3.cell? ⟨w1.heap.size, 6, none⟩ = some (.int .i64 0) := cell_blk hbc 6
  have c7 : w3.cell? ⟨w1.heap.size, 7, none⟩ = some (.string ⟨#[]⟩) := cell_blk hbc 7
  have c8 : w3.cell? ⟨w1.heap.size, 8, none⟩ = some (.slice none 0 0) := cell_blk hbc 8
  have d0 : w3.cell? ⟨w1.heap.size + 1, 0, none⟩ = some (.int .i64 0) := cell_blk hbe2 0
  have d1 : w3.cell? ⟨w1.heap.size + 1, 1, none⟩ = some (.int .i64 0) := cell_blk hbe2 1
  have d2 : w3.cell? ⟨w1.heap.size + 1, 2, none⟩ = some (.int .i64 17) := cell_blk hbe2 2
  have d3 : w3.cell? ⟨w1.heap.size + 1, 3, none⟩ = some (.int .i64 0) := cell_blk hbe2 3
  have d4 : w3.cell? ⟨w1.heap.size + 1, 4, none⟩ = some (.int .i64 0) := cell_blk hbe2 4
  have d5 : w3.cell? ⟨w1.heap.size + 1, 5, none⟩ = some (.string ⟨#[]⟩) := cell_blk hbe2 5
  have d6 : w3.cell? ⟨w1.heap.size + 1, 6, none⟩ = some (.string ⟨#[]⟩) := cell_blk hbe2 6
  have d7 : w3.cell? ⟨w1.heap.size + 1, 7, none⟩ = some (.int .i64 0) := cell_blk hbe2 7
  have d8 : w3.cell? ⟨w1.heap.size + 1, 8, none⟩ = some (.int .i64 0) := cell_blk hbe2 8
  have d9 : w3.cell? ⟨w1.heap.size + 1, 9, none⟩ = some (.string ⟨#[]⟩) := cell_blk hbe2 9
  have d10 : w3.cell? ⟨w1.heap.size + 1, 10, none⟩ = some (.slice none 0 0) := cell_blk hbe2 10
  have hl1 := blk_lt hbc
  have hl2 := blk_lt hbe2
  have HO3 := hid (HO1.out.trans (hoA.trans ho3 (fun _ _ e => e)) (fun _ _ e => e))
  have HBE := hid hbe2
  have HED := hid (cmends_c (w := w3) (G := fun _ => False) (e := ⟨0, 0, 17, 0, 0, [], [], .nil⟩) (cs := [.int .i64 17, .int .i64 0, .int .i64 0, .int .i64 0, .string ⟨#[]⟩, .int .i64 0, .int .i64 0, .string ⟨#[]⟩, .slice none 0 0]) ⟨_, rfl, novlc _ _ 0 0 []⟩)
  have hed : cEnds (EM.k ⟨0, 0, 17, 0, 0, [], [], .nil⟩) = false := by decide
  rw [hed] at HED
  clear hoA ho3 hbc hbe2 hed
  go_wp2_with fail
  refine HED.out.mono ?_
  rintro x w4 ⟨rfl, ho4⟩
  have HB4 := hid (blk_only HBE.out ho4 (fun e => e))
  have HO4 := hid (HO3.out.trans ho4 (fun _ _ e => e))
  clear ho4 HED c0 c1 c2 c3 c4 c5 c6 c7 c8 d0 d1 d2 d3 d4 d5 d6 d7 d8 d9 d10 hl1 hl2
  have d0 : w4.cell? ⟨w1.heap.size + 1, 0, none⟩ = some (.int .i64 0) := cell_blk HB4.out 0
  have d1 : w4.cell? ⟨w1.heap.size + 1, 1, none⟩ = some (.int .i64 0) := cell_blk HB4.out 1
  have d2 : w4.cell? ⟨w1.heap.size + 1, 2, none⟩ = some (.int .i64 17) := cell_blk HB4.out 2
  have d3 : w4.cell? ⟨w1.heap.size + 1, 3, none⟩ = some (.int .i64 0) := cell_blk HB4.out 3
  have d4 : w4.cell? ⟨w1.heap.size + 1, 4, none⟩ = some (.int .i64 0) := cell_blk HB4.out 4
  have d5 : w4.cell? ⟨w1.heap.size + 1, 5, none⟩ = some (.string ⟨#[]⟩) := cell_blk HB4.out 5
  have d6 : w4.cell? ⟨w1.heap.size + 1, 6, none⟩ = some (.string ⟨#[]⟩) := cell_blk HB4.out 6
  have d7 : w4.cell? ⟨w1.heap.size + 1, 7, none⟩ = some (.int .i64 0) := cell_blk HB4.out 7
  have d8 : w4.cell? ⟨w1.heap.size + 1, 8, none⟩ = some (.int .i64 0) := cell_blk HB4.out 8
  have d9 : w4.cell? ⟨w1.heap.size + 1, 9, none⟩ = some (.string ⟨#[]⟩) := cell_blk HB4.out 9
  have d10 : w4.cell? ⟨w1.heap.size + 1, 10, none⟩ = some (.slice none 0 0) := cell_blk HB4.out 10
  have hl4 := blk_lt HB4.out
  have HMD := hid (cmade_c (w := w4) (G := fun _ => False) (e := ⟨0, 0, 17, 0, 0, [], [], .nil⟩) (cs := [.int .i64 0, .int .i64 0, .int .i64 17, .int .i64 0, .int .i64 0, .string ⟨#[]⟩, .string ⟨#[]⟩, .int .i64 0, .int .i64 0, .string ⟨#[]⟩, .slice none 0 0]) ⟨_, rfl, novlc _ _ 0 0 []⟩)
  have hmd : madeB (EM.k ⟨0, 0, 17, 0, 0, [], [], .nil⟩) = true := by decide
  rw [hmd] at HMD
  clear hmd
  go_wp2_with fail
  refine HMD.out.mono ?_
  rintro x w5 ⟨rfl, ho5⟩
  have HO5 := hid (HO4.out.trans ho5 (fun _ _ e => e))
  clear ho5 HMD
  go_wp2_with fail
  go_ret
  exact ⟨rfl, HO5.out⟩
set_option maxRecDepth 100000 in
theorem kinds_21 (hT : Tab w) : Calls Tryd.prog 7 #[.int .i64 21] w fun x w' => x = .returned (.bool true) ∧ Only (fun _ => False) w w' := by
  have HTL := hid (wants_c hT)
  clear hT
  go_enter Tryd.func7, Tryd.ntmps7
  go_wp2_with fail
  refine HTL.out.mono ?_
  rintro x w1 ⟨rfl, ho1⟩
  have HO1 := hid ho1
  clear ho1 HTL
  have HNM := fun wc => hid (cmname_c (w := wc) 21)
  have HNR := fun wc => hid (r10name_c (w := wc) 21)
  obtain ⟨nm, hnm⟩ : ∃ x, cName 21 = x := ⟨_, rfl⟩
  simp only [hnm] at HNM HNR
  clear hnm
  have hbe : ((strOf nm).toList == (strOf nm).toList) = true := by simp
  go_wp2_with fail
  refine (HNM _).out.mono ?_
  rintro x w2 ⟨rfl, rfl⟩
  go_wp2_with fail
  refine (HNR _).out.mono ?_
  rintro x w3 ⟨rfl, ho3⟩
  have hoA := (only_new w1 (.cells #[.int .i64 21, .int .i64 0, .int .i64 0, .int .i64 0, .string ⟨#[]⟩, .int .i64 0, .int .i64 0, .string ⟨#[]⟩, .slice none 0 0] 29)).trans (only_new _ (.cells #[.int .i64 0, .int .i64 0, .int .i64 21, .int .i64 0, .int .i64 0, .string ⟨#[]⟩, .string ⟨#[]⟩, .int .i64 0, .int .i64 0, .string ⟨#[]⟩, .slice none 0 0] 47)) (fun _ _ e => e)
  have hbc := blk_only (blk_alloc (o' := (.cells #[.int .i64 0, .int .i64 0, .int .i64 21, .int .i64 0, .int .i64 0, .string ⟨#[]⟩, .string ⟨#[]⟩, .int .i64 0, .int .i64 0, .string ⟨#[]⟩, .slice none 0 0] 47)) (blk_new w1 (.cells #[.int .i64 21, .int .i64 0, .int .i64 0, .int .i64 0, .string ⟨#[]⟩, .int .i64 0, .int .i64 0, .string ⟨#[]⟩, .slice none 0 0] 29))) ho3 (fun e => e)
  have hbe2 := blk_only (blk_new2 w1 (.cells #[.int .i64 21, .int .i64 0, .int .i64 0, .int .i64 0, .string ⟨#[]⟩, .int .i64 0, .int .i64 0, .string ⟨#[]⟩, .slice none 0 0] 29) (.cells #[.int .i64 0, .int .i64 0, .int .i64 21, .int .i64 0, .int .i64 0, .string ⟨#[]⟩, .string ⟨#[]⟩, .int .i64 0, .int .i64 0, .string ⟨#[]⟩, .slice none 0 0] 47) rfl) ho3 (fun e => e)
  have c0 : w3.cell? ⟨w1.heap.size, 0, none⟩ = some (.int .i64 21) := cell_blk hbc 0
  have c1 : w3.cell? ⟨w1.heap.size, 1, none⟩ = some (.int .i64 0) := cell_blk hbc 1
  have c2 : w3.cell? ⟨w1.heap.size, 2, none⟩ = some (.int .i64 0) := cell_blk hbc 2
  have c3 : w3.cell? ⟨w1.heap.size, 3, none⟩ = some (.int .i64 0) := cell_blk hbc 3
  have c4 : w3.cell? ⟨w1.heap.size, 4, none⟩ = some (.string ⟨#[]⟩) := cell_blk hbc 4
  have c5 : w3.cell? ⟨w1.heap.size, 5, none⟩ = some (.int .i64 0) := cell_blk hbc 5
  have c6 : w3.cell? ⟨w1.heap.size, 6, none⟩ = some (.int .i64 0) := cell_blk hbc 6
  have c7 : w3.cell? ⟨w1.heap.size, 7, none⟩ = some (.string ⟨#[]⟩) := cell_blk hbc 7
  have c8 : w3.cell? ⟨w1.heap.size, 8, none⟩ = some (.slice none 0 0) := cell_blk hbc 8
  have d0 : w3.cell? ⟨w1.heap.size + 1, 0, none⟩ = some (.int .i64 0) := cell_blk hbe2 0
  have d1 : w3.cell? ⟨w1.heap.size + 1, 1, none⟩ = some (.int .i64 0) := cell_blk hbe2 1
  have d2 : w3.cell? ⟨w1.heap.size + 1, 2, none⟩ = some (.int .i64 21) := cell_blk hbe2 2
  have d3 : w3.cell? ⟨w1.heap.size + 1, 3, none⟩ = some (.int .i64 0) := cell_blk hbe2 3
  have d4 : w3.cell? ⟨w1.heap.size + 1, 4, none⟩ = some (.int .i64 0) := cell_blk hbe2 4
  have d5 : w3.cell? ⟨w1.heap.size + 1, 5, none⟩ = some (.string ⟨#[]⟩) := cell_blk hbe2 5
  have d6 : w3.cell? ⟨w1.heap.size + 1, 6, none⟩ = some (.string ⟨#[]⟩) := cell_blk hbe2 6
  have d7 : w3.cell? ⟨w1.heap.size + 1, 7, none⟩ = some (.int .i64 0) := cell_blk hbe2 7
  have d8 : w3.cell? ⟨w1.heap.size + 1, 8, none⟩ = some (.int .i64 0) := cell_blk hbe2 8
  have d9 : w3.cell? ⟨w1.heap.size + 1, 9, none⟩ = some (.string ⟨#[]⟩) := cell_blk hbe2 9
  have d10 : w3.cell? ⟨w1.heap.size + 1, 10, none⟩ = some (.slice none 0 0) := cell_blk hbe2 10
  have hl1 := blk_lt hbc
  have hl2 := blk_lt hbe2
  have HO3 := hid (HO1.out.trans (hoA.trans ho3 (fun _ _ e => e)) (fun _ _ e => e))
  have HBE := hid hbe2
  have HED := hid (cmends_c (w := w3) (G := fun _ => False) (e := ⟨0, 0, 21, 0, 0, [], [], .nil⟩) (cs := [.int .i64 21, .int .i64 0, .int .i64 0, .int .i64 0, .string ⟨#[]⟩, .int .i64 0, .int .i64 0, .string ⟨#[]⟩, .slice none 0 0]) ⟨_, rfl, novlc _ _ 0 0 []⟩)
  have hed : cEnds (EM.k ⟨0, 0, 21, 0, 0, [], [], .nil⟩) = false := by decide
  rw [hed] at HED
  clear hoA ho3 hbc hbe2 hed
  go_wp2_with fail
  refine HED.out.mono ?_
  rintro x w4 ⟨rfl, ho4⟩
  have HB4 := hid (blk_only HBE.out ho4 (fun e => e))
  have HO4 := hid (HO3.out.trans ho4 (fun _ _ e => e))
  clear ho4 HED c0 c1 c2 c3 c4 c5 c6 c7 c8 d0 d1 d2 d3 d4 d5 d6 d7 d8 d9 d10 hl1 hl2
  have d0 : w4.cell? ⟨w1.heap.size + 1, 0, none⟩ = some (.int .i64 0) := cell_blk HB4.out 0
  have d1 : w4.cell? ⟨w1.heap.size + 1, 1, none⟩ = some (.int .i64 0) := cell_blk HB4.out 1
  have d2 : w4.cell? ⟨w1.heap.size + 1, 2, none⟩ = some (.int .i64 21) := cell_blk HB4.out 2
  have d3 : w4.cell? ⟨w1.heap.size + 1, 3, none⟩ = some (.int .i64 0) := cell_blk HB4.out 3
  have d4 : w4.cell? ⟨w1.heap.size + 1, 4, none⟩ = some (.int .i64 0) := cell_blk HB4.out 4
  have d5 : w4.cell? ⟨w1.heap.size + 1, 5, none⟩ = some (.string ⟨#[]⟩) := cell_blk HB4.out 5
  have d6 : w4.cell? ⟨w1.heap.size + 1, 6, none⟩ = some (.string ⟨#[]⟩) := cell_blk HB4.out 6
  have d7 : w4.cell? ⟨w1.heap.size + 1, 7, none⟩ = some (.int .i64 0) := cell_blk HB4.out 7
  have d8 : w4.cell? ⟨w1.heap.size + 1, 8, none⟩ = some (.int .i64 0) := cell_blk HB4.out 8
  have d9 : w4.cell? ⟨w1.heap.size + 1, 9, none⟩ = some (.string ⟨#[]⟩) := cell_blk HB4.out 9
  have d10 : w4.cell? ⟨w1.heap.size + 1, 10, none⟩ = some (.slice none 0 0) := cell_blk HB4.out 10
  have hl4 := blk_lt HB4.out
  have HMD := hid (cmade_c (w := w4) (G := fun _ => False) (e := ⟨0, 0, 21, 0, 0, [], [], .nil⟩) (cs := [.int .i64 0, .int .i64 0, .int .i64 21, .int .i64 0, .int .i64 0, .string ⟨#[]⟩, .string ⟨#[]⟩, .int .i64 0, .int .i64 0, .string ⟨#[]⟩, .slice none 0 0]) ⟨_, rfl, novlc _ _ 0 0 []⟩)
  have hmd : madeB (EM.k ⟨0, 0, 21, 0, 0, [], [], .nil⟩) = true := by decide
  rw [hmd] at HMD
  clear hmd
  go_wp2_with fail
  refine HMD.out.mono ?_
  rintro x w5 ⟨rfl, ho5⟩
  have HO5 := hid (HO4.out.trans ho5 (fun _ _ e => e))
  clear ho5 HMD
  go_wp2_with fail
  go_ret
  exact ⟨rfl, HO5.out⟩
set_option maxRecDepth 100000 in
theorem kinds_0 (hT : Tab w) (k : Int) (h : k < 1 ∨ 6 < k) (e7 : (k == 7) = false) (e11 : (k == 11) = false) (e13 : (k == 13) = false) (e16 : (k == 16) = false) (e17 : (k == 17) = false) (e21 : (k == 21) = false) : Calls Tryd.prog 7 #[.int .i64 k] w fun x w' => x = .returned (.bool true) ∧ Only (fun _ => False) w w' := by
  have e4 : (k == 4) = false := by simp; omega
  have e5 : (k == 5) = false := by simp; omega
  have e6 : (k == 6) = false := by simp; omega
  by_cases h4 : 4 ≤ k
  · have h6 : decide (k ≤ 6) = false := decide_eq_false (by omega)
    clear h
    have HTL := hid (wants_c hT)
    clear hT
    go_enter Tryd.func7, Tryd.ntmps7
    go_wp2_with fail
    refine HTL.out.mono ?_
    rintro x w1 ⟨rfl, ho1⟩
    have HO1 := hid ho1
    clear ho1 HTL
    have HNM := fun wc => hid (cmname_c (w := wc) k)
    have HNR := fun wc => hid (r10name_c (w := wc) k)
    obtain ⟨nm, hnm⟩ : ∃ x, cName k = x := ⟨_, rfl⟩
    simp only [hnm] at HNM HNR
    clear hnm
    have hbe : ((strOf nm).toList == (strOf nm).toList) = true := by simp
    go_wp2_with fail
    refine (HNM _).out.mono ?_
    rintro x w2 ⟨rfl, rfl⟩
    go_wp2_with fail
    refine (HNR _).out.mono ?_
    rintro x w3 ⟨rfl, ho3⟩
    have hoA := (only_new w1 (.cells #[.int .i64 k, .int .i64 0, .int .i64 0, .int .i64 0, .string ⟨#[]⟩, .int .i64 0, .int .i64 0, .string ⟨#[]⟩, .slice none 0 0] 29)).trans (only_new _ (.cells #[.int .i64 0, .int .i64 0, .int .i64 k, .int .i64 0, .int .i64 0, .string ⟨#[]⟩, .string ⟨#[]⟩, .int .i64 0, .int .i64 0, .string ⟨#[]⟩, .slice none 0 0] 47)) (fun _ _ e => e)
    have hbc := blk_only (blk_alloc (o' := (.cells #[.int .i64 0, .int .i64 0, .int .i64 k, .int .i64 0, .int .i64 0, .string ⟨#[]⟩, .string ⟨#[]⟩, .int .i64 0, .int .i64 0, .string ⟨#[]⟩, .slice none 0 0] 47)) (blk_new w1 (.cells #[.int .i64 k, .int .i64 0, .int .i64 0, .int .i64 0, .string ⟨#[]⟩, .int .i64 0, .int .i64 0, .string ⟨#[]⟩, .slice none 0 0] 29))) ho3 (fun e => e)
    have hbe2 := blk_only (blk_new2 w1 (.cells #[.int .i64 k, .int .i64 0, .int .i64 0, .int .i64 0, .string ⟨#[]⟩, .int .i64 0, .int .i64 0, .string ⟨#[]⟩, .slice none 0 0] 29) (.cells #[.int .i64 0, .int .i64 0, .int .i64 k, .int .i64 0, .int .i64 0, .string ⟨#[]⟩, .string ⟨#[]⟩, .int .i64 0, .int .i64 0, .string ⟨#[]⟩, .slice none 0 0] 47) rfl) ho3 (fun e => e)
    have c0 : w3.cell? ⟨w1.heap.size, 0, none⟩ = some (.int .i64 k) := cell_blk hbc 0
    have c1 : w3.cell? ⟨w1.heap.size, 1, none⟩ = some (.int .i64 0) := cell_blk hbc 1
    have c2 : w3.cell? ⟨w1.heap.size, 2, none⟩ = some (.int .i64 0) := cell_blk hbc 2
    have c3 : w3.cell? ⟨w1.heap.size, 3, none⟩ = some (.int .i64 0) := cell_blk hbc 3
    have c4 : w3.cell? ⟨w1.heap.size, 4, none⟩ = some (.string ⟨#[]⟩) := cell_blk hbc 4
    have c5 : w3.cell? ⟨w1.heap.size, 5, none⟩ = some (.int .i64 0) := cell_blk hbc 5
    have c6 : w3.cell? ⟨w1.heap.size, 6, none⟩ = some (.int .i64 0) := cell_blk hbc 6
    have c7 : w3.cell? ⟨w1.heap.size, 7, none⟩ = some (.string ⟨#[]⟩) := cell_blk hbc 7
    have c8 : w3.cell? ⟨w1.heap.size, 8, none⟩ = some (.slice none 0 0) := cell_blk hbc 8
    have d0 : w3.cell? ⟨w1.heap.size + 1, 0, none⟩ = some (.int .i64 0) := cell_blk hbe2 0
    have d1 : w3.cell? ⟨w1.heap.size + 1, 1, none⟩ = some (.int .i64 0) := cell_blk hbe2 1
    have d2 : w3.cell? ⟨w1.heap.size + 1, 2, none⟩ = some (.int .i64 k) := cell_blk hbe2 2
    have d3 : w3.cell? ⟨w1.heap.size + 1, 3, none⟩ = some (.int .i64 0) := cell_blk hbe2 3
    have d4 : w3.cell? ⟨w1.heap.size + 1, 4, none⟩ = some (.int .i64 0) := cell_blk hbe2 4
    have d5 : w3.cell? ⟨w1.heap.size + 1, 5, none⟩ = some (.string ⟨#[]⟩) := cell_blk hbe2 5
    have d6 : w3.cell? ⟨w1.heap.size + 1, 6, none⟩ = some (.string ⟨#[]⟩) := cell_blk hbe2 6
    have d7 : w3.cell? ⟨w1.heap.size + 1, 7, none⟩ = some (.int .i64 0) := cell_blk hbe2 7
    have d8 : w3.cell? ⟨w1.heap.size + 1, 8, none⟩ = some (.int .i64 0) := cell_blk hbe2 8
    have d9 : w3.cell? ⟨w1.heap.size + 1, 9, none⟩ = some (.string ⟨#[]⟩) := cell_blk hbe2 9
    have d10 : w3.cell? ⟨w1.heap.size + 1, 10, none⟩ = some (.slice none 0 0) := cell_blk hbe2 10
    have hl1 := blk_lt hbc
    have hl2 := blk_lt hbe2
    have HO3 := hid (HO1.out.trans (hoA.trans ho3 (fun _ _ e => e)) (fun _ _ e => e))
    have HBE := hid hbe2
    have HED := hid (cmends_c (w := w3) (G := fun _ => False) (e := ⟨0, 0, k, 0, 0, [], [], .nil⟩) (cs := [.int .i64 k, .int .i64 0, .int .i64 0, .int .i64 0, .string ⟨#[]⟩, .int .i64 0, .int .i64 0, .string ⟨#[]⟩, .slice none 0 0]) ⟨_, rfl, novlc _ _ 0 0 []⟩)
    have hed : cEnds (EM.k ⟨0, 0, k, 0, 0, [], [], .nil⟩) = false := by show cEnds k = false; unfold cEnds; rw [e4, e5, e6]; rfl
    rw [hed] at HED
    clear hoA ho3 hbc hbe2 hed
    go_wp2_with fail
    refine HED.out.mono ?_
    rintro x w4 ⟨rfl, ho4⟩
    have HB4 := hid (blk_only HBE.out ho4 (fun e => e))
    have HO4 := hid (HO3.out.trans ho4 (fun _ _ e => e))
    clear ho4 HED c0 c1 c2 c3 c4 c5 c6 c7 c8 d0 d1 d2 d3 d4 d5 d6 d7 d8 d9 d10 hl1 hl2
    have d0 : w4.cell? ⟨w1.heap.size + 1, 0, none⟩ = some (.int .i64 0) := cell_blk HB4.out 0
    have d1 : w4.cell? ⟨w1.heap.size + 1, 1, none⟩ = some (.int .i64 0) := cell_blk HB4.out 1
    have d2 : w4.cell? ⟨w1.heap.size + 1, 2, none⟩ = some (.int .i64 k) := cell_blk HB4.out 2
    have d3 : w4.cell? ⟨w1.heap.size + 1, 3, none⟩ = some (.int .i64 0) := cell_blk HB4.out 3
    have d4 : w4.cell? ⟨w1.heap.size + 1, 4, none⟩ = some (.int .i64 0) := cell_blk HB4.out 4
    have d5 : w4.cell? ⟨w1.heap.size + 1, 5, none⟩ = some (.string ⟨#[]⟩) := cell_blk HB4.out 5
    have d6 : w4.cell? ⟨w1.heap.size + 1, 6, none⟩ = some (.string ⟨#[]⟩) := cell_blk HB4.out 6
    have d7 : w4.cell? ⟨w1.heap.size + 1, 7, none⟩ = some (.int .i64 0) := cell_blk HB4.out 7
    have d8 : w4.cell? ⟨w1.heap.size + 1, 8, none⟩ = some (.int .i64 0) := cell_blk HB4.out 8
    have d9 : w4.cell? ⟨w1.heap.size + 1, 9, none⟩ = some (.string ⟨#[]⟩) := cell_blk HB4.out 9
    have d10 : w4.cell? ⟨w1.heap.size + 1, 10, none⟩ = some (.slice none 0 0) := cell_blk HB4.out 10
    have hl4 := blk_lt HB4.out
    have HMD := hid (cmade_c (w := w4) (G := fun _ => False) (e := ⟨0, 0, k, 0, 0, [], [], .nil⟩) (cs := [.int .i64 0, .int .i64 0, .int .i64 k, .int .i64 0, .int .i64 0, .string ⟨#[]⟩, .string ⟨#[]⟩, .int .i64 0, .int .i64 0, .string ⟨#[]⟩, .slice none 0 0]) ⟨_, rfl, novlc _ _ 0 0 []⟩)
    have hmd : madeB (EM.k ⟨0, 0, k, 0, 0, [], [], .nil⟩) = false := by show madeB k = false; unfold madeB; rw [e7, e11, e13, e16, e17, e21]; rfl
    rw [hmd] at HMD
    clear hmd
    go_wp2_with fail
    refine HMD.out.mono ?_
    rintro x w5 ⟨rfl, ho5⟩
    have HO5 := hid (HO4.out.trans ho5 (fun _ _ e => e))
    clear ho5 HMD
    go_wp2_with fail
    go_ret
    exact ⟨rfl, HO5.out⟩
  · clear h
    have HTL := hid (wants_c hT)
    clear hT
    go_enter Tryd.func7, Tryd.ntmps7
    go_wp2_with fail
    refine HTL.out.mono ?_
    rintro x w1 ⟨rfl, ho1⟩
    have HO1 := hid ho1
    clear ho1 HTL
    have HNM := fun wc => hid (cmname_c (w := wc) k)
    have HNR := fun wc => hid (r10name_c (w := wc) k)
    obtain ⟨nm, hnm⟩ : ∃ x, cName k = x := ⟨_, rfl⟩
    simp only [hnm] at HNM HNR
    clear hnm
    have hbe : ((strOf nm).toList == (strOf nm).toList) = true := by simp
    go_wp2_with fail
    refine (HNM _).out.mono ?_
    rintro x w2 ⟨rfl, rfl⟩
    go_wp2_with fail
    refine (HNR _).out.mono ?_
    rintro x w3 ⟨rfl, ho3⟩
    have hoA := (only_new w1 (.cells #[.int .i64 k, .int .i64 0, .int .i64 0, .int .i64 0, .string ⟨#[]⟩, .int .i64 0, .int .i64 0, .string ⟨#[]⟩, .slice none 0 0] 29)).trans (only_new _ (.cells #[.int .i64 0, .int .i64 0, .int .i64 k, .int .i64 0, .int .i64 0, .string ⟨#[]⟩, .string ⟨#[]⟩, .int .i64 0, .int .i64 0, .string ⟨#[]⟩, .slice none 0 0] 47)) (fun _ _ e => e)
    have hbc := blk_only (blk_alloc (o' := (.cells #[.int .i64 0, .int .i64 0, .int .i64 k, .int .i64 0, .int .i64 0, .string ⟨#[]⟩, .string ⟨#[]⟩, .int .i64 0, .int .i64 0, .string ⟨#[]⟩, .slice none 0 0] 47)) (blk_new w1 (.cells #[.int .i64 k, .int .i64 0, .int .i64 0, .int .i64 0, .string ⟨#[]⟩, .int .i64 0, .int .i64 0, .string ⟨#[]⟩, .slice none 0 0] 29))) ho3 (fun e => e)
    have hbe2 := blk_only (blk_new2 w1 (.cells #[.int .i64 k, .int .i64 0, .int .i64 0, .int .i64 0, .string ⟨#[]⟩, .int .i64 0, .int .i64 0, .string ⟨#[]⟩, .slice none 0 0] 29) (.cells #[.int .i64 0, .int .i64 0, .int .i64 k, .int .i64 0, .int .i64 0, .string ⟨#[]⟩, .string ⟨#[]⟩, .int .i64 0, .int .i64 0, .string ⟨#[]⟩, .slice none 0 0] 47) rfl) ho3 (fun e => e)
    have c0 : w3.cell? ⟨w1.heap.size, 0, none⟩ = some (.int .i64 k) := cell_blk hbc 0
    have c1 : w3.cell? ⟨w1.heap.size, 1, none⟩ = some (.int .i64 0) := cell_blk hbc 1
    have c2 : w3.cell? ⟨w1.heap.size, 2, none⟩ = some (.int .i64 0) := cell_blk hbc 2
    have c3 : w3.cell? ⟨w1.heap.size, 3, none⟩ = some (.int .i64 0) := cell_blk hbc 3
    have c4 : w3.cell? ⟨w1.heap.size, 4, none⟩ = some (.string ⟨#[]⟩) := cell_blk hbc 4
    have c5 : w3.cell? ⟨w1.heap.size, 5, none⟩ = some (.int .i64 0) := cell_blk hbc 5
    have c6 : w3.cell? ⟨w1.heap.size, 6, none⟩ = some (.int .i64 0) := cell_blk hbc 6
    have c7 : w3.cell? ⟨w1.heap.size, 7, none⟩ = some (.string ⟨#[]⟩) := cell_blk hbc 7
    have c8 : w3.cell? ⟨w1.heap.size, 8, none⟩ = some (.slice none 0 0) := cell_blk hbc 8
    have d0 : w3.cell? ⟨w1.heap.size + 1, 0, none⟩ = some (.int .i64 0) := cell_blk hbe2 0
    have d1 : w3.cell? ⟨w1.heap.size + 1, 1, none⟩ = some (.int .i64 0) := cell_blk hbe2 1
    have d2 : w3.cell? ⟨w1.heap.size + 1, 2, none⟩ = some (.int .i64 k) := cell_blk hbe2 2
    have d3 : w3.cell? ⟨w1.heap.size + 1, 3, none⟩ = some (.int .i64 0) := cell_blk hbe2 3
    have d4 : w3.cell? ⟨w1.heap.size + 1, 4, none⟩ = some (.int .i64 0) := cell_blk hbe2 4
    have d5 : w3.cell? ⟨w1.heap.size + 1, 5, none⟩ = some (.string ⟨#[]⟩) := cell_blk hbe2 5
    have d6 : w3.cell? ⟨w1.heap.size + 1, 6, none⟩ = some (.string ⟨#[]⟩) := cell_blk hbe2 6
    have d7 : w3.cell? ⟨w1.heap.size + 1, 7, none⟩ = some (.int .i64 0) := cell_blk hbe2 7
    have d8 : w3.cell? ⟨w1.heap.size + 1, 8, none⟩ = some (.int .i64 0) := cell_blk hbe2 8
    have d9 : w3.cell? ⟨w1.heap.size + 1, 9, none⟩ = some (.string ⟨#[]⟩) := cell_blk hbe2 9
    have d10 : w3.cell? ⟨w1.heap.size + 1, 10, none⟩ = some (.slice none 0 0) := cell_blk hbe2 10
    have hl1 := blk_lt hbc
    have hl2 := blk_lt hbe2
    have HO3 := hid (HO1.out.trans (hoA.trans ho3 (fun _ _ e => e)) (fun _ _ e => e))
    have HBE := hid hbe2
    have HED := hid (cmends_c (w := w3) (G := fun _ => False) (e := ⟨0, 0, k, 0, 0, [], [], .nil⟩) (cs := [.int .i64 k, .int .i64 0, .int .i64 0, .int .i64 0, .string ⟨#[]⟩, .int .i64 0, .int .i64 0, .string ⟨#[]⟩, .slice none 0 0]) ⟨_, rfl, novlc _ _ 0 0 []⟩)
    have hed : cEnds (EM.k ⟨0, 0, k, 0, 0, [], [], .nil⟩) = false := by show cEnds k = false; unfold cEnds; rw [e4, e5, e6]; rfl
    rw [hed] at HED
    clear hoA ho3 hbc hbe2 hed
    go_wp2_with fail
    refine HED.out.mono ?_
    rintro x w4 ⟨rfl, ho4⟩
    have HB4 := hid (blk_only HBE.out ho4 (fun e => e))
    have HO4 := hid (HO3.out.trans ho4 (fun _ _ e => e))
    clear ho4 HED c0 c1 c2 c3 c4 c5 c6 c7 c8 d0 d1 d2 d3 d4 d5 d6 d7 d8 d9 d10 hl1 hl2
    have d0 : w4.cell? ⟨w1.heap.size + 1, 0, none⟩ = some (.int .i64 0) := cell_blk HB4.out 0
    have d1 : w4.cell? ⟨w1.heap.size + 1, 1, none⟩ = some (.int .i64 0) := cell_blk HB4.out 1
    have d2 : w4.cell? ⟨w1.heap.size + 1, 2, none⟩ = some (.int .i64 k) := cell_blk HB4.out 2
    have d3 : w4.cell? ⟨w1.heap.size + 1, 3, none⟩ = some (.int .i64 0) := cell_blk HB4.out 3
    have d4 : w4.cell? ⟨w1.heap.size + 1, 4, none⟩ = some (.int .i64 0) := cell_blk HB4.out 4
    have d5 : w4.cell? ⟨w1.heap.size + 1, 5, none⟩ = some (.string ⟨#[]⟩) := cell_blk HB4.out 5
    have d6 : w4.cell? ⟨w1.heap.size + 1, 6, none⟩ = some (.string ⟨#[]⟩) := cell_blk HB4.out 6
    have d7 : w4.cell? ⟨w1.heap.size + 1, 7, none⟩ = some (.int .i64 0) := cell_blk HB4.out 7
    have d8 : w4.cell? ⟨w1.heap.size + 1, 8, none⟩ = some (.int .i64 0) := cell_blk HB4.out 8
    have d9 : w4.cell? ⟨w1.heap.size + 1, 9, none⟩ = some (.string ⟨#[]⟩) := cell_blk HB4.out 9
    have d10 : w4.cell? ⟨w1.heap.size + 1, 10, none⟩ = some (.slice none 0 0) := cell_blk HB4.out 10
    have hl4 := blk_lt HB4.out
    have HMD := hid (cmade_c (w := w4) (G := fun _ => False) (e := ⟨0, 0, k, 0, 0, [], [], .nil⟩) (cs := [.int .i64 0, .int .i64 0, .int .i64 k, .int .i64 0, .int .i64 0, .string ⟨#[]⟩, .string ⟨#[]⟩, .int .i64 0, .int .i64 0, .string ⟨#[]⟩, .slice none 0 0]) ⟨_, rfl, novlc _ _ 0 0 []⟩)
    have hmd : madeB (EM.k ⟨0, 0, k, 0, 0, [], [], .nil⟩) = false := by show madeB k = false; unfold madeB; rw [e7, e11, e13, e16, e17, e21]; rfl
    rw [hmd] at HMD
    clear hmd
    go_wp2_with fail
    refine HMD.out.mono ?_
    rintro x w5 ⟨rfl, ho5⟩
    have HO5 := hid (HO4.out.trans ho5 (fun _ _ e => e))
    clear ho5 HMD
    go_wp2_with fail
    go_ret
    exact ⟨rfl, HO5.out⟩
theorem kinds_c (hT : Tab w) (k : Int) : Calls Tryd.prog 7 #[.int .i64 k] w fun x w' => x = .returned (.bool true) ∧ Only (fun _ => False) w w' := by
  by_cases h1 : k = 1
  · subst h1; exact kinds_1 hT
  by_cases h2 : k = 2
  · subst h2; exact kinds_2 hT
  by_cases h3 : k = 3
  · subst h3; exact kinds_3 hT
  by_cases h4 : k = 4
  · subst h4; exact kinds_4 hT
  by_cases h5 : k = 5
  · subst h5; exact kinds_5 hT
  by_cases h6 : k = 6
  · subst h6; exact kinds_6 hT
  by_cases h7 : k = 7
  · subst h7; exact kinds_7 hT
  by_cases h11 : k = 11
  · subst h11; exact kinds_11 hT
  by_cases h13 : k = 13
  · subst h13; exact kinds_13 hT
  by_cases h16 : k = 16
  · subst h16; exact kinds_16 hT
  by_cases h17 : k = 17
  · subst h17; exact kinds_17 hT
  by_cases h21 : k = 21
  · subst h21; exact kinds_21 hT
  exact kinds_0 hT k (by omega) (by simpa using h7) (by simpa using h11) (by simpa using h13) (by simpa using h16) (by simpa using h17) (by simpa using h21)
end
end Go.Proofs.YtihidpfkdpjdpaaDoor
