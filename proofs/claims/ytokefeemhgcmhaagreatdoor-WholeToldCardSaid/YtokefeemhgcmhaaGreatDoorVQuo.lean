/- value's reading of texts: between quotes. -/
import Derived.Test.YtokefeemhgcmhaaGreatDoorVPar
import Derived.Test.YtokefeemhgcmhaaGreatDoorHead
import Derived.IntWalk
namespace Go.Proofs.YtokefeemhgcmhaaGreatDoor
open Go.RowKit

/-- Where the reading is. -/
def atOf (w : World) (b : Nat) : Nat := match w.cell? ⟨b, 1, none⟩ with
  | some (.int _ n) => n.toNat
  | _ => 0
theorem TAt.atOf {w : World} {b : Nat} {s : List UInt8} {a : Nat} {dp : Bool} (h : TAt w b s a dp) : atOf w b = a := by
  have := h.cells.2.1
  unfold Go.Proofs.YtokefeemhgcmhaaGreatDoor.atOf
  rw [this]
  simp
theorem dgI_bd (c : UInt8) : -1 ≤ dgI c ∧ dgI c ≤ 15 := by
  have key : ∀ i : Fin 256, -1 ≤ dgI (UInt8.ofNat i.val) ∧ dgI (UInt8.ofNat i.val) ≤ 15 := by decide +kernel
  have := key ⟨c.toNat, c.toNat_lt⟩
  simpa using this
theorem twoH_I (x y : UInt8) : twoH (some x) (some y) = if dgI x < 0 ∨ dgI y < 0 then none else if 32 ≤ 16 * (dgI x).toNat + (dgI y).toNat ∧ 16 * (dgI x).toNat + (dgI y).toNat ≤ 126 then none else some (UInt8.ofNat (16 * (dgI x).toNat + (dgI y).toNat)) := by
  unfold twoH dgI
  simp only [Option.bind_some]
  cases dgH x with
  | none => simp
  | some m =>
    cases dgH y with
    | none => simp
    | some n =>
      simp only [Int.toNat_natCast]
      rw [if_neg (show ¬ ((m : Int) < 0 ∨ (n : Int) < 0) by omega)]
theorem TAt.drew {w : World} {b : Nat} {s : List UInt8} {a : Nat} {dp : Bool} (h : TAt w b s a dp) : TAt w.drew b s a dp := h.same (Only.refl _ _).drew
/-- What quoted answers. -/
def QuoA (w : World) (b : Nat) (s : List UInt8) (dp : Bool) (R : Option (List UInt8 × List UInt8)) (e : Ending) (w' : World) : Prop :=
  (match R with
    | some x => e = .returned (.tuple #[.string (strOf x.1), .bool true]) ∧ TAt w' b s (s.length - x.2.length) dp
    | none => ∃ a', e = .returned (.tuple #[.string (strOf []), .bool false]) ∧ TAt w' b s a' dp) ∧ Only (fun k => k = b) w w'
theorem drop_at {s : List UInt8} {a : Nat} {c : UInt8} (h : s[a]? = some c) : s.drop a = c :: s.drop (a + 1) := by
  have hl : a < s.length := by
    rcases Nat.lt_or_ge a s.length with g | g
    · exact g
    · rw [List.getElem?_eq_none g] at h; cases h
  rw [List.drop_eq_getElem_cons hl]
  rw [List.getElem?_eq_getElem hl] at h
  rw [Option.some.inj h]
theorem get_drop (s : List UInt8) (a i : Nat) : (s.drop a)[i]? = s[a + i]? := by rw [List.getElem?_drop]
section
variable {w : World} {b : Nat} {s : List UInt8} {a : Nat} {dp : Bool}
set_option maxRecDepth 100000 in
set_option maxHeartbeats 3200000 in
theorem quoted_c (h : TAt w b s a dp) : Calls Tryz.prog 38 #[.pointer (some ⟨b, 0, none⟩)] w (QuoA w b s dp (unq [] (s.drop a))) := by
  obtain ⟨R, hR⟩ : ∃ R, unq [] (s.drop a) = R := ⟨_, rfl⟩
  rw [hR]
  have H := hid h; have HR0 := hid hR
  have HBL := hid (show b < w.heap.size from h.cells.2.2.2.2)
  have HSL := hid (show s.length ≤ 1000000000 from h.2.2)
  clear h hR
  go_enter Tryz.func38, Tryz.ntmps38
  go_wp2_with fail
  go_loopw [4] (fun o wr => ∃ (a' cp n : Nat) (ao : Option Addr) (acc : List UInt8), o = .slice ao n cp ∧ n = acc.length ∧ Gr wr 5 1 ao n cp (bytesV acc) ∧ (∀ q, ao = some ⟨q, 0, none⟩ → w.heap.size ≤ q) ∧ TAt wr b s a' dp ∧ unq acc (s.drop a') = R ∧ acc.length ≤ a' ∧ Only (fun k => k = b) w wr) (fun _ wr => s.length - atOf wr b)
  case atStart => exact ⟨a, 0, 0, none, [], rfl, rfl, Gr.nil, by simp, H.out, HR0.out, by simp, Only.refl _ _⟩
  case round =>
    obtain ⟨a', cp, n, ao, acc, rfl, hn, hgr, hao, ht, hr, hal, ho⟩ := hrel
    have HGR := hid hgr; have HAO := hid hao; have HT := hid ht; have HR := hid hr; have HO := hid ho; have HN := hid hn; have HAL := hid hal
    have HM : Hid (atOf wr b = a') := hid ht.atOf
    obtain ⟨c0, c1, c2, cz, hlb⟩ := ht.cells
    have hss : (strOf s).size = s.length := rfl
    have hsl := HSL.out
    have hnb : n ≤ 1000000000 := by have := ht.2.1; omega
    have hab : (a' : Int) ≤ 1000000000 := by have := ht.2.1; omega
    by_cases hlt : a' < s.length
    · have hai : a' < (strOf s).size := hlt
      have hai2 : (a' : Int) < (strOf s).size := by omega
      obtain ⟨c, hc⟩ : ∃ c, s[a']? = some c := ⟨_, List.getElem?_eq_getElem hlt⟩
      obtain ⟨cn, hcn⟩ : ∃ cn, c.toNat = cn := ⟨_, rfl⟩
      have hcl : cn < 256 := by rw [← hcn]; exact c.toNat_lt
      have hcv : ((((strOf s)[a']'hai).toNat : Nat) : Int) = cn := by rw [strOf_at hc, hcn]
      have hda := drop_at hc
      rw [hda, unq] at hr
      have HUN := hid hr
      have HC := hid hc
      have HLT := hid hlt; have HCN := hid hcn
      clear hgr hao ht hr ho hn hda hc hal hss hlt hcn
      go_wp2_with fail
      go_quiet (fail)
      go_wp2_with fail
      go_quiet (fail)
      go_upto_region 6 with fail
      have hset : ∀ k, TAt ((wr.drewN k).setCell ⟨b, 1, none⟩ (.int .i64 ((a' : Int) + 1))) b s (a' + 1) dp ∧ Only (fun k => k = b) wr ((wr.drewN k).setCell ⟨b, 1, none⟩ (.int .i64 ((a' : Int) + 1))) := fun k => ⟨HT.out.set (a' + 1) HLT.out, only_dset _ _ _ _ _⟩
      generalize hwx : World.setCell (World.drewN wr _) _ _ = wx
      obtain ⟨k, hk⟩ : ∃ k, (wr.drewN k).setCell ⟨b, 1, none⟩ (.int .i64 ((a' : Int) + 1)) = wx := ⟨_, hwx⟩
      obtain ⟨htx, hox⟩ := hset k
      rw [hk] at htx hox
      clear hset hwx hk c0 c1 c2 cz hlb hab hai2 hcv
      clear hai
      obtain ⟨d0, d1, d2, dz, hlbx⟩ := htx.cells
      have HTX := hid htx; have HOX := hid hox
      have HGX := hid (HGR.out.only hox (fun g hg e => by have := HAO.out g hg; have := HBL.out; omega))
      have hnab : n ≤ 1000000000 := hnb
      have h1l : a' + 1 ≤ s.length := htx.2.1
      clear htx hox
      by_cases h34 : c = 34
      · have b34 : ((cn : Int) == 34) = true := by rw [h34] at HCN; have := HCN.out; rw [← this]; rfl
        have HR1 : Hid (some (acc, s.drop (a' + 1)) = R) := hid (by rw [← HUN.out, if_pos h34])
        have hsr := HGX.out.src
        have hnl := HN.out
        have hcv2 : (convert 33 9 (.slice ao n cp)).run Tryz.prog wx = .ok (.string (strOf acc)) wx := conv_str hsr
        clear h34 hsr hnl
        go_wp2_with fail
        go_ret2
        unfold QuoA
        rw [← HR1.out]
        exact ⟨⟨rfl, by have := HTX.out; rwa [show s.length - (acc, s.drop (a' + 1)).2.length = a' + 1 by simp; omega]⟩, HO.out.trans HOX.out (fun _ _ e => e)⟩
      have b34 : ((cn : Int) == 34) = false := by
        have : ¬ (cn : Int) = 34 := fun e => h34 (UInt8.toNat_inj.1 (by rw [HCN.out]; show cn = 34; omega))
        simpa using this
      by_cases h32 : (cn : Int) < 32
      · have HR1 : Hid (none = R) := hid (by rw [← HUN.out, if_neg h34, if_pos (.inl (by show c.toNat < 32; rw [HCN.out]; omega))])
        clear h34
        go_wp2_with fail
        go_ret2
        unfold QuoA
        rw [← HR1.out]
        exact ⟨⟨_, rfl, HTX.out⟩, HO.out.trans HOX.out (fun _ _ e => e)⟩
      by_cases h126 : (126 : Int) < cn
      · have HR1 : Hid (none = R) := hid (by rw [← HUN.out, if_neg h34, if_pos (.inr (by show 126 < c.toNat; rw [HCN.out]; omega))])
        clear h34
        go_wp2_with fail
        go_ret2
        unfold QuoA
        rw [← HR1.out]
        exact ⟨⟨_, rfl, HTX.out⟩, HO.out.trans HOX.out (fun _ _ e => e)⟩
      have hcB : ¬ (c < 32 ∨ 126 < c) := by
        rintro (h | h)
        · have h' : c.toNat < 32 := h
          rw [HCN.out] at h'; omega
        · have h' : 126 < c.toNat := h
          rw [HCN.out] at h'; omega
      by_cases h92 : c ≠ 92
      · have b92 : ((cn : Int) != 92) = true := by
          have : ¬ (cn : Int) = 92 := fun e => h92 (UInt8.toNat_inj.1 (by rw [HCN.out]; show cn = 92; omega))
          simpa using this
        have HRX : Hid (unq (acc ++ [c]) (s.drop (a' + 1)) = R) := hid (by rw [← HUN.out, if_neg h34, if_neg hcB, if_pos h92])
        clear h34 hcB h92
        go_wp2_with (refine wpList_gr (o := ⟨some 53, _, _, _, _, _⟩) rfl el8 (.tmp 50) (.tmp 52) rfl (HGX.out.only (only_new wx _) (fun _ _ e => e)) rfl (some ⟨wx.heap.size, 0, none⟩) 1 1 rfl (bytesV [c]) (SrcG.new (T := 5) (fr := (0, 0)) (by rw [blk_new]; simp [bytesV, HCN.out]) (by simp) (oneCell_bytesV _)) (by omega) (by omega) ?_; intro ao' cp' w9 hg9 ha9 ho9; have HG9 := hid hg9; have HA9 := hid ha9; have HO9 := hid ho9; clear hg9 ha9 ho9)
        go_roundw
        case rel =>
          have hg9 := HG9.out
          rw [← bytesV_append] at hg9
          have hsz := HOX.out.size
          have ho9 : Only (fun k => k = b ∨ ao = some ⟨k, 0, none⟩) wr w9 := (HOX.out.mono (fun _ _ e => .inl e)).trans (((only_new wx _).mono (fun _ _ e => e.elim)).trans HO9.out (fun _ _ e => .inr e)) (fun _ _ e => e)
          have hao' : ∀ q, ao' = some ⟨q, 0, none⟩ → w.heap.size ≤ q := fun q hq => by
            rcases HA9.out with h | h
            · exact HAO.out q (by rw [← h]; exact hq)
            · rw [hq] at h; simp only [Option.some.injEq, Addr.mk.injEq, and_true, World.size_alloc] at h; have := HO.out.size; omega
          have htx := HTX.out.only (((only_new wx _).mono (G := fun k => ao = some ⟨k, 0, none⟩) (fun _ _ e => e.elim)).trans HO9.out (fun _ _ e => e)) (fun e => by have := HAO.out _ e; have := HBL.out; omega)
          refine ⟨a' + 1, cp', n + 1, ao', acc ++ [c], rfl, by have := HN.out; simp only [List.length_append, List.length_cons, List.length_nil]; omega, hg9, hao', htx, ?_, by rw [List.length_append]; simp only [List.length_cons, List.length_nil]; have := HAL.out; omega, HO.out.trans ho9 (fun k hk e => by rcases e with e | e; exact e; have := HAO.out k e; omega)⟩
          exact HRX.out
        case measure =>
          have e1 := (HTX.out.only (((only_new wx _).mono (G := fun k => ao = some ⟨k, 0, none⟩) (fun _ _ e => e.elim)).trans HO9.out (fun _ _ e => e)) (fun e => by have := HAO.out _ e; have := HBL.out; omega)).atOf
          have e2 := HM.out
          have e3 := HLT.out
          rw [e1, e2]; omega
      have h92' : c = 92 := by simpa using h92
      have hc92 : cn = 92 := by rw [← HCN.out, h92']; rfl
      have b92 : ((cn : Int) != 92) = false := by rw [hc92]; rfl
      have HU2 := HUN.out
      rw [if_neg h34, if_neg hcB, if_neg h92] at HU2
      have HUN2 := hid HU2
      clear HU2 h34 hcB h92 h92' hc92
      simp only [get_drop, Nat.add_zero] at HUN2
      by_cases g34 : s[a' + 1]? = some 34
      · have HR1 := HUN2.out
        rw [if_pos g34, List.drop_drop] at HR1
        have HRX := hid HR1
        have HE := hid (eat_yes HTX.out 34 g34)
        clear HR1 g34
        go_wp2_with fail
        refine HE.out.mono ?_
        rintro e w2 ⟨rfl, ht2, ho2⟩
        have HTX := hid ht2
        have HOX := hid (HOX.out.trans ho2 (fun _ _ e => e))
        have HGX := hid (HGR.out.only HOX.out (fun g hg e => by have := HAO.out g hg; have := HBL.out; omega))
        clear ht2 ho2 d0 d1 d2 dz hlbx HE
        go_wp2_with (refine wpList_gr (o := ⟨some 59, _, _, _, _, _⟩) rfl el8 (.tmp 57) (.tmp 58) rfl (HGX.out.only (only_new w2 _) (fun _ _ e => e)) rfl (some ⟨w2.heap.size, 0, none⟩) 1 1 rfl (bytesV [34]) (SrcG.new (T := 5) (fr := (0, 0)) (by rw [blk_new]; rfl) (by simp) (oneCell_bytesV _)) (by omega) (by omega) ?_; intro ao' cp' w9 hg9 ha9 ho9; have HG9 := hid hg9; have HA9 := hid ha9; have HO9 := hid ho9; clear hg9 ha9 ho9)
        go_roundw
        case rel =>
          have hg9 := HG9.out
          rw [← bytesV_append] at hg9
          have hsz := HOX.out.size
          have ho9 : Only (fun k => k = b ∨ ao = some ⟨k, 0, none⟩) wr w9 := (HOX.out.mono (fun _ _ e => .inl e)).trans (((only_new w2 _).mono (fun _ _ e => e.elim)).trans HO9.out (fun _ _ e => .inr e)) (fun _ _ e => e)
          have hao' : ∀ q, ao' = some ⟨q, 0, none⟩ → w.heap.size ≤ q := fun q hq => by
            rcases HA9.out with h | h
            · exact HAO.out q (by rw [← h]; exact hq)
            · rw [hq] at h; simp only [Option.some.injEq, Addr.mk.injEq, and_true, World.size_alloc] at h; have := HO.out.size; omega
          have htx := HTX.out.only (((only_new w2 _).mono (G := fun k => ao = some ⟨k, 0, none⟩) (fun _ _ e => e.elim)).trans HO9.out (fun _ _ e => e)) (fun e => by have := HAO.out _ e; have := HBL.out; omega)
          refine ⟨a' + 1 + 1, cp', n + 1, ao', acc ++ [34], rfl, by have := HN.out; simp only [List.length_append, List.length_cons, List.length_nil]; omega, hg9, hao', htx, ?_, by rw [List.length_append]; simp only [List.length_cons, List.length_nil]; have := HAL.out; omega, HO.out.trans ho9 (fun k hk e => by rcases e with e | e; exact e; have := HAO.out k e; omega)⟩
          exact HRX.out
        case measure =>
          have e1 := (HTX.out.only (((only_new w2 _).mono (G := fun k => ao = some ⟨k, 0, none⟩) (fun _ _ e => e.elim)).trans HO9.out (fun _ _ e => e)) (fun e => by have := HAO.out _ e; have := HBL.out; omega)).atOf
          have e2 := HM.out
          have e3 := HLT.out
          rw [e1, e2]; omega
      have HE := hid (eat_no HTX.out 34 g34)
      have HU3 := HUN2.out
      rw [if_neg g34] at HU3
      have HUN3 := hid HU3
      clear HU3 g34 HUN2
      by_cases g92 : s[a' + 1]? = some 92
      · have HR1 := HUN3.out
        rw [if_pos g92, List.drop_drop] at HR1
        have HRX := hid HR1
        have HE92 := fun w2 (h2 : TAt w2 b s (a' + 1) dp) => hid (eat_yes (w := w2) h2 92 g92)
        clear HR1 g92
        go_wp2_with fail
        refine HE.out.mono ?_
        rintro e w2 ⟨rfl, ht2, ho2⟩
        have HE2 := HE92 w2 ht2
        have HOX := hid (HOX.out.trans (ho2.mono (fun _ _ e => e.elim)) (fun _ _ e => e))
        clear ht2 ho2 d0 d1 d2 dz hlbx HE HE92
        go_wp2_with fail
        refine HE2.out.mono ?_
        rintro e w3 ⟨rfl, ht3, ho3⟩
        have HTX := hid ht3
        have HOX := hid (HOX.out.trans ho3 (fun _ _ e => e))
        have HGX := hid (HGR.out.only HOX.out (fun g hg e => by have := HAO.out g hg; have := HBL.out; omega))
        clear ht3 ho3 HE2
        go_wp2_with (refine wpList_gr (o := ⟨some 65, _, _, _, _, _⟩) rfl el8 (.tmp 63) (.tmp 64) rfl (HGX.out.only (only_new w3 _) (fun _ _ e => e)) rfl (some ⟨w3.heap.size, 0, none⟩) 1 1 rfl (bytesV [92]) (SrcG.new (T := 5) (fr := (0, 0)) (by rw [blk_new]; rfl) (by simp) (oneCell_bytesV _)) (by omega) (by omega) ?_; intro ao' cp' w9 hg9 ha9 ho9; have HG9 := hid hg9; have HA9 := hid ha9; have HO9 := hid ho9; clear hg9 ha9 ho9)
        go_roundw
        case rel =>
          have hg9 := HG9.out
          rw [← bytesV_append] at hg9
          have hsz := HOX.out.size
          have ho9 : Only (fun k => k = b ∨ ao = some ⟨k, 0, none⟩) wr w9 := (HOX.out.mono (fun _ _ e => .inl e)).trans (((only_new w3 _).mono (fun _ _ e => e.elim)).trans HO9.out (fun _ _ e => .inr e)) (fun _ _ e => e)
          have hao' : ∀ q, ao' = some ⟨q, 0, none⟩ → w.heap.size ≤ q := fun q hq => by
            rcases HA9.out with h | h
            · exact HAO.out q (by rw [← h]; exact hq)
            · rw [hq] at h; simp only [Option.some.injEq, Addr.mk.injEq, and_true, World.size_alloc] at h; have := HO.out.size; omega
          have htx := HTX.out.only (((only_new w3 _).mono (G := fun k => ao = some ⟨k, 0, none⟩) (fun _ _ e => e.elim)).trans HO9.out (fun _ _ e => e)) (fun e => by have := HAO.out _ e; have := HBL.out; omega)
          refine ⟨a' + 1 + 1, cp', n + 1, ao', acc ++ [92], rfl, by have := HN.out; simp only [List.length_append, List.length_cons, List.length_nil]; omega, hg9, hao', htx, ?_, by rw [List.length_append]; simp only [List.length_cons, List.length_nil]; have := HAL.out; omega, HO.out.trans ho9 (fun k hk e => by rcases e with e | e; exact e; have := HAO.out k e; omega)⟩
          exact HRX.out
        case measure =>
          have e1 := (HTX.out.only (((only_new w3 _).mono (G := fun k => ao = some ⟨k, 0, none⟩) (fun _ _ e => e.elim)).trans HO9.out (fun _ _ e => e)) (fun e => by have := HAO.out _ e; have := HBL.out; omega)).atOf
          have e2 := HM.out
          have e3 := HLT.out
          rw [e1, e2]; omega
      have HE92 := fun w2 (h2 : TAt w2 b s (a' + 1) dp) => hid (eat_no (w := w2) h2 92 g92)
      have HU4 := HUN3.out
      rw [if_neg g92] at HU4
      have HUN4 := hid HU4
      clear HU4 g92 HUN3
      go_wp2_with fail
      refine HE.out.mono ?_
      rintro e w2 ⟨rfl, ht2, ho2⟩
      have HE2 := HE92 w2 ht2
      have HOX := hid (HOX.out.trans (ho2.mono (fun _ _ e => e.elim)) (fun _ _ e => e))
      clear ht2 ho2 d0 d1 d2 dz hlbx HE HE92
      go_wp2_with fail
      refine HE2.out.mono ?_
      rintro e w3 ⟨rfl, ht3, ho3⟩
      have HTX := hid ht3
      have HOX := hid (HOX.out.trans (ho3.mono (fun _ _ e => e.elim)) (fun _ _ e => e))
      clear ht3 ho3 HE2
      by_cases gx : s[a' + 1]? = some 120
      case neg =>
        have HEX := hid (eat_no HTX.out.drew 120 gx)
        have HR1 : Hid (none = R) := hid (by rw [← HUN4.out, if_neg (fun h => gx h.1)])
        clear gx
        go_wp2_with fail
        refine wp_region_head (n := 3) (by kernel_rfl) (by kernel_rfl) (by simp) (by kernel_rfl) ?_
        simp only [List.take, List.drop]
        refine head_val (.pointer (some ⟨b, 0, none⟩)) (by rfl) (by kernel_rfl) ?_
        refine head_call (by rfl) HEX.out (by kernel_rfl) ?_
        rintro w4 ⟨ht4, ho4⟩
        obtain ⟨d0, d1, d2, dz, hlbx⟩ := ht4.cells
        have HT4 := hid ht4; have HO4 := hid ho4
        clear ht4 ho4
        refine head_val (.bool false) (by rfl) (by kernel_rfl) ?_
        go_simp
        refine head_rest (fun RR hR => ?_)
        iterate 11 ((with_reducible refine wpQuiet_skip (by kernel_rfl) ?_); go_simp)
        repeat ((with_reducible refine wpQuiet_on (by kernel_rfl) (fun K hK => ?_)); go_simp; (with_reducible refine hK _ ?_); clear hK K)
        with_reducible refine wpQuiet_nil ?_
        refine hR _ (fun nq => ?_)
        clear hR
        have HTX := hid (HT4.out.same (only_drewN _ nq))
        have HOX := hid (HOX.out.trans (((Only.refl (fun _ => False) w3).drew.trans HO4.out (fun _ _ e => e)).mono (fun _ _ e => e.elim)) (fun _ _ e => e))
        have HOX := hid (HOX.out.trans ((only_drewN w4 nq).mono (fun _ _ e => e.elim)) (fun _ _ e => e))
        go_wp2_with fail
        go_ret2
        unfold QuoA
        rw [← HR1.out]
        exact ⟨⟨_, rfl, HTX.out⟩, HO.out.trans HOX.out (fun _ _ e => e)⟩
      obtain ⟨p, hp⟩ : ∃ p, a' + 1 + 1 = p := ⟨_, rfl⟩
      have HP := hid hp
      have HEX := hid (eat_yes HTX.out.drew 120 gx)
      rw [hp] at HEX
      have HGG := hid gx
      have hp2 : p ≤ s.length := by rw [← hp]; rcases Nat.lt_or_ge (a' + 1) s.length with g | g; omega; rw [List.getElem?_eq_none g] at gx; cases gx
      have hss : (strOf s).size = s.length := rfl
      have hpl : (p : Int) + 2 ≤ 9223372036854775807 := by omega
      clear gx hp
      by_cases gl : p + 2 ≤ s.length
      case neg =>
        have gl1 : ¬ p + 2 ≤ (strOf s).size := by omega
        have gl2 : ¬ (p : Int) + 2 ≤ (strOf s).size := by omega
        have HR1 : Hid (none = R) := hid (by rw [← HUN4.out, if_neg (fun h => by have := h.2; rw [List.length_drop] at this; have := HP.out; omega)])
        have hwr : IntKind.i64.wrap ((p : Int) + 2) = (p : Int) + 2 := IntWalk.i64_in _ (by omega)
        clear gl hss
        go_wp2_with fail
        refine wp_region_head (n := 3) (by kernel_rfl) (by kernel_rfl) (by simp) (by kernel_rfl) ?_
        simp only [List.take, List.drop]
        refine head_val (.pointer (some ⟨b, 0, none⟩)) (by rfl) (by kernel_rfl) ?_
        refine head_call (by rfl) HEX.out (by kernel_rfl) ?_
        rintro w4 ⟨ht4, ho4⟩
        obtain ⟨d0, d1, d2, dz, hlbx⟩ := ht4.cells
        have HT4 := hid ht4; have HO4 := hid ho4
        clear ht4 ho4
        refine head_val (.bool true) (by rfl) (by kernel_rfl) ?_
        go_simp
        refine head_rest (fun RR hR => ?_)
        repeat ((with_reducible refine wpQuiet_on (by kernel_rfl) (fun K hK => ?_)); go_simp; (with_reducible refine hK _ ?_); clear hK K)
        with_reducible refine wpQuiet_nil ?_
        refine hR _ (fun nq => ?_)
        clear hR hwr
        have hdc : decide ((p : Int) + 2 ≤ ((strOf s).size : Int)) = false := decide_eq_false (by omega)
        simp only [hdc]
        clear gl1 gl2 hpl hp2 hdc
        have HTX := hid (HT4.out.same (only_drewN _ nq))
        have HOX := hid (HOX.out.trans (((Only.refl (fun _ => False) w3).drew.mono (fun _ _ e => e.elim)).trans HO4.out (fun _ _ e => e)) (fun _ _ e => e))
        have HOX := hid (HOX.out.trans ((only_drewN w4 nq).mono (fun _ _ e => e.elim)) (fun _ _ e => e))
        go_wp2_with fail
        go_ret2
        unfold QuoA
        rw [← HR1.out]
        exact ⟨⟨_, rfl, HTX.out⟩, HO.out.trans HOX.out (fun _ _ e => e)⟩
      have gl1 : p + 2 ≤ (strOf s).size := by omega
      have gl2 : (p : Int) + 2 ≤ (strOf s).size := by omega
      have HGL := hid gl
      have HU5 := HUN4.out
      rw [if_pos ⟨HGG.out, by rw [List.length_drop]; have := HP.out; omega⟩] at HU5
      have HUN5 := hid HU5
      clear gl HU5 HUN4
      obtain ⟨x, hx⟩ : ∃ x, s[p]? = some x := ⟨_, List.getElem?_eq_getElem (by omega)⟩
      obtain ⟨y, hy⟩ : ∃ y, s[p + 1]? = some y := ⟨_, List.getElem?_eq_getElem (by omega)⟩
      have hpx : p < (strOf s).size := by omega
      have hpy : p + 1 < (strOf s).size := by omega
      have hvx : ((((strOf s)[p]'hpx).toNat : Nat) : Int) = x.toNat := by rw [strOf_at hx]
      have hvy : ((((strOf s)[p + 1]'hpy).toNat : Nat) : Int) = y.toNat := by rw [strOf_at hy]
      have HDX := hid (fun w => digit_c (w := w) x)
      have HDY := hid (fun w => digit_c (w := w) y)
      have HU6 := HUN5.out
      rw [show a' + 1 + 1 = p from HP.out, hx, show a' + 1 + 2 = p + 1 by have := HP.out; omega, hy] at HU6
      have HUN6 := hid HU6
      have hwr : IntKind.i64.wrap ((p : Int) + 2) = (p : Int) + 2 := IntWalk.i64_in _ (by omega)
      clear HU6 HUN5 hx hy hss
      go_wp2_with fail
      refine wp_region_head (n := 3) (by kernel_rfl) (by kernel_rfl) (by simp) (by kernel_rfl) ?_
      simp only [List.take, List.drop]
      refine head_val (.pointer (some ⟨b, 0, none⟩)) (by rfl) (by kernel_rfl) ?_
      refine head_call (by rfl) HEX.out (by kernel_rfl) ?_
      rintro w4 ⟨ht4, ho4⟩
      obtain ⟨d0, d1, d2, dz, hlbx⟩ := ht4.cells
      have HT4 := hid ht4; have HO4 := hid ho4
      clear ht4 ho4
      refine head_val (.bool true) (by rfl) (by kernel_rfl) ?_
      go_simp
      refine head_rest (fun RR hR => ?_)
      repeat ((with_reducible refine wpQuiet_on (by kernel_rfl) (fun K hK => ?_)); go_simp; (with_reducible refine hK _ ?_); clear hK K)
      with_reducible refine wpQuiet_nil ?_
      refine hR _ (fun nq => ?_)
      clear hR
      have HTX := hid (HT4.out.same (only_drewN _ nq))
      have HOX := hid (HOX.out.trans (((Only.refl (fun _ => False) w3).drew.mono (fun _ _ e => e.elim)).trans HO4.out (fun _ _ e => e)) (fun _ _ e => e))
      have HOX := hid (HOX.out.trans ((only_drewN w4 nq).mono (fun _ _ e => e.elim)) (fun _ _ e => e))
      obtain ⟨w5, hw5⟩ : ∃ w5, w4.drewN nq = w5 := ⟨_, rfl⟩
      rw [hw5] at HTX HOX ⊢
      clear d0 d1 d2 dz hlbx hw5 hwr hpl
      obtain ⟨d0, d1, d2, dz, hlbx⟩ := HTX.out.cells
      have hdc : decide ((p : Int) + 2 ≤ ((strOf s).size : Int)) = true := decide_eq_true gl2
      try simp only [hdc]
      clear gl1 gl2 hdc
      have hpxi : (p : Int) < (strOf s).size := by omega
      have hpyi : (p : Int) + 1 < (strOf s).size := by omega
      have hpyt : ((p : Int) + 1).toNat = p + 1 := by omega
      have hpy0 : (0 : Int) ≤ (p : Int) + 1 := by omega
      have hwq : IntKind.i64.wrap ((p : Int) + 1) = (p : Int) + 1 := IntWalk.i64_in _ (by omega)
      go_upto_region 17 with fail
      have HDXN : Hid (∀ n, Calls Tryz.prog 59 #[.int .u8 x.toNat] (w5.drewN n) fun e w' => e = .returned (.int .i64 (dgI x)) ∧ w' = w5.drewN n) := hid (fun n => (HDX.out _).mono fun e w' h => ⟨h.1, h.2.symm⟩)
      have HDYN : Hid (∀ n, Calls Tryz.prog 59 #[.int .u8 y.toNat] (w5.drewN n) fun e w' => e = .returned (.int .i64 (dgI y)) ∧ w' = w5.drewN n) := hid (fun n => (HDY.out _).mono fun e w' h => ⟨h.1, h.2.symm⟩)
      go_quiet ((first | (with_reducible exact Calls.quiet_of_same (HDXN.out _)) | (with_reducible exact Calls.quiet_of_same (HDYN.out _))))
      have HTX := hid (HTX.out.same (only_drewN _ nq))
      have HOX := hid (HOX.out.trans ((only_drewN w5 nq).mono (fun _ _ e => e.elim)) (fun _ _ e => e))
      obtain ⟨w6, hw6⟩ : ∃ w6, w5.drewN nq = w6 := ⟨_, rfl⟩
      rw [hw6] at HTX HOX ⊢
      clear d0 d1 d2 dz hlbx hw6 hwq hpxi hpyi hpyt hpy0 hvx hvy hpx hpy HDX HDY HDXN HDYN
      obtain ⟨d0, d1, d2, dz, hlbx⟩ := HTX.out.cells
      obtain ⟨bx1, bx2⟩ := dgI_bd x
      obtain ⟨by1, by2⟩ := dgI_bd y
      have HU7 := HUN6.out
      obtain ⟨tw, htw⟩ : ∃ t, twoH (some x) (some y) = t := ⟨_, rfl⟩
      rw [htw] at HU7
      have HUN7 := hid HU7
      rw [twoH_I] at htw
      have HTW := hid htw
      clear HU7 HUN6 htw
      obtain ⟨dx, hdx⟩ : ∃ d, dgI x = d := ⟨_, rfl⟩
      obtain ⟨dy, hdy⟩ : ∃ d, dgI y = d := ⟨_, rfl⟩
      rw [hdx] at bx1 bx2 HTW ⊢
      rw [hdy] at by1 by2 HTW ⊢
      clear hdx hdy
      have hp2l := HGL.out
      have hpi : (p : Int) ≤ 1000000000 := by omega
      have hts : TAt (w6.setCell ⟨b, 1, none⟩ (.int .i64 ((p : Int) + 2))) b s (p + 2) dp := HTX.out.set0 (p + 2) hp2l
      have hos : Only (fun k => k = b) wr (w6.setCell ⟨b, 1, none⟩ (.int .i64 ((p : Int) + 2))) := HOX.out.trans (only_set _ _ _) (fun _ _ e => e)
      have HTS := hid hts; have HOS := hid hos
      clear hts hos hp2l
      by_cases hx0 : dx < 0
      · have HR1 : Hid (none = R) := by
          have h := HUN7.out
          have e : tw = none := by rw [← HTW.out, if_pos (.inl hx0)]
          rw [e] at h
          exact hid h
        go_upto_region 20 with fail
        have HTX := HTS; have HOX := HOS
        generalize World.setCell w6 _ _ = w7 at HTX HOX ⊢
        go_wp2_with fail
        go_ret2
        unfold QuoA
        rw [← HR1.out]
        exact ⟨⟨_, rfl, HTX.out⟩, HO.out.trans HOX.out (fun _ _ e => e)⟩
      by_cases hy0 : dy < 0
      · have HR1 : Hid (none = R) := by
          have h := HUN7.out
          have e : tw = none := by rw [← HTW.out, if_pos (.inr hy0)]
          rw [e] at h
          exact hid h
        go_upto_region 20 with fail
        have HTX := HTS; have HOX := HOS
        generalize World.setCell w6 _ _ = w7 at HTX HOX ⊢
        go_wp2_with fail
        go_ret2
        unfold QuoA
        rw [← HR1.out]
        exact ⟨⟨_, rfl, HTX.out⟩, HO.out.trans HOX.out (fun _ _ e => e)⟩
      obtain ⟨v, hv⟩ : ∃ v : Nat, 16 * dx + dy = v := ⟨(16 * dx + dy).toNat, by omega⟩
      have hvl : v < 256 := by omega
      have hwk : IntKind.u8.wrap (16 * dx + dy) = (v : Int) := by rw [IntKind.wrap_u8]; omega
      have HVN : Hid (16 * dx.toNat + dy.toNat = v) := hid (by omega)
      have HU8 := HTW.out
      rw [if_neg (by omega), HVN.out] at HU8
      have HUN8 := hid HU8
      clear HU8 HTW hv
      by_cases hpl1 : (32 : Int) ≤ v ∧ (v : Int) ≤ 126
      · obtain ⟨hv1, hv2⟩ := hpl1
        have HR1 : Hid (none = R) := by
          have h := HUN7.out
          have e : tw = none := by rw [← HUN8.out, if_pos ⟨by omega, by omega⟩]
          rw [e] at h
          exact hid h
        go_upto_region 20 with fail
        have HTX := HTS; have HOX := HOS
        generalize World.setCell w6 _ _ = w7 at HTX HOX ⊢
        go_wp2_with fail
        go_ret2
        unfold QuoA
        rw [← HR1.out]
        exact ⟨⟨_, rfl, HTX.out⟩, HO.out.trans HOX.out (fun _ _ e => e)⟩
      have HRX : Hid (unq (acc ++ [UInt8.ofNat v]) (s.drop (p + 2)) = R) := hid (by
        have h := HUN7.out
        have e : tw = some (UInt8.ofNat v) := by rw [← HUN8.out, if_neg (by omega)]
        rw [e] at h
        simp only [List.drop_drop] at h
        rw [show a' + 1 + 3 = p + 2 by have := HP.out; omega] at h
        exact h)
      clear HUN8 HUN7
      have HVL := hid hvl
      by_cases hv1 : (v : Int) < 32
      · have hv2 : ¬ (126 : Int) < v := by omega
        clear hpl1
        go_upto_region 20 with fail
        have HTX := HTS; have HOX := HOS
        generalize World.setCell w6 _ _ = w7 at HTX HOX ⊢
        clear d0 d1 d2 dz hlbx
        have HGX := hid (HGR.out.only HOX.out (fun g hg e => by have := HAO.out g hg; have := HBL.out; omega))
        go_wp2_with (refine wpList_gr (o := ⟨some 132, _, _, _, _, _⟩) rfl el8 (.tmp 129) (.tmp 131) rfl (HGX.out.only (only_new w7 _) (fun _ _ e => e)) rfl (some ⟨w7.heap.size, 0, none⟩) 1 1 rfl (bytesV [UInt8.ofNat v]) (SrcG.new (T := 5) (fr := (0, 0)) (by rw [blk_new]; simp [bytesV]; have := HVL.out; omega) (by simp) (oneCell_bytesV _)) (by omega) (by omega) ?_; intro ao' cp' w9 hg9 ha9 ho9; have HG9 := hid hg9; have HA9 := hid ha9; have HO9 := hid ho9; clear hg9 ha9 ho9)
        go_roundw
        case rel =>
          have hg9 := HG9.out
          rw [← bytesV_append] at hg9
          have hsz := HOX.out.size; have hP9 := HP.out
          have ho9 : Only (fun k => k = b ∨ ao = some ⟨k, 0, none⟩) wr w9 := (HOX.out.mono (fun _ _ e => .inl e)).trans (((only_new w7 _).mono (fun _ _ e => e.elim)).trans HO9.out (fun _ _ e => .inr e)) (fun _ _ e => e)
          have hao' : ∀ q, ao' = some ⟨q, 0, none⟩ → w.heap.size ≤ q := fun q hq => by
            rcases HA9.out with h | h
            · exact HAO.out q (by rw [← h]; exact hq)
            · rw [hq] at h; simp only [Option.some.injEq, Addr.mk.injEq, and_true, World.size_alloc] at h; have := HO.out.size; omega
          have htx := HTX.out.only (((only_new w7 _).mono (G := fun k => ao = some ⟨k, 0, none⟩) (fun _ _ e => e.elim)).trans HO9.out (fun _ _ e => e)) (fun e => by have := HAO.out _ e; have := HBL.out; omega)
          refine ⟨p + 2, cp', n + 1, ao', acc ++ [UInt8.ofNat v], rfl, by have := HN.out; simp only [List.length_append, List.length_cons, List.length_nil]; omega, hg9, hao', htx, ?_, by rw [List.length_append]; simp only [List.length_cons, List.length_nil]; have := HAL.out; omega, HO.out.trans ho9 (fun k hk e => by rcases e with e | e; exact e; have := HAO.out k e; omega)⟩
          exact HRX.out
        case measure =>
          have e1 := (HTX.out.only (((only_new w7 _).mono (G := fun k => ao = some ⟨k, 0, none⟩) (fun _ _ e => e.elim)).trans HO9.out (fun _ _ e => e)) (fun e => by have := HAO.out _ e; have := HBL.out; omega)).atOf
          have e2 := HM.out
          have e3 := HLT.out; have hP9 := HP.out
          rw [e1, e2]; omega
      · have hv2 : (126 : Int) < v := by omega
        clear hpl1
        go_upto_region 20 with fail
        have HTX := HTS; have HOX := HOS
        generalize World.setCell w6 _ _ = w7 at HTX HOX ⊢
        clear d0 d1 d2 dz hlbx
        have HGX := hid (HGR.out.only HOX.out (fun g hg e => by have := HAO.out g hg; have := HBL.out; omega))
        go_wp2_with (refine wpList_gr (o := ⟨some 132, _, _, _, _, _⟩) rfl el8 (.tmp 129) (.tmp 131) rfl (HGX.out.only (only_new w7 _) (fun _ _ e => e)) rfl (some ⟨w7.heap.size, 0, none⟩) 1 1 rfl (bytesV [UInt8.ofNat v]) (SrcG.new (T := 5) (fr := (0, 0)) (by rw [blk_new]; simp [bytesV]; have := HVL.out; omega) (by simp) (oneCell_bytesV _)) (by omega) (by omega) ?_; intro ao' cp' w9 hg9 ha9 ho9; have HG9 := hid hg9; have HA9 := hid ha9; have HO9 := hid ho9; clear hg9 ha9 ho9)
        go_roundw
        case rel =>
          have hg9 := HG9.out
          rw [← bytesV_append] at hg9
          have hsz := HOX.out.size; have hP9 := HP.out
          have ho9 : Only (fun k => k = b ∨ ao = some ⟨k, 0, none⟩) wr w9 := (HOX.out.mono (fun _ _ e => .inl e)).trans (((only_new w7 _).mono (fun _ _ e => e.elim)).trans HO9.out (fun _ _ e => .inr e)) (fun _ _ e => e)
          have hao' : ∀ q, ao' = some ⟨q, 0, none⟩ → w.heap.size ≤ q := fun q hq => by
            rcases HA9.out with h | h
            · exact HAO.out q (by rw [← h]; exact hq)
            · rw [hq] at h; simp only [Option.some.injEq, Addr.mk.injEq, and_true, World.size_alloc] at h; have := HO.out.size; omega
          have htx := HTX.out.only (((only_new w7 _).mono (G := fun k => ao = some ⟨k, 0, none⟩) (fun _ _ e => e.elim)).trans HO9.out (fun _ _ e => e)) (fun e => by have := HAO.out _ e; have := HBL.out; omega)
          refine ⟨p + 2, cp', n + 1, ao', acc ++ [UInt8.ofNat v], rfl, by have := HN.out; simp only [List.length_append, List.length_cons, List.length_nil]; omega, hg9, hao', htx, ?_, by rw [List.length_append]; simp only [List.length_cons, List.length_nil]; have := HAL.out; omega, HO.out.trans ho9 (fun k hk e => by rcases e with e | e; exact e; have := HAO.out k e; omega)⟩
          exact HRX.out
        case measure =>
          have e1 := (HTX.out.only (((only_new w7 _).mono (G := fun k => ao = some ⟨k, 0, none⟩) (fun _ _ e => e.elim)).trans HO9.out (fun _ _ e => e)) (fun e => by have := HAO.out _ e; have := HBL.out; omega)).atOf
          have e2 := HM.out
          have e3 := HLT.out; have hP9 := HP.out
          rw [e1, e2]; omega
    · have hr2 : R = none := by rw [← hr, List.drop_eq_nil_of_le (by omega), unq]
      have hai : ¬ a' < (strOf s).size := by omega
      have HR1 := hid hr2
      clear hgr hao ht hr ho hn hal hss hlt hr2
      go_wp2_with fail
      go_quiet (fail)
      go_wp2_with fail
      go_ret2
      unfold QuoA
      rw [HR1.out]
      exact ⟨⟨_, rfl, HT.out.same (only_drewN _ _)⟩, HO.out.trans ((only_drewN _ _).mono (fun _ _ e => e.elim)) (fun _ _ e => e)⟩
end
end Go.Proofs.YtokefeemhgcmhaaGreatDoor

