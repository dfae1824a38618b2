/- event.Task, Closes, Outside. A history: events in a chain, how it grows, what a change does to its sum. Plain but for the events' kinds. event.Link: the chain's sum behind an event. -/
import Derived.Test.YtnoopajedgllhaaEvA
import Derived.Test.YtnoopajedgllhaaSha
import Derived.Test.YtnoopajedgllhaaEvL
import Derived.Test.YtnoopajedgllhaaEvD
import Derived.Test.YtnoopajedgllhaaShaI
namespace Go.Proofs.Ytnoopajedgllhaa
open Go.RowKit
def taskB (k : Int) : Bool := k == 2 || k == 3 || k == 5 || k == 6
def closesB (k : Int) : Bool := decide (16 ≤ k ∧ k ≤ 21)
def outsideB (k : Int) : Bool := k == 8 || k == 9 || k == 10 || k == 12 || k == 14 || k == 15 || k == 19 || k == 20 || k == 1
section
variable {w : World} {G : Nat → Prop} {e : EM} {cs : List Value}
set_option maxRecDepth 100000 in
theorem outside_c (hE : EAt w G e cs) : Calls Try.prog 51 #[.agg cs.toArray] w fun x w' => x = .returned (.bool (outsideB e.k)) ∧ Only (fun _ => False) w w' := by
  obtain ⟨vk, vn, vs, va, vm, vc, rfl, -⟩ := hE.form
  obtain ⟨id, tm, k, a, b, nn, tt, v⟩ := e
  have HO := hid (only_new w (.cells #[.int .i64 id, .int .i64 tm, .int .i64 k, .int .i64 a, .int .i64 b, .string (strOf nn), .string (strOf tt), .int .i64 vk, .int .i64 vn, .string (strOf vs), .slice va vm vc] 44))
  clear hE
  simp only
  by_cases h8 : k = 8
  · subst h8
    have HF : Hid (outsideB 8 = true) := hid rfl
    go_enter Try.func51, Try.ntmps51
    go_wp2_with fail
    go_ret
    rw [HF.out]; exact ⟨rfl, HO.out⟩
  have b8 : (k == 8) = false := by simpa using h8
  by_cases h9 : k = 9
  · subst h9
    have HF : Hid (outsideB 9 = true) := hid rfl
    go_enter Try.func51, Try.ntmps51
    go_wp2_with fail
    go_ret
    rw [HF.out]; exact ⟨rfl, HO.out⟩
  have b9 : (k == 9) = false := by simpa using h9
  by_cases h10 : k = 10
  · subst h10
    have HF : Hid (outsideB 10 = true) := hid rfl
    go_enter Try.func51, Try.ntmps51
    go_wp2_with fail
    go_ret
    rw [HF.out]; exact ⟨rfl, HO.out⟩
  have b10 : (k == 10) = false := by simpa using h10
  by_cases h12 : k = 12
  · subst h12
    have HF : Hid (outsideB 12 = true) := hid rfl
    go_enter Try.func51, Try.ntmps51
    go_wp2_with fail
    go_ret
    rw [HF.out]; exact ⟨rfl, HO.out⟩
  have b12 : (k == 12) = false := by simpa using h12
  by_cases h14 : k = 14
  · subst h14
    have HF : Hid (outsideB 14 = true) := hid rfl
    go_enter Try.func51, Try.ntmps51
    go_wp2_with fail
    go_ret
    rw [HF.out]; exact ⟨rfl, HO.out⟩
  have b14 : (k == 14) = false := by simpa using h14
  by_cases h15 : k = 15
  · subst h15
    have HF : Hid (outsideB 15 = true) := hid rfl
    go_enter Try.func51, Try.ntmps51
    go_wp2_with fail
    go_ret
    rw [HF.out]; exact ⟨rfl, HO.out⟩
  have b15 : (k == 15) = false := by simpa using h15
  by_cases h19 : k = 19
  · subst h19
    have HF : Hid (outsideB 19 = true) := hid rfl
    go_enter Try.func51, Try.ntmps51
    go_wp2_with fail
    go_ret
    rw [HF.out]; exact ⟨rfl, HO.out⟩
  have b19 : (k == 19) = false := by simpa using h19
  by_cases h20 : k = 20
  · subst h20
    have HF : Hid (outsideB 20 = true) := hid rfl
    go_enter Try.func51, Try.ntmps51
    go_wp2_with fail
    go_ret
    rw [HF.out]; exact ⟨rfl, HO.out⟩
  have b20 : (k == 20) = false := by simpa using h20
  by_cases h1 : k = 1
  · subst h1
    have HF : Hid (outsideB 1 = true) := hid rfl
    go_enter Try.func51, Try.ntmps51
    go_wp2_with fail
    go_ret
    rw [HF.out]; exact ⟨rfl, HO.out⟩
  have b1 : (k == 1) = false := by simpa using h1
  have HF : Hid (outsideB k = false) := hid (by unfold outsideB; simp [h8, h9, h10, h12, h14, h15, h19, h20, h1])
  clear h8 h9 h10 h12 h14 h15 h19 h20 h1
  go_enter Try.func51, Try.ntmps51
  go_wp2_with fail
  go_ret
  rw [HF.out]; exact ⟨rfl, HO.out⟩
set_option maxRecDepth 100000 in
theorem closes_c (hE : EAt w G e cs) : Calls Try.prog 33 #[.agg cs.toArray] w fun x w' => x = .returned (.bool (closesB e.k)) ∧ Only (fun _ => False) w w' := by
  obtain ⟨vk, vn, vs, va, vm, vc, rfl, -⟩ := hE.form
  obtain ⟨id, tm, k, a, b, nn, tt, v⟩ := e
  have HO := hid (only_new w (.cells #[.int .i64 id, .int .i64 tm, .int .i64 k, .int .i64 a, .int .i64 b, .string (strOf nn), .string (strOf tt), .int .i64 vk, .int .i64 vn, .string (strOf vs), .slice va vm vc] 44))
  clear hE
  simp only
  by_cases h1 : 16 ≤ k
  · by_cases h2 : k ≤ 21
    · have HF : Hid (closesB k = true) := hid (decide_eq_true ⟨h1, h2⟩)
      go_enter Try.func33, Try.ntmps33
      go_wp2_with fail
      go_ret
      rw [HF.out]; exact ⟨rfl, HO.out⟩
    · have HF : Hid (closesB k = false) := hid (decide_eq_false (fun h => h2 h.2))
      go_enter Try.func33, Try.ntmps33
      go_wp2_with fail
      go_ret
      rw [HF.out]; exact ⟨rfl, HO.out⟩
  · have HF : Hid (closesB k = false) := hid (decide_eq_false (fun h => h1 h.1))
    go_enter Try.func33, Try.ntmps33
    go_wp2_with fail
    go_ret
    rw [HF.out]; exact ⟨rfl, HO.out⟩
end
end Go.Proofs.Ytnoopajedgllhaa
namespace Go.Proofs.Ytnoopajedgllhaa

theorem ewr_inj {e f : EM} (he : e.Good) (hf : f.Good) (re : e.rg) (rf : f.rg) (h : e.wr = f.wr) : e.cl = f.cl := by
  have h1 := ev_rt he re (r := RdM.of e.wr) (post := []) rfl (by simp [RdM.of, RdM.rest])
  have h2 := ev_rt hf rf (r := RdM.of f.wr) (post := []) rfl (by simp [RdM.of, RdM.rest])
  rw [← h] at h2
  exact congrArg Prod.fst (h1.symm.trans h2)
def link (s : List UInt8) (e : EM) : List UInt8 := sha (s ++ e.wr)
/-- The chain's sums behind each event; the last one. -/
def chainS (s : List UInt8) : List EM → List (List UInt8)
  | [] => []
  | e :: es => link s e :: chainS (link s e) es
def sumS (s : List UInt8) (es : List EM) : List UInt8 := es.foldl link s
/-- What is summed. -/
def textS (s : List UInt8) : List EM → List (List UInt8)
  | [] => []
  | e :: es => (s ++ e.wr) :: textS (link s e) es
theorem link_len (s : List UInt8) (e : EM) : (link s e).length = 32 := sha_len _
theorem link_cl (s : List UInt8) (e : EM) : link s e.cl = link s e := by unfold link; rw [ecl_wr]
theorem chainS_len : ∀ (s : List UInt8) (es : List EM), (chainS s es).length = es.length
  | _, [] => rfl
  | s, e :: es => by rw [chainS, List.length_cons, List.length_cons, chainS_len]
theorem sumS_app (s : List UInt8) (a b : List EM) : sumS s (a ++ b) = sumS (sumS s a) b := List.foldl_append
theorem chainS_app : ∀ (s : List UInt8) (a b : List EM), chainS s (a ++ b) = chainS s a ++ chainS (sumS s a) b
  | _, [], _ => rfl
  | s, e :: a, b => by rw [List.cons_append, chainS, chainS, List.cons_append, chainS_app]; rfl
theorem sumS_len {s : List UInt8} (h : s.length = 32) : ∀ es : List EM, (sumS s es).length = 32
  | [] => h
  | e :: es => by show (sumS (link s e) es).length = 32; exact sumS_len (link_len _ _) es
theorem chainS_32 : ∀ (s : List UInt8) (es : List EM), ∀ x ∈ chainS s es, x.length = 32
  | _, [], x, h => by simp [chainS] at h
  | s, e :: es, x, h => by
    rw [chainS] at h
    rcases List.mem_cons.1 h with rfl | h
    · exact link_len _ _
    · exact chainS_32 _ es x h
theorem chainS_get : ∀ (s : List UInt8) (es : List EM) (i : Nat), i < es.length → (chainS s es)[i]? = some (sumS s (es.take (i + 1)))
  | _, [], i, h => by simp at h
  | s, e :: es, 0, _ => by rw [chainS]; simp [sumS]
  | s, e :: es, i + 1, h => by
    rw [chainS, List.getElem?_cons_succ, chainS_get (link s e) es i (by simpa using h)]; rfl
theorem chainS_take : ∀ (s : List UInt8) (es : List EM) (n : Nat), chainS s (es.take n) = (chainS s es).take n
  | _, [], n => by simp [chainS]
  | s, e :: es, 0 => by simp [chainS]
  | s, e :: es, n + 1 => by rw [List.take_succ_cons, chainS, chainS, List.take_succ_cons, chainS_take]
theorem chainS_last {s : List UInt8} {es : List EM} (h : es ≠ []) : (chainS s es)[es.length - 1]? = some (sumS s es) := by
  have hl := List.length_pos_iff.2 h
  rw [chainS_get s es _ (by omega), show es.length - 1 + 1 = es.length from by omega, List.take_length]
theorem chainS_snoc (s : List UInt8) (es : List EM) (e : EM) : chainS s (es ++ [e]) = chainS s es ++ [link (sumS s es) e] := by rw [chainS_app]; rfl
theorem sumS_snoc (s : List UInt8) (es : List EM) (e : EM) : sumS s (es ++ [e]) = link (sumS s es) e := by rw [sumS_app]; rfl
theorem append_ne {s t x y : List UInt8} (h : s.length = t.length) (hn : s ≠ t ∨ x ≠ y) : s ++ x ≠ t ++ y := fun e => by
  obtain ⟨h1, h2⟩ := List.append_inj e h
  rcases hn with hn | hn
  · exact hn h1
  · exact hn h2
/-- Two chains of one length with one last sum that aren't the same: two unlike texts have one sum. -/
theorem clash_same : ∀ (a b : List EM) (s t : List UInt8), s.length = 32 → t.length = 32 → a.length = b.length → sumS s a = sumS t b → (s ≠ t ∨ a.map EM.wr ≠ b.map EM.wr) →
    ∃ x ∈ textS s a, ∃ y ∈ textS t b, x ≠ y ∧ sha x = sha y
  | [], [], s, t, _, _, _, h, hn => by
    rcases hn with hn | hn
    · exact absurd h hn
    · exact absurd rfl hn
  | [], _ :: _, _, _, _, _, hl, _, _ => by simp at hl
  | _ :: _, [], _, _, _, _, hl, _, _ => by simp at hl
  | e :: a, f :: b, s, t, hs, ht, hl, h, hn => by
    have h' : sumS (link s e) a = sumS (link t f) b := h
    by_cases g : link s e ≠ link t f ∨ a.map EM.wr ≠ b.map EM.wr
    · obtain ⟨x, hx, y, hy, h1, h2⟩ := clash_same a b (link s e) (link t f) (link_len _ _) (link_len _ _) (by simpa using hl) h' g
      exact ⟨x, List.mem_cons_of_mem _ hx, y, List.mem_cons_of_mem _ hy, h1, h2⟩
    · simp only [not_or, Decidable.not_not] at g
      refine ⟨s ++ e.wr, List.mem_cons_self, t ++ f.wr, List.mem_cons_self, append_ne (by rw [hs, ht]) ?_, g.1⟩
      rcases hn with hn | hn
      · exact .inl hn
      · right
        intro hw
        exact hn (by rw [List.map_cons, List.map_cons, hw, g.2])
theorem textS_get : ∀ (s : List UInt8) (es : List EM) (i : Nat) (e : EM), es[i]? = some e → (textS s es)[i]? = some (sumS s (es.take i) ++ e.wr)
  | _, [], i, e, h => by simp at h
  | s, x :: es, 0, e, h => by
    simp only [List.getElem?_cons_zero, Option.some.injEq] at h
    subst h; rw [textS]; rfl
  | s, x :: es, i + 1, e, h => by
    rw [List.getElem?_cons_succ] at h
    rw [textS, List.getElem?_cons_succ, textS_get (link s x) es i e h]; rfl
/-- A chain that ends with a sum that it had before: two unlike texts have one sum. -/
theorem clash_short {es : List EM} {s : List UInt8} (hs : s.length = 32) {k : Nat} (hk : 0 < k) (hkn : k < es.length) (hw : ∀ (i j : Nat) (e f : EM), es[i]? = some e → es[j]? = some f → i ≠ j → e.wr ≠ f.wr) (h : sumS s es = sumS s (es.take k)) :
    ∃ x ∈ textS s es, ∃ y ∈ textS s es, x ≠ y ∧ sha x = sha y := by
  obtain ⟨e, he⟩ : ∃ e, es[es.length - 1]? = some e := ⟨_, List.getElem?_eq_getElem (by omega)⟩
  obtain ⟨f, hf⟩ : ∃ f, es[k - 1]? = some f := ⟨_, List.getElem?_eq_getElem (by omega)⟩
  have h1 := textS_get s es _ e he
  have h2 := textS_get s es _ f hf
  have e1 : es = es.take (es.length - 1) ++ [e] := by
    have := List.take_add_one (l := es) (i := es.length - 1)
    rw [he, show es.length - 1 + 1 = es.length from by omega, List.take_length] at this
    exact this
  have e2 : es.take k = es.take (k - 1) ++ [f] := by
    have := List.take_add_one (l := es) (i := k - 1)
    rw [hf, show k - 1 + 1 = k from by omega] at this
    exact this
  have s1 : sumS s es = sha (sumS s (es.take (es.length - 1)) ++ e.wr) := by
    conv => lhs; rw [e1]
    rw [sumS_snoc]; rfl
  have s2 : sumS s (es.take k) = sha (sumS s (es.take (k - 1)) ++ f.wr) := by rw [e2, sumS_snoc]; rfl
  refine ⟨_, List.mem_of_getElem? h1, _, List.mem_of_getElem? h2, append_ne (by rw [sumS_len hs, sumS_len hs]) (.inr (hw _ _ _ _ he hf (by omega))), ?_⟩
  rw [← s1, ← s2]; exact h

/-- Events numbered on from so many. -/
def EM.nth (e : EM) (n : Nat) : EM := { e with id := (n + 1 : Nat) }
def numb (n : Nat) : List EM → List EM
  | [] => []
  | e :: l => (e.nth n).cl :: numb (n + 1) l
theorem numb_len : ∀ (n : Nat) (l : List EM), (numb n l).length = l.length
  | _, [] => rfl
  | n, e :: l => by rw [numb, List.length_cons, List.length_cons, numb_len]
theorem numb_get : ∀ (n : Nat) (l : List EM) (i : Nat) (e : EM), l[i]? = some e → (numb n l)[i]? = some (e.nth (n + i)).cl
  | _, [], i, e, h => by simp at h
  | n, x :: l, 0, e, h => by
    simp only [List.getElem?_cons_zero, Option.some.injEq] at h
    subst h; rw [numb]; rfl
  | n, x :: l, i + 1, e, h => by
    rw [List.getElem?_cons_succ] at h
    rw [numb, List.getElem?_cons_succ, numb_get (n + 1) l i e h, show n + 1 + i = n + (i + 1) from by omega]
theorem numb_take : ∀ (n : Nat) (l : List EM) (i : Nat), numb n (l.take i) = (numb n l).take i
  | n, [], i => by simp [numb]
  | n, e :: l, 0 => by simp [numb]
  | n, e :: l, i + 1 => by rw [List.take_succ_cons, numb, numb, List.take_succ_cons, numb_take]
theorem numb_take1 {n : Nat} {l : List EM} {i : Nat} {e : EM} (h : l[i]? = some e) : numb n (l.take (i + 1)) = numb n (l.take i) ++ [(e.nth (n + i)).cl] := by
  rw [numb_take, numb_take, List.take_add_one, numb_get n l i e h]; rfl
/-- The last tick of one that came from outside. -/
def lastT (t : Int) : List EM → Int
  | [] => t
  | e :: es => lastT (if outsideB e.k = true then e.tm else t) es
theorem lastT_app : ∀ (t : Int) (a b : List EM), lastT t (a ++ b) = lastT (lastT t a) b
  | _, [], _ => rfl
  | t, e :: a, b => by rw [List.cons_append, lastT, lastT, lastT_app]
def closedL (es : List EM) : Bool := match es.getLast? with | some e => closesB e.k | none => false
theorem closedL_snoc (es : List EM) (e : EM) : closedL (es ++ [e]) = closesB e.k := by unfold closedL; simp
/-- May events follow? -/
def hchk (closed : Bool) (n : Nat) (last : Int) : List EM → Int
  | [] => 0
  | e :: es =>
    if 4096 < n + 1 then 3
    else if e.id ≠ 0 ∧ e.id ≠ ((n + 1 : Nat) : Int) then 180
    else if (e.nth n).chk ≠ 0 then (e.nth n).chk
    else if closed = true then 181
    else if (n = 0 ∧ e.k ≠ 1) ∨ (n ≠ 0 ∧ e.k = 1) then 7
    else if outsideB e.k = true ∧ e.tm < last then 1
    else hchk (closesB e.k) (n + 1) (if outsideB e.k = true then e.tm else last) es
theorem hchk_good : ∀ {l : List EM} {c : Bool} {n : Nat} {t : Int}, hchk c n t l = 0 → ∀ (i : Nat) (e : EM), l[i]? = some e → (e.nth (n + i)).Good ∧ n + i < 4096
  | [], _, _, _, _, i, e, h => by simp at h
  | x :: l, c, n, t, h, i, e, hi => by
    rw [hchk] at h
    by_cases h1 : 4096 < n + 1
    · rw [if_pos h1] at h; simp at h
    rw [if_neg h1] at h
    by_cases h2 : x.id ≠ 0 ∧ x.id ≠ ((n + 1 : Nat) : Int)
    · rw [if_pos h2] at h; simp at h
    rw [if_neg h2] at h
    by_cases h3 : (x.nth n).chk ≠ 0
    · rw [if_pos h3] at h; exact absurd h h3
    rw [if_neg h3] at h
    by_cases h4 : c = true
    · rw [if_pos h4] at h; simp at h
    rw [if_neg h4] at h
    by_cases h5 : (n = 0 ∧ x.k ≠ 1) ∨ (n ≠ 0 ∧ x.k = 1)
    · rw [if_pos h5] at h; simp at h
    rw [if_neg h5] at h
    by_cases h6 : outsideB x.k = true ∧ x.tm < t
    · rw [if_pos h6] at h; simp at h
    rw [if_neg h6] at h
    cases i with
    | zero =>
      simp only [List.getElem?_cons_zero, Option.some.injEq] at hi
      subst hi
      exact ⟨chk_good (Decidable.not_not.1 h3), by omega⟩
    | succ i =>
      rw [List.getElem?_cons_succ] at hi
      have := hchk_good h i e hi
      rw [show n + 1 + i = n + (i + 1) from by omega] at this
      exact this
end Go.Proofs.Ytnoopajedgllhaa
namespace Go.Proofs.Ytnoopajedgllhaa
open Go.RowKit
section
variable {w : World} {G : Nat → Prop} {e : EM} {cs : List Value}
/-- What event.Link answers. -/
def linkR (s : List UInt8) (e : EM) : List UInt8 := if e.chk = 0 then link s e else List.replicate 32 0
theorem zero_sum : (byA st0 0) = (bytesV (List.replicate 32 0)).toArray := by kernel_rfl
set_option maxRecDepth 100000 in
set_option maxHeartbeats 3200000 in
theorem elink_c {s : List UInt8} (hs : s.length = 32) (hE : EAt w G e cs) (hG : ∀ k, G k → k < w.heap.size) (hg : e.rg) :
    Calls Try.prog 50 #[.agg (bytesV s).toArray, .agg cs.toArray] w fun x w' => x = .returned (.tuple #[.agg (bytesV (linkR s e)).toArray, .int .i64 e.chk]) ∧ Only (fun _ => False) w w' := by
  obtain ⟨vk, vn, vs, va, vm, vc, rfl, hV⟩ := hE.form
  obtain ⟨S, hS⟩ : ∃ x, (bytesV s).toArray = x := ⟨_, rfl⟩
  have hSs : S.size = 32 := by rw [← hS]; simp [hs]
  have hSl := (rfl : (bytesV s).toArray = (bytesV s).toArray)
  conv at hSl => lhs; rw [hS]
  rw [hS]
  have HSl := hid hSl; have HSs := hid hSs
  clear hS hSl hSs hV
  have ho := (((only_new w (.cells S 29)).trans (only_new _ (.cells #[.int .i64 e.id, .int .i64 e.tm, .int .i64 e.k, .int .i64 e.a, .int .i64 e.b, .string (strOf e.name), .string (strOf e.text), .int .i64 vk, .int .i64 vn, .string (strOf vs), .slice va vm vc] 44)) (fun _ _ e => e)).trans (only_new _ (.cells (byA st0 0) 29)) (fun _ _ e => e))
  obtain ⟨wk, hwk⟩ : ∃ wk, ((w.alloc (.cells S 29)).alloc (.cells #[.int .i64 e.id, .int .i64 e.tm, .int .i64 e.k, .int .i64 e.a, .int .i64 e.b, .string (strOf e.name), .string (strOf e.text), .int .i64 vk, .int .i64 vn, .string (strOf vs), .slice va vm vc] 44)).alloc (.cells (byA st0 0) 29) = wk := ⟨_, rfl⟩
  have h0 : wk.heap[w.heap.size]? = some (.cells S 29 (0, 0)) := by rw [← hwk]; exact blk_alloc (blk_alloc (blk_new w _))
  have h1 : wk.heap[w.heap.size + 1]? = some (.cells #[.int .i64 e.id, .int .i64 e.tm, .int .i64 e.k, .int .i64 e.a, .int .i64 e.b, .string (strOf e.name), .string (strOf e.text), .int .i64 vk, .int .i64 vn, .string (strOf vs), .slice va vm vc] 44 (0, 0)) := by rw [← hwk]; exact blk_alloc (by have := blk_new (w.alloc (.cells S 29)) (.cells #[.int .i64 e.id, .int .i64 e.tm, .int .i64 e.k, .int .i64 e.a, .int .i64 e.b, .string (strOf e.name), .string (strOf e.text), .int .i64 vk, .int .i64 vn, .string (strOf vs), .slice va vm vc] 44); rw [World.size_alloc] at this; exact this)
  have h2 : wk.heap[w.heap.size + 2]? = some (.cells (byA st0 0) 29 (0, 0)) := by rw [← hwk]; have := blk_new ((w.alloc (.cells S 29)).alloc (.cells #[.int .i64 e.id, .int .i64 e.tm, .int .i64 e.k, .int .i64 e.a, .int .i64 e.b, .string (strOf e.name), .string (strOf e.text), .int .i64 vk, .int .i64 vn, .string (strOf vs), .slice va vm vc] 44)) (.cells (byA st0 0) 29); simp only [World.size_alloc] at this; exact this
  have hsw : w.heap.size + 3 = wk.heap.size := by rw [← hwk]; simp
  rw [hwk] at ho
  have HEN := hid (encode_c (hE.same ho) (fun k hk => by have := hG k hk; omega) hg)
  have H0 := hid h0; have H1 := hid h1; have H2 := hid h2; have HO := hid ho
  have HGd := hid (ewr_len (e := e))
  have HCG := hid (chk_good (e := e))
  have hlk : w.heap.size + 2 < wk.heap.size := by omega
  clear h0 h1 h2 ho hE hg hsw
  have HWK := hid hwk
  clear hwk
  go_enter Try.func50, Try.ntmps50
  go_upto_region 1 with fail
  change Code.wp _ _ _ _ (((w.alloc (.cells S 29)).alloc (.cells #[.int .i64 e.id, .int .i64 e.tm, .int .i64 e.k, .int .i64 e.a, .int .i64 e.b, .string (strOf e.name), .string (strOf e.text), .int .i64 vk, .int .i64 vn, .string (strOf vs), .slice va vm vc] 44)).alloc (.cells (byA st0 0) 29))
  rw [HWK.out]
  have c0 : wk.cell? ⟨w.heap.size + 1, 0, none⟩ = some (.int .i64 e.id) := cell_blk H1.out 0
  have c1 : wk.cell? ⟨w.heap.size + 1, 1, none⟩ = some (.int .i64 e.tm) := cell_blk H1.out 1
  have c2 : wk.cell? ⟨w.heap.size + 1, 2, none⟩ = some (.int .i64 e.k) := cell_blk H1.out 2
  have c3 : wk.cell? ⟨w.heap.size + 1, 3, none⟩ = some (.int .i64 e.a) := cell_blk H1.out 3
  have c4 : wk.cell? ⟨w.heap.size + 1, 4, none⟩ = some (.int .i64 e.b) := cell_blk H1.out 4
  have c5 : wk.cell? ⟨w.heap.size + 1, 5, none⟩ = some (.string (strOf e.name)) := cell_blk H1.out 5
  have c6 : wk.cell? ⟨w.heap.size + 1, 6, none⟩ = some (.string (strOf e.text)) := cell_blk H1.out 6
  have c7 : wk.cell? ⟨w.heap.size + 1, 7, none⟩ = some (.int .i64 vk) := cell_blk H1.out 7
  have c8 : wk.cell? ⟨w.heap.size + 1, 8, none⟩ = some (.int .i64 vn) := cell_blk H1.out 8
  have c9 : wk.cell? ⟨w.heap.size + 1, 9, none⟩ = some (.string (strOf vs)) := cell_blk H1.out 9
  have c10 : wk.cell? ⟨w.heap.size + 1, 10, none⟩ = some (.slice va vm vc) := cell_blk H1.out 10
  go_wp2_with fail
  refine HEN.out.mono ?_
  rintro x w3 ⟨bv, rfl, hnb⟩
  obtain ⟨ao, cap, rfl, hgr, -, ho3⟩ := hnb
  have B0 := hid (blk_only H0.out ho3 (fun e => e))
  have B2 := hid (blk_only H2.out ho3 (fun e => e))
  have HO3 := hid (HO.out.trans ho3 (fun _ _ e => e))
  have hsrc := hgr.src
  have hl3 := ho3.size
  clear c0 c1 c2 c3 c4 c5 c6 c7 c8 c9 c10 hgr ho3 HEN H1
  by_cases hck : e.chk = 0
  · obtain ⟨L, hL⟩ : ∃ x, (if e.chk = 0 then e.wr else []) = x := ⟨_, rfl⟩
    have hLe : e.wr = L := by rw [← hL, if_pos hck]
    rw [hL] at hsrc ⊢
    have hLl : L.length ≤ 10000 := by rw [← hLe]; exact HGd.out (HCG.out hck)
    have HK := hid (slink_c (w := w3) hs hsrc (by omega))
    have HR : Hid (linkR s e = sha (s ++ L)) := hid (by rw [linkR, if_pos hck, link, hLe])
    have hinf : (Try.prog.info? 29).map (·.size) = some ((bytesV (sha (s ++ L))).toArray).size := by rw [info32]; simp [sha_len]
    have hone := bytesV_one' (sha (s ++ L))
    have hsz : ((bytesV (sha (s ++ L))).toArray).size = (byA st0 0).size := by simp [sha_len, byA]
    obtain ⟨A, hA⟩ : ∃ x, (bytesV (sha (s ++ L))).toArray = x := ⟨_, rfl⟩
    rw [hA] at hinf hone hsz HK
    rw [← HSl.out] at HK
    have HA := hid hA; have HON := hid hone; have HSZ := hid hsz; have HIN := hid hinf
    have HIS : Hid ((Try.prog.info? 29).map (·.size) = some S.size) := hid (by rw [info32, HSs.out])
    have HCk := hid hck
    rw [hck]
    clear hck hL hLe hsrc hinf hone hsz hA
    go_upto_region 4 with fail
    go_wp2_with ((guard_target =~ wpList _ _ _ (⟨some 17, _, _, _, _, _⟩ :: _) _ _); refine wpList_load_row rfl 29 (.tmp 2) rfl w.heap.size rfl 29 S (0, 0) _ B0.out Try.underlying29 rfl HIS.out ?_)
    refine HK.out.mono ?_
    rintro x w4 ⟨rfl, ho4⟩
    have B4 := hid (blk_only B2.out ho4 (fun e => e))
    have HO4 := hid (HO3.out.trans ho4 (fun _ _ e => e))
    clear ho4
    go_wp2_with ((guard_target =~ wpList _ _ _ (⟨none, .store _ _ _, _, _, _, _⟩ :: _) _ _); refine wpList_store_all rfl 29 (.tmp 4) (.tmp 19) rfl (w.heap.size + 2) A rfl rfl (byA st0 0) 29 B4.out HSZ.out HIN.out HON.out ?_; intro w9 hb9 ho9 hs9; have HB9 := hid hb9; have HO9 := hid ho9; clear hb9 ho9 hs9)
    refine bodyPost_ret (results_cell1 rfl _ _ (w.heap.size + 2) 29 A (0, 0) _ rfl HB9.out Try.underlying29 rfl HIN.out) rfl ⟨by rw [HR.out, HA.out, HCk.out]; rfl, HO4.out.trans HO9.out (fun i hi e => by have e' : i = w.heap.size + 2 := e; omega)⟩
  · have HR : Hid (linkR s e = List.replicate 32 0) := hid (by rw [linkR, if_neg hck])
    have HZ : Hid ((byA st0 0) = (bytesV (List.replicate 32 0)).toArray) := hid zero_sum
    have hinf : (Try.prog.info? 29).map (·.size) = some (byA st0 0).size := by rw [info32]; rfl
    have HIN := hid hinf
    have HON : Hid ((byA st0 0).all (·.oneCell') = true) := hid (by kernel_rfl)
    have hbld : (Instr.build 29 #[]).run Try.prog w3 = .ok (.agg (byA st0 0)) w3 := by kernel_rfl
    clear hinf hsrc
    rw [if_neg hck]
    obtain ⟨C, hC⟩ : ∃ x, e.chk = x := ⟨_, rfl⟩
    have HC := hid hC
    rw [hC] at hck ⊢
    clear hC
    go_wp2_with ((guard_target =~ wpList _ _ _ (⟨none, .store _ _ _, _, _, _, _⟩ :: _) _ _); refine wpList_store_all rfl 29 (.tmp 4) (.tmp 15) rfl (w.heap.size + 2) (byA st0 0) rfl rfl (byA st0 0) 29 B2.out rfl HIN.out HON.out ?_; intro w9 hb9 ho9 hs9; have HB9 := hid hb9; have HO9 := hid ho9; clear hb9 ho9 hs9)
    refine bodyPost_ret (results_cell1 rfl _ _ (w.heap.size + 2) 29 (byA st0 0) (0, 0) _ rfl HB9.out Try.underlying29 rfl HIN.out) rfl ⟨by rw [HR.out, HZ.out, HC.out]; rfl, HO3.out.trans HO9.out (fun i hi e => by have e' : i = w.heap.size + 2 := e; omega)⟩
end
end Go.Proofs.Ytnoopajedgllhaa
