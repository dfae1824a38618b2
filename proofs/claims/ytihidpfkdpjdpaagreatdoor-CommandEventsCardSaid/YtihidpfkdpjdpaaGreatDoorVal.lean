/- Values as trees; their bytes; how they are checked, cloned, compared, read. Plain, no program. -/
namespace Go.Proofs.YtihidpfkdpjdpaaGreatDoor

inductive VT where
  | mk (k n : Int) (s : List UInt8) (l : List VT)
namespace VT
def k : VT → Int | .mk k _ _ _ => k
def n : VT → Int | .mk _ n _ _ => n
def s : VT → List UInt8 | .mk _ _ s _ => s
def l : VT → List VT | .mk _ _ _ l => l
def nil : VT := .mk 0 0 [] []
end VT

/-- A number from nought on: seven bits a byte. -/
def numF : Nat → Nat → List UInt8
  | 0, n => [UInt8.ofNat n]
  | f + 1, n => if n < 128 then [UInt8.ofNat n] else UInt8.ofNat (n % 128 + 128) :: numF f (n / 128)
def numB (n : Nat) : List UInt8 := numF 9 n
/-- A number with a sign as one without. -/
def zigN (n : Int) : Nat := if 0 ≤ n then (2 * n).toNat else (-2 * n - 1).toNat
def textB (s : List UInt8) : List UInt8 := numB s.length ++ s

mutual
/-- A value's bytes. -/
def VT.wr : VT → List UInt8
  | .mk k n s l => UInt8.ofNat (k % 256).toNat :: (if k = 1 then numB (zigN n) else if k = 2 then textB s else if k = 3 then numB l.length ++ VT.wrL l else [])
def VT.wrL : List VT → List UInt8
  | [] => []
  | t :: ts => t.wr ++ VT.wrL ts
end

mutual
/-- count.walk: how many values so far, the first error. -/
def VT.walk (d : Nat) (p : Nat) (e : Int) : VT → Nat × Int
  | .mk k _ s l => if e ≠ 0 then (p, e) else if 256 < p + 1 then (p + 1, 2) else if k = 0 ∨ k = 1 then (p + 1, 0) else if k = 2 then (p + 1, if 256 < s.length then 2 else 0) else if k = 3 then VT.walkL (d + 1) (p + 1) (if 8 ≤ d then 30 else if 64 < l.length then 2 else 0) l else (p + 1, 9)
def VT.walkL (d : Nat) (p : Nat) (e : Int) : List VT → Nat × Int
  | [] => (p, e)
  | t :: ts => if e ≠ 0 then (p, e) else VT.walkL d (t.walk d p e).1 (t.walk d p e).2 ts
end
/-- May a value be? -/
def VT.chk (t : VT) : Int := if (t.walk 0 0 0).2 ≠ 0 then (t.walk 0 0 0).2 else if 512 < t.wr.length then 2 else 0

mutual
/-- How many values are in one. -/
def VT.parts : VT → Nat
  | .mk k _ _ l => 1 + if k = 3 then VT.partsL l else 0
def VT.partsL : List VT → Nat
  | [] => 0
  | t :: ts => t.parts + VT.partsL ts
end

mutual
/-- The same; what its kind doesn't have is zero. -/
def VT.cl : VT → VT
  | .mk k n s l => .mk k (if k = 1 then n else 0) (if k = 2 then s else []) (if k = 3 then VT.clL l else [])
def VT.clL : List VT → List VT
  | [] => []
  | t :: ts => t.cl :: VT.clL ts
end

/-- The order of two texts. -/
def cmpS : List UInt8 → List UInt8 → Int
  | [], [] => 0
  | [], _ :: _ => -1
  | _ :: _, [] => 1
  | x :: xs, y :: ys => if x = y then cmpS xs ys else if x < y then -1 else 1

mutual
/-- The order of two values. -/
def VT.cmp : VT → VT → Int
  | .mk k n s l, u => if k ≠ u.k then (if k < u.k then -1 else 1) else if k = 1 then (if n ≠ u.n then (if n < u.n then -1 else 1) else 0) else if k = 2 then cmpS s u.s else if k = 3 then VT.cmpL l u.l else 0
def VT.cmpL : List VT → List VT → Int
  | [], [] => 0
  | [], _ :: _ => -1
  | _ :: _, [] => 1
  | x :: xs, y :: ys => if x.cmp y ≠ 0 then x.cmp y else VT.cmpL xs ys
end

/-- A reader: the bytes, how many were read, what went wrong first. -/
structure RdM where
  b : List UInt8
  at' : Nat
  err : Int
def RdM.of (b : List UInt8) : RdM := ⟨b, 0, 0⟩
def RdM.fail (r : RdM) (e : Int) : RdM := if r.err = 0 then { r with err := e } else r
def RdM.take (r : RdM) (n : Nat) : List UInt8 × RdM :=
  if r.err ≠ 0 then ([], r) else if r.b.length - r.at' < n then ([], r.fail 6) else ((r.b.drop r.at').take n, { r with at' := r.at' + n })
def RdM.byte (r : RdM) : Nat × RdM := ((((r.take 1).1.head?).map UInt8.toNat).getD 0, (r.take 1).2)
/-- The number's loop: so many bytes may still come; the shift; what there is. -/
def RdM.numL (most : Nat) : Nat → Nat → Nat → RdM → Nat × RdM
  | 0, _, _, r => (0, r)
  | f + 1, sh, n, r =>
    if r.byte.2.err ≠ 0 then (0, r.byte.2) else if (sh = 63 ∧ 1 < r.byte.1) ∨ (0 < sh ∧ r.byte.1 = 0) then (0, r.byte.2.fail 8) else
    if r.byte.1 < 128 then (if most < n + (r.byte.1 % 128) * 2 ^ sh then (0, r.byte.2.fail 2) else (n + (r.byte.1 % 128) * 2 ^ sh, r.byte.2))
    else RdM.numL most f (sh + 7) (n + (r.byte.1 % 128) * 2 ^ sh) r.byte.2
def RdM.num (r : RdM) (most : Nat) : Nat × RdM := RdM.numL most 10 0 0 r
def zagN (n : Nat) : Int := if n % 2 = 0 then n / 2 else -(n / 2 : Nat) - 1
def RdM.int (r : RdM) : Int × RdM := (zagN (r.num 18446744073709551615).1, (r.num 18446744073709551615).2)
def RdM.text (r : RdM) : List UInt8 × RdM := (r.num 4096).2.take (r.num 4096).1

/-- What a value is that is read: its number, its text, its list are there. -/
structure VS where
  t : VT
  r : RdM
  p : Nat
/-- Read by something, so many times, one behind the other. -/
def rdL (f : RdM → Nat → VS) : Nat → RdM → Nat → List VT × RdM × Nat
  | 0, r, p => ([], r, p)
  | n + 1, r, p => ((f r p).t :: (rdL f n (f r p).r (f r p).p).1, (rdL f n (f r p).r (f r p).p).2)
/-- A list's values, so many. -/
def rdN (g : RdM → Nat → VS) (x : Nat × RdM) (p : Nat) : VS := ⟨.mk 3 0 [] (rdL g x.1 x.2 p).1, (rdL g x.1 x.2 p).2.1, (rdL g x.1 x.2 p).2.2⟩
/-- A value of a kind; no lists are left: f is nought. -/
def rdK (g : RdM → Nat → VS) (f k : Nat) (r : RdM) (p : Nat) : VS :=
  if k = 0 then ⟨.mk 0 0 [] [], r, p⟩
  else if k = 1 then ⟨.mk 1 r.int.1 [] [], r.int.2, p⟩
  else if k = 2 then ⟨.mk 2 0 r.text.1 [], if 256 < r.text.1.length then r.text.2.fail 2 else r.text.2, p⟩
  else if k = 3 then rdN g ((if f = 0 then r.fail 30 else r).num 64) p
  else ⟨.mk k 0 [] [], r.fail 9, p⟩
/-- count.read, at a depth of 9 less f. -/
def rdV : Nat → RdM → Nat → VS
  | 0, r, p => ⟨.nil, r, p⟩
  | f + 1, r, p => rdK (rdV f) f r.byte.1 (if 256 < p + 1 then r.byte.2.fail 2 else r.byte.2) (p + 1)
/-- What is left where a value is over: it may be too long. -/
def RdM.over (from' : Nat) (r : RdM) : RdM := if r.err = 0 ∧ 512 < r.at' - from' then r.fail 2 else r
/-- value.Read. -/
def RdM.val (r : RdM) : VT × RdM := (if ((rdV 9 r 0).r.over r.at').err ≠ 0 then .nil else (rdV 9 r 0).t, (rdV 9 r 0).r.over r.at')
def RdM.done (r : RdM) : Int := if r.err = 0 ∧ r.at' < r.b.length then 8 else r.err
end Go.Proofs.YtihidpfkdpjdpaaGreatDoor
