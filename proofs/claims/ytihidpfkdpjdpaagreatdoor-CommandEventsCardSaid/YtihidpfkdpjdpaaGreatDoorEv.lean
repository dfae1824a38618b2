/- Events: their kinds, bytes, how they are checked and read. Plain, no program. -/
import Derived.Test.YtihidpfkdpjdpaaGreatDoorValC
namespace Go.Proofs.YtihidpfkdpjdpaaGreatDoor

def evTab : List (List UInt8 × List UInt8) :=
  [([114, 117, 110, 45, 115, 116, 97, 114, 116, 101, 100], [65, 66, 78, 84, 86]),
   ([116, 97, 115, 107, 45, 115, 99, 104, 101, 100, 117, 108, 101, 100], [66]),
   ([116, 97, 115, 107, 45, 115, 116, 97, 114, 116, 101, 100], [65, 66]),
   ([116, 97, 115, 107, 45, 99, 111, 109, 112, 108, 101, 116, 101, 100], [65, 66]),
   ([116, 97, 115, 107, 45, 116, 105, 109, 101, 100, 45, 111, 117, 116], [66]),
   ([116, 97, 115, 107, 45, 102, 97, 105, 108, 101, 100], [66, 78]),
   ([97, 99, 116, 105, 118, 105, 116, 121, 45, 115, 99, 104, 101, 100, 117, 108, 101, 100], [65, 66, 78, 86]),
   ([97, 99, 116, 105, 118, 105, 116, 121, 45, 99, 111, 109, 112, 108, 101, 116, 101, 100], [65, 86]),
   ([97, 99, 116, 105, 118, 105, 116, 121, 45, 102, 97, 105, 108, 101, 100], [65, 78]),
   ([97, 99, 116, 105, 118, 105, 116, 121, 45, 116, 105, 109, 101, 100, 45, 111, 117, 116], [65]),
   ([116, 105, 109, 101, 114, 45, 115, 116, 97, 114, 116, 101, 100], [65, 66]),
   ([116, 105, 109, 101, 114, 45, 102, 105, 114, 101, 100], [65]),
   ([116, 105, 109, 101, 114, 45, 99, 97, 110, 99, 101, 108, 101, 100], [65]),
   ([115, 105, 103, 110, 97, 108, 45, 114, 101, 99, 101, 105, 118, 101, 100], [78, 86]),
   ([99, 97, 110, 99, 101, 108, 45, 114, 101, 113, 117, 101, 115, 116, 101, 100], []),
   ([114, 117, 110, 45, 99, 111, 109, 112, 108, 101, 116, 101, 100], [86]),
   ([114, 117, 110, 45, 102, 97, 105, 108, 101, 100], [78]),
   ([114, 117, 110, 45, 99, 97, 110, 99, 101, 108, 101, 100], []),
   ([114, 117, 110, 45, 116, 101, 114, 109, 105, 110, 97, 116, 101, 100], [78]),
   ([114, 117, 110, 45, 116, 105, 109, 101, 100, 45, 111, 117, 116], []),
   ([99, 111, 110, 116, 105, 110, 117, 101, 100, 45, 97, 115, 45, 110, 101, 119], [66, 86])]

/-- An event. -/
structure EM where
  id : Int
  tm : Int
  k : Int
  a : Int
  b : Int
  name : List UInt8
  text : List UInt8
  v : VT
def EM.zero : EM := ⟨0, 0, 0, 0, 0, [], [], .nil⟩
def evName (k : Int) : List UInt8 := if 1 ≤ k ∧ k ≤ 21 then (evTab.getD (k.toNat - 1) ([], [])).1 else []
def evFlds (k : Int) : List UInt8 := if 1 ≤ k ∧ k ≤ 21 then (evTab.getD (k.toNat - 1) ([], [])).2 else []
/-- event.Check. -/
def EM.chk (e : EM) : Int :=
  if evName e.k = [] then 9
  else if e.id < 1 ∨ 1048576 < e.id ∨ e.tm < 0 ∨ 4611686018427387903 < e.tm then 1
  else if e.a < 0 ∨ e.b < 0 ∨ (65 ∉ evFlds e.k ∧ e.a ≠ 0) ∨ (66 ∉ evFlds e.k ∧ e.b ≠ 0) then 1
  else if 64 < e.name.length ∨ 128 < e.text.length then 2
  else if (78 ∉ evFlds e.k ∧ e.name ≠ []) ∨ (84 ∉ evFlds e.k ∧ e.text ≠ []) then 8
  else if 86 ∉ evFlds e.k ∧ e.v.k ≠ 0 then 8
  else e.v.chk
/-- A field's bytes. -/
def EM.fb (e : EM) (c : UInt8) : List UInt8 :=
  if c = 65 then numB e.a.toNat else if c = 66 then numB e.b.toNat else if c = 78 then textB e.name else if c = 84 then textB e.text else if c = 86 then e.v.wr else []
/-- event.Write. -/
def EM.wr (e : EM) : List UInt8 := UInt8.ofNat (e.k % 256).toNat :: (numB e.id.toNat ++ (numB e.tm.toNat ++ (evFlds e.k).flatMap e.fb))
def EM.cl (e : EM) : EM := { e with v := e.v.cl }
def EM.rg (e : EM) : Prop := (-9223372036854775808 ≤ e.id ∧ e.id ≤ 9223372036854775807) ∧ (-9223372036854775808 ≤ e.tm ∧ e.tm ≤ 9223372036854775807) ∧ (-9223372036854775808 ≤ e.k ∧ e.k ≤ 9223372036854775807) ∧ (-9223372036854775808 ≤ e.a ∧ e.a ≤ 9223372036854775807) ∧ (-9223372036854775808 ≤ e.b ∧ e.b ≤ 9223372036854775807) ∧ e.name.length ≤ 9223372036854775807 ∧ e.text.length ≤ 9223372036854775807 ∧ e.v.rg
/-- A field that is read. -/
def rdF (c : UInt8) (x : EM × RdM) : EM × RdM :=
  if c = 65 then ({ x.1 with a := (x.2.num 9223372036854775807).1 }, (x.2.num 9223372036854775807).2)
  else if c = 66 then ({ x.1 with b := (x.2.num 9223372036854775807).1 }, (x.2.num 9223372036854775807).2)
  else if c = 78 then ({ x.1 with name := x.2.text.1 }, x.2.text.2)
  else if c = 84 then ({ x.1 with text := x.2.text.1 }, x.2.text.2)
  else if c = 86 then ({ x.1 with v := x.2.val.1 }, x.2.val.2)
  else x
def rdFs (fs : List UInt8) (x : EM × RdM) : EM × RdM := fs.foldl (fun x c => rdF c x) x
/-- An event's head that is read: kind, number, tick. -/
def rdKd (r : RdM) : RdM := if evName r.byte.1 = [] then r.byte.2.fail 9 else r.byte.2
def rdH (r : RdM) : EM × RdM := (⟨((rdKd r).num 1048576).1, (((rdKd r).num 1048576).2.num 4611686018427387903).1, r.byte.1, 0, 0, [], [], .nil⟩, (((rdKd r).num 1048576).2.num 4611686018427387903).2)
/-- What is left where an event is over. -/
def evEnd (x : EM × RdM) : RdM := if x.2.err = 0 then x.2.fail x.1.chk else x.2
def evOver (x : EM × RdM) : EM × RdM := (if (evEnd x).err ≠ 0 then .zero else x.1, evEnd x)
/-- event.Read. -/
def RdM.ev (r : RdM) : EM × RdM := evOver (rdFs (evFlds r.byte.1) (rdH r))
def EM.same (e f : EM) : Bool := e.id == f.id && e.tm == f.tm && e.k == f.k && e.a == f.a && e.b == f.b && e.name == f.name && e.text == f.text && e.v.cmp f.v == 0
end Go.Proofs.YtihidpfkdpjdpaaGreatDoor
