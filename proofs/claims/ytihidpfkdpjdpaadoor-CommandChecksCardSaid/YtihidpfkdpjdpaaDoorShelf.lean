/-
  DERIVED: THE SHELF's CONTRACTS AT THIS DUMP, IN PLAIN WORDS (tools/lay-plain.mjs out of 'TrydShelf.lean', which tools/lay-shelf.mjs wrote): THE SAME DECLARATIONS UNDER THE SAME NAMES: 'import', 'namespace', 'open', 'def', 'theorem' AND NOTHING ELSE: no command of the shelf's: FOR A HAND-IN. Each laying: the table of numbers ('.._ren') and one theorem, a field a fact of the dump's own or the kernel's comparison; each contract: ONE APPLICATION.
-/
import Derived.Shelf.Strings.Builder1
import Derived.Shelf.Strings.Builder2
import Derived.Shelf.Strings.OnBuilder
import Derived.Shelf.Small.Strs
import Derived.Shelf.Strconv.Itoa0
import Derived.Shelf.Strconv.Itoa1
import Derived.Shelf.LaysM
import Derived.Shelf.Strconv.Itoa2
import Derived.Shelf.Strconv.Itoa3
import Derived.Shelf.Strconv.Itoa4
import Derived.Test.YtihidpfkdpjdpaaDoorProg
namespace Go.Proofs
open Go.Shelf
def Tryd.lays106_ren : Go.Shelf.Ren := ⟨fun | 106 => 79 | 213 => 89 | 265 => 98 | n => n, fun | 9 => 9 | 3 => 3 | n => n, fun | n => n⟩
theorem Tryd.lays106 : Go.Proofs.Lays.n106 Tryd.prog Tryd.lays106_ren := {
  mixed := by kernel_rfl
  f106 := Tryd.func79.trans (congrArg some (by kernel_rfl))
  f213 := Tryd.func89.trans (congrArg some (by kernel_rfl))
  f265 := Tryd.func98.trans (congrArg some (by kernel_rfl))
  t3 := Tryd.underlying3
  a3 := Tryd.isAgg3
  z3 := Tryd.sizeOf3
  v3 := Tryd.zeroValue3
  t9 := Tryd.underlying9
  a9 := Tryd.isAgg9
  z9 := Tryd.sizeOf9
  v9 := Tryd.zeroValue9 }
def Tryd.laysM173_ren : Go.Shelf.Ren := ⟨fun | 173 => 52 | 246 => 71 | 283 => 80 | 284 => 81 | 285 => 82 | 286 => 83 | 129 => 91 | 317 => 90 | 318 => 92 | 319 => 93 | 320 => 94 | 337 => 99 | 338 => 100 | n => n, fun | 2 => 2 | 3 => 3 | 9 => 9 | 4 => 4 | 171 => 110 | 0 => 0 | 53 => 69 | 37 => 34 | 5 => 5 | 173 => 113 | 212 => 127 | 51 => 128 | 20 => 20 | 213 => 129 | 46 => 93 | 232 => 136 | 233 => 137 | n => n, fun | 17 => 0 | 18 => 2 | 19 => 3 | n => n⟩
theorem Tryd.laysM173 : Go.Proofs.LaysM.n173 Tryd.prog Tryd.laysM173_ren := {
  mixed := by kernel_rfl
  f129 := Tryd.func91.trans (congrArg some (by kernel_rfl))
  f173 := Tryd.func52.trans (congrArg some (by kernel_rfl))
  f246 := Tryd.func71.trans (congrArg some (by kernel_rfl))
  f283 := Tryd.func80.trans (congrArg some (by kernel_rfl))
  f284 := Tryd.func81.trans (congrArg some (by kernel_rfl))
  f285 := Tryd.func82.trans (congrArg some (by kernel_rfl))
  f286 := Tryd.func83.trans (congrArg some (by kernel_rfl))
  f317 := Tryd.func90.trans (congrArg some (by kernel_rfl))
  f318 := Tryd.func92.trans (congrArg some (by kernel_rfl))
  f319 := Tryd.func93.trans (congrArg some (by kernel_rfl))
  f320 := Tryd.func94.trans (congrArg some (by kernel_rfl))
  f337 := Tryd.func99.trans (congrArg some (by kernel_rfl))
  f338 := Tryd.func100.trans (congrArg some (by kernel_rfl))
  t0 := Tryd.underlying0
  a0 := Tryd.isAgg0
  z0 := Tryd.sizeOf0
  v0 := Tryd.zeroValue0
  t2 := Tryd.underlying2
  a2 := Tryd.isAgg2
  z2 := Tryd.sizeOf2
  v2 := Tryd.zeroValue2
  t3 := Tryd.underlying3
  a3 := Tryd.isAgg3
  z3 := Tryd.sizeOf3
  v3 := Tryd.zeroValue3
  t4 := Tryd.underlying4
  a4 := Tryd.isAgg4
  z4 := Tryd.sizeOf4
  v4 := Tryd.zeroValue4
  t5 := Tryd.underlying5
  a5 := Tryd.isAgg5
  z5 := Tryd.sizeOf5
  v5 := Tryd.zeroValue5
  t9 := Tryd.underlying9
  a9 := Tryd.isAgg9
  z9 := Tryd.sizeOf9
  v9 := Tryd.zeroValue9
  t20 := Tryd.underlying20
  a20 := Tryd.isAgg20
  z20 := Tryd.sizeOf20
  v20 := Tryd.zeroValue20
  t37 := Tryd.underlying34
  a37 := Tryd.isAgg34
  z37 := Tryd.sizeOf34
  v37 := Tryd.zeroValue34
  t46 := Tryd.underlying93
  a46 := Tryd.isAgg93
  z46 := Tryd.sizeOf93
  v46 := Tryd.zeroValue93
  t51 := Tryd.underlying128
  a51 := Tryd.isAgg128
  z51 := Tryd.sizeOf128
  v51 := Tryd.zeroValue128
  t53 := Tryd.underlying69
  a53 := Tryd.isAgg69
  z53 := Tryd.sizeOf69
  v53 := Tryd.zeroValue69
  t171 := Tryd.underlying110
  a171 := Tryd.isAgg110
  z171 := Tryd.sizeOf110
  v171 := Tryd.zeroValue110
  t173 := Tryd.underlying113
  a173 := Tryd.isAgg113
  z173 := Tryd.sizeOf113
  v173 := Tryd.zeroValue113
  t212 := Tryd.underlying127
  a212 := Tryd.isAgg127
  z212 := Tryd.sizeOf127
  v212 := Tryd.zeroValue127
  t213 := Tryd.underlying129
  a213 := Tryd.isAgg129
  z213 := Tryd.sizeOf129
  t232 := Tryd.underlying136
  a232 := Tryd.isAgg136
  z232 := Tryd.sizeOf136
  v232 := Tryd.zeroValue136
  t233 := Tryd.underlying137
  a233 := Tryd.isAgg137
  z233 := Tryd.sizeOf137
  v233 := Tryd.zeroValue137
  g17 := by kernel_rfl
  g18 := by kernel_rfl
  g19 := by kernel_rfl
  i0 := by kernel_rfl
  i2 := by kernel_rfl
  i3 := by kernel_rfl
  i4 := by kernel_rfl
  i5 := by kernel_rfl
  i9 := by kernel_rfl
  i20 := by kernel_rfl
  i37 := by kernel_rfl
  i46 := by kernel_rfl
  i51 := by kernel_rfl
  i53 := by kernel_rfl
  i171 := by kernel_rfl
  i173 := by kernel_rfl
  i212 := by kernel_rfl
  i232 := by kernel_rfl
  i233 := by kernel_rfl
  m17 := by kernel_rfl
  m18 := by kernel_rfl
  m19 := by kernel_rfl }
open Go.RowKit in
/-- strings.Compare: "Compare returns an integer comparing two strings lexicographically. The result will be 0 if a == b, -1 if a < b, and +1 if a > b.": IT RETURNS 'Lib.compareBytes a b'; the world is as it was. (LAID: no walk: one application.) -/
theorem Tryd.strings_Compare (a b : ByteArray) (w : World) :
    Calls Tryd.prog 79 #[.string a, .string b] w fun e w' => e = .returned (.int .i64 (Lib.compareBytes a.data.toList b.data.toList)) ∧ w' = w := Any.strings_Compare Tryd.lays106 a b w
open Go.RowKit Go.Sort Go.Lib in
/-- strconv.FormatInt: "FormatInt returns the string representation of i in the given base": AT BASE 10: i's decimal numeral, for every int64. (LAID: no walk: one application.) -/
theorem Tryd.strconv_FormatInt_10 (n : Int) (h0 : -9223372036854775808 ≤ n) (h1 : n ≤ 9223372036854775807) (w : World) (htab : Lib.TabIs Tryd.prog w "internal/strconv.uint64pow10" .u64 Lib.pow10Tab) :
    Calls Tryd.prog 52 #[.int .i64 n, .int .i64 10] w fun e w' => e = .returned (.string ⟨(Lib.itoa n).toArray⟩) ∧ ∃ k os, w' = grow (w.drewN k) os := Any.strconv_FormatInt_10 Tryd.laysM173 n h0 h1 w htab
end Go.Proofs
