/-
  DERIVED: THE SHELF's CONTRACTS AT THIS DUMP, IN PLAIN WORDS (tools/lay-plain.mjs out of 'TryzShelf.lean', which tools/lay-shelf.mjs wrote): THE SAME DECLARATIONS UNDER THE SAME NAMES: 'import', 'namespace', 'open', 'def', 'theorem' AND NOTHING ELSE: no command of the shelf's: FOR A HAND-IN. Each laying: the table of numbers ('.._ren') and one theorem, a field a fact of the dump's own or the kernel's comparison; each contract: ONE APPLICATION.
-/
import Derived.Shelf.Strings.Builder1
import Derived.Shelf.Strings.Builder2
import Derived.Shelf.Strings.OnBuilder
import Derived.Shelf.Small.Strs
import Derived.Shelf.Strconv.Itoa0
import Derived.Shelf.Strconv.Itoa1
import Derived.Shelf.LaysM
import Derived.Shelf.Strconv.Itoa2
import Derived.Shelf.Strconv.Itoa3
import Derived.Shelf.Strconv.Itoa4
import Derived.Shelf.Strconv.ParseIntEmpty
import Derived.Shelf.Strconv.Clone
import Derived.Shelf.Strconv.SyntaxError
import Derived.Shelf.LaysC
import Derived.Shelf.Strconv.ToError
import Derived.Shelf.Strconv.Lower
import Derived.Shelf.Strconv.ParseUint10
import Derived.Shelf.Strconv.ParseUint10Empty
import Derived.Shelf.Strconv.ParseUint10Any
import Derived.Shelf.Strconv.ParseInt10
import Derived.Shelf.Strconv.RangeError
import Derived.Shelf.Strconv.ToErrorRange
import Derived.Shelf.Strconv.ParseUintEmpty
import Derived.Shelf.Strconv.ParseUint10b64
import Derived.Shelf.Strconv.ParseUint10b32
import Derived.Shelf.Strconv.ParseUint10b16
import Derived.Shelf.Strconv.ParseUint10b8
import Derived.Shelf.Strconv.ParseUint10At
import Derived.Shelf.Strconv.ParseInt10At64
import Derived.Shelf.Strconv.ParseInt10At32
import Derived.Shelf.Strconv.ParseInt10At16
import Derived.Shelf.Strconv.ParseInt10At8
import Derived.Shelf.Strconv.ParseInt10All
import Derived.Shelf.Strconv.ParseIntPublic10
import Derived.Shelf.Strconv.ErrVarParseInt
import Derived.Shelf.Strings.Search1
import Derived.Shelf.Strings.Search2
import Derived.Shelf.Strings.Search3
import Derived.Shelf.Strings.Cut
import Derived.Shelf.Strings.Count
import Derived.Shelf.Strings.Shaped
import Derived.Shelf.Strings.Prefix
import Derived.Shelf.Strings.Split
import Derived.Shelf.Unicode.DecodeSlow
import Derived.Test.YtokefeemhgcmhaaGreatDoorProg
namespace Go.Proofs
open Go.Shelf
def Tryz.lays106_ren : Go.Shelf.Ren := ⟨fun | 106 => 53 | 213 => 72 | 265 => 90 | n => n, fun | 9 => 9 | 3 => 3 | n => n, fun | n => n⟩
theorem Tryz.lays106 : Go.Proofs.Lays.n106 Tryz.prog Tryz.lays106_ren := {
  mixed := by kernel_rfl
  f106 := Tryz.func53.trans (congrArg some (by kernel_rfl))
  f213 := Tryz.func72.trans (congrArg some (by kernel_rfl))
  f265 := Tryz.func90.trans (congrArg some (by kernel_rfl))
  t3 := Tryz.underlying3
  a3 := Tryz.isAgg3
  z3 := Tryz.sizeOf3
  v3 := Tryz.zeroValue3
  t9 := Tryz.underlying9
  a9 := Tryz.isAgg9
  z9 := Tryz.sizeOf9
  v9 := Tryz.zeroValue9 }
def Tryz.lays137_ren : Go.Shelf.Ren := ⟨fun | 137 => 78 | 217 => 96 | 266 => 108 | n => n, fun | 9 => 9 | 5 => 5 | 3 => 3 | n => n, fun | n => n⟩
theorem Tryz.lays137 : Go.Proofs.Lays.n137 Tryz.prog Tryz.lays137_ren := {
  mixed := by kernel_rfl
  f137 := Tryz.func78.trans (congrArg some (by kernel_rfl))
  f217 := Tryz.func96.trans (congrArg some (by kernel_rfl))
  f266 := Tryz.func108.trans (congrArg some (by kernel_rfl))
  t3 := Tryz.underlying3
  a3 := Tryz.isAgg3
  z3 := Tryz.sizeOf3
  v3 := Tryz.zeroValue3
  t5 := Tryz.underlying5
  a5 := Tryz.isAgg5
  z5 := Tryz.sizeOf5
  v5 := Tryz.zeroValue5
  t9 := Tryz.underlying9
  a9 := Tryz.isAgg9
  z9 := Tryz.sizeOf9
  v9 := Tryz.zeroValue9 }
def Tryz.laysM171_ren : Go.Shelf.Ren := ⟨fun | 171 => 113 | 243 => 115 | 246 => 48 | 283 => 66 | 284 => 67 | 285 => 68 | 286 => 69 | 129 => 84 | 317 => 83 | 318 => 85 | 319 => 86 | 320 => 87 | 337 => 102 | 338 => 103 | n => n, fun | 3 => 3 | 9 => 9 | 2 => 2 | 4 => 4 | 171 => 127 | 0 => 0 | 53 => 70 | 37 => 33 | 5 => 5 | 173 => 130 | 212 => 143 | 51 => 144 | 20 => 20 | 213 => 145 | 46 => 104 | 232 => 164 | 233 => 165 | n => n, fun | 17 => 0 | 18 => 4 | 19 => 5 | n => n⟩
theorem Tryz.laysM171 : Go.Proofs.LaysM.n171 Tryz.prog Tryz.laysM171_ren := {
  mixed := by kernel_rfl
  f129 := Tryz.func84.trans (congrArg some (by kernel_rfl))
  f171 := Tryz.func113.trans (congrArg some (by kernel_rfl))
  f243 := Tryz.func115.trans (congrArg some (by kernel_rfl))
  f246 := Tryz.func48.trans (congrArg some (by kernel_rfl))
  f283 := Tryz.func66.trans (congrArg some (by kernel_rfl))
  f284 := Tryz.func67.trans (congrArg some (by kernel_rfl))
  f285 := Tryz.func68.trans (congrArg some (by kernel_rfl))
  f286 := Tryz.func69.trans (congrArg some (by kernel_rfl))
  f317 := Tryz.func83.trans (congrArg some (by kernel_rfl))
  f318 := Tryz.func85.trans (congrArg some (by kernel_rfl))
  f319 := Tryz.func86.trans (congrArg some (by kernel_rfl))
  f320 := Tryz.func87.trans (congrArg some (by kernel_rfl))
  f337 := Tryz.func102.trans (congrArg some (by kernel_rfl))
  f338 := Tryz.func103.trans (congrArg some (by kernel_rfl))
  t0 := Tryz.underlying0
  a0 := Tryz.isAgg0
  z0 := Tryz.sizeOf0
  v0 := Tryz.zeroValue0
  t2 := Tryz.underlying2
  a2 := Tryz.isAgg2
  z2 := Tryz.sizeOf2
  v2 := Tryz.zeroValue2
  t3 := Tryz.underlying3
  a3 := Tryz.isAgg3
  z3 := Tryz.sizeOf3
  v3 := Tryz.zeroValue3
  t4 := Tryz.underlying4
  a4 := Tryz.isAgg4
  z4 := Tryz.sizeOf4
  v4 := Tryz.zeroValue4
  t5 := Tryz.underlying5
  a5 := Tryz.isAgg5
  z5 := Tryz.sizeOf5
  v5 := Tryz.zeroValue5
  t9 := Tryz.underlying9
  a9 := Tryz.isAgg9
  z9 := Tryz.sizeOf9
  v9 := Tryz.zeroValue9
  t20 := Tryz.underlying20
  a20 := Tryz.isAgg20
  z20 := Tryz.sizeOf20
  v20 := Tryz.zeroValue20
  t37 := Tryz.underlying33
  a37 := Tryz.isAgg33
  z37 := Tryz.sizeOf33
  v37 := Tryz.zeroValue33
  t46 := Tryz.underlying104
  a46 := Tryz.isAgg104
  z46 := Tryz.sizeOf104
  v46 := Tryz.zeroValue104
  t51 := Tryz.underlying144
  a51 := Tryz.isAgg144
  z51 := Tryz.sizeOf144
  v51 := Tryz.zeroValue144
  t53 := Tryz.underlying70
  a53 := Tryz.isAgg70
  z53 := Tryz.sizeOf70
  v53 := Tryz.zeroValue70
  t171 := Tryz.underlying127
  a171 := Tryz.isAgg127
  z171 := Tryz.sizeOf127
  v171 := Tryz.zeroValue127
  t173 := Tryz.underlying130
  a173 := Tryz.isAgg130
  z173 := Tryz.sizeOf130
  v173 := Tryz.zeroValue130
  t212 := Tryz.underlying143
  a212 := Tryz.isAgg143
  z212 := Tryz.sizeOf143
  v212 := Tryz.zeroValue143
  t213 := Tryz.underlying145
  a213 := Tryz.isAgg145
  z213 := Tryz.sizeOf145
  t232 := Tryz.underlying164
  a232 := Tryz.isAgg164
  z232 := Tryz.sizeOf164
  v232 := Tryz.zeroValue164
  t233 := Tryz.underlying165
  a233 := Tryz.isAgg165
  z233 := Tryz.sizeOf165
  v233 := Tryz.zeroValue165
  g17 := by kernel_rfl
  g18 := by kernel_rfl
  g19 := by kernel_rfl
  i0 := by kernel_rfl
  i2 := by kernel_rfl
  i3 := by kernel_rfl
  i4 := by kernel_rfl
  i5 := by kernel_rfl
  i9 := by kernel_rfl
  i20 := by kernel_rfl
  i37 := by kernel_rfl
  i46 := by kernel_rfl
  i51 := by kernel_rfl
  i53 := by kernel_rfl
  i171 := by kernel_rfl
  i173 := by kernel_rfl
  i212 := by kernel_rfl
  i232 := by kernel_rfl
  i233 := by kernel_rfl
  m17 := by kernel_rfl
  m18 := by kernel_rfl
  m19 := by kernel_rfl }
def Tryz.laysM173_ren : Go.Shelf.Ren := ⟨fun | 173 => 26 | 246 => 48 | 283 => 66 | 284 => 67 | 285 => 68 | 286 => 69 | 129 => 84 | 317 => 83 | 318 => 85 | 319 => 86 | 320 => 87 | 337 => 102 | 338 => 103 | n => n, fun | 2 => 2 | 3 => 3 | 9 => 9 | 4 => 4 | 171 => 127 | 0 => 0 | 53 => 70 | 37 => 33 | 5 => 5 | 173 => 130 | 212 => 143 | 51 => 144 | 20 => 20 | 213 => 145 | 46 => 104 | 232 => 164 | 233 => 165 | n => n, fun | 17 => 0 | 18 => 4 | 19 => 5 | n => n⟩
theorem Tryz.laysM173 : Go.Proofs.LaysM.n173 Tryz.prog Tryz.laysM173_ren := {
  mixed := by kernel_rfl
  f129 := Tryz.func84.trans (congrArg some (by kernel_rfl))
  f173 := Tryz.func26.trans (congrArg some (by kernel_rfl))
  f246 := Tryz.func48.trans (congrArg some (by kernel_rfl))
  f283 := Tryz.func66.trans (congrArg some (by kernel_rfl))
  f284 := Tryz.func67.trans (congrArg some (by kernel_rfl))
  f285 := Tryz.func68.trans (congrArg some (by kernel_rfl))
  f286 := Tryz.func69.trans (congrArg some (by kernel_rfl))
  f317 := Tryz.func83.trans (congrArg some (by kernel_rfl))
  f318 := Tryz.func85.trans (congrArg some (by kernel_rfl))
  f319 := Tryz.func86.trans (congrArg some (by kernel_rfl))
  f320 := Tryz.func87.trans (congrArg some (by kernel_rfl))
  f337 := Tryz.func102.trans (congrArg some (by kernel_rfl))
  f338 := Tryz.func103.trans (congrArg some (by kernel_rfl))
  t0 := Tryz.underlying0
  a0 := Tryz.isAgg0
  z0 := Tryz.sizeOf0
  v0 := Tryz.zeroValue0
  t2 := Tryz.underlying2
  a2 := Tryz.isAgg2
  z2 := Tryz.sizeOf2
  v2 := Tryz.zeroValue2
  t3 := Tryz.underlying3
  a3 := Tryz.isAgg3
  z3 := Tryz.sizeOf3
  v3 := Tryz.zeroValue3
  t4 := Tryz.underlying4
  a4 := Tryz.isAgg4
  z4 := Tryz.sizeOf4
  v4 := Tryz.zeroValue4
  t5 := Tryz.underlying5
  a5 := Tryz.isAgg5
  z5 := Tryz.sizeOf5
  v5 := Tryz.zeroValue5
  t9 := Tryz.underlying9
  a9 := Tryz.isAgg9
  z9 := Tryz.sizeOf9
  v9 := Tryz.zeroValue9
  t20 := Tryz.underlying20
  a20 := Tryz.isAgg20
  z20 := Tryz.sizeOf20
  v20 := Tryz.zeroValue20
  t37 := Tryz.underlying33
  a37 := Tryz.isAgg33
  z37 := Tryz.sizeOf33
  v37 := Tryz.zeroValue33
  t46 := Tryz.underlying104
  a46 := Tryz.isAgg104
  z46 := Tryz.sizeOf104
  v46 := Tryz.zeroValue104
  t51 := Tryz.underlying144
  a51 := Tryz.isAgg144
  z51 := Tryz.sizeOf144
  v51 := Tryz.zeroValue144
  t53 := Tryz.underlying70
  a53 := Tryz.isAgg70
  z53 := Tryz.sizeOf70
  v53 := Tryz.zeroValue70
  t171 := Tryz.underlying127
  a171 := Tryz.isAgg127
  z171 := Tryz.sizeOf127
  v171 := Tryz.zeroValue127
  t173 := Tryz.underlying130
  a173 := Tryz.isAgg130
  z173 := Tryz.sizeOf130
  v173 := Tryz.zeroValue130
  t212 := Tryz.underlying143
  a212 := Tryz.isAgg143
  z212 := Tryz.sizeOf143
  v212 := Tryz.zeroValue143
  t213 := Tryz.underlying145
  a213 := Tryz.isAgg145
  z213 := Tryz.sizeOf145
  t232 := Tryz.underlying164
  a232 := Tryz.isAgg164
  z232 := Tryz.sizeOf164
  v232 := Tryz.zeroValue164
  t233 := Tryz.underlying165
  a233 := Tryz.isAgg165
  z233 := Tryz.sizeOf165
  v233 := Tryz.zeroValue165
  g17 := by kernel_rfl
  g18 := by kernel_rfl
  g19 := by kernel_rfl
  i0 := by kernel_rfl
  i2 := by kernel_rfl
  i3 := by kernel_rfl
  i4 := by kernel_rfl
  i5 := by kernel_rfl
  i9 := by kernel_rfl
  i20 := by kernel_rfl
  i37 := by kernel_rfl
  i46 := by kernel_rfl
  i51 := by kernel_rfl
  i53 := by kernel_rfl
  i171 := by kernel_rfl
  i173 := by kernel_rfl
  i212 := by kernel_rfl
  i232 := by kernel_rfl
  i233 := by kernel_rfl
  m17 := by kernel_rfl
  m18 := by kernel_rfl
  m19 := by kernel_rfl }
def Tryz.lays219_ren : Go.Shelf.Ren := ⟨fun | 219 => 94 | 217 => 96 | 225 => 105 | 224 => 106 | 267 => 107 | 266 => 108 | 314 => 114 | n => n, fun | 9 => 9 | 3 => 3 | 4 => 4 | 5 => 5 | 46 => 104 | 146 => 170 | 51 => 144 | n => n, fun | 1 => 1 | n => n⟩
theorem Tryz.lays219 : Go.Proofs.Lays.n219 Tryz.prog Tryz.lays219_ren := {
  mixed := by kernel_rfl
  f217 := Tryz.func96.trans (congrArg some (by kernel_rfl))
  f219 := Tryz.func94.trans (congrArg some (by kernel_rfl))
  f224 := Tryz.func106.trans (congrArg some (by kernel_rfl))
  f225 := Tryz.func105.trans (congrArg some (by kernel_rfl))
  f266 := Tryz.func108.trans (congrArg some (by kernel_rfl))
  f267 := Tryz.func107.trans (congrArg some (by kernel_rfl))
  f314 := Tryz.func114.trans (congrArg some (by kernel_rfl))
  t3 := Tryz.underlying3
  a3 := Tryz.isAgg3
  z3 := Tryz.sizeOf3
  v3 := Tryz.zeroValue3
  t4 := Tryz.underlying4
  a4 := Tryz.isAgg4
  z4 := Tryz.sizeOf4
  v4 := Tryz.zeroValue4
  t5 := Tryz.underlying5
  a5 := Tryz.isAgg5
  z5 := Tryz.sizeOf5
  v5 := Tryz.zeroValue5
  t9 := Tryz.underlying9
  a9 := Tryz.isAgg9
  z9 := Tryz.sizeOf9
  v9 := Tryz.zeroValue9
  t46 := Tryz.underlying104
  a46 := Tryz.isAgg104
  z46 := Tryz.sizeOf104
  v46 := Tryz.zeroValue104
  t51 := Tryz.underlying144
  a51 := Tryz.isAgg144
  z51 := Tryz.sizeOf144
  v51 := Tryz.zeroValue144
  t146 := Tryz.underlying170
  a146 := Tryz.isAgg170
  z146 := Tryz.sizeOf170
  v146 := Tryz.zeroValue170
  g1 := by kernel_rfl }
def Tryz.lays145_ren : Go.Shelf.Ren := ⟨fun | 145 => 76 | 220 => 95 | 219 => 94 | 217 => 96 | 225 => 105 | 224 => 106 | 267 => 107 | 266 => 108 | 314 => 114 | n => n, fun | 9 => 9 | 4 => 4 | 59 => 134 | 3 => 3 | 5 => 5 | 46 => 104 | 146 => 170 | 51 => 144 | n => n, fun | 1 => 1 | n => n⟩
theorem Tryz.lays145 : Go.Proofs.Lays.n145 Tryz.prog Tryz.lays145_ren := {
  mixed := by kernel_rfl
  f145 := Tryz.func76.trans (congrArg some (by kernel_rfl))
  f217 := Tryz.func96.trans (congrArg some (by kernel_rfl))
  f219 := Tryz.func94.trans (congrArg some (by kernel_rfl))
  f220 := Tryz.func95.trans (congrArg some (by kernel_rfl))
  f224 := Tryz.func106.trans (congrArg some (by kernel_rfl))
  f225 := Tryz.func105.trans (congrArg some (by kernel_rfl))
  f266 := Tryz.func108.trans (congrArg some (by kernel_rfl))
  f267 := Tryz.func107.trans (congrArg some (by kernel_rfl))
  f314 := Tryz.func114.trans (congrArg some (by kernel_rfl))
  t3 := Tryz.underlying3
  a3 := Tryz.isAgg3
  z3 := Tryz.sizeOf3
  v3 := Tryz.zeroValue3
  t4 := Tryz.underlying4
  a4 := Tryz.isAgg4
  z4 := Tryz.sizeOf4
  v4 := Tryz.zeroValue4
  t5 := Tryz.underlying5
  a5 := Tryz.isAgg5
  z5 := Tryz.sizeOf5
  v5 := Tryz.zeroValue5
  t9 := Tryz.underlying9
  a9 := Tryz.isAgg9
  z9 := Tryz.sizeOf9
  v9 := Tryz.zeroValue9
  t46 := Tryz.underlying104
  a46 := Tryz.isAgg104
  z46 := Tryz.sizeOf104
  v46 := Tryz.zeroValue104
  t51 := Tryz.underlying144
  a51 := Tryz.isAgg144
  z51 := Tryz.sizeOf144
  v51 := Tryz.zeroValue144
  t59 := Tryz.underlying134
  a59 := Tryz.isAgg134
  z59 := Tryz.sizeOf134
  v59 := Tryz.zeroValue134
  t146 := Tryz.underlying170
  a146 := Tryz.isAgg170
  z146 := Tryz.sizeOf170
  v146 := Tryz.zeroValue170
  g1 := by kernel_rfl }
def Tryz.lays146_ren : Go.Shelf.Ren := ⟨fun | 146 => 30 | 221 => 54 | 268 => 73 | 138 => 74 | 143 => 75 | 195 => 91 | 197 => 92 | 218 => 93 | 219 => 94 | 260 => 104 | 217 => 96 | 225 => 105 | 224 => 106 | 267 => 107 | 266 => 108 | 314 => 114 | n => n, fun | 9 => 9 | 31 => 66 | 3 => 3 | 4 => 4 | 0 => 0 | 105 => 150 | 21 => 21 | 5 => 5 | 46 => 104 | 119 => 166 | 139 => 169 | 138 => 168 | 146 => 170 | 51 => 144 | n => n, fun | 1 => 1 | 3 => 6 | 4 => 7 | n => n⟩
theorem Tryz.lays146 : Go.Proofs.Lays.n146 Tryz.prog Tryz.lays146_ren := {
  mixed := by kernel_rfl
  f138 := Tryz.func74.trans (congrArg some (by kernel_rfl))
  f143 := Tryz.func75.trans (congrArg some (by kernel_rfl))
  f146 := Tryz.func30.trans (congrArg some (by kernel_rfl))
  f195 := Tryz.func91.trans (congrArg some (by kernel_rfl))
  f197 := Tryz.func92.trans (congrArg some (by kernel_rfl))
  f217 := Tryz.func96.trans (congrArg some (by kernel_rfl))
  f218 := Tryz.func93.trans (congrArg some (by kernel_rfl))
  f219 := Tryz.func94.trans (congrArg some (by kernel_rfl))
  f221 := Tryz.func54.trans (congrArg some (by kernel_rfl))
  f224 := Tryz.func106.trans (congrArg some (by kernel_rfl))
  f225 := Tryz.func105.trans (congrArg some (by kernel_rfl))
  f260 := Tryz.func104.trans (congrArg some (by kernel_rfl))
  f266 := Tryz.func108.trans (congrArg some (by kernel_rfl))
  f267 := Tryz.func107.trans (congrArg some (by kernel_rfl))
  f268 := Tryz.func73.trans (congrArg some (by kernel_rfl))
  f314 := Tryz.func114.trans (congrArg some (by kernel_rfl))
  t0 := Tryz.underlying0
  a0 := Tryz.isAgg0
  z0 := Tryz.sizeOf0
  v0 := Tryz.zeroValue0
  t3 := Tryz.underlying3
  a3 := Tryz.isAgg3
  z3 := Tryz.sizeOf3
  v3 := Tryz.zeroValue3
  t4 := Tryz.underlying4
  a4 := Tryz.isAgg4
  z4 := Tryz.sizeOf4
  v4 := Tryz.zeroValue4
  t5 := Tryz.underlying5
  a5 := Tryz.isAgg5
  z5 := Tryz.sizeOf5
  v5 := Tryz.zeroValue5
  t9 := Tryz.underlying9
  a9 := Tryz.isAgg9
  z9 := Tryz.sizeOf9
  v9 := Tryz.zeroValue9
  t21 := Tryz.underlying21
  a21 := Tryz.isAgg21
  z21 := Tryz.sizeOf21
  v21 := Tryz.zeroValue21
  t31 := Tryz.underlying66
  a31 := Tryz.isAgg66
  z31 := Tryz.sizeOf66
  v31 := Tryz.zeroValue66
  t46 := Tryz.underlying104
  a46 := Tryz.isAgg104
  z46 := Tryz.sizeOf104
  v46 := Tryz.zeroValue104
  t51 := Tryz.underlying144
  a51 := Tryz.isAgg144
  z51 := Tryz.sizeOf144
  v51 := Tryz.zeroValue144
  t105 := Tryz.underlying150
  a105 := Tryz.isAgg150
  z105 := Tryz.sizeOf150
  v105 := Tryz.zeroValue150
  t119 := Tryz.underlying166
  a119 := Tryz.isAgg166
  z119 := Tryz.sizeOf166
  t138 := Tryz.underlying168
  a138 := Tryz.isAgg168
  z138 := Tryz.sizeOf168
  v138 := Tryz.zeroValue168
  t139 := Tryz.underlying169
  a139 := Tryz.isAgg169
  z139 := Tryz.sizeOf169
  v139 := Tryz.zeroValue169
  t146 := Tryz.underlying170
  a146 := Tryz.isAgg170
  z146 := Tryz.sizeOf170
  v146 := Tryz.zeroValue170
  g1 := by kernel_rfl
  g3 := by kernel_rfl
  g4 := by kernel_rfl }
open Go.RowKit in
/-- strings.Compare: "Compare returns an integer comparing two strings lexicographically. The result will be 0 if a == b, -1 if a < b, and +1 if a > b.": IT RETURNS 'Lib.compareBytes a b'; the world is as it was. (LAID: no walk: one application.) -/
theorem Tryz.strings_Compare (a b : ByteArray) (w : World) :
    Calls Tryz.prog 53 #[.string a, .string b] w fun e w' => e = .returned (.int .i64 (Lib.compareBytes a.data.toList b.data.toList)) ∧ w' = w := Any.strings_Compare Tryz.lays106 a b w
open Go.RowKit in
/-- strings.IndexByte: "IndexByte returns the index of the first instance of c in s, or -1 if c is not present in s.": IT RETURNS 'Lib.indexByte s c'; the world is as it was. (LAID: no walk: one application.) -/
theorem Tryz.strings_IndexByte (s : ByteArray) (c : Int) (w : World) :
    Calls Tryz.prog 78 #[.string s, .int .u8 c] w fun e w' => e = .returned (.int .i64 (Lib.indexByte s.data.toList c.toNat.toUInt8)) ∧ w' = w := Any.strings_IndexByte Tryz.lays137 s c w
open Go.RowKit Go.Sort Go.Lib in
/-- strconv.Itoa: "Itoa is equivalent to FormatInt(int64(i), 10).": i's DECIMAL NUMERAL ('Lib.itoa': a '-' where i is negative, then the digits), FOR EVERY int. The world behind the call: the world before it, new blocks behind the heap (the library's 'var a [24]byte'), draws. (LAID: no walk: one application.) -/
theorem Tryz.strconv_Itoa (n : Int) (h0 : -9223372036854775808 ≤ n) (h1 : n ≤ 9223372036854775807) (w : World) (htab : Lib.TabIs Tryz.prog w "internal/strconv.uint64pow10" .u64 Lib.pow10Tab) :
    Calls Tryz.prog 113 #[.int .i64 n] w fun e w' => e = .returned (.string ⟨(Lib.itoa n).toArray⟩) ∧ ∃ k os, w' = grow (w.drewN k) os := Any.strconv_Itoa Tryz.laysM171 n h0 h1 w htab
open Go.RowKit Go.Sort Go.Lib in
/-- strconv.FormatInt: "FormatInt returns the string representation of i in the given base": AT BASE 10: i's decimal numeral, for every int64. (LAID: no walk: one application.) -/
theorem Tryz.strconv_FormatInt_10 (n : Int) (h0 : -9223372036854775808 ≤ n) (h1 : n ≤ 9223372036854775807) (w : World) (htab : Lib.TabIs Tryz.prog w "internal/strconv.uint64pow10" .u64 Lib.pow10Tab) :
    Calls Tryz.prog 26 #[.int .i64 n, .int .i64 10] w fun e w' => e = .returned (.string ⟨(Lib.itoa n).toArray⟩) ∧ ∃ k os, w' = grow (w.drewN k) os := Any.strconv_FormatInt_10 Tryz.laysM173 n h0 h1 w htab
open Go.RowKit Go.Lib in
/-- internal/stringslite.Index (what strings.Index calls) AT A substr OF ONE BYTE c: IT RETURNS 'Lib.indexByte s c'; the world is as it was. (LAID: no walk: one application.) -/
theorem Tryz.stringslite_Index_one (s : ByteArray) (c : UInt8) (w : World) :
    Calls Tryz.prog 94 #[.string s, .string ⟨#[c]⟩] w fun e w' => e = .returned (.int .i64 (Lib.indexByte s.data.toList c)) ∧ w' = w := Any.stringslite_Index_one Tryz.lays219 s c w
open Go.RowKit Go.Lib in
/-- strings.Cut: "Cut slices s around the first instance of sep, returning the text before and after sep. The found result reports whether sep appears in s. If sep does not appear in s, cut returns s, "", false.": IT RETURNS 'Lib.cut s sep'; the world is as it was but for the count of draws. (LAID: no walk: one application.) -/
theorem Tryz.strings_Cut (s sep : ByteArray) (m : Int) (w : World) (hs : s.size < 4294967281) (hm : w.cell? ⟨1, 0, none⟩ = some (.int .i64 m)) :
    Calls Tryz.prog 76 #[.string s, .string sep] w fun e w' => e = .returned (.tuple #[.string ⟨(Lib.cut s.data.toList sep.data.toList).1.toArray⟩, .string ⟨(Lib.cut s.data.toList sep.data.toList).2.1.toArray⟩, .bool (Lib.cut s.data.toList sep.data.toList).2.2]) ∧ ∃ n, w' = w.drewN n := Any.strings_Cut Tryz.lays145 s sep m w hs hm
open Go.RowKit Go.Lib in
/-- strings.Split. (LAID: no walk: one application.) -/
theorem Tryz.strings_Split (s sep : ByteArray) (m : Int) (w : World) (hs : s.size < 4294967281) (hm : w.cell? ⟨1, 0, none⟩ = some (.int .i64 m)) (h1 : 1 ≤ sep.size) :
    Calls Tryz.prog 30 #[.string s, .string sep] w fun e w' =>
      e = .returned (.slice (some ⟨w.heap.size, 0, none⟩) (Lib.countB s sep + 1) (Lib.countB s sep + 1)) ∧ w' = w.alloc (.cells ((Lib.splitB sep 0 (Lib.countB s sep) s).map Value.string).toArray 9) := Any.strings_Split Tryz.lays146 (by kernel_rfl) s sep m w hs hm h1
end Go.Proofs
