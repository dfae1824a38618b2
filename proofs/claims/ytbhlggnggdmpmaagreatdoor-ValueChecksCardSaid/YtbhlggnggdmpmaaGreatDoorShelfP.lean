/-
  DERIVED: THE SHELF's CONTRACTS AT THIS DUMP, IN PLAIN WORDS (tools/lay-plain.mjs out of 'TryzShelf.lean', which tools/lay-shelf.mjs wrote): THE SAME DECLARATIONS UNDER THE SAME NAMES: 'import', 'namespace', 'open', 'def', 'theorem' AND NOTHING ELSE: no command of the shelf's: FOR A HAND-IN. Each laying: the table of numbers ('.._ren') and one theorem, a field a fact of the dump's own or the kernel's comparison; each contract: ONE APPLICATION.
-/
import Derived.Shelf.Strings.Builder1
import Derived.Shelf.Strings.Builder2
import Derived.Shelf.Strings.OnBuilder
import Derived.Shelf.Small.Strs
import Derived.Shelf.Strconv.Itoa0
import Derived.Shelf.Strconv.Itoa1
import Derived.Shelf.LaysM
import Derived.Shelf.Strconv.Itoa2
import Derived.Shelf.Strconv.Itoa3
import Derived.Shelf.Strconv.Itoa4
import Derived.Shelf.Strconv.ParseIntEmpty
import Derived.Shelf.Strconv.Clone
import Derived.Shelf.Strconv.SyntaxError
import Derived.Shelf.LaysC
import Derived.Shelf.Strconv.ToError
import Derived.Shelf.Strconv.Lower
import Derived.Shelf.Strconv.ParseUint10
import Derived.Shelf.Strconv.ParseUint10Empty
import Derived.Shelf.Strconv.ParseUint10Any
import Derived.Shelf.Strconv.ParseInt10
import Derived.Shelf.Strconv.RangeError
import Derived.Shelf.Strconv.ToErrorRange
import Derived.Shelf.Strconv.ParseUintEmpty
import Derived.Shelf.Strconv.ParseUint10b64
import Derived.Shelf.Strconv.ParseUint10b32
import Derived.Shelf.Strconv.ParseUint10b16
import Derived.Shelf.Strconv.ParseUint10b8
import Derived.Shelf.Strconv.ParseUint10At
import Derived.Shelf.Strconv.ParseInt10At64
import Derived.Shelf.Strconv.ParseInt10At32
import Derived.Shelf.Strconv.ParseInt10At16
import Derived.Shelf.Strconv.ParseInt10At8
import Derived.Shelf.Strconv.ParseInt10All
import Derived.Shelf.Strconv.ParseIntPublic10
import Derived.Shelf.Strconv.ErrVarParseInt
import Derived.Shelf.Strings.Search1
import Derived.Shelf.Strings.Prefix
import Derived.Test.YtbhlggnggdmpmaaGreatDoorProg
namespace Go.Proofs
open Go.Shelf
def Tryz.laysC174_ren : Go.Shelf.Ren := ⟨fun | 174 => 84 | 247 => 95 | 245 => 96 | 287 => 100 | 279 => 101 | 280 => 102 | 281 => 103 | 282 => 104 | 321 => 106 | 322 => 107 | 316 => 108 | 171 => 110 | 205 => 109 | 243 => 111 | 246 => 61 | 283 => 76 | 284 => 77 | 285 => 78 | 286 => 79 | 129 => 88 | 317 => 87 | 318 => 89 | 319 => 90 | 320 => 91 | 337 => 97 | 338 => 98 | n => n, fun | 9 => 9 | 3 => 3 | 2 => 2 | 75 => 94 | 85 => 119 | 4 => 4 | 167 => 134 | 5 => 5 | 53 => 69 | 175 => 135 | 46 => 79 | 168 => 137 | 37 => 29 | 0 => 0 | 210 => 144 | 21 => 21 | 127 => 117 | 145 => 148 | 143 => 146 | 171 => 112 | 173 => 115 | 212 => 124 | 51 => 125 | 20 => 20 | 213 => 126 | 232 => 140 | 233 => 141 | 80 => 97 | n => n, fun | 15 => 4 | 16 => 5 | 17 => 1 | 18 => 2 | 19 => 3 | n => n⟩
theorem Tryz.laysC174 : Go.Proofs.LaysC.n174 Tryz.prog Tryz.laysC174_ren := {
  mixed := by kernel_rfl
  f129 := Tryz.func88.trans (congrArg some (by kernel_rfl))
  f171 := Tryz.func110.trans (congrArg some (by kernel_rfl))
  f174 := Tryz.func84.trans (congrArg some (by kernel_rfl))
  f205 := Tryz.func109.trans (congrArg some (by kernel_rfl))
  f243 := Tryz.func111.trans (congrArg some (by kernel_rfl))
  f245 := Tryz.func96.trans (congrArg some (by kernel_rfl))
  f246 := Tryz.func61.trans (congrArg some (by kernel_rfl))
  f247 := Tryz.func95.trans (congrArg some (by kernel_rfl))
  f279 := Tryz.func101.trans (congrArg some (by kernel_rfl))
  f280 := Tryz.func102.trans (congrArg some (by kernel_rfl))
  f281 := Tryz.func103.trans (congrArg some (by kernel_rfl))
  f282 := Tryz.func104.trans (congrArg some (by kernel_rfl))
  f283 := Tryz.func76.trans (congrArg some (by kernel_rfl))
  f284 := Tryz.func77.trans (congrArg some (by kernel_rfl))
  f285 := Tryz.func78.trans (congrArg some (by kernel_rfl))
  f286 := Tryz.func79.trans (congrArg some (by kernel_rfl))
  f287 := Tryz.func100.trans (congrArg some (by kernel_rfl))
  f316 := Tryz.func108.trans (congrArg some (by kernel_rfl))
  f317 := Tryz.func87.trans (congrArg some (by kernel_rfl))
  f318 := Tryz.func89.trans (congrArg some (by kernel_rfl))
  f319 := Tryz.func90.trans (congrArg some (by kernel_rfl))
  f320 := Tryz.func91.trans (congrArg some (by kernel_rfl))
  f321 := Tryz.func106.trans (congrArg some (by kernel_rfl))
  f322 := Tryz.func107.trans (congrArg some (by kernel_rfl))
  f337 := Tryz.func97.trans (congrArg some (by kernel_rfl))
  f338 := Tryz.func98.trans (congrArg some (by kernel_rfl))
  t0 := Tryz.underlying0
  a0 := Tryz.isAgg0
  z0 := Tryz.sizeOf0
  v0 := Tryz.zeroValue0
  t2 := Tryz.underlying2
  a2 := Tryz.isAgg2
  z2 := Tryz.sizeOf2
  v2 := Tryz.zeroValue2
  t3 := Tryz.underlying3
  a3 := Tryz.isAgg3
  z3 := Tryz.sizeOf3
  v3 := Tryz.zeroValue3
  t4 := Tryz.underlying4
  a4 := Tryz.isAgg4
  z4 := Tryz.sizeOf4
  v4 := Tryz.zeroValue4
  t5 := Tryz.underlying5
  a5 := Tryz.isAgg5
  z5 := Tryz.sizeOf5
  v5 := Tryz.zeroValue5
  t9 := Tryz.underlying9
  a9 := Tryz.isAgg9
  z9 := Tryz.sizeOf9
  v9 := Tryz.zeroValue9
  t20 := Tryz.underlying20
  a20 := Tryz.isAgg20
  z20 := Tryz.sizeOf20
  v20 := Tryz.zeroValue20
  t21 := Tryz.underlying21
  a21 := Tryz.isAgg21
  z21 := Tryz.sizeOf21
  v21 := Tryz.zeroValue21
  t37 := Tryz.underlying29
  a37 := Tryz.isAgg29
  z37 := Tryz.sizeOf29
  v37 := Tryz.zeroValue29
  t46 := Tryz.underlying79
  a46 := Tryz.isAgg79
  z46 := Tryz.sizeOf79
  v46 := Tryz.zeroValue79
  t51 := Tryz.underlying125
  a51 := Tryz.isAgg125
  z51 := Tryz.sizeOf125
  v51 := Tryz.zeroValue125
  t53 := Tryz.underlying69
  a53 := Tryz.isAgg69
  z53 := Tryz.sizeOf69
  v53 := Tryz.zeroValue69
  t75 := Tryz.underlying94
  a75 := Tryz.isAgg94
  z75 := Tryz.sizeOf94
  v75 := Tryz.zeroValue94
  t85 := Tryz.underlying119
  a85 := Tryz.isAgg119
  z85 := Tryz.sizeOf119
  v85 := Tryz.zeroValue119
  t127 := Tryz.underlying117
  a127 := Tryz.isAgg117
  z127 := Tryz.sizeOf117
  v127 := Tryz.zeroValue117
  t143 := Tryz.underlying146
  a143 := Tryz.isAgg146
  z143 := Tryz.sizeOf146
  v143 := Tryz.zeroValue146
  t145 := Tryz.underlying148
  a145 := Tryz.isAgg148
  z145 := Tryz.sizeOf148
  v145 := Tryz.zeroValue148
  t167 := Tryz.underlying134
  a167 := Tryz.isAgg134
  z167 := Tryz.sizeOf134
  v167 := Tryz.zeroValue134
  t168 := Tryz.underlying137
  a168 := Tryz.isAgg137
  z168 := Tryz.sizeOf137
  v168 := Tryz.zeroValue137
  t171 := Tryz.underlying112
  a171 := Tryz.isAgg112
  z171 := Tryz.sizeOf112
  v171 := Tryz.zeroValue112
  t173 := Tryz.underlying115
  a173 := Tryz.isAgg115
  z173 := Tryz.sizeOf115
  v173 := Tryz.zeroValue115
  t175 := Tryz.underlying135
  a175 := Tryz.isAgg135
  z175 := Tryz.sizeOf135
  v175 := Tryz.zeroValue135
  t210 := Tryz.underlying144
  a210 := Tryz.isAgg144
  z210 := Tryz.sizeOf144
  v210 := Tryz.zeroValue144
  t212 := Tryz.underlying124
  a212 := Tryz.isAgg124
  z212 := Tryz.sizeOf124
  v212 := Tryz.zeroValue124
  t213 := Tryz.underlying126
  a213 := Tryz.isAgg126
  z213 := Tryz.sizeOf126
  t232 := Tryz.underlying140
  a232 := Tryz.isAgg140
  z232 := Tryz.sizeOf140
  v232 := Tryz.zeroValue140
  t233 := Tryz.underlying141
  a233 := Tryz.isAgg141
  z233 := Tryz.sizeOf141
  v233 := Tryz.zeroValue141
  g15 := by kernel_rfl
  g16 := by kernel_rfl
  g17 := by kernel_rfl
  g18 := by kernel_rfl
  g19 := by kernel_rfl
  t80 := Tryz.underlying97
  a80 := Tryz.isAgg97
  z80 := Tryz.sizeOf97
  v80 := Tryz.zeroValue97
  i0 := by kernel_rfl
  i2 := by kernel_rfl
  i3 := by kernel_rfl
  i4 := by kernel_rfl
  i5 := by kernel_rfl
  i9 := by kernel_rfl
  i20 := by kernel_rfl
  i21 := by kernel_rfl
  i37 := by kernel_rfl
  i46 := by kernel_rfl
  i51 := by kernel_rfl
  i53 := by kernel_rfl
  i75 := by kernel_rfl
  i80 := by kernel_rfl
  i85 := by kernel_rfl
  i127 := by kernel_rfl
  i143 := by kernel_rfl
  i145 := by kernel_rfl
  i167 := by kernel_rfl
  i168 := by kernel_rfl
  i171 := by kernel_rfl
  i173 := by kernel_rfl
  i175 := by kernel_rfl
  i210 := by kernel_rfl
  i212 := by kernel_rfl
  i232 := by kernel_rfl
  i233 := by kernel_rfl
  m15 := by kernel_rfl
  m16 := by kernel_rfl
  m17 := by kernel_rfl
  m18 := by kernel_rfl
  m19 := by kernel_rfl
  c0 := by kernel_rfl
  c2 := by kernel_rfl
  c3 := by kernel_rfl
  c4 := by kernel_rfl
  c5 := by kernel_rfl
  c9 := by kernel_rfl
  c20 := by kernel_rfl
  c21 := by kernel_rfl
  c37 := by kernel_rfl
  c46 := by kernel_rfl
  c51 := by kernel_rfl
  c53 := by kernel_rfl
  c75 := by kernel_rfl
  c80 := by kernel_rfl
  c85 := by kernel_rfl
  c127 := by kernel_rfl
  c143 := by kernel_rfl
  c145 := by kernel_rfl
  c167 := by kernel_rfl
  c168 := by kernel_rfl
  c171 := by kernel_rfl
  c173 := by kernel_rfl
  c175 := by kernel_rfl
  c210 := by kernel_rfl
  c212 := by kernel_rfl
  c213 := by kernel_rfl
  c232 := by kernel_rfl
  c233 := by kernel_rfl }
def Tryz.lays99_ren : Go.Shelf.Ren := ⟨fun | 99 => 65 | 206 => 82 | n => n, fun | 9 => 9 | 4 => 4 | 3 => 3 | n => n, fun | n => n⟩
theorem Tryz.lays99 : Go.Proofs.Lays.n99 Tryz.prog Tryz.lays99_ren := {
  mixed := by kernel_rfl
  f99 := Tryz.func65.trans (congrArg some (by kernel_rfl))
  f206 := Tryz.func82.trans (congrArg some (by kernel_rfl))
  t3 := Tryz.underlying3
  a3 := Tryz.isAgg3
  z3 := Tryz.sizeOf3
  v3 := Tryz.zeroValue3
  t4 := Tryz.underlying4
  a4 := Tryz.isAgg4
  z4 := Tryz.sizeOf4
  v4 := Tryz.zeroValue4
  t9 := Tryz.underlying9
  a9 := Tryz.isAgg9
  z9 := Tryz.sizeOf9
  v9 := Tryz.zeroValue9 }
open Go.RowKit in
/-- strconv.ParseInt(s, 10, 64), AT EVERY STRING THAT SPELLS AN int64 ('Lib.parseIntB 64 s.data.toList = .ok v'): v, AND NO ERROR. (LAID: no walk: one application.) -/
theorem Tryz.strconv_ParseInt_10_at64_ok (s : ByteArray) (hmax : s.size ≤ 9223372036854775806) (v : Int) (h : Lib.parseIntB 64 s.data.toList = .ok v) (w : World) :
    Calls Tryz.prog 84 #[.string s, .int .i64 10, .int .i64 64] w fun e w' => e = .returned (.tuple #[.int .i64 v, .nilIface]) ∧ (w' = w ∨ ∃ t, w' = Lib.bytesWorld w 5 t) := Any.strconv_ParseInt_10_at64_ok Tryz.laysC174 s hmax v h w
open Go.RowKit in
/-- strconv.ParseInt(s, 10, 64), AT EVERY STRING THAT IS NO DECIMAL NUMERAL: 0, AND AN ERROR THAT IS NOT nil: a *NumError in a new block N: {Func: "ParseInt", Num: s's bytes, Err: what the variable ErrSyntax holds}. Of what was there nothing has turned. (LAID: no walk: one application.) -/
theorem Tryz.strconv_ParseInt_10_at64_syn (s : ByteArray) (hlim : s.size ≤ 281474976710656) (h : Lib.parseIntB 64 s.data.toList = Lib.parseIntB 64 []) (ev : Value) (w : World) (hv : w.cell? ⟨4, 0, none⟩ = some ev) (hev : ev = .nilIface ∨ ∃ te pe, ev = .iface te pe) :
    Calls Tryz.prog 84 #[.string s, .int .i64 10, .int .i64 64] w fun e w' => ∃ N, e = .returned (.tuple #[.int .i64 (0), .iface 137 (.pointer (some ⟨N, 0, none⟩))]) ∧ w.heap.size ≤ N ∧ w'.heap[N]? = some (.cells #[.string ⟨#[80, 97, 114, 115, 101, 73, 110, 116]⟩, .string s, ev] 144 (0, 0)) ∧ Below w.heap.size w w' := Any.strconv_ParseInt_10_at64_syntax Tryz.laysC174 s hlim (h.trans rfl) ev w hv hev
open Go.RowKit in
/-- strconv.ParseInt(s, 10, 64), AT EVERY NUMERAL THAT NO int64 HOLDS: THE GREATEST OR THE LEAST int64, BY THE SIGN ('Lib.intSat 64'), AND AN ERROR THAT IS NOT nil: a *NumError in a new block N: {Func: "ParseInt", Num: s's bytes, Err: what the variable ErrRange holds}. Of what was there nothing has turned. (LAID: no walk: one application.) -/
theorem Tryz.strconv_ParseInt_10_at64_range (s : ByteArray) (hlim : s.size ≤ 281474976710656) (h : Lib.parseIntB 64 s.data.toList = .range) (ev : Value) (w : World) (hv : w.cell? ⟨5, 0, none⟩ = some ev) (hev : ev = .nilIface ∨ ∃ te pe, ev = .iface te pe) :
    Calls Tryz.prog 84 #[.string s, .int .i64 10, .int .i64 64] w fun e w' => ∃ N, e = .returned (.tuple #[.int .i64 (Lib.intSat 64 s.data.toList), .iface 137 (.pointer (some ⟨N, 0, none⟩))]) ∧ w.heap.size ≤ N ∧ w'.heap[N]? = some (.cells #[.string ⟨#[80, 97, 114, 115, 101, 73, 110, 116]⟩, .string s, ev] 144 (0, 0)) ∧ Below w.heap.size w w' := Any.strconv_ParseInt_10_at64_range Tryz.laysC174 s hlim h ev w hv hev
open Go.RowKit Go.Lib in
/-- strings.HasPrefix: "HasPrefix reports whether the string s begins with prefix.": IT RETURNS 'Lib.hasPrefix s prefix'; the world is as it was. (LAID: no walk: one application.) -/
theorem Tryz.strings_HasPrefix (s p : ByteArray) (w : World) :
    Calls Tryz.prog 65 #[.string s, .string p] w fun e w' => e = .returned (.bool (Lib.hasPrefix s.data.toList p.data.toList)) ∧ w' = w := Any.strings_HasPrefix Tryz.lays99 s p w
end Go.Proofs
