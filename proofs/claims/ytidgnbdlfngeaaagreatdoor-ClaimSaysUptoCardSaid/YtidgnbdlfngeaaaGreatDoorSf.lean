/-
  DERIVED: THE SHELF's CONTRACTS AT THIS DUMP, IN PLAIN WORDS (tools/lay-plain.mjs out of 'TryzShelf.lean', which tools/lay-shelf.mjs wrote): THE SAME DECLARATIONS UNDER THE SAME YtidgnbdlfngeaaaGreatDoorS: 'import', 'namespace', 'open', 'def', 'theorem' AND NOTHING ELSE: no command of the shelf's: FOR A HAND-IN. Each laying: the table of numbers ('.._ren') and one theorem, a field a fact of the dump's own or the kernel's comparison; each contract: ONE APPLICATION.
-/
import Derived.Shelf.Strings.Builder1
import Derived.Shelf.Small.Wraps
import Derived.Shelf.Strings.BuilderF
import Derived.Shelf.Strings.BuilderK
import Derived.Shelf.Strconv.Atoi
import Derived.Shelf.Strconv.Itoa0
import Derived.Shelf.Strconv.Itoa1
import Derived.Shelf.LaysM
import Derived.Shelf.Strconv.Itoa2
import Derived.Shelf.Strconv.Itoa3
import Derived.Shelf.Strconv.AtoiErrFast
import Derived.Shelf.Strconv.ParseIntEmpty
import Derived.Shelf.Strconv.AtoiFail
import Derived.Shelf.Strconv.Clone
import Derived.Shelf.Strconv.SyntaxError
import Derived.Shelf.LaysC
import Derived.Shelf.Strconv.ToError
import Derived.Shelf.Strconv.Lower
import Derived.Shelf.Strconv.ParseUint10
import Derived.Shelf.Strconv.ParseUint10Empty
import Derived.Shelf.Strconv.ParseUint10Any
import Derived.Shelf.Strconv.ParseInt10
import Derived.Shelf.Strconv.AtoiLong
import Derived.Shelf.Strconv.AtoiInnerAll
import Derived.Shelf.Strconv.RangeError
import Derived.Shelf.Strconv.ToErrorRange
import Derived.Shelf.Strconv.AtoiAll
import Derived.Shelf.Strconv.ErrVarAll
import Derived.Shelf.Strings.Search1
import Derived.Shelf.Strings.Search2
import Derived.Shelf.Strings.Search3
import Derived.Shelf.Strings.Count
import Derived.Shelf.Strings.Shaped
import Derived.Shelf.Strings.Prefix
import Derived.Shelf.Strings.Split
import Derived.Shelf.Strings.SplitShaped
import Derived.Shelf.Unicode.DecodeSlow
import Derived.Test.YtidgnbdlfngeaaaGreatDoorProg
namespace Go.Proofs
open Go.Shelf
def Tryz.lays170_ren : Go.Shelf.Ren := ⟨fun | 170 => 27 | n => n, fun | 70 => 55 | 3 => 3 | 0 => 0 | 72 => 58 | 37 => 56 | 5 => 5 | n => n, fun | n => n⟩
theorem Tryz.lays170 : Go.Proofs.Lays.n170 Tryz.prog Tryz.lays170_ren := {
  mixed := by kernel_rfl
  f170 := Tryz.func27.trans (congrArg some (by kernel_rfl))
  t0 := Tryz.underlying0
  a0 := Tryz.isAgg0
  z0 := Tryz.sizeOf0
  v0 := Tryz.zeroValue0
  t3 := Tryz.underlying3
  a3 := Tryz.isAgg3
  z3 := Tryz.sizeOf3
  v3 := Tryz.zeroValue3
  t37 := Tryz.underlying56
  a37 := Tryz.isAgg56
  z37 := Tryz.sizeOf56
  v37 := Tryz.zeroValue56
  t70 := Tryz.underlying55
  a70 := Tryz.isAgg55
  z70 := Tryz.sizeOf55
  v70 := Tryz.zeroValue55
  t72 := Tryz.underlying58
  a72 := Tryz.isAgg58
  z72 := Tryz.sizeOf58
  v72 := Tryz.zeroValue58 }
open Go.RowKit in
/-- (*strings.Builder).Len: "Len returns the number of accumulated bytes; b.Len() == len(b.String()).": the world is as it was. (LAID: no walk: one application.) -/
theorem Tryz.Builder_Len (B b : Nat) (bs : List Value) (w : World) (h : Lib.IsBuilder 58 5 B b bs w) :
    Calls Tryz.prog 27 #[.pointer (some ⟨b, 0, none⟩)] w fun e w' => e = .returned (.int .i64 bs.length) ∧ w' = w := Any.Builder_Len Tryz.lays170 B b bs w h
def Tryz.lays169_ren : Go.Shelf.Ren := ⟨fun | 169 => 28 | n => n, fun | 70 => 55 | 9 => 9 | 0 => 0 | 72 => 58 | 37 => 56 | 127 => 85 | 3 => 3 | 5 => 5 | n => n, fun | n => n⟩
theorem Tryz.lays169 : Go.Proofs.Lays.n169 Tryz.prog Tryz.lays169_ren := {
  mixed := by kernel_rfl
  f169 := Tryz.func28.trans (congrArg some (by kernel_rfl))
  t0 := Tryz.underlying0
  a0 := Tryz.isAgg0
  z0 := Tryz.sizeOf0
  v0 := Tryz.zeroValue0
  t3 := Tryz.underlying3
  a3 := Tryz.isAgg3
  z3 := Tryz.sizeOf3
  v3 := Tryz.zeroValue3
  t9 := Tryz.underlying9
  a9 := Tryz.isAgg9
  z9 := Tryz.sizeOf9
  v9 := Tryz.zeroValue9
  t37 := Tryz.underlying56
  a37 := Tryz.isAgg56
  z37 := Tryz.sizeOf56
  v37 := Tryz.zeroValue56
  t70 := Tryz.underlying55
  a70 := Tryz.isAgg55
  z70 := Tryz.sizeOf55
  v70 := Tryz.zeroValue55
  t72 := Tryz.underlying58
  a72 := Tryz.isAgg58
  z72 := Tryz.sizeOf58
  v72 := Tryz.zeroValue58
  t127 := Tryz.underlying85
  a127 := Tryz.isAgg85
  z127 := Tryz.sizeOf85
  v127 := Tryz.zeroValue85 }
theorem Tryz.Builder_Extra_169 : Builder.Extra Tryz.prog Tryz.lays169_ren := {
  sizeBuilder := by kernel_rfl
  liesBuilder := by kernel_rfl
  t5 := Tryz.underlying5
  a5 := Tryz.isAgg5
  z5 := Tryz.sizeOf5
  v5 := Tryz.zeroValue5
  infoByte := by kernel_rfl
  cellsByte := by kernel_rfl
  sizeByte := by kernel_rfl
  neB5 := by decide }
def Tryz.lays103_ren : Go.Shelf.Ren := ⟨fun | 103 => 61 | 210 => 77 | 206 => 91 | n => n, fun | 9 => 9 | 4 => 4 | 24 => 105 | 3 => 3 | n => n, fun | n => n⟩
theorem Tryz.lays103 : Go.Proofs.Lays.n103 Tryz.prog Tryz.lays103_ren := {
  mixed := by kernel_rfl
  f103 := Tryz.func61.trans (congrArg some (by kernel_rfl))
  f206 := Tryz.func91.trans (congrArg some (by kernel_rfl))
  f210 := Tryz.func77.trans (congrArg some (by kernel_rfl))
  t3 := Tryz.underlying3
  a3 := Tryz.isAgg3
  z3 := Tryz.sizeOf3
  v3 := Tryz.zeroValue3
  t4 := Tryz.underlying4
  a4 := Tryz.isAgg4
  z4 := Tryz.sizeOf4
  v4 := Tryz.zeroValue4
  t9 := Tryz.underlying9
  a9 := Tryz.isAgg9
  z9 := Tryz.sizeOf9
  v9 := Tryz.zeroValue9
  t24 := Tryz.underlying105
  a24 := Tryz.isAgg105
  z24 := Tryz.sizeOf105
  v24 := Tryz.zeroValue105 }
open Go.RowKit in
/-- strings.CutPrefix: "CutPrefix returns s without the provided leading prefix string and reports whether it found the prefix. If s doesn't start with prefix, CutPrefix returns s, false. If prefix is the empty string, CutPrefix returns s, true.": IT RETURNS '(Lib.trimPrefix s p, Lib.hasPrefix s p)'; the world is as it was. (LAID: no walk: one application.) -/
theorem Tryz.strings_CutPrefix (s p : ByteArray) (w : World) :
    Calls Tryz.prog 61 #[.string s, .string p] w fun e w' => e = .returned (.tuple #[.string ⟨(Lib.trimPrefix s.data.toList p.data.toList).toArray⟩, .bool (Lib.hasPrefix s.data.toList p.data.toList)]) ∧ w' = w := Any.strings_CutPrefix Tryz.lays103 s p w
def Tryz.lays171_ren : Go.Shelf.Ren := ⟨fun | 171 => 24 | 243 => 42 | 246 => 57 | 283 => 69 | 284 => 70 | 285 => 71 | 286 => 72 | 129 => 82 | 317 => 81 | 318 => 83 | 319 => 84 | 320 => 85 | 337 => 97 | 338 => 98 | n => n, fun | 3 => 3 | 9 => 9 | 2 => 2 | 4 => 4 | 171 => 110 | 0 => 0 | 53 => 111 | 37 => 56 | 5 => 5 | 173 => 114 | 212 => 124 | 51 => 125 | 20 => 20 | 213 => 126 | 46 => 127 | 232 => 149 | 233 => 150 | n => n, fun | 17 => 0 | 18 => 6 | 19 => 7 | n => n⟩
theorem Tryz.lays171 : Go.Proofs.Lays.n171 Tryz.prog Tryz.lays171_ren := {
  mixed := by kernel_rfl
  f129 := Tryz.func82.trans (congrArg some (by kernel_rfl))
  f171 := Tryz.func24.trans (congrArg some (by kernel_rfl))
  f243 := Tryz.func42.trans (congrArg some (by kernel_rfl))
  f246 := Tryz.func57.trans (congrArg some (by kernel_rfl))
  f283 := Tryz.func69.trans (congrArg some (by kernel_rfl))
  f284 := Tryz.func70.trans (congrArg some (by kernel_rfl))
  f285 := Tryz.func71.trans (congrArg some (by kernel_rfl))
  f286 := Tryz.func72.trans (congrArg some (by kernel_rfl))
  f317 := Tryz.func81.trans (congrArg some (by kernel_rfl))
  f318 := Tryz.func83.trans (congrArg some (by kernel_rfl))
  f319 := Tryz.func84.trans (congrArg some (by kernel_rfl))
  f320 := Tryz.func85.trans (congrArg some (by kernel_rfl))
  f337 := Tryz.func97.trans (congrArg some (by kernel_rfl))
  f338 := Tryz.func98.trans (congrArg some (by kernel_rfl))
  t0 := Tryz.underlying0
  a0 := Tryz.isAgg0
  z0 := Tryz.sizeOf0
  v0 := Tryz.zeroValue0
  t2 := Tryz.underlying2
  a2 := Tryz.isAgg2
  z2 := Tryz.sizeOf2
  v2 := Tryz.zeroValue2
  t3 := Tryz.underlying3
  a3 := Tryz.isAgg3
  z3 := Tryz.sizeOf3
  v3 := Tryz.zeroValue3
  t4 := Tryz.underlying4
  a4 := Tryz.isAgg4
  z4 := Tryz.sizeOf4
  v4 := Tryz.zeroValue4
  t5 := Tryz.underlying5
  a5 := Tryz.isAgg5
  z5 := Tryz.sizeOf5
  v5 := Tryz.zeroValue5
  t9 := Tryz.underlying9
  a9 := Tryz.isAgg9
  z9 := Tryz.sizeOf9
  v9 := Tryz.zeroValue9
  t20 := Tryz.underlying20
  a20 := Tryz.isAgg20
  z20 := Tryz.sizeOf20
  v20 := Tryz.zeroValue20
  t37 := Tryz.underlying56
  a37 := Tryz.isAgg56
  z37 := Tryz.sizeOf56
  v37 := Tryz.zeroValue56
  t46 := Tryz.underlying127
  a46 := Tryz.isAgg127
  z46 := Tryz.sizeOf127
  v46 := Tryz.zeroValue127
  t51 := Tryz.underlying125
  a51 := Tryz.isAgg125
  z51 := Tryz.sizeOf125
  v51 := Tryz.zeroValue125
  t53 := Tryz.underlying111
  a53 := Tryz.isAgg111
  z53 := Tryz.sizeOf111
  v53 := Tryz.zeroValue111
  t171 := Tryz.underlying110
  a171 := Tryz.isAgg110
  z171 := Tryz.sizeOf110
  v171 := Tryz.zeroValue110
  t173 := Tryz.underlying114
  a173 := Tryz.isAgg114
  z173 := Tryz.sizeOf114
  v173 := Tryz.zeroValue114
  t212 := Tryz.underlying124
  a212 := Tryz.isAgg124
  z212 := Tryz.sizeOf124
  v212 := Tryz.zeroValue124
  t213 := Tryz.underlying126
  a213 := Tryz.isAgg126
  z213 := Tryz.sizeOf126
  t232 := Tryz.underlying149
  a232 := Tryz.isAgg149
  z232 := Tryz.sizeOf149
  v232 := Tryz.zeroValue149
  t233 := Tryz.underlying150
  a233 := Tryz.isAgg150
  z233 := Tryz.sizeOf150
  v233 := Tryz.zeroValue150
  g17 := by kernel_rfl
  g18 := by kernel_rfl
  g19 := by kernel_rfl }
open Go.RowKit Go.Sort Go.Lib in
/-- THE ROAD WITHOUT THE TABLE: 0 <= i < 100: NO PREMISE ON THE WORLD, AND THE WORLD IS AS IT WAS: a row that keeps its argument in that range need list no table ('laid = []'). (LAID: no walk: one application.) -/
theorem Tryz.strconv_Itoa_small (i : Nat) (hi : i < 100) (w : World) :
    Calls Tryz.prog 24 #[.int .i64 i] w fun e w' => e = .returned (.string ⟨(Lib.decDigits i).toArray⟩) ∧ w' = w := Any.strconv_Itoa_small Tryz.lays171 i hi w
def Tryz.laysC172_ren : Go.Shelf.Ren := ⟨fun | 172 => 62 | 244 => 78 | 245 => 79 | 247 => 92 | 279 => 93 | 280 => 94 | 281 => 95 | 282 => 96 | 287 => 101 | 316 => 102 | 171 => 24 | 205 => 103 | 321 => 104 | 322 => 105 | 243 => 42 | 246 => 57 | 283 => 69 | 284 => 70 | 285 => 71 | 286 => 72 | 129 => 82 | 317 => 81 | 318 => 83 | 319 => 84 | 320 => 85 | 337 => 97 | 338 => 98 | n => n, fun | 9 => 9 | 3 => 3 | 75 => 60 | 76 => 61 | 4 => 4 | 5 => 5 | 167 => 130 | 37 => 56 | 0 => 0 | 85 => 131 | 2 => 2 | 168 => 133 | 53 => 111 | 175 => 143 | 46 => 127 | 210 => 147 | 127 => 85 | 145 => 154 | 143 => 152 | 21 => 21 | 171 => 110 | 173 => 114 | 212 => 124 | 51 => 125 | 20 => 20 | 213 => 126 | 232 => 149 | 233 => 150 | 80 => 66 | n => n, fun | 15 => 4 | 16 => 5 | 17 => 0 | 18 => 6 | 19 => 7 | n => n⟩
theorem Tryz.laysC172 : Go.Proofs.LaysC.n172 Tryz.prog Tryz.laysC172_ren := {
  mixed := by kernel_rfl
  f129 := Tryz.func82.trans (congrArg some (by kernel_rfl))
  f171 := Tryz.func24.trans (congrArg some (by kernel_rfl))
  f172 := Tryz.func62.trans (congrArg some (by kernel_rfl))
  f205 := Tryz.func103.trans (congrArg some (by kernel_rfl))
  f243 := Tryz.func42.trans (congrArg some (by kernel_rfl))
  f244 := Tryz.func78.trans (congrArg some (by kernel_rfl))
  f245 := Tryz.func79.trans (congrArg some (by kernel_rfl))
  f246 := Tryz.func57.trans (congrArg some (by kernel_rfl))
  f247 := Tryz.func92.trans (congrArg some (by kernel_rfl))
  f279 := Tryz.func93.trans (congrArg some (by kernel_rfl))
  f280 := Tryz.func94.trans (congrArg some (by kernel_rfl))
  f281 := Tryz.func95.trans (congrArg some (by kernel_rfl))
  f282 := Tryz.func96.trans (congrArg some (by kernel_rfl))
  f283 := Tryz.func69.trans (congrArg some (by kernel_rfl))
  f284 := Tryz.func70.trans (congrArg some (by kernel_rfl))
  f285 := Tryz.func71.trans (congrArg some (by kernel_rfl))
  f286 := Tryz.func72.trans (congrArg some (by kernel_rfl))
  f287 := Tryz.func101.trans (congrArg some (by kernel_rfl))
  f316 := Tryz.func102.trans (congrArg some (by kernel_rfl))
  f317 := Tryz.func81.trans (congrArg some (by kernel_rfl))
  f318 := Tryz.func83.trans (congrArg some (by kernel_rfl))
  f319 := Tryz.func84.trans (congrArg some (by kernel_rfl))
  f320 := Tryz.func85.trans (congrArg some (by kernel_rfl))
  f321 := Tryz.func104.trans (congrArg some (by kernel_rfl))
  f322 := Tryz.func105.trans (congrArg some (by kernel_rfl))
  f337 := Tryz.func97.trans (congrArg some (by kernel_rfl))
  f338 := Tryz.func98.trans (congrArg some (by kernel_rfl))
  t0 := Tryz.underlying0
  a0 := Tryz.isAgg0
  z0 := Tryz.sizeOf0
  v0 := Tryz.zeroValue0
  t2 := Tryz.underlying2
  a2 := Tryz.isAgg2
  z2 := Tryz.sizeOf2
  v2 := Tryz.zeroValue2
  t3 := Tryz.underlying3
  a3 := Tryz.isAgg3
  z3 := Tryz.sizeOf3
  v3 := Tryz.zeroValue3
  t4 := Tryz.underlying4
  a4 := Tryz.isAgg4
  z4 := Tryz.sizeOf4
  v4 := Tryz.zeroValue4
  t5 := Tryz.underlying5
  a5 := Tryz.isAgg5
  z5 := Tryz.sizeOf5
  v5 := Tryz.zeroValue5
  t9 := Tryz.underlying9
  a9 := Tryz.isAgg9
  z9 := Tryz.sizeOf9
  v9 := Tryz.zeroValue9
  t20 := Tryz.underlying20
  a20 := Tryz.isAgg20
  z20 := Tryz.sizeOf20
  v20 := Tryz.zeroValue20
  t21 := Tryz.underlying21
  a21 := Tryz.isAgg21
  z21 := Tryz.sizeOf21
  v21 := Tryz.zeroValue21
  t37 := Tryz.underlying56
  a37 := Tryz.isAgg56
  z37 := Tryz.sizeOf56
  v37 := Tryz.zeroValue56
  t46 := Tryz.underlying127
  a46 := Tryz.isAgg127
  z46 := Tryz.sizeOf127
  v46 := Tryz.zeroValue127
  t51 := Tryz.underlying125
  a51 := Tryz.isAgg125
  z51 := Tryz.sizeOf125
  v51 := Tryz.zeroValue125
  t53 := Tryz.underlying111
  a53 := Tryz.isAgg111
  z53 := Tryz.sizeOf111
  v53 := Tryz.zeroValue111
  t75 := Tryz.underlying60
  a75 := Tryz.isAgg60
  z75 := Tryz.sizeOf60
  v75 := Tryz.zeroValue60
  t76 := Tryz.underlying61
  a76 := Tryz.isAgg61
  z76 := Tryz.sizeOf61
  v76 := Tryz.zeroValue61
  t85 := Tryz.underlying131
  a85 := Tryz.isAgg131
  z85 := Tryz.sizeOf131
  v85 := Tryz.zeroValue131
  t127 := Tryz.underlying85
  a127 := Tryz.isAgg85
  z127 := Tryz.sizeOf85
  v127 := Tryz.zeroValue85
  t143 := Tryz.underlying152
  a143 := Tryz.isAgg152
  z143 := Tryz.sizeOf152
  v143 := Tryz.zeroValue152
  t145 := Tryz.underlying154
  a145 := Tryz.isAgg154
  z145 := Tryz.sizeOf154
  v145 := Tryz.zeroValue154
  t167 := Tryz.underlying130
  a167 := Tryz.isAgg130
  z167 := Tryz.sizeOf130
  v167 := Tryz.zeroValue130
  t168 := Tryz.underlying133
  a168 := Tryz.isAgg133
  z168 := Tryz.sizeOf133
  v168 := Tryz.zeroValue133
  t171 := Tryz.underlying110
  a171 := Tryz.isAgg110
  z171 := Tryz.sizeOf110
  v171 := Tryz.zeroValue110
  t173 := Tryz.underlying114
  a173 := Tryz.isAgg114
  z173 := Tryz.sizeOf114
  v173 := Tryz.zeroValue114
  t175 := Tryz.underlying143
  a175 := Tryz.isAgg143
  z175 := Tryz.sizeOf143
  v175 := Tryz.zeroValue143
  t210 := Tryz.underlying147
  a210 := Tryz.isAgg147
  z210 := Tryz.sizeOf147
  v210 := Tryz.zeroValue147
  t212 := Tryz.underlying124
  a212 := Tryz.isAgg124
  z212 := Tryz.sizeOf124
  v212 := Tryz.zeroValue124
  t213 := Tryz.underlying126
  a213 := Tryz.isAgg126
  z213 := Tryz.sizeOf126
  t232 := Tryz.underlying149
  a232 := Tryz.isAgg149
  z232 := Tryz.sizeOf149
  v232 := Tryz.zeroValue149
  t233 := Tryz.underlying150
  a233 := Tryz.isAgg150
  z233 := Tryz.sizeOf150
  v233 := Tryz.zeroValue150
  g15 := by kernel_rfl
  g16 := by kernel_rfl
  g17 := by kernel_rfl
  g18 := by kernel_rfl
  g19 := by kernel_rfl
  t80 := Tryz.underlying66
  a80 := Tryz.isAgg66
  z80 := Tryz.sizeOf66
  v80 := Tryz.zeroValue66
  i0 := by kernel_rfl
  i2 := by kernel_rfl
  i3 := by kernel_rfl
  i4 := by kernel_rfl
  i5 := by kernel_rfl
  i9 := by kernel_rfl
  i20 := by kernel_rfl
  i21 := by kernel_rfl
  i37 := by kernel_rfl
  i46 := by kernel_rfl
  i51 := by kernel_rfl
  i53 := by kernel_rfl
  i75 := by kernel_rfl
  i76 := by kernel_rfl
  i80 := by kernel_rfl
  i85 := by kernel_rfl
  i127 := by kernel_rfl
  i143 := by kernel_rfl
  i145 := by kernel_rfl
  i167 := by kernel_rfl
  i168 := by kernel_rfl
  i171 := by kernel_rfl
  i173 := by kernel_rfl
  i175 := by kernel_rfl
  i210 := by kernel_rfl
  i212 := by kernel_rfl
  i232 := by kernel_rfl
  i233 := by kernel_rfl
  m15 := by kernel_rfl
  m16 := by kernel_rfl
  m17 := by kernel_rfl
  m18 := by kernel_rfl
  m19 := by kernel_rfl
  c0 := by kernel_rfl
  c2 := by kernel_rfl
  c3 := by kernel_rfl
  c4 := by kernel_rfl
  c5 := by kernel_rfl
  c9 := by kernel_rfl
  c20 := by kernel_rfl
  c21 := by kernel_rfl
  c37 := by kernel_rfl
  c46 := by kernel_rfl
  c51 := by kernel_rfl
  c53 := by kernel_rfl
  c75 := by kernel_rfl
  c76 := by kernel_rfl
  c80 := by kernel_rfl
  c85 := by kernel_rfl
  c127 := by kernel_rfl
  c143 := by kernel_rfl
  c145 := by kernel_rfl
  c167 := by kernel_rfl
  c168 := by kernel_rfl
  c171 := by kernel_rfl
  c173 := by kernel_rfl
  c175 := by kernel_rfl
  c210 := by kernel_rfl
  c212 := by kernel_rfl
  c213 := by kernel_rfl
  c232 := by kernel_rfl
  c233 := by kernel_rfl }
open Go.RowKit in
/-- strconv.Atoi, AT EVERY STRING THAT SPELLS AN int ('Lib.atoiAll .. = .ok v'; of whatever length: leading zeros count): v, AND NO ERROR. The world: as it was, or with the one new row that '[]byte(..)' lays. (LAID: no walk: one application.) -/
theorem Tryz.strconv_Atoi_ok (s : ByteArray) (hmax : s.size ≤ 9223372036854775806) (v : Int) (h : Lib.atoiAll s.data.toList = .ok v) (w : World) :
    Calls Tryz.prog 62 #[.string s] w fun e w' => e = .returned (.tuple #[.int .i64 v, .nilIface]) ∧ (w' = w ∨ ∃ t, w' = Lib.bytesWorld w 5 t) := Any.strconv_Atoi_ok Tryz.laysC172 s hmax v h w
open Go.RowKit in
/-- strconv.Atoi, AT EVERY STRING THAT IS NO DECIMAL NUMERAL ('.syntax'): 0, AND AN ERROR THAT IS NOT nil: a *NumError in a new block N: {Func: "Atoi", Num: s's bytes, Err: what the variable ErrSyntax holds}. Of what was there nothing has turned. (LAID: no walk: one application.) -/
theorem Tryz.strconv_Atoi_syntax (s : ByteArray) (hlim : s.size ≤ 281474976710656) (h : Lib.atoiAll s.data.toList = .«syntax») (ev : Value) (w : World) (hv : w.cell? ⟨4, 0, none⟩ = some ev) (hev : ev = .nilIface ∨ ∃ te pe, ev = .iface te pe) :
    Calls Tryz.prog 62 #[.string s] w fun e w' => ∃ N, e = .returned (.tuple #[.int .i64 (0), .iface 133 (.pointer (some ⟨N, 0, none⟩))]) ∧ w.heap.size ≤ N ∧ w'.heap[N]? = some (.cells #[.string ⟨#[65, 116, 111, 105]⟩, .string s, ev] 147 (0, 0)) ∧ Below w.heap.size w w' := Any.strconv_Atoi_syntax Tryz.laysC172 s hlim h ev w hv hev
open Go.RowKit in
/-- strconv.Atoi, AT EVERY NUMERAL THAT NO int HOLDS ('.range'): THE GREATEST OR THE LEAST int, BY THE SIGN ('Lib.atoiSat'), AND AN ERROR THAT IS NOT nil: a *NumError in a new block N: {Func: "Atoi", Num: s's bytes, Err: what the variable ErrRange holds}. Of what was there nothing has turned. (LAID: no walk: one application.) -/
theorem Tryz.strconv_Atoi_range (s : ByteArray) (hlim : s.size ≤ 281474976710656) (h : Lib.atoiAll s.data.toList = .range) (ev : Value) (w : World) (hv : w.cell? ⟨5, 0, none⟩ = some ev) (hev : ev = .nilIface ∨ ∃ te pe, ev = .iface te pe) :
    Calls Tryz.prog 62 #[.string s] w fun e w' => ∃ N, e = .returned (.tuple #[.int .i64 (Lib.atoiSat s.data.toList), .iface 133 (.pointer (some ⟨N, 0, none⟩))]) ∧ w.heap.size ≤ N ∧ w'.heap[N]? = some (.cells #[.string ⟨#[65, 116, 111, 105]⟩, .string s, ev] 147 (0, 0)) ∧ Below w.heap.size w w' := Any.strconv_Atoi_range Tryz.laysC172 s hlim h ev w hv hev
def Tryz.lays146_ren : Go.Shelf.Ren := ⟨fun | 146 => 29 | 221 => 43 | 268 => 58 | 138 => 59 | 143 => 60 | 195 => 73 | 197 => 74 | 218 => 75 | 219 => 76 | 260 => 86 | 217 => 87 | 225 => 88 | 224 => 89 | 267 => 90 | 266 => 99 | 314 => 100 | n => n, fun | 9 => 9 | 31 => 67 | 3 => 3 | 4 => 4 | 0 => 0 | 105 => 117 | 21 => 21 | 5 => 5 | 46 => 127 | 119 => 137 | 139 => 140 | 138 => 139 | 146 => 141 | 51 => 125 | n => n, fun | 1 => 1 | 3 => 2 | 4 => 3 | n => n⟩
theorem Tryz.lays146 : Go.Proofs.Lays.n146 Tryz.prog Tryz.lays146_ren := {
  mixed := by kernel_rfl
  f138 := Tryz.func59.trans (congrArg some (by kernel_rfl))
  f143 := Tryz.func60.trans (congrArg some (by kernel_rfl))
  f146 := Tryz.func29.trans (congrArg some (by kernel_rfl))
  f195 := Tryz.func73.trans (congrArg some (by kernel_rfl))
  f197 := Tryz.func74.trans (congrArg some (by kernel_rfl))
  f217 := Tryz.func87.trans (congrArg some (by kernel_rfl))
  f218 := Tryz.func75.trans (congrArg some (by kernel_rfl))
  f219 := Tryz.func76.trans (congrArg some (by kernel_rfl))
  f221 := Tryz.func43.trans (congrArg some (by kernel_rfl))
  f224 := Tryz.func89.trans (congrArg some (by kernel_rfl))
  f225 := Tryz.func88.trans (congrArg some (by kernel_rfl))
  f260 := Tryz.func86.trans (congrArg some (by kernel_rfl))
  f266 := Tryz.func99.trans (congrArg some (by kernel_rfl))
  f267 := Tryz.func90.trans (congrArg some (by kernel_rfl))
  f268 := Tryz.func58.trans (congrArg some (by kernel_rfl))
  f314 := Tryz.func100.trans (congrArg some (by kernel_rfl))
  t0 := Tryz.underlying0
  a0 := Tryz.isAgg0
  z0 := Tryz.sizeOf0
  v0 := Tryz.zeroValue0
  t3 := Tryz.underlying3
  a3 := Tryz.isAgg3
  z3 := Tryz.sizeOf3
  v3 := Tryz.zeroValue3
  t4 := Tryz.underlying4
  a4 := Tryz.isAgg4
  z4 := Tryz.sizeOf4
  v4 := Tryz.zeroValue4
  t5 := Tryz.underlying5
  a5 := Tryz.isAgg5
  z5 := Tryz.sizeOf5
  v5 := Tryz.zeroValue5
  t9 := Tryz.underlying9
  a9 := Tryz.isAgg9
  z9 := Tryz.sizeOf9
  v9 := Tryz.zeroValue9
  t21 := Tryz.underlying21
  a21 := Tryz.isAgg21
  z21 := Tryz.sizeOf21
  v21 := Tryz.zeroValue21
  t31 := Tryz.underlying67
  a31 := Tryz.isAgg67
  z31 := Tryz.sizeOf67
  v31 := Tryz.zeroValue67
  t46 := Tryz.underlying127
  a46 := Tryz.isAgg127
  z46 := Tryz.sizeOf127
  v46 := Tryz.zeroValue127
  t51 := Tryz.underlying125
  a51 := Tryz.isAgg125
  z51 := Tryz.sizeOf125
  v51 := Tryz.zeroValue125
  t105 := Tryz.underlying117
  a105 := Tryz.isAgg117
  z105 := Tryz.sizeOf117
  v105 := Tryz.zeroValue117
  t119 := Tryz.underlying137
  a119 := Tryz.isAgg137
  z119 := Tryz.sizeOf137
  t138 := Tryz.underlying139
  a138 := Tryz.isAgg139
  z138 := Tryz.sizeOf139
  v138 := Tryz.zeroValue139
  t139 := Tryz.underlying140
  a139 := Tryz.isAgg140
  z139 := Tryz.sizeOf140
  v139 := Tryz.zeroValue140
  t146 := Tryz.underlying141
  a146 := Tryz.isAgg141
  z146 := Tryz.sizeOf141
  v146 := Tryz.zeroValue141
  g1 := by kernel_rfl
  g3 := by kernel_rfl
  g4 := by kernel_rfl }
open Go.RowKit Go.Lib in
/-- strings.Split. (LAID: no walk: one application.) -/
theorem Tryz.strings_Split (s sep : ByteArray) (m : Int) (w : World) (hs : s.size < 4294967281) (hm : w.cell? ⟨1, 0, none⟩ = some (.int .i64 m)) (h1 : 1 ≤ sep.size) :
    Calls Tryz.prog 29 #[.string s, .string sep] w fun e w' =>
      e = .returned (.slice (some ⟨w.heap.size, 0, none⟩) (Lib.countB s sep + 1) (Lib.countB s sep + 1)) ∧ w' = w.alloc (.cells ((Lib.splitB sep 0 (Lib.countB s sep) s).map Value.string).toArray 9) := Any.strings_Split Tryz.lays146 (by kernel_rfl) s sep m w hs hm h1
end Go.Proofs
