/- A part of the proofs of the laws of one package; see the law's own text, which comes last in 'order'. No conditions of its own. -/
import Derived.Shelf.Strings.Trim
import Derived.Shelf.Small.Utf8
import Derived.Shelf.Small.Bits
import Derived.Shelf.Small.Strs
import Derived.Shelf.Small.Wraps
import Derived.Shelf.Utf8.RuneCount
import Derived.Shelf.Strconv.Atoi
import Derived.Shelf.Strconv.Itoa0
import Derived.Shelf.Strconv.Itoa1
import Derived.Shelf.LaysM
import Derived.Shelf.Strconv.Itoa2
import Derived.Shelf.Strconv.Itoa3
import Derived.Shelf.Strconv.AtoiErrFast
import Derived.Shelf.Strconv.ParseIntEmpty
import Derived.Shelf.Strconv.AtoiFail
import Derived.Shelf.Strconv.Clone
import Derived.Shelf.Strconv.SyntaxError
import Derived.Shelf.LaysC
import Derived.Shelf.Strconv.ToError
import Derived.Shelf.Strconv.Lower
import Derived.Shelf.Strconv.ParseUint10
import Derived.Shelf.Strconv.ParseUint10Empty
import Derived.Shelf.Strconv.ParseUint10Any
import Derived.Shelf.Strconv.ParseInt10
import Derived.Shelf.Strconv.AtoiLong
import Derived.Shelf.Strconv.AtoiInnerAll
import Derived.Shelf.Strconv.RangeError
import Derived.Shelf.Strconv.ToErrorRange
import Derived.Shelf.Strconv.AtoiAll
import Derived.Shelf.Strconv.ErrVarAll
import Derived.Shelf.Strconv.ParseUintEmpty
import Derived.Shelf.Strconv.ParseUint10b64
import Derived.Shelf.Strconv.ParseUint10b32
import Derived.Shelf.Strconv.ParseUint10b16
import Derived.Shelf.Strconv.ParseUint10b8
import Derived.Shelf.Strings.Search1
import Derived.Shelf.Strings.Search2
import Derived.Shelf.Strings.Search3
import Derived.Shelf.Strings.Cut
import Derived.Shelf.Strings.Count
import Derived.Shelf.Strings.Shaped
import Derived.Shelf.Sort.Plain
import Derived.Shelf.GgClosure.StringsIndexFunc
import Derived.Ground.GgwProg
import Derived.Shelf.GgClosure.StringsIndexFuncTop
import Derived.Shelf.GgClosure.StringsRunes
import Derived.Shelf.Strings.Prefix
import Derived.Shelf.Strings.Split
import Derived.Shelf.Strings.SplitShaped
import Derived.Shelf.Unicode.Decode
import Derived.Shelf.Strings.Runes
import Derived.Shelf.Strings.RuneCount
import Derived.Shelf.Strings.AsciiSet
import Derived.Shelf.Strings.Explode
import Derived.Shelf.Unicode.DecodeSlow
import Derived.Shelf.Unicode.DecodeAny
import Derived.Shelf.Unicode.DecodeLast
import Derived.Shelf.Strings.FuncGrows
import Derived.Shelf.Slices.Turned
import Derived.Shelf.Slices.Equal
import Derived.Ground.Names2Prog
import Derived.Shelf.Slices.ReverseS
import Derived.Shelf.Slices.Clone
import Derived.Shelf.Slices.Cells
import Derived.Shelf.Slices.In.SortNone
import Derived.Shelf.Slices.Empties2
import Derived.Ground.SlgnProg
import Derived.Shelf.SlicesE.Reverse
import Derived.Shelf.SlicesE.Clone
import Derived.Test.YtpeamehplhpcjaaGreatDoorProg
set_option linter.unusedVariables false
set_option linter.unusedSimpArgs false
namespace Go.Proofs
open Go.Shelf
def Tryz.lays160_ren : Go.Shelf.Ren := ⟨fun | 160 => 149 | 232 => 181 | 231 => 180 | 227 => 182 | 234 => 184 | 233 => 183 | 236 => 186 | 235 => 185 | 228 => 203 | 271 => 205 | 151 => 204 | 197 => 179 | 120 => 216 | 152 => 215 | 260 => 202 | 137 => 212 | 119 => 221 | 224 => 146 | 225 => 145 | 217 => 144 | 266 => 177 | n => n, fun | 9 => 9 | 4 => 4 | 3 => 3 | 5 => 5 | 117 => 201 | 116 => 200 | 0 => 0 | 124 => 204 | 21 => 21 | 105 => 196 | 46 => 130 | 119 => 229 | 139 => 232 | 138 => 231 | n => n, fun | 3 => 1 | 4 => 2 | n => n⟩
theorem Tryz.lays160 : Go.Proofs.Lays.n160 Tryz.prog Tryz.lays160_ren := {
  mixed := by kernel_rfl
  f119 := Tryz.func221.trans (congrArg some (by kernel_rfl))
  f120 := Tryz.func216.trans (congrArg some (by kernel_rfl))
  f137 := Tryz.func212.trans (congrArg some (by kernel_rfl))
  f151 := Tryz.func204.trans (congrArg some (by kernel_rfl))
  f152 := Tryz.func215.trans (congrArg some (by kernel_rfl))
  f160 := Tryz.func149.trans (congrArg some (by kernel_rfl))
  f197 := Tryz.func179.trans (congrArg some (by kernel_rfl))
  f217 := Tryz.func144.trans (congrArg some (by kernel_rfl))
  f224 := Tryz.func146.trans (congrArg some (by kernel_rfl))
  f225 := Tryz.func145.trans (congrArg some (by kernel_rfl))
  f227 := Tryz.func182.trans (congrArg some (by kernel_rfl))
  f228 := Tryz.func203.trans (congrArg some (by kernel_rfl))
  f231 := Tryz.func180.trans (congrArg some (by kernel_rfl))
  f232 := Tryz.func181.trans (congrArg some (by kernel_rfl))
  f233 := Tryz.func183.trans (congrArg some (by kernel_rfl))
  f234 := Tryz.func184.trans (congrArg some (by kernel_rfl))
  f235 := Tryz.func185.trans (congrArg some (by kernel_rfl))
  f236 := Tryz.func186.trans (congrArg some (by kernel_rfl))
  f260 := Tryz.func202.trans (congrArg some (by kernel_rfl))
  f266 := Tryz.func177.trans (congrArg some (by kernel_rfl))
  f271 := Tryz.func205.trans (congrArg some (by kernel_rfl))
  t0 := Tryz.underlying0
  a0 := Tryz.isAgg0
  z0 := Tryz.sizeOf0
  v0 := Tryz.zeroValue0
  t3 := Tryz.underlying3
  a3 := Tryz.isAgg3
  z3 := Tryz.sizeOf3
  v3 := Tryz.zeroValue3
  t4 := Tryz.underlying4
  a4 := Tryz.isAgg4
  z4 := Tryz.sizeOf4
  v4 := Tryz.zeroValue4
  t5 := Tryz.underlying5
  a5 := Tryz.isAgg5
  z5 := Tryz.sizeOf5
  v5 := Tryz.zeroValue5
  t9 := Tryz.underlying9
  a9 := Tryz.isAgg9
  z9 := Tryz.sizeOf9
  v9 := Tryz.zeroValue9
  t21 := Tryz.underlying21
  a21 := Tryz.isAgg21
  z21 := Tryz.sizeOf21
  v21 := Tryz.zeroValue21
  t46 := Tryz.underlying130
  a46 := Tryz.isAgg130
  z46 := Tryz.sizeOf130
  v46 := Tryz.zeroValue130
  t105 := Tryz.underlying196
  a105 := Tryz.isAgg196
  z105 := Tryz.sizeOf196
  v105 := Tryz.zeroValue196
  t116 := Tryz.underlying200
  a116 := Tryz.isAgg200
  z116 := Tryz.sizeOf200
  t117 := Tryz.underlying201
  a117 := Tryz.isAgg201
  z117 := Tryz.sizeOf201
  v117 := Tryz.zeroValue201
  t119 := Tryz.underlying229
  a119 := Tryz.isAgg229
  z119 := Tryz.sizeOf229
  t124 := Tryz.underlying204
  a124 := Tryz.isAgg204
  z124 := Tryz.sizeOf204
  v124 := Tryz.zeroValue204
  t138 := Tryz.underlying231
  a138 := Tryz.isAgg231
  z138 := Tryz.sizeOf231
  v138 := Tryz.zeroValue231
  t139 := Tryz.underlying232
  a139 := Tryz.isAgg232
  z139 := Tryz.sizeOf232
  v139 := Tryz.zeroValue232
  g3 := by kernel_rfl
  g4 := by kernel_rfl }
def Tryz.lays106_ren : Go.Shelf.Ren := ⟨fun | 106 => 52 | 213 => 93 | 265 => 134 | n => n, fun | 9 => 9 | 3 => 3 | n => n, fun | n => n⟩
theorem Tryz.lays106 : Go.Proofs.Lays.n106 Tryz.prog Tryz.lays106_ren := {
  mixed := by kernel_rfl
  f106 := Tryz.func52.trans (congrArg some (by kernel_rfl))
  f213 := Tryz.func93.trans (congrArg some (by kernel_rfl))
  f265 := Tryz.func134.trans (congrArg some (by kernel_rfl))
  t3 := Tryz.underlying3
  a3 := Tryz.isAgg3
  z3 := Tryz.sizeOf3
  v3 := Tryz.zeroValue3
  t9 := Tryz.underlying9
  a9 := Tryz.isAgg9
  z9 := Tryz.sizeOf9
  v9 := Tryz.zeroValue9 }
open Go.RowKit in
theorem Tryz.strings_Compare (a b : ByteArray) (w : World) :
    Calls Tryz.prog 52 #[.string a, .string b] w fun e w' => e = .returned (.int .i64 (Lib.compareBytes a.data.toList b.data.toList)) ∧ w' = w := Any.strings_Compare Tryz.lays106 a b w
def Tryz.lays137_ren : Go.Shelf.Ren := ⟨fun | 137 => 212 | 217 => 144 | 266 => 177 | n => n, fun | 9 => 9 | 5 => 5 | 3 => 3 | n => n, fun | n => n⟩
theorem Tryz.lays137 : Go.Proofs.Lays.n137 Tryz.prog Tryz.lays137_ren := {
  mixed := by kernel_rfl
  f137 := Tryz.func212.trans (congrArg some (by kernel_rfl))
  f217 := Tryz.func144.trans (congrArg some (by kernel_rfl))
  f266 := Tryz.func177.trans (congrArg some (by kernel_rfl))
  t3 := Tryz.underlying3
  a3 := Tryz.isAgg3
  z3 := Tryz.sizeOf3
  v3 := Tryz.zeroValue3
  t5 := Tryz.underlying5
  a5 := Tryz.isAgg5
  z5 := Tryz.sizeOf5
  v5 := Tryz.zeroValue5
  t9 := Tryz.underlying9
  a9 := Tryz.isAgg9
  z9 := Tryz.sizeOf9
  v9 := Tryz.zeroValue9 }
open Go.RowKit in
theorem Tryz.strings_IndexByte (s : ByteArray) (c : Int) (w : World) :
    Calls Tryz.prog 212 #[.string s, .int .u8 c] w fun e w' => e = .returned (.int .i64 (Lib.indexByte s.data.toList c.toNat.toUInt8)) ∧ w' = w := Any.strings_IndexByte Tryz.lays137 s c w
def Tryz.lays103_ren : Go.Shelf.Ren := ⟨fun | 103 => 41 | 210 => 81 | 206 => 108 | n => n, fun | 9 => 9 | 4 => 4 | 24 => 86 | 3 => 3 | n => n, fun | n => n⟩
theorem Tryz.lays103 : Go.Proofs.Lays.n103 Tryz.prog Tryz.lays103_ren := {
  mixed := by kernel_rfl
  f103 := Tryz.func41.trans (congrArg some (by kernel_rfl))
  f206 := Tryz.func108.trans (congrArg some (by kernel_rfl))
  f210 := Tryz.func81.trans (congrArg some (by kernel_rfl))
  t3 := Tryz.underlying3
  a3 := Tryz.isAgg3
  z3 := Tryz.sizeOf3
  v3 := Tryz.zeroValue3
  t4 := Tryz.underlying4
  a4 := Tryz.isAgg4
  z4 := Tryz.sizeOf4
  v4 := Tryz.zeroValue4
  t9 := Tryz.underlying9
  a9 := Tryz.isAgg9
  z9 := Tryz.sizeOf9
  v9 := Tryz.zeroValue9
  t24 := Tryz.underlying86
  a24 := Tryz.isAgg86
  z24 := Tryz.sizeOf86
  v24 := Tryz.zeroValue86 }
open Go.RowKit in
theorem Tryz.strings_CutPrefix (s p : ByteArray) (w : World) :
    Calls Tryz.prog 41 #[.string s, .string p] w fun e w' => e = .returned (.tuple #[.string ⟨(Lib.trimPrefix s.data.toList p.data.toList).toArray⟩, .bool (Lib.hasPrefix s.data.toList p.data.toList)]) ∧ w' = w := Any.strings_CutPrefix Tryz.lays103 s p w
def Tryz.laysC172_ren : Go.Shelf.Ren := ⟨fun | 172 => 150 | 244 => 187 | 245 => 188 | 247 => 206 | 279 => 207 | 280 => 208 | 281 => 209 | 282 => 210 | 287 => 217 | 316 => 218 | 171 => 220 | 205 => 219 | 321 => 222 | 322 => 223 | 243 => 224 | 246 => 225 | 283 => 226 | 284 => 227 | 285 => 228 | 286 => 229 | 129 => 125 | 317 => 230 | 318 => 231 | 319 => 232 | 320 => 233 | 337 => 234 | 338 => 235 | n => n, fun | 9 => 9 | 3 => 3 | 75 => 172 | 76 => 173 | 4 => 4 | 5 => 5 | 167 => 221 | 37 => 222 | 0 => 0 | 85 => 223 | 2 => 2 | 168 => 225 | 53 => 156 | 175 => 234 | 46 => 130 | 210 => 237 | 127 => 241 | 145 => 244 | 143 => 242 | 21 => 21 | 171 => 246 | 173 => 248 | 212 => 251 | 51 => 154 | 20 => 20 | 213 => 252 | 232 => 254 | 233 => 255 | 80 => 256 | n => n, fun | 15 => 3 | 16 => 4 | 17 => 5 | 18 => 6 | 19 => 7 | n => n⟩
theorem Tryz.laysC172 : Go.Proofs.LaysC.n172 Tryz.prog Tryz.laysC172_ren := {
  mixed := by kernel_rfl
  f129 := Tryz.func125.trans (congrArg some (by kernel_rfl))
  f171 := Tryz.func220.trans (congrArg some (by kernel_rfl))
  f172 := Tryz.func150.trans (congrArg some (by kernel_rfl))
  f205 := Tryz.func219.trans (congrArg some (by kernel_rfl))
  f243 := Tryz.func224.trans (congrArg some (by kernel_rfl))
  f244 := Tryz.func187.trans (congrArg some (by kernel_rfl))
  f245 := Tryz.func188.trans (congrArg some (by kernel_rfl))
  f246 := Tryz.func225.trans (congrArg some (by kernel_rfl))
  f247 := Tryz.func206.trans (congrArg some (by kernel_rfl))
  f279 := Tryz.func207.trans (congrArg some (by kernel_rfl))
  f280 := Tryz.func208.trans (congrArg some (by kernel_rfl))
  f281 := Tryz.func209.trans (congrArg some (by kernel_rfl))
  f282 := Tryz.func210.trans (congrArg some (by kernel_rfl))
  f283 := Tryz.func226.trans (congrArg some (by kernel_rfl))
  f284 := Tryz.func227.trans (congrArg some (by kernel_rfl))
  f285 := Tryz.func228.trans (congrArg some (by kernel_rfl))
  f286 := Tryz.func229.trans (congrArg some (by kernel_rfl))
  f287 := Tryz.func217.trans (congrArg some (by kernel_rfl))
  f316 := Tryz.func218.trans (congrArg some (by kernel_rfl))
  f317 := Tryz.func230.trans (congrArg some (by kernel_rfl))
  f318 := Tryz.func231.trans (congrArg some (by kernel_rfl))
  f319 := Tryz.func232.trans (congrArg some (by kernel_rfl))
  f320 := Tryz.func233.trans (congrArg some (by kernel_rfl))
  f321 := Tryz.func222.trans (congrArg some (by kernel_rfl))
  f322 := Tryz.func223.trans (congrArg some (by kernel_rfl))
  f337 := Tryz.func234.trans (congrArg some (by kernel_rfl))
  f338 := Tryz.func235.trans (congrArg some (by kernel_rfl))
  t0 := Tryz.underlying0
  a0 := Tryz.isAgg0
  z0 := Tryz.sizeOf0
  v0 := Tryz.zeroValue0
  t2 := Tryz.underlying2
  a2 := Tryz.isAgg2
  z2 := Tryz.sizeOf2
  v2 := Tryz.zeroValue2
  t3 := Tryz.underlying3
  a3 := Tryz.isAgg3
  z3 := Tryz.sizeOf3
  v3 := Tryz.zeroValue3
  t4 := Tryz.underlying4
  a4 := Tryz.isAgg4
  z4 := Tryz.sizeOf4
  v4 := Tryz.zeroValue4
  t5 := Tryz.underlying5
  a5 := Tryz.isAgg5
  z5 := Tryz.sizeOf5
  v5 := Tryz.zeroValue5
  t9 := Tryz.underlying9
  a9 := Tryz.isAgg9
  z9 := Tryz.sizeOf9
  v9 := Tryz.zeroValue9
  t20 := Tryz.underlying20
  a20 := Tryz.isAgg20
  z20 := Tryz.sizeOf20
  v20 := Tryz.zeroValue20
  t21 := Tryz.underlying21
  a21 := Tryz.isAgg21
  z21 := Tryz.sizeOf21
  v21 := Tryz.zeroValue21
  t37 := Tryz.underlying222
  a37 := Tryz.isAgg222
  z37 := Tryz.sizeOf222
  v37 := Tryz.zeroValue222
  t46 := Tryz.underlying130
  a46 := Tryz.isAgg130
  z46 := Tryz.sizeOf130
  v46 := Tryz.zeroValue130
  t51 := Tryz.underlying154
  a51 := Tryz.isAgg154
  z51 := Tryz.sizeOf154
  v51 := Tryz.zeroValue154
  t53 := Tryz.underlying156
  a53 := Tryz.isAgg156
  z53 := Tryz.sizeOf156
  v53 := Tryz.zeroValue156
  t75 := Tryz.underlying172
  a75 := Tryz.isAgg172
  z75 := Tryz.sizeOf172
  v75 := Tryz.zeroValue172
  t76 := Tryz.underlying173
  a76 := Tryz.isAgg173
  z76 := Tryz.sizeOf173
  v76 := Tryz.zeroValue173
  t85 := Tryz.underlying223
  a85 := Tryz.isAgg223
  z85 := Tryz.sizeOf223
  v85 := Tryz.zeroValue223
  t127 := Tryz.underlying241
  a127 := Tryz.isAgg241
  z127 := Tryz.sizeOf241
  v127 := Tryz.zeroValue241
  t143 := Tryz.underlying242
  a143 := Tryz.isAgg242
  z143 := Tryz.sizeOf242
  v143 := Tryz.zeroValue242
  t145 := Tryz.underlying244
  a145 := Tryz.isAgg244
  z145 := Tryz.sizeOf244
  v145 := Tryz.zeroValue244
  t167 := Tryz.underlying221
  a167 := Tryz.isAgg221
  z167 := Tryz.sizeOf221
  v167 := Tryz.zeroValue221
  t168 := Tryz.underlying225
  a168 := Tryz.isAgg225
  z168 := Tryz.sizeOf225
  v168 := Tryz.zeroValue225
  t171 := Tryz.underlying246
  a171 := Tryz.isAgg246
  z171 := Tryz.sizeOf246
  v171 := Tryz.zeroValue246
  t173 := Tryz.underlying248
  a173 := Tryz.isAgg248
  z173 := Tryz.sizeOf248
  v173 := Tryz.zeroValue248
  t175 := Tryz.underlying234
  a175 := Tryz.isAgg234
  z175 := Tryz.sizeOf234
  v175 := Tryz.zeroValue234
  t210 := Tryz.underlying237
  a210 := Tryz.isAgg237
  z210 := Tryz.sizeOf237
  v210 := Tryz.zeroValue237
  t212 := Tryz.underlying251
  a212 := Tryz.isAgg251
  z212 := Tryz.sizeOf251
  v212 := Tryz.zeroValue251
  t213 := Tryz.underlying252
  a213 := Tryz.isAgg252
  z213 := Tryz.sizeOf252
  t232 := Tryz.underlying254
  a232 := Tryz.isAgg254
  z232 := Tryz.sizeOf254
  v232 := Tryz.zeroValue254
  t233 := Tryz.underlying255
  a233 := Tryz.isAgg255
  z233 := Tryz.sizeOf255
  v233 := Tryz.zeroValue255
  g15 := by kernel_rfl
  g16 := by kernel_rfl
  g17 := by kernel_rfl
  g18 := by kernel_rfl
  g19 := by kernel_rfl
  t80 := Tryz.underlying256
  a80 := Tryz.isAgg256
  z80 := Tryz.sizeOf256
  v80 := Tryz.zeroValue256
  i0 := by kernel_rfl
  i2 := by kernel_rfl
  i3 := by kernel_rfl
  i4 := by kernel_rfl
  i5 := by kernel_rfl
  i9 := by kernel_rfl
  i20 := by kernel_rfl
  i21 := by kernel_rfl
  i37 := by kernel_rfl
  i46 := by kernel_rfl
  i51 := by kernel_rfl
  i53 := by kernel_rfl
  i75 := by kernel_rfl
  i76 := by kernel_rfl
  i80 := by kernel_rfl
  i85 := by kernel_rfl
  i127 := by kernel_rfl
  i143 := by kernel_rfl
  i145 := by kernel_rfl
  i167 := by kernel_rfl
  i168 := by kernel_rfl
  i171 := by kernel_rfl
  i173 := by kernel_rfl
  i175 := by kernel_rfl
  i210 := by kernel_rfl
  i212 := by kernel_rfl
  i232 := by kernel_rfl
  i233 := by kernel_rfl
  m15 := by kernel_rfl
  m16 := by kernel_rfl
  m17 := by kernel_rfl
  m18 := by kernel_rfl
  m19 := by kernel_rfl
  c0 := by kernel_rfl
  c2 := by kernel_rfl
  c3 := by kernel_rfl
  c4 := by kernel_rfl
  c5 := by kernel_rfl
  c9 := by kernel_rfl
  c20 := by kernel_rfl
  c21 := by kernel_rfl
  c37 := by kernel_rfl
  c46 := by kernel_rfl
  c51 := by kernel_rfl
  c53 := by kernel_rfl
  c75 := by kernel_rfl
  c76 := by kernel_rfl
  c80 := by kernel_rfl
  c85 := by kernel_rfl
  c127 := by kernel_rfl
  c143 := by kernel_rfl
  c145 := by kernel_rfl
  c167 := by kernel_rfl
  c168 := by kernel_rfl
  c171 := by kernel_rfl
  c173 := by kernel_rfl
  c175 := by kernel_rfl
  c210 := by kernel_rfl
  c212 := by kernel_rfl
  c213 := by kernel_rfl
  c232 := by kernel_rfl
  c233 := by kernel_rfl }
open Go.RowKit in
theorem Tryz.strconv_Atoi_ok (s : ByteArray) (hmax : s.size ≤ 9223372036854775806) (v : Int) (h : Lib.atoiAll s.data.toList = .ok v) (w : World) :
    Calls Tryz.prog 150 #[.string s] w fun e w' => e = .returned (.tuple #[.int .i64 v, .nilIface]) ∧ (w' = w ∨ ∃ t, w' = Lib.bytesWorld w 5 t) := Any.strconv_Atoi_ok Tryz.laysC172 s hmax v h w
def Tryz.lays144_ren : Go.Shelf.Ren := ⟨fun | 144 => 32 | 143 => 73 | 219 => 101 | 217 => 144 | 225 => 145 | 224 => 146 | 267 => 147 | 266 => 177 | 314 => 178 | n => n, fun | 9 => 9 | 4 => 4 | 3 => 3 | 5 => 5 | 46 => 130 | 146 => 194 | 51 => 154 | n => n, fun | 1 => 0 | n => n⟩
theorem Tryz.lays144 : Go.Proofs.Lays.n144 Tryz.prog Tryz.lays144_ren := {
  mixed := by kernel_rfl
  f143 := Tryz.func73.trans (congrArg some (by kernel_rfl))
  f144 := Tryz.func32.trans (congrArg some (by kernel_rfl))
  f217 := Tryz.func144.trans (congrArg some (by kernel_rfl))
  f219 := Tryz.func101.trans (congrArg some (by kernel_rfl))
  f224 := Tryz.func146.trans (congrArg some (by kernel_rfl))
  f225 := Tryz.func145.trans (congrArg some (by kernel_rfl))
  f266 := Tryz.func177.trans (congrArg some (by kernel_rfl))
  f267 := Tryz.func147.trans (congrArg some (by kernel_rfl))
  f314 := Tryz.func178.trans (congrArg some (by kernel_rfl))
  t3 := Tryz.underlying3
  a3 := Tryz.isAgg3
  z3 := Tryz.sizeOf3
  v3 := Tryz.zeroValue3
  t4 := Tryz.underlying4
  a4 := Tryz.isAgg4
  z4 := Tryz.sizeOf4
  v4 := Tryz.zeroValue4
  t5 := Tryz.underlying5
  a5 := Tryz.isAgg5
  z5 := Tryz.sizeOf5
  v5 := Tryz.zeroValue5
  t9 := Tryz.underlying9
  a9 := Tryz.isAgg9
  z9 := Tryz.sizeOf9
  v9 := Tryz.zeroValue9
  t46 := Tryz.underlying130
  a46 := Tryz.isAgg130
  z46 := Tryz.sizeOf130
  v46 := Tryz.zeroValue130
  t51 := Tryz.underlying154
  a51 := Tryz.isAgg154
  z51 := Tryz.sizeOf154
  v51 := Tryz.zeroValue154
  t146 := Tryz.underlying194
  a146 := Tryz.isAgg194
  z146 := Tryz.sizeOf194
  v146 := Tryz.zeroValue194
  g1 := by kernel_rfl }
open Go.RowKit Go.Lib in
theorem Tryz.strings_Contains (s sub : ByteArray) (m : Int) (w : World) (hs : s.size < 4294967281) (hm : w.cell? ⟨0, 0, none⟩ = some (.int .i64 m)) :
    Calls Tryz.prog 32 #[.string s, .string sub] w fun e w' => e = .returned (.bool (Lib.contains s.data.toList sub.data.toList)) ∧ w' = w := Any.strings_Contains Tryz.lays144 s sub m w hs hm
def Tryz.lays145_ren : Go.Shelf.Ren := ⟨fun | 145 => 195 | 220 => 213 | 219 => 101 | 217 => 144 | 225 => 145 | 224 => 146 | 267 => 147 | 266 => 177 | 314 => 178 | n => n, fun | 9 => 9 | 4 => 4 | 59 => 211 | 3 => 3 | 5 => 5 | 46 => 130 | 146 => 194 | 51 => 154 | n => n, fun | 1 => 0 | n => n⟩
theorem Tryz.lays145 : Go.Proofs.Lays.n145 Tryz.prog Tryz.lays145_ren := {
  mixed := by kernel_rfl
  f145 := Tryz.func195.trans (congrArg some (by kernel_rfl))
  f217 := Tryz.func144.trans (congrArg some (by kernel_rfl))
  f219 := Tryz.func101.trans (congrArg some (by kernel_rfl))
  f220 := Tryz.func213.trans (congrArg some (by kernel_rfl))
  f224 := Tryz.func146.trans (congrArg some (by kernel_rfl))
  f225 := Tryz.func145.trans (congrArg some (by kernel_rfl))
  f266 := Tryz.func177.trans (congrArg some (by kernel_rfl))
  f267 := Tryz.func147.trans (congrArg some (by kernel_rfl))
  f314 := Tryz.func178.trans (congrArg some (by kernel_rfl))
  t3 := Tryz.underlying3
  a3 := Tryz.isAgg3
  z3 := Tryz.sizeOf3
  v3 := Tryz.zeroValue3
  t4 := Tryz.underlying4
  a4 := Tryz.isAgg4
  z4 := Tryz.sizeOf4
  v4 := Tryz.zeroValue4
  t5 := Tryz.underlying5
  a5 := Tryz.isAgg5
  z5 := Tryz.sizeOf5
  v5 := Tryz.zeroValue5
  t9 := Tryz.underlying9
  a9 := Tryz.isAgg9
  z9 := Tryz.sizeOf9
  v9 := Tryz.zeroValue9
  t46 := Tryz.underlying130
  a46 := Tryz.isAgg130
  z46 := Tryz.sizeOf130
  v46 := Tryz.zeroValue130
  t51 := Tryz.underlying154
  a51 := Tryz.isAgg154
  z51 := Tryz.sizeOf154
  v51 := Tryz.zeroValue154
  t59 := Tryz.underlying211
  a59 := Tryz.isAgg211
  z59 := Tryz.sizeOf211
  v59 := Tryz.zeroValue211
  t146 := Tryz.underlying194
  a146 := Tryz.isAgg194
  z146 := Tryz.sizeOf194
  v146 := Tryz.zeroValue194
  g1 := by kernel_rfl }
open Go.RowKit Go.Lib in
theorem Tryz.strings_Cut (s sep : ByteArray) (m : Int) (w : World) (hs : s.size < 4294967281) (hm : w.cell? ⟨0, 0, none⟩ = some (.int .i64 m)) :
    Calls Tryz.prog 195 #[.string s, .string sep] w fun e w' => e = .returned (.tuple #[.string ⟨(Lib.cut s.data.toList sep.data.toList).1.toArray⟩, .string ⟨(Lib.cut s.data.toList sep.data.toList).2.1.toArray⟩, .bool (Lib.cut s.data.toList sep.data.toList).2.2]) ∧ ∃ n, w' = w.drewN n := Any.strings_Cut Tryz.lays145 s sep m w hs hm
def Tryz.lays138_ren : Go.Shelf.Ren := ⟨fun | 138 => 69 | 195 => 98 | 218 => 99 | 143 => 73 | 219 => 101 | 217 => 144 | 225 => 145 | 224 => 146 | 267 => 147 | 266 => 177 | 314 => 178 | n => n, fun | 9 => 9 | 3 => 3 | 4 => 4 | 5 => 5 | 0 => 0 | 46 => 130 | 146 => 194 | 51 => 154 | n => n, fun | 1 => 0 | n => n⟩
theorem Tryz.lays138 : Go.Proofs.Lays.n138 Tryz.prog Tryz.lays138_ren := {
  mixed := by kernel_rfl
  f138 := Tryz.func69.trans (congrArg some (by kernel_rfl))
  f143 := Tryz.func73.trans (congrArg some (by kernel_rfl))
  f195 := Tryz.func98.trans (congrArg some (by kernel_rfl))
  f217 := Tryz.func144.trans (congrArg some (by kernel_rfl))
  f218 := Tryz.func99.trans (congrArg some (by kernel_rfl))
  f219 := Tryz.func101.trans (congrArg some (by kernel_rfl))
  f224 := Tryz.func146.trans (congrArg some (by kernel_rfl))
  f225 := Tryz.func145.trans (congrArg some (by kernel_rfl))
  f266 := Tryz.func177.trans (congrArg some (by kernel_rfl))
  f267 := Tryz.func147.trans (congrArg some (by kernel_rfl))
  f314 := Tryz.func178.trans (congrArg some (by kernel_rfl))
  t0 := Tryz.underlying0
  a0 := Tryz.isAgg0
  z0 := Tryz.sizeOf0
  v0 := Tryz.zeroValue0
  t3 := Tryz.underlying3
  a3 := Tryz.isAgg3
  z3 := Tryz.sizeOf3
  v3 := Tryz.zeroValue3
  t4 := Tryz.underlying4
  a4 := Tryz.isAgg4
  z4 := Tryz.sizeOf4
  v4 := Tryz.zeroValue4
  t5 := Tryz.underlying5
  a5 := Tryz.isAgg5
  z5 := Tryz.sizeOf5
  v5 := Tryz.zeroValue5
  t9 := Tryz.underlying9
  a9 := Tryz.isAgg9
  z9 := Tryz.sizeOf9
  v9 := Tryz.zeroValue9
  t46 := Tryz.underlying130
  a46 := Tryz.isAgg130
  z46 := Tryz.sizeOf130
  v46 := Tryz.zeroValue130
  t51 := Tryz.underlying154
  a51 := Tryz.isAgg154
  z51 := Tryz.sizeOf154
  v51 := Tryz.zeroValue154
  t146 := Tryz.underlying194
  a146 := Tryz.isAgg194
  z146 := Tryz.sizeOf194
  v146 := Tryz.zeroValue194
  g1 := by kernel_rfl }
open Go.RowKit Go.Lib in
theorem Tryz.strings_Count_one (s : ByteArray) (c : UInt8) (w : World) :
    Calls Tryz.prog 69 #[.string s, .string ⟨#[c]⟩] w fun e w' => e = .returned (.int .i64 (Lib.countByte s.data.toList c)) ∧ w' = w := Any.strings_Count_one Tryz.lays138 s c w
def Tryz.lays190_ren : Go.Shelf.Ren := ⟨fun | 190 => 49 | 125 => 91 | 258 => 90 | 128 => 124 | 129 => 125 | 302 => 116 | 303 => 117 | 304 => 118 | 305 => 119 | 306 => 120 | 307 => 121 | 308 => 71 | 309 => 122 | 310 => 123 | 333 => 166 | 329 => 167 | 330 => 168 | 334 => 169 | 335 => 170 | 336 => 100 | 344 => 200 | n => n, fun | 31 => 29 | 9 => 9 | 3 => 3 | 46 => 130 | 0 => 0 | 51 => 154 | 53 => 156 | 4 => 4 | 183 => 147 | 182 => 146 | 131 => 151 | 5 => 5 | 218 => 185 | 222 => 189 | 228 => 216 | 229 => 217 | n => n, fun | n => n⟩
theorem Tryz.lays190 : Go.Proofs.Lays.n190 Tryz.prog Tryz.lays190_ren := {
  mixed := by kernel_rfl
  f125 := Tryz.func91.trans (congrArg some (by kernel_rfl))
  f128 := Tryz.func124.trans (congrArg some (by kernel_rfl))
  f129 := Tryz.func125.trans (congrArg some (by kernel_rfl))
  f190 := Tryz.func49.trans (congrArg some (by kernel_rfl))
  f258 := Tryz.func90.trans (congrArg some (by kernel_rfl))
  f302 := Tryz.func116.trans (congrArg some (by kernel_rfl))
  f303 := Tryz.func117.trans (congrArg some (by kernel_rfl))
  f304 := Tryz.func118.trans (congrArg some (by kernel_rfl))
  f305 := Tryz.func119.trans (congrArg some (by kernel_rfl))
  f306 := Tryz.func120.trans (congrArg some (by kernel_rfl))
  f307 := Tryz.func121.trans (congrArg some (by kernel_rfl))
  f308 := Tryz.func71.trans (congrArg some (by kernel_rfl))
  f309 := Tryz.func122.trans (congrArg some (by kernel_rfl))
  f310 := Tryz.func123.trans (congrArg some (by kernel_rfl))
  f329 := Tryz.func167.trans (congrArg some (by kernel_rfl))
  f330 := Tryz.func168.trans (congrArg some (by kernel_rfl))
  f333 := Tryz.func166.trans (congrArg some (by kernel_rfl))
  f334 := Tryz.func169.trans (congrArg some (by kernel_rfl))
  f335 := Tryz.func170.trans (congrArg some (by kernel_rfl))
  f336 := Tryz.func100.trans (congrArg some (by kernel_rfl))
  f344 := Tryz.func200.trans (congrArg some (by kernel_rfl))
  t0 := Tryz.underlying0
  a0 := Tryz.isAgg0
  z0 := Tryz.sizeOf0
  v0 := Tryz.zeroValue0
  t3 := Tryz.underlying3
  a3 := Tryz.isAgg3
  z3 := Tryz.sizeOf3
  v3 := Tryz.zeroValue3
  t4 := Tryz.underlying4
  a4 := Tryz.isAgg4
  z4 := Tryz.sizeOf4
  v4 := Tryz.zeroValue4
  t5 := Tryz.underlying5
  a5 := Tryz.isAgg5
  z5 := Tryz.sizeOf5
  v5 := Tryz.zeroValue5
  t9 := Tryz.underlying9
  a9 := Tryz.isAgg9
  z9 := Tryz.sizeOf9
  v9 := Tryz.zeroValue9
  t31 := Tryz.underlying29
  a31 := Tryz.isAgg29
  z31 := Tryz.sizeOf29
  v31 := Tryz.zeroValue29
  t46 := Tryz.underlying130
  a46 := Tryz.isAgg130
  z46 := Tryz.sizeOf130
  v46 := Tryz.zeroValue130
  t51 := Tryz.underlying154
  a51 := Tryz.isAgg154
  z51 := Tryz.sizeOf154
  v51 := Tryz.zeroValue154
  t53 := Tryz.underlying156
  a53 := Tryz.isAgg156
  z53 := Tryz.sizeOf156
  v53 := Tryz.zeroValue156
  t131 := Tryz.underlying151
  a131 := Tryz.isAgg151
  z131 := Tryz.sizeOf151
  v131 := Tryz.zeroValue151
  t182 := Tryz.underlying146
  a182 := Tryz.isAgg146
  z182 := Tryz.sizeOf146
  v182 := Tryz.zeroValue146
  t183 := Tryz.underlying147
  a183 := Tryz.isAgg147
  z183 := Tryz.sizeOf147
  v183 := Tryz.zeroValue147
  t218 := Tryz.underlying185
  a218 := Tryz.isAgg185
  z218 := Tryz.sizeOf185
  v218 := Tryz.zeroValue185
  t222 := Tryz.underlying189
  a222 := Tryz.isAgg189
  z222 := Tryz.sizeOf189
  v222 := Tryz.zeroValue189
  t228 := Tryz.underlying216
  a228 := Tryz.isAgg216
  z228 := Tryz.sizeOf216
  v228 := Tryz.zeroValue216
  t229 := Tryz.underlying217
  a229 := Tryz.isAgg217
  z229 := Tryz.sizeOf217
  v229 := Tryz.zeroValue217 }
open Go.Sort Go.RowKit in
theorem Tryz.slices_Sort_string (blk off cap : Nat) (ss : List (List UInt8)) (w : World) (hH : Holds encStr w blk off ss.toArray) (hblk : blk < w.heap.size) (hsz : ss.length < 4611686018427387904) :
    Calls Tryz.prog 49 #[.slice (some ⟨blk, off, none⟩) ss.length cap] w fun e w' =>
      e = .returned (.tuple #[]) ∧ ∃ n os, w' = grow (putRow encStr (Sort.ahead w n) blk off (ss.mergeSort fun x y => decide (x ≤ y)).toArray) os := Any.slices_Sort_string Tryz.lays190 blk off cap ss w hH hblk hsz
def Tryz.laysGw15_ren : Go.Shelf.Ren := ⟨fun | 15 => 151 | 20 => 189 | n => n, fun | 9 => 9 | 23 => 137 | 3 => 3 | 4 => 4 | 0 => 0 | 21 => 21 | n => n, fun | n => n⟩
theorem Tryz.laysGw15 : Go.Proofs.LaysGw.n15 Tryz.prog Tryz.laysGw15_ren := {
  mixed := by kernel_rfl
  f15 := Tryz.func151.trans (congrArg some (by kernel_rfl))
  f20 := Tryz.func189.trans (congrArg some (by kernel_rfl))
  t0 := Tryz.underlying0
  a0 := Tryz.isAgg0
  z0 := Tryz.sizeOf0
  v0 := Tryz.zeroValue0
  i0 := by kernel_rfl
  t3 := Tryz.underlying3
  a3 := Tryz.isAgg3
  z3 := Tryz.sizeOf3
  v3 := Tryz.zeroValue3
  i3 := by kernel_rfl
  t4 := Tryz.underlying4
  a4 := Tryz.isAgg4
  z4 := Tryz.sizeOf4
  v4 := Tryz.zeroValue4
  i4 := by kernel_rfl
  t9 := Tryz.underlying9
  a9 := Tryz.isAgg9
  z9 := Tryz.sizeOf9
  v9 := Tryz.zeroValue9
  i9 := by kernel_rfl
  t21 := Tryz.underlying21
  a21 := Tryz.isAgg21
  z21 := Tryz.sizeOf21
  v21 := Tryz.zeroValue21
  i21 := by kernel_rfl
  t23 := Tryz.underlying137
  a23 := Tryz.isAgg137
  z23 := Tryz.sizeOf137
  v23 := Tryz.zeroValue137
  i23 := by kernel_rfl }
def Tryz.laysGw17_ren : Go.Shelf.Ren := ⟨fun | 17 => 106 | 15 => 151 | 20 => 189 | n => n, fun | 9 => 9 | 23 => 137 | 4 => 4 | 3 => 3 | 0 => 0 | 21 => 21 | n => n, fun | n => n⟩
theorem Tryz.laysGw17 : Go.Proofs.LaysGw.n17 Tryz.prog Tryz.laysGw17_ren := {
  mixed := by kernel_rfl
  f15 := Tryz.func151.trans (congrArg some (by kernel_rfl))
  f17 := Tryz.func106.trans (congrArg some (by kernel_rfl))
  f20 := Tryz.func189.trans (congrArg some (by kernel_rfl))
  t0 := Tryz.underlying0
  a0 := Tryz.isAgg0
  z0 := Tryz.sizeOf0
  v0 := Tryz.zeroValue0
  i0 := by kernel_rfl
  t3 := Tryz.underlying3
  a3 := Tryz.isAgg3
  z3 := Tryz.sizeOf3
  v3 := Tryz.zeroValue3
  i3 := by kernel_rfl
  t4 := Tryz.underlying4
  a4 := Tryz.isAgg4
  z4 := Tryz.sizeOf4
  v4 := Tryz.zeroValue4
  i4 := by kernel_rfl
  t9 := Tryz.underlying9
  a9 := Tryz.isAgg9
  z9 := Tryz.sizeOf9
  v9 := Tryz.zeroValue9
  i9 := by kernel_rfl
  t21 := Tryz.underlying21
  a21 := Tryz.isAgg21
  z21 := Tryz.sizeOf21
  v21 := Tryz.zeroValue21
  i21 := by kernel_rfl
  t23 := Tryz.underlying137
  a23 := Tryz.isAgg137
  z23 := Tryz.sizeOf137
  v23 := Tryz.zeroValue137
  i23 := by kernel_rfl }
def Tryz.lays99_ren : Go.Shelf.Ren := ⟨fun | 99 => 152 | 206 => 108 | n => n, fun | 9 => 9 | 4 => 4 | 3 => 3 | n => n, fun | n => n⟩
theorem Tryz.lays99 : Go.Proofs.Lays.n99 Tryz.prog Tryz.lays99_ren := {
  mixed := by kernel_rfl
  f99 := Tryz.func152.trans (congrArg some (by kernel_rfl))
  f206 := Tryz.func108.trans (congrArg some (by kernel_rfl))
  t3 := Tryz.underlying3
  a3 := Tryz.isAgg3
  z3 := Tryz.sizeOf3
  v3 := Tryz.zeroValue3
  t4 := Tryz.underlying4
  a4 := Tryz.isAgg4
  z4 := Tryz.sizeOf4
  v4 := Tryz.zeroValue4
  t9 := Tryz.underlying9
  a9 := Tryz.isAgg9
  z9 := Tryz.sizeOf9
  v9 := Tryz.zeroValue9 }
open Go.RowKit Go.Lib in
theorem Tryz.strings_HasPrefix (s p : ByteArray) (w : World) :
    Calls Tryz.prog 152 #[.string s, .string p] w fun e w' => e = .returned (.bool (Lib.hasPrefix s.data.toList p.data.toList)) ∧ w' = w := Any.strings_HasPrefix Tryz.lays99 s p w
def Tryz.lays146_ren : Go.Shelf.Ren := ⟨fun | 146 => 75 | 221 => 102 | 268 => 148 | 138 => 69 | 143 => 73 | 195 => 98 | 197 => 179 | 218 => 99 | 219 => 101 | 260 => 202 | 217 => 144 | 225 => 145 | 224 => 146 | 267 => 147 | 266 => 177 | 314 => 178 | n => n, fun | 9 => 9 | 31 => 29 | 3 => 3 | 4 => 4 | 0 => 0 | 105 => 196 | 21 => 21 | 5 => 5 | 46 => 130 | 119 => 229 | 139 => 232 | 138 => 231 | 146 => 194 | 51 => 154 | n => n, fun | 1 => 0 | 3 => 1 | 4 => 2 | n => n⟩
theorem Tryz.lays146 : Go.Proofs.Lays.n146 Tryz.prog Tryz.lays146_ren := {
  mixed := by kernel_rfl
  f138 := Tryz.func69.trans (congrArg some (by kernel_rfl))
  f143 := Tryz.func73.trans (congrArg some (by kernel_rfl))
  f146 := Tryz.func75.trans (congrArg some (by kernel_rfl))
  f195 := Tryz.func98.trans (congrArg some (by kernel_rfl))
  f197 := Tryz.func179.trans (congrArg some (by kernel_rfl))
  f217 := Tryz.func144.trans (congrArg some (by kernel_rfl))
  f218 := Tryz.func99.trans (congrArg some (by kernel_rfl))
  f219 := Tryz.func101.trans (congrArg some (by kernel_rfl))
  f221 := Tryz.func102.trans (congrArg some (by kernel_rfl))
  f224 := Tryz.func146.trans (congrArg some (by kernel_rfl))
  f225 := Tryz.func145.trans (congrArg some (by kernel_rfl))
  f260 := Tryz.func202.trans (congrArg some (by kernel_rfl))
  f266 := Tryz.func177.trans (congrArg some (by kernel_rfl))
  f267 := Tryz.func147.trans (congrArg some (by kernel_rfl))
  f268 := Tryz.func148.trans (congrArg some (by kernel_rfl))
  f314 := Tryz.func178.trans (congrArg some (by kernel_rfl))
  t0 := Tryz.underlying0
  a0 := Tryz.isAgg0
  z0 := Tryz.sizeOf0
  v0 := Tryz.zeroValue0
  t3 := Tryz.underlying3
  a3 := Tryz.isAgg3
  z3 := Tryz.sizeOf3
  v3 := Tryz.zeroValue3
  t4 := Tryz.underlying4
  a4 := Tryz.isAgg4
  z4 := Tryz.sizeOf4
  v4 := Tryz.zeroValue4
  t5 := Tryz.underlying5
  a5 := Tryz.isAgg5
  z5 := Tryz.sizeOf5
  v5 := Tryz.zeroValue5
  t9 := Tryz.underlying9
  a9 := Tryz.isAgg9
  z9 := Tryz.sizeOf9
  v9 := Tryz.zeroValue9
  t21 := Tryz.underlying21
  a21 := Tryz.isAgg21
  z21 := Tryz.sizeOf21
  v21 := Tryz.zeroValue21
  t31 := Tryz.underlying29
  a31 := Tryz.isAgg29
  z31 := Tryz.sizeOf29
  v31 := Tryz.zeroValue29
  t46 := Tryz.underlying130
  a46 := Tryz.isAgg130
  z46 := Tryz.sizeOf130
  v46 := Tryz.zeroValue130
  t51 := Tryz.underlying154
  a51 := Tryz.isAgg154
  z51 := Tryz.sizeOf154
  v51 := Tryz.zeroValue154
  t105 := Tryz.underlying196
  a105 := Tryz.isAgg196
  z105 := Tryz.sizeOf196
  v105 := Tryz.zeroValue196
  t119 := Tryz.underlying229
  a119 := Tryz.isAgg229
  z119 := Tryz.sizeOf229
  t138 := Tryz.underlying231
  a138 := Tryz.isAgg231
  z138 := Tryz.sizeOf231
  v138 := Tryz.zeroValue231
  t139 := Tryz.underlying232
  a139 := Tryz.isAgg232
  z139 := Tryz.sizeOf232
  v139 := Tryz.zeroValue232
  t146 := Tryz.underlying194
  a146 := Tryz.isAgg194
  z146 := Tryz.sizeOf194
  v146 := Tryz.zeroValue194
  g1 := by kernel_rfl
  g3 := by kernel_rfl
  g4 := by kernel_rfl }
open Go.RowKit Go.Lib in
theorem Tryz.strings_Split (s sep : ByteArray) (m : Int) (w : World) (hs : s.size < 4294967281) (hm : w.cell? ⟨0, 0, none⟩ = some (.int .i64 m)) (h1 : 1 ≤ sep.size) :
    Calls Tryz.prog 75 #[.string s, .string sep] w fun e w' =>
      e = .returned (.slice (some ⟨w.heap.size, 0, none⟩) (Lib.countB s sep + 1) (Lib.countB s sep + 1)) ∧ w' = w.alloc (.cells ((Lib.splitB sep 0 (Lib.countB s sep) s).map Value.string).toArray 9) := Any.strings_Split Tryz.lays146 (by kernel_rfl) s sep m w hs hm h1
open Go.RowKit Go.Lib in
theorem Tryz.strings_IndexFunc_grows (g : Nat) (lb : Array Value) (eg : ∀ args w, (callFunc g args).run Tryz.prog w = .ok (.enter g args) w) (p : Nat → Bool) (s : ByteArray) (w : World) (hp : PredGrows Tryz.prog g lb p w) :
    Calls Tryz.prog 151 #[.string s, .func (.func g) #[] lb] w fun e w' => e = .returned (.int .i64 (Lib.idxFunc p true s)) ∧ Below w.heap.size w w' := Any.strings_IndexFunc_grows Tryz.laysGw15 g lb eg p s w hp
open Go.RowKit Go.Lib in
theorem Tryz.strings_ContainsFunc_grows (g : Nat) (lb : Array Value) (eg : ∀ args w, (callFunc g args).run Tryz.prog w = .ok (.enter g args) w) (p : Nat → Bool) (s : ByteArray) (w : World) (hp : PredGrows Tryz.prog g lb p w) :
    Calls Tryz.prog 106 #[.string s, .func (.func g) #[] lb] w fun e w' => e = .returned (.bool (decide (0 ≤ Lib.idxFunc p true s))) ∧ Below w.heap.size w w' := Any.strings_ContainsFunc_grows Tryz.laysGw17 g lb eg p s w hp
def Tryz.lays193_ren : Go.Shelf.Ren := ⟨fun | 193 => 37 | n => n, fun | 31 => 29 | 9 => 9 | 4 => 4 | 3 => 3 | 0 => 0 | n => n, fun | n => n⟩
theorem Tryz.lays193 : Go.Proofs.Lays.n193 Tryz.prog Tryz.lays193_ren := {
  mixed := by kernel_rfl
  f193 := Tryz.func37.trans (congrArg some (by kernel_rfl))
  t0 := Tryz.underlying0
  a0 := Tryz.isAgg0
  z0 := Tryz.sizeOf0
  v0 := Tryz.zeroValue0
  t3 := Tryz.underlying3
  a3 := Tryz.isAgg3
  z3 := Tryz.sizeOf3
  v3 := Tryz.zeroValue3
  t4 := Tryz.underlying4
  a4 := Tryz.isAgg4
  z4 := Tryz.sizeOf4
  v4 := Tryz.zeroValue4
  t9 := Tryz.underlying9
  a9 := Tryz.isAgg9
  z9 := Tryz.sizeOf9
  v9 := Tryz.zeroValue9
  t31 := Tryz.underlying29
  a31 := Tryz.isAgg29
  z31 := Tryz.sizeOf29
  v31 := Tryz.zeroValue29 }
open Go.RowKit Go.Lib in
theorem Tryz.slices_Equal_string (b1 o1 n c b2 o2 m d : Nat) (xs ys : List ByteArray) (w : World) (hx : n ≤ xs.length) (hy : m ≤ ys.length) (hbig : n ≤ 9223372036854775807) (hbig2 : m ≤ 9223372036854775807) (hc1 : ∀ j, j < xs.length → w.cell? ⟨b1, o1 + j, none⟩ = some (.string (xs.getD j ByteArray.empty))) (hc2 : ∀ j, j < ys.length → w.cell? ⟨b2, o2 + j, none⟩ = some (.string (ys.getD j ByteArray.empty))) :
    Calls Tryz.prog 37 #[.slice (some ⟨b1, o1, none⟩) n c, .slice (some ⟨b2, o2, none⟩) m d] w fun e w' => e = .returned (.bool (decide (xs.take n = ys.take m))) ∧ ∃ q, w' = w.drewN q := Any.slices_Equal_string Tryz.lays193 b1 o1 n c b2 o2 m d xs ys w hx hy hbig hbig2 hc1 hc2
open Go.RowKit Go.Lib in
theorem Tryz.slices_Equal_string_empty (a1 a2 : Option Addr) (c m d : Nat) (w : World) (hbig2 : m ≤ 9223372036854775807) :
    Calls Tryz.prog 37 #[.slice a1 0 c, .slice a2 m d] w fun e w' => e = .returned (.bool (decide (m = 0))) ∧ w' = w := Any.slices_Equal_string_empty Tryz.lays193 a1 a2 c m d w hbig2
def Tryz.laysNm216_ren : Go.Shelf.Ren := ⟨fun | 16 => 28 | n => n, fun | 24 => 29 | 9 => 9 | 4 => 4 | n => n, fun | n => n⟩
theorem Tryz.laysNm216 : Go.Proofs.Lays2.n16 Tryz.prog Tryz.laysNm216_ren := {
  mixed := by kernel_rfl
  f16 := Tryz.func28.trans (congrArg some (by kernel_rfl))
  t4 := Tryz.underlying4
  a4 := Tryz.isAgg4
  z4 := Tryz.sizeOf4
  v4 := Tryz.zeroValue4
  t9 := Tryz.underlying9
  a9 := Tryz.isAgg9
  z9 := Tryz.sizeOf9
  v9 := Tryz.zeroValue9
  t24 := Tryz.underlying29
  a24 := Tryz.isAgg29
  z24 := Tryz.sizeOf29
  v24 := Tryz.zeroValue29
  i9 := by kernel_rfl }
open Go.RowKit Go.Lib in
theorem Tryz.slices_Clone_string (b off n c : Nat) (zs : List ByteArray) (w : World) (hz : n ≤ zs.length) (hbig : n * 16 ≤ 140737488355328) (hc : ∀ j, j < zs.length → w.cell? ⟨b, off + j, none⟩ = some (.string (zs.getD j ByteArray.empty))) :
    Calls Tryz.prog 28 #[.slice (some ⟨b, off, none⟩) n c] w fun e w' => ∃ v', e = .returned v' ∧ w'.ownsRow w.heap.size 9 1 v' n ((zs.take n).map (Value.string)) ∧ v' ≠ .slice none 0 0 ∧ Below w.heap.size w w' := Any.slices_Clone_string Tryz.laysNm216 b off n c zs w hz hbig hc
open Go.RowKit Go.Lib in
theorem Tryz.slices_Clone_string_nil (n c : Nat) (w : World) :
    Calls Tryz.prog 28 #[.slice none n c] w fun e w' => e = .returned (.slice none 0 0) ∧ w' = w := Any.slices_Clone_string_nil Tryz.laysNm216 n c w
open Go.RowKit Go.Lib in
theorem Tryz.slices_Clone_string_zero (a : Addr) (c : Nat) (w : World) :
    Calls Tryz.prog 28 #[.slice (some a) 0 c] w fun e w' => ∃ v', e = .returned v' ∧ w'.ownsRow w.heap.size 9 1 v' 0 [] ∧ v' ≠ .slice none 0 0 ∧ Below w.heap.size w w' := Any.slices_Clone_string_zero Tryz.laysNm216 a c w
open Go.RowKit Go.Sort in
theorem Tryz.slices_Sort_string_none (p : Option Addr) (cap : Nat) (w : World) :
    Calls Tryz.prog 49 #[.slice p 0 cap] w fun e w' => e = .returned (.tuple #[]) ∧ w' = w := Any.slices_Sort_string_none Tryz.lays190 p cap w
open Go.RowKit Go.Lib in
theorem Tryz.slices_Equal_string_lens (a1 a2 : Option Addr) (n c m d : Nat) (w : World) (hnm : n ≠ m) :
    Calls Tryz.prog 37 #[.slice a1 n c, .slice a2 m d] w fun e w' => e = .returned (.bool false) ∧ w' = w := Any.slices_Equal_string_lens Tryz.lays193 a1 a2 n c m d w hnm
end Go.Proofs
