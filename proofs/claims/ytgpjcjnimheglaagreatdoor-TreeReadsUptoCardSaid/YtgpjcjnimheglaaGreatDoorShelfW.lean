/-
  DERIVED: THE SHELF's CONTRACTS AT THIS DUMP, IN PLAIN WORDS (tools/lay-plain.mjs out of 'TryzShelf.lean', which tools/lay-shelf.mjs wrote): THE SAME DECLARATIONS UNDER THE SAME NAMES: 'import', 'namespace', 'open', 'def', 'theorem' AND NOTHING ELSE: no command of the shelf's: FOR A HAND-IN. Each laying: the table of numbers ('.._ren') and one theorem, a field a fact of the dump's own or the kernel's comparison; each contract: ONE APPLICATION.
-/
import Derived.Shelf.Strings.Builder1
import Derived.Shelf.Strings.Trim
import Derived.Shelf.Small.Utf8
import Derived.Shelf.Small.Strs
import Derived.Shelf.Strings.BuilderF
import Derived.Shelf.Strings.BuilderK
import Derived.Shelf.Strconv.Atoi
import Derived.Shelf.Strconv.Itoa0
import Derived.Shelf.Strconv.Itoa1
import Derived.Shelf.LaysM
import Derived.Shelf.Strconv.Itoa2
import Derived.Shelf.Strconv.Itoa3
import Derived.Shelf.Strconv.AtoiErrFast
import Derived.Shelf.Strconv.ParseIntEmpty
import Derived.Shelf.Strconv.AtoiFail
import Derived.Shelf.Strconv.Clone
import Derived.Shelf.Strconv.SyntaxError
import Derived.Shelf.LaysC
import Derived.Shelf.Strconv.ToError
import Derived.Shelf.Strconv.Lower
import Derived.Shelf.Strconv.ParseUint10
import Derived.Shelf.Strconv.ParseUint10Empty
import Derived.Shelf.Strconv.ParseUint10Any
import Derived.Shelf.Strconv.ParseInt10
import Derived.Shelf.Strconv.AtoiLong
import Derived.Shelf.Strconv.AtoiInnerAll
import Derived.Shelf.Strconv.RangeError
import Derived.Shelf.Strconv.ToErrorRange
import Derived.Shelf.Strconv.AtoiAll
import Derived.Shelf.Strings.Search1
import Derived.Shelf.Strings.Search2
import Derived.Shelf.Strings.Cut
import Derived.Shelf.Strings.Shaped
import Derived.Shelf.Strings.Prefix
import Derived.Shelf.Strings.Runes
import Derived.Shelf.Strings.AsciiSet
import Derived.Shelf.Unicode.DecodeSlow
import Derived.Shelf.Unicode.DecodeAny
import Derived.Shelf.Unicode.DecodeLast
import Derived.Shelf.Slices.Turned
import Derived.Test.YtgpjcjnimheglaaGreatDoorProg
namespace Go.Proofs
open Go.Shelf
def Tryz.lays160_ren : Go.Shelf.Ren := ⟨fun | 160 => 164 | 232 => 178 | 231 => 177 | 227 => 179 | 234 => 181 | 233 => 180 | 236 => 183 | 235 => 182 | 228 => 192 | 271 => 194 | 151 => 193 | 197 => 105 | 120 => 200 | 152 => 199 | 260 => 137 | 137 => 93 | 119 => 204 | 224 => 172 | 225 => 171 | 217 => 129 | 266 => 152 | n => n, fun | 9 => 9 | 4 => 4 | 3 => 3 | 5 => 5 | 117 => 258 | 116 => 257 | 0 => 0 | 124 => 261 | 21 => 21 | 105 => 189 | 46 => 232 | 119 => 234 | 139 => 237 | 138 => 236 | n => n, fun | 3 => 2 | 4 => 3 | n => n⟩
theorem Tryz.lays160 : Go.Proofs.Lays.n160 Tryz.prog Tryz.lays160_ren := {
  mixed := by kernel_rfl
  f119 := Tryz.func204.trans (congrArg some (by kernel_rfl))
  f120 := Tryz.func200.trans (congrArg some (by kernel_rfl))
  f137 := Tryz.func93.trans (congrArg some (by kernel_rfl))
  f151 := Tryz.func193.trans (congrArg some (by kernel_rfl))
  f152 := Tryz.func199.trans (congrArg some (by kernel_rfl))
  f160 := Tryz.func164.trans (congrArg some (by kernel_rfl))
  f197 := Tryz.func105.trans (congrArg some (by kernel_rfl))
  f217 := Tryz.func129.trans (congrArg some (by kernel_rfl))
  f224 := Tryz.func172.trans (congrArg some (by kernel_rfl))
  f225 := Tryz.func171.trans (congrArg some (by kernel_rfl))
  f227 := Tryz.func179.trans (congrArg some (by kernel_rfl))
  f228 := Tryz.func192.trans (congrArg some (by kernel_rfl))
  f231 := Tryz.func177.trans (congrArg some (by kernel_rfl))
  f232 := Tryz.func178.trans (congrArg some (by kernel_rfl))
  f233 := Tryz.func180.trans (congrArg some (by kernel_rfl))
  f234 := Tryz.func181.trans (congrArg some (by kernel_rfl))
  f235 := Tryz.func182.trans (congrArg some (by kernel_rfl))
  f236 := Tryz.func183.trans (congrArg some (by kernel_rfl))
  f260 := Tryz.func137.trans (congrArg some (by kernel_rfl))
  f266 := Tryz.func152.trans (congrArg some (by kernel_rfl))
  f271 := Tryz.func194.trans (congrArg some (by kernel_rfl))
  t0 := Tryz.underlying0
  a0 := Tryz.isAgg0
  z0 := Tryz.sizeOf0
  v0 := Tryz.zeroValue0
  t3 := Tryz.underlying3
  a3 := Tryz.isAgg3
  z3 := Tryz.sizeOf3
  v3 := Tryz.zeroValue3
  t4 := Tryz.underlying4
  a4 := Tryz.isAgg4
  z4 := Tryz.sizeOf4
  v4 := Tryz.zeroValue4
  t5 := Tryz.underlying5
  a5 := Tryz.isAgg5
  z5 := Tryz.sizeOf5
  v5 := Tryz.zeroValue5
  t9 := Tryz.underlying9
  a9 := Tryz.isAgg9
  z9 := Tryz.sizeOf9
  v9 := Tryz.zeroValue9
  t21 := Tryz.underlying21
  a21 := Tryz.isAgg21
  z21 := Tryz.sizeOf21
  v21 := Tryz.zeroValue21
  t46 := Tryz.underlying232
  a46 := Tryz.isAgg232
  z46 := Tryz.sizeOf232
  v46 := Tryz.zeroValue232
  t105 := Tryz.underlying189
  a105 := Tryz.isAgg189
  z105 := Tryz.sizeOf189
  v105 := Tryz.zeroValue189
  t116 := Tryz.underlying257
  a116 := Tryz.isAgg257
  z116 := Tryz.sizeOf257
  t117 := Tryz.underlying258
  a117 := Tryz.isAgg258
  z117 := Tryz.sizeOf258
  v117 := Tryz.zeroValue258
  t119 := Tryz.underlying234
  a119 := Tryz.isAgg234
  z119 := Tryz.sizeOf234
  t124 := Tryz.underlying261
  a124 := Tryz.isAgg261
  z124 := Tryz.sizeOf261
  v124 := Tryz.zeroValue261
  t138 := Tryz.underlying236
  a138 := Tryz.isAgg236
  z138 := Tryz.sizeOf236
  v138 := Tryz.zeroValue236
  t139 := Tryz.underlying237
  a139 := Tryz.isAgg237
  z139 := Tryz.sizeOf237
  v139 := Tryz.zeroValue237
  g3 := by kernel_rfl
  g4 := by kernel_rfl }
open Go.RowKit in
/-- strings.Trim: "Trim returns a slice of the string s with all leading and trailing Unicode code points contained in cutset removed.": AT A cutset OF ONE ASCII BYTE. THE WORLD BEHIND IT: as it was, or (where s is not empty) with ONE DRAW MORE off the tape: the statement 'return trimLeftByte(trimRightByte(s, c), c)' draws its order of evaluation. (LAID: no walk: one application.) -/
theorem Tryz.strings_Trim_one (s : ByteArray) (c : UInt8) (hc : c.toNat < 128) (w : World) (hs : s.size ≤ 9223372036854775807) :
    Calls Tryz.prog 164 #[.string s, .string ⟨#[c]⟩] w fun e w' => e = .returned (.string ⟨(Lib.trimB s.data.toList c).toArray⟩) ∧ (w' = w ∨ w' = w.drew) := Any.strings_Trim_one Tryz.lays160 s c hc w hs
def Tryz.laysM171_ren : Go.Shelf.Ren := ⟨fun | 171 => 187 | 243 => 197 | 246 => 201 | 283 => 205 | 284 => 206 | 285 => 207 | 286 => 208 | 129 => 212 | 317 => 211 | 318 => 213 | 319 => 214 | 320 => 215 | 337 => 216 | 338 => 217 | n => n, fun | 3 => 3 | 9 => 9 | 2 => 2 | 4 => 4 | 171 => 280 | 0 => 0 | 53 => 245 | 37 => 101 | 5 => 5 | 173 => 283 | 212 => 287 | 51 => 267 | 20 => 20 | 213 => 288 | 46 => 232 | 232 => 291 | 233 => 292 | n => n, fun | 17 => 7 | 18 => 8 | 19 => 9 | n => n⟩
theorem Tryz.laysM171 : Go.Proofs.LaysM.n171 Tryz.prog Tryz.laysM171_ren := {
  mixed := by kernel_rfl
  f129 := Tryz.func212.trans (congrArg some (by kernel_rfl))
  f171 := Tryz.func187.trans (congrArg some (by kernel_rfl))
  f243 := Tryz.func197.trans (congrArg some (by kernel_rfl))
  f246 := Tryz.func201.trans (congrArg some (by kernel_rfl))
  f283 := Tryz.func205.trans (congrArg some (by kernel_rfl))
  f284 := Tryz.func206.trans (congrArg some (by kernel_rfl))
  f285 := Tryz.func207.trans (congrArg some (by kernel_rfl))
  f286 := Tryz.func208.trans (congrArg some (by kernel_rfl))
  f317 := Tryz.func211.trans (congrArg some (by kernel_rfl))
  f318 := Tryz.func213.trans (congrArg some (by kernel_rfl))
  f319 := Tryz.func214.trans (congrArg some (by kernel_rfl))
  f320 := Tryz.func215.trans (congrArg some (by kernel_rfl))
  f337 := Tryz.func216.trans (congrArg some (by kernel_rfl))
  f338 := Tryz.func217.trans (congrArg some (by kernel_rfl))
  t0 := Tryz.underlying0
  a0 := Tryz.isAgg0
  z0 := Tryz.sizeOf0
  v0 := Tryz.zeroValue0
  t2 := Tryz.underlying2
  a2 := Tryz.isAgg2
  z2 := Tryz.sizeOf2
  v2 := Tryz.zeroValue2
  t3 := Tryz.underlying3
  a3 := Tryz.isAgg3
  z3 := Tryz.sizeOf3
  v3 := Tryz.zeroValue3
  t4 := Tryz.underlying4
  a4 := Tryz.isAgg4
  z4 := Tryz.sizeOf4
  v4 := Tryz.zeroValue4
  t5 := Tryz.underlying5
  a5 := Tryz.isAgg5
  z5 := Tryz.sizeOf5
  v5 := Tryz.zeroValue5
  t9 := Tryz.underlying9
  a9 := Tryz.isAgg9
  z9 := Tryz.sizeOf9
  v9 := Tryz.zeroValue9
  t20 := Tryz.underlying20
  a20 := Tryz.isAgg20
  z20 := Tryz.sizeOf20
  v20 := Tryz.zeroValue20
  t37 := Tryz.underlying101
  a37 := Tryz.isAgg101
  z37 := Tryz.sizeOf101
  v37 := Tryz.zeroValue101
  t46 := Tryz.underlying232
  a46 := Tryz.isAgg232
  z46 := Tryz.sizeOf232
  v46 := Tryz.zeroValue232
  t51 := Tryz.underlying267
  a51 := Tryz.isAgg267
  z51 := Tryz.sizeOf267
  v51 := Tryz.zeroValue267
  t53 := Tryz.underlying245
  a53 := Tryz.isAgg245
  z53 := Tryz.sizeOf245
  v53 := Tryz.zeroValue245
  t171 := Tryz.underlying280
  a171 := Tryz.isAgg280
  z171 := Tryz.sizeOf280
  v171 := Tryz.zeroValue280
  t173 := Tryz.underlying283
  a173 := Tryz.isAgg283
  z173 := Tryz.sizeOf283
  v173 := Tryz.zeroValue283
  t212 := Tryz.underlying287
  a212 := Tryz.isAgg287
  z212 := Tryz.sizeOf287
  v212 := Tryz.zeroValue287
  t213 := Tryz.underlying288
  a213 := Tryz.isAgg288
  z213 := Tryz.sizeOf288
  t232 := Tryz.underlying291
  a232 := Tryz.isAgg291
  z232 := Tryz.sizeOf291
  v232 := Tryz.zeroValue291
  t233 := Tryz.underlying292
  a233 := Tryz.isAgg292
  z233 := Tryz.sizeOf292
  v233 := Tryz.zeroValue292
  g17 := by kernel_rfl
  g18 := by kernel_rfl
  g19 := by kernel_rfl
  i0 := by kernel_rfl
  i2 := by kernel_rfl
  i3 := by kernel_rfl
  i4 := by kernel_rfl
  i5 := by kernel_rfl
  i9 := by kernel_rfl
  i20 := by kernel_rfl
  i37 := by kernel_rfl
  i46 := by kernel_rfl
  i51 := by kernel_rfl
  i53 := by kernel_rfl
  i171 := by kernel_rfl
  i173 := by kernel_rfl
  i212 := by kernel_rfl
  i232 := by kernel_rfl
  i233 := by kernel_rfl
  m17 := by kernel_rfl
  m18 := by kernel_rfl
  m19 := by kernel_rfl }
open Go.RowKit Go.Sort Go.Lib in
/-- strconv.Itoa: "Itoa is equivalent to FormatInt(int64(i), 10).": i's DECIMAL NUMERAL ('Lib.itoa': a '-' where i is negative, then the digits), FOR EVERY int. The world behind the call: the world before it, new blocks behind the heap (the library's 'var a [24]byte'), draws. (LAID: no walk: one application.) -/
theorem Tryz.strconv_Itoa (n : Int) (h0 : -9223372036854775808 ≤ n) (h1 : n ≤ 9223372036854775807) (w : World) (htab : Lib.TabIs Tryz.prog w "internal/strconv.uint64pow10" .u64 Lib.pow10Tab) :
    Calls Tryz.prog 187 #[.int .i64 n] w fun e w' => e = .returned (.string ⟨(Lib.itoa n).toArray⟩) ∧ ∃ k os, w' = grow (w.drewN k) os := Any.strconv_Itoa Tryz.laysM171 n h0 h1 w htab
def Tryz.laysM316_ren : Go.Shelf.Ren := ⟨fun | 316 => 185 | n => n, fun | 9 => 9 | 3 => 3 | 4 => 4 | 37 => 101 | 0 => 0 | 127 => 158 | 5 => 5 | n => n, fun | n => n⟩
theorem Tryz.laysM316 : Go.Proofs.LaysM.n316 Tryz.prog Tryz.laysM316_ren := {
  mixed := by kernel_rfl
  f316 := Tryz.func185.trans (congrArg some (by kernel_rfl))
  t0 := Tryz.underlying0
  a0 := Tryz.isAgg0
  z0 := Tryz.sizeOf0
  v0 := Tryz.zeroValue0
  t3 := Tryz.underlying3
  a3 := Tryz.isAgg3
  z3 := Tryz.sizeOf3
  v3 := Tryz.zeroValue3
  t4 := Tryz.underlying4
  a4 := Tryz.isAgg4
  z4 := Tryz.sizeOf4
  v4 := Tryz.zeroValue4
  t9 := Tryz.underlying9
  a9 := Tryz.isAgg9
  z9 := Tryz.sizeOf9
  v9 := Tryz.zeroValue9
  t37 := Tryz.underlying101
  a37 := Tryz.isAgg101
  z37 := Tryz.sizeOf101
  v37 := Tryz.zeroValue101
  t127 := Tryz.underlying158
  a127 := Tryz.isAgg158
  z127 := Tryz.sizeOf158
  v127 := Tryz.zeroValue158
  t5 := Tryz.underlying5
  a5 := Tryz.isAgg5
  z5 := Tryz.sizeOf5
  v5 := Tryz.zeroValue5
  i0 := by kernel_rfl
  i3 := by kernel_rfl
  i4 := by kernel_rfl
  i5 := by kernel_rfl
  i9 := by kernel_rfl
  i37 := by kernel_rfl
  i127 := by kernel_rfl }
open Go.RowKit in
/-- internal/stringslite.Clone (what strings.Clone calls): "Clone returns a fresh copy of s.": THE SAME BYTES. Of what was there nothing has turned (a new row is laid, and frozen, where s is not empty). (LAID: no walk: one application.) -/
theorem Tryz.stringslite_Clone (s : ByteArray) (w : World) (hlim : s.size ≤ 281474976710656) :
    Calls Tryz.prog 185 #[.string s] w fun e w' => e = .returned (.string s) ∧ Below w.heap.size w w' := Any.stringslite_Clone Tryz.laysM316 s w hlim
def Tryz.laysC172_ren : Go.Shelf.Ren := ⟨fun | 172 => 127 | 244 => 150 | 245 => 151 | 247 => 166 | 279 => 167 | 280 => 168 | 281 => 169 | 282 => 170 | 287 => 184 | 316 => 185 | 171 => 187 | 205 => 186 | 321 => 195 | 322 => 196 | 243 => 197 | 246 => 201 | 283 => 205 | 284 => 206 | 285 => 207 | 286 => 208 | 129 => 212 | 317 => 211 | 318 => 213 | 319 => 214 | 320 => 215 | 337 => 216 | 338 => 217 | n => n, fun | 9 => 9 | 3 => 3 | 75 => 28 | 76 => 105 | 4 => 4 | 5 => 5 | 167 => 248 | 37 => 101 | 0 => 0 | 85 => 249 | 2 => 2 | 168 => 251 | 53 => 245 | 175 => 246 | 46 => 232 | 210 => 264 | 127 => 158 | 145 => 276 | 143 => 274 | 21 => 21 | 171 => 280 | 173 => 283 | 212 => 287 | 51 => 267 | 20 => 20 | 213 => 288 | 232 => 291 | 233 => 292 | 80 => 39 | n => n, fun | 15 => 5 | 16 => 6 | 17 => 7 | 18 => 8 | 19 => 9 | n => n⟩
theorem Tryz.laysC172 : Go.Proofs.LaysC.n172 Tryz.prog Tryz.laysC172_ren := {
  mixed := by kernel_rfl
  f129 := Tryz.func212.trans (congrArg some (by kernel_rfl))
  f171 := Tryz.func187.trans (congrArg some (by kernel_rfl))
  f172 := Tryz.func127.trans (congrArg some (by kernel_rfl))
  f205 := Tryz.func186.trans (congrArg some (by kernel_rfl))
  f243 := Tryz.func197.trans (congrArg some (by kernel_rfl))
  f244 := Tryz.func150.trans (congrArg some (by kernel_rfl))
  f245 := Tryz.func151.trans (congrArg some (by kernel_rfl))
  f246 := Tryz.func201.trans (congrArg some (by kernel_rfl))
  f247 := Tryz.func166.trans (congrArg some (by kernel_rfl))
  f279 := Tryz.func167.trans (congrArg some (by kernel_rfl))
  f280 := Tryz.func168.trans (congrArg some (by kernel_rfl))
  f281 := Tryz.func169.trans (congrArg some (by kernel_rfl))
  f282 := Tryz.func170.trans (congrArg some (by kernel_rfl))
  f283 := Tryz.func205.trans (congrArg some (by kernel_rfl))
  f284 := Tryz.func206.trans (congrArg some (by kernel_rfl))
  f285 := Tryz.func207.trans (congrArg some (by kernel_rfl))
  f286 := Tryz.func208.trans (congrArg some (by kernel_rfl))
  f287 := Tryz.func184.trans (congrArg some (by kernel_rfl))
  f316 := Tryz.func185.trans (congrArg some (by kernel_rfl))
  f317 := Tryz.func211.trans (congrArg some (by kernel_rfl))
  f318 := Tryz.func213.trans (congrArg some (by kernel_rfl))
  f319 := Tryz.func214.trans (congrArg some (by kernel_rfl))
  f320 := Tryz.func215.trans (congrArg some (by kernel_rfl))
  f321 := Tryz.func195.trans (congrArg some (by kernel_rfl))
  f322 := Tryz.func196.trans (congrArg some (by kernel_rfl))
  f337 := Tryz.func216.trans (congrArg some (by kernel_rfl))
  f338 := Tryz.func217.trans (congrArg some (by kernel_rfl))
  t0 := Tryz.underlying0
  a0 := Tryz.isAgg0
  z0 := Tryz.sizeOf0
  v0 := Tryz.zeroValue0
  t2 := Tryz.underlying2
  a2 := Tryz.isAgg2
  z2 := Tryz.sizeOf2
  v2 := Tryz.zeroValue2
  t3 := Tryz.underlying3
  a3 := Tryz.isAgg3
  z3 := Tryz.sizeOf3
  v3 := Tryz.zeroValue3
  t4 := Tryz.underlying4
  a4 := Tryz.isAgg4
  z4 := Tryz.sizeOf4
  v4 := Tryz.zeroValue4
  t5 := Tryz.underlying5
  a5 := Tryz.isAgg5
  z5 := Tryz.sizeOf5
  v5 := Tryz.zeroValue5
  t9 := Tryz.underlying9
  a9 := Tryz.isAgg9
  z9 := Tryz.sizeOf9
  v9 := Tryz.zeroValue9
  t20 := Tryz.underlying20
  a20 := Tryz.isAgg20
  z20 := Tryz.sizeOf20
  v20 := Tryz.zeroValue20
  t21 := Tryz.underlying21
  a21 := Tryz.isAgg21
  z21 := Tryz.sizeOf21
  v21 := Tryz.zeroValue21
  t37 := Tryz.underlying101
  a37 := Tryz.isAgg101
  z37 := Tryz.sizeOf101
  v37 := Tryz.zeroValue101
  t46 := Tryz.underlying232
  a46 := Tryz.isAgg232
  z46 := Tryz.sizeOf232
  v46 := Tryz.zeroValue232
  t51 := Tryz.underlying267
  a51 := Tryz.isAgg267
  z51 := Tryz.sizeOf267
  v51 := Tryz.zeroValue267
  t53 := Tryz.underlying245
  a53 := Tryz.isAgg245
  z53 := Tryz.sizeOf245
  v53 := Tryz.zeroValue245
  t75 := Tryz.underlying28
  a75 := Tryz.isAgg28
  z75 := Tryz.sizeOf28
  v75 := Tryz.zeroValue28
  t76 := Tryz.underlying105
  a76 := Tryz.isAgg105
  z76 := Tryz.sizeOf105
  v76 := Tryz.zeroValue105
  t85 := Tryz.underlying249
  a85 := Tryz.isAgg249
  z85 := Tryz.sizeOf249
  v85 := Tryz.zeroValue249
  t127 := Tryz.underlying158
  a127 := Tryz.isAgg158
  z127 := Tryz.sizeOf158
  v127 := Tryz.zeroValue158
  t143 := Tryz.underlying274
  a143 := Tryz.isAgg274
  z143 := Tryz.sizeOf274
  v143 := Tryz.zeroValue274
  t145 := Tryz.underlying276
  a145 := Tryz.isAgg276
  z145 := Tryz.sizeOf276
  v145 := Tryz.zeroValue276
  t167 := Tryz.underlying248
  a167 := Tryz.isAgg248
  z167 := Tryz.sizeOf248
  v167 := Tryz.zeroValue248
  t168 := Tryz.underlying251
  a168 := Tryz.isAgg251
  z168 := Tryz.sizeOf251
  v168 := Tryz.zeroValue251
  t171 := Tryz.underlying280
  a171 := Tryz.isAgg280
  z171 := Tryz.sizeOf280
  v171 := Tryz.zeroValue280
  t173 := Tryz.underlying283
  a173 := Tryz.isAgg283
  z173 := Tryz.sizeOf283
  v173 := Tryz.zeroValue283
  t175 := Tryz.underlying246
  a175 := Tryz.isAgg246
  z175 := Tryz.sizeOf246
  v175 := Tryz.zeroValue246
  t210 := Tryz.underlying264
  a210 := Tryz.isAgg264
  z210 := Tryz.sizeOf264
  v210 := Tryz.zeroValue264
  t212 := Tryz.underlying287
  a212 := Tryz.isAgg287
  z212 := Tryz.sizeOf287
  v212 := Tryz.zeroValue287
  t213 := Tryz.underlying288
  a213 := Tryz.isAgg288
  z213 := Tryz.sizeOf288
  t232 := Tryz.underlying291
  a232 := Tryz.isAgg291
  z232 := Tryz.sizeOf291
  v232 := Tryz.zeroValue291
  t233 := Tryz.underlying292
  a233 := Tryz.isAgg292
  z233 := Tryz.sizeOf292
  v233 := Tryz.zeroValue292
  g15 := by kernel_rfl
  g16 := by kernel_rfl
  g17 := by kernel_rfl
  g18 := by kernel_rfl
  g19 := by kernel_rfl
  t80 := Tryz.underlying39
  a80 := Tryz.isAgg39
  z80 := Tryz.sizeOf39
  v80 := Tryz.zeroValue39
  i0 := by kernel_rfl
  i2 := by kernel_rfl
  i3 := by kernel_rfl
  i4 := by kernel_rfl
  i5 := by kernel_rfl
  i9 := by kernel_rfl
  i20 := by kernel_rfl
  i21 := by kernel_rfl
  i37 := by kernel_rfl
  i46 := by kernel_rfl
  i51 := by kernel_rfl
  i53 := by kernel_rfl
  i75 := by kernel_rfl
  i76 := by kernel_rfl
  i80 := by kernel_rfl
  i85 := by kernel_rfl
  i127 := by kernel_rfl
  i143 := by kernel_rfl
  i145 := by kernel_rfl
  i167 := by kernel_rfl
  i168 := by kernel_rfl
  i171 := by kernel_rfl
  i173 := by kernel_rfl
  i175 := by kernel_rfl
  i210 := by kernel_rfl
  i212 := by kernel_rfl
  i232 := by kernel_rfl
  i233 := by kernel_rfl
  m15 := by kernel_rfl
  m16 := by kernel_rfl
  m17 := by kernel_rfl
  m18 := by kernel_rfl
  m19 := by kernel_rfl
  c0 := by kernel_rfl
  c2 := by kernel_rfl
  c3 := by kernel_rfl
  c4 := by kernel_rfl
  c5 := by kernel_rfl
  c9 := by kernel_rfl
  c20 := by kernel_rfl
  c21 := by kernel_rfl
  c37 := by kernel_rfl
  c46 := by kernel_rfl
  c51 := by kernel_rfl
  c53 := by kernel_rfl
  c75 := by kernel_rfl
  c76 := by kernel_rfl
  c80 := by kernel_rfl
  c85 := by kernel_rfl
  c127 := by kernel_rfl
  c143 := by kernel_rfl
  c145 := by kernel_rfl
  c167 := by kernel_rfl
  c168 := by kernel_rfl
  c171 := by kernel_rfl
  c173 := by kernel_rfl
  c175 := by kernel_rfl
  c210 := by kernel_rfl
  c212 := by kernel_rfl
  c213 := by kernel_rfl
  c232 := by kernel_rfl
  c233 := by kernel_rfl }
open Go.RowKit in
/-- strconv.Atoi, AT EVERY STRING THAT SPELLS AN int ('Lib.atoiAll .. = .ok v'; of whatever length: leading zeros count): v, AND NO ERROR. The world: as it was, or with the one new row that '[]byte(..)' lays. (LAID: no walk: one application.) -/
theorem Tryz.strconv_Atoi_ok (s : ByteArray) (hmax : s.size ≤ 9223372036854775806) (v : Int) (h : Lib.atoiAll s.data.toList = .ok v) (w : World) :
    Calls Tryz.prog 127 #[.string s] w fun e w' => e = .returned (.tuple #[.int .i64 v, .nilIface]) ∧ (w' = w ∨ ∃ t, w' = Lib.bytesWorld w 5 t) := Any.strconv_Atoi_ok Tryz.laysC172 s hmax v h w
def Tryz.lays145_ren : Go.Shelf.Ren := ⟨fun | 145 => 109 | 220 => 139 | 219 => 153 | 217 => 129 | 225 => 171 | 224 => 172 | 267 => 173 | 266 => 152 | 314 => 188 | n => n, fun | 9 => 9 | 4 => 4 | 59 => 194 | 3 => 3 | 5 => 5 | 46 => 232 | 146 => 268 | 51 => 267 | n => n, fun | 1 => 4 | n => n⟩
theorem Tryz.lays145 : Go.Proofs.Lays.n145 Tryz.prog Tryz.lays145_ren := {
  mixed := by kernel_rfl
  f145 := Tryz.func109.trans (congrArg some (by kernel_rfl))
  f217 := Tryz.func129.trans (congrArg some (by kernel_rfl))
  f219 := Tryz.func153.trans (congrArg some (by kernel_rfl))
  f220 := Tryz.func139.trans (congrArg some (by kernel_rfl))
  f224 := Tryz.func172.trans (congrArg some (by kernel_rfl))
  f225 := Tryz.func171.trans (congrArg some (by kernel_rfl))
  f266 := Tryz.func152.trans (congrArg some (by kernel_rfl))
  f267 := Tryz.func173.trans (congrArg some (by kernel_rfl))
  f314 := Tryz.func188.trans (congrArg some (by kernel_rfl))
  t3 := Tryz.underlying3
  a3 := Tryz.isAgg3
  z3 := Tryz.sizeOf3
  v3 := Tryz.zeroValue3
  t4 := Tryz.underlying4
  a4 := Tryz.isAgg4
  z4 := Tryz.sizeOf4
  v4 := Tryz.zeroValue4
  t5 := Tryz.underlying5
  a5 := Tryz.isAgg5
  z5 := Tryz.sizeOf5
  v5 := Tryz.zeroValue5
  t9 := Tryz.underlying9
  a9 := Tryz.isAgg9
  z9 := Tryz.sizeOf9
  v9 := Tryz.zeroValue9
  t46 := Tryz.underlying232
  a46 := Tryz.isAgg232
  z46 := Tryz.sizeOf232
  v46 := Tryz.zeroValue232
  t51 := Tryz.underlying267
  a51 := Tryz.isAgg267
  z51 := Tryz.sizeOf267
  v51 := Tryz.zeroValue267
  t59 := Tryz.underlying194
  a59 := Tryz.isAgg194
  z59 := Tryz.sizeOf194
  v59 := Tryz.zeroValue194
  t146 := Tryz.underlying268
  a146 := Tryz.isAgg268
  z146 := Tryz.sizeOf268
  v146 := Tryz.zeroValue268
  g1 := by kernel_rfl }
open Go.RowKit Go.Lib in
/-- strings.Cut: "Cut slices s around the first instance of sep, returning the text before and after sep. The found result reports whether sep appears in s. If sep does not appear in s, cut returns s, "", false.": IT RETURNS 'Lib.cut s sep'; the world is as it was but for the count of draws. (LAID: no walk: one application.) -/
theorem Tryz.strings_Cut (s sep : ByteArray) (m : Int) (w : World) (hs : s.size < 4294967281) (hm : w.cell? ⟨4, 0, none⟩ = some (.int .i64 m)) :
    Calls Tryz.prog 109 #[.string s, .string sep] w fun e w' => e = .returned (.tuple #[.string ⟨(Lib.cut s.data.toList sep.data.toList).1.toArray⟩, .string ⟨(Lib.cut s.data.toList sep.data.toList).2.1.toArray⟩, .bool (Lib.cut s.data.toList sep.data.toList).2.2]) ∧ ∃ n, w' = w.drewN n := Any.strings_Cut Tryz.lays145 s sep m w hs hm
end Go.Proofs
