/-
  DERIVED: THE SHELF's CONTRACTS AT THIS DUMP, IN PLAIN WORDS (tools/lay-plain.mjs out of 'TrydShelf.lean', which tools/lay-shelf.mjs wrote): THE SAME DECLARATIONS UNDER THE SAME NAMES: 'import', 'namespace', 'open', 'def', 'theorem' AND NOTHING ELSE: no command of the shelf's: FOR A HAND-IN. Each laying: the table of numbers ('.._ren') and one theorem, a field a fact of the dump's own or the kernel's comparison; each contract: ONE APPLICATION.
-/
import Derived.Shelf.Strings.Builder1
import Derived.Shelf.Strings.Trim
import Derived.Shelf.Small.Utf8
import Derived.Shelf.Small.Strs
import Derived.Shelf.Small.Wraps
import Derived.Shelf.Strings.BuilderF
import Derived.Shelf.Strings.BuilderK
import Derived.Shelf.Strconv.Atoi
import Derived.Shelf.Strconv.Itoa0
import Derived.Shelf.Strconv.Itoa1
import Derived.Shelf.LaysM
import Derived.Shelf.Strconv.Itoa2
import Derived.Shelf.Strconv.Itoa3
import Derived.Shelf.Strconv.AtoiErrFast
import Derived.Shelf.Strconv.ParseIntEmpty
import Derived.Shelf.Strconv.AtoiFail
import Derived.Shelf.Strconv.Clone
import Derived.Shelf.Strconv.SyntaxError
import Derived.Shelf.LaysC
import Derived.Shelf.Strconv.ToError
import Derived.Shelf.Strconv.Lower
import Derived.Shelf.Strconv.ParseUint10
import Derived.Shelf.Strconv.ParseUint10Empty
import Derived.Shelf.Strconv.ParseUint10Any
import Derived.Shelf.Strconv.ParseInt10
import Derived.Shelf.Strconv.AtoiLong
import Derived.Shelf.Strconv.AtoiInnerAll
import Derived.Shelf.Strconv.RangeError
import Derived.Shelf.Strconv.ToErrorRange
import Derived.Shelf.Strconv.AtoiAll
import Derived.Shelf.Strings.Search1
import Derived.Shelf.Strings.Search2
import Derived.Shelf.Strings.Cut
import Derived.Shelf.Strings.Shaped
import Derived.Shelf.Strings.Prefix
import Derived.Shelf.Strings.Runes
import Derived.Shelf.Strings.AsciiSet
import Derived.Shelf.Unicode.DecodeSlow
import Derived.Shelf.Unicode.DecodeAny
import Derived.Test.YtccljojceoidhaaDoorProg
namespace Go.Proofs
open Go.Shelf
def Tryd.lays160_ren : Go.Shelf.Ren := ⟨fun | 160 => 98 | 232 => 128 | 231 => 127 | 227 => 129 | 234 => 131 | 233 => 130 | 236 => 133 | 235 => 132 | 228 => 149 | 271 => 151 | 151 => 150 | 197 => 105 | 120 => 162 | 152 => 161 | 260 => 139 | 137 => 76 | 119 => 166 | 224 => 147 | 225 => 146 | 217 => 103 | 266 => 138 | n => n, fun | 9 => 9 | 4 => 4 | 3 => 3 | 5 => 5 | 117 => 175 | 116 => 174 | 0 => 0 | 124 => 178 | 21 => 21 | 105 => 124 | 46 => 127 | 119 => 195 | 139 => 198 | 138 => 197 | n => n, fun | 3 => 4 | 4 => 5 | n => n⟩
theorem Tryd.lays160 : Go.Proofs.Lays.n160 Tryd.prog Tryd.lays160_ren := {
  mixed := by kernel_rfl
  f119 := Tryd.func166.trans (congrArg some (by kernel_rfl))
  f120 := Tryd.func162.trans (congrArg some (by kernel_rfl))
  f137 := Tryd.func76.trans (congrArg some (by kernel_rfl))
  f151 := Tryd.func150.trans (congrArg some (by kernel_rfl))
  f152 := Tryd.func161.trans (congrArg some (by kernel_rfl))
  f160 := Tryd.func98.trans (congrArg some (by kernel_rfl))
  f197 := Tryd.func105.trans (congrArg some (by kernel_rfl))
  f217 := Tryd.func103.trans (congrArg some (by kernel_rfl))
  f224 := Tryd.func147.trans (congrArg some (by kernel_rfl))
  f225 := Tryd.func146.trans (congrArg some (by kernel_rfl))
  f227 := Tryd.func129.trans (congrArg some (by kernel_rfl))
  f228 := Tryd.func149.trans (congrArg some (by kernel_rfl))
  f231 := Tryd.func127.trans (congrArg some (by kernel_rfl))
  f232 := Tryd.func128.trans (congrArg some (by kernel_rfl))
  f233 := Tryd.func130.trans (congrArg some (by kernel_rfl))
  f234 := Tryd.func131.trans (congrArg some (by kernel_rfl))
  f235 := Tryd.func132.trans (congrArg some (by kernel_rfl))
  f236 := Tryd.func133.trans (congrArg some (by kernel_rfl))
  f260 := Tryd.func139.trans (congrArg some (by kernel_rfl))
  f266 := Tryd.func138.trans (congrArg some (by kernel_rfl))
  f271 := Tryd.func151.trans (congrArg some (by kernel_rfl))
  t0 := Tryd.underlying0
  a0 := Tryd.isAgg0
  z0 := Tryd.sizeOf0
  v0 := Tryd.zeroValue0
  t3 := Tryd.underlying3
  a3 := Tryd.isAgg3
  z3 := Tryd.sizeOf3
  v3 := Tryd.zeroValue3
  t4 := Tryd.underlying4
  a4 := Tryd.isAgg4
  z4 := Tryd.sizeOf4
  v4 := Tryd.zeroValue4
  t5 := Tryd.underlying5
  a5 := Tryd.isAgg5
  z5 := Tryd.sizeOf5
  v5 := Tryd.zeroValue5
  t9 := Tryd.underlying9
  a9 := Tryd.isAgg9
  z9 := Tryd.sizeOf9
  v9 := Tryd.zeroValue9
  t21 := Tryd.underlying21
  a21 := Tryd.isAgg21
  z21 := Tryd.sizeOf21
  v21 := Tryd.zeroValue21
  t46 := Tryd.underlying127
  a46 := Tryd.isAgg127
  z46 := Tryd.sizeOf127
  v46 := Tryd.zeroValue127
  t105 := Tryd.underlying124
  a105 := Tryd.isAgg124
  z105 := Tryd.sizeOf124
  v105 := Tryd.zeroValue124
  t116 := Tryd.underlying174
  a116 := Tryd.isAgg174
  z116 := Tryd.sizeOf174
  t117 := Tryd.underlying175
  a117 := Tryd.isAgg175
  z117 := Tryd.sizeOf175
  v117 := Tryd.zeroValue175
  t119 := Tryd.underlying195
  a119 := Tryd.isAgg195
  z119 := Tryd.sizeOf195
  t124 := Tryd.underlying178
  a124 := Tryd.isAgg178
  z124 := Tryd.sizeOf178
  v124 := Tryd.zeroValue178
  t138 := Tryd.underlying197
  a138 := Tryd.isAgg197
  z138 := Tryd.sizeOf197
  v138 := Tryd.zeroValue197
  t139 := Tryd.underlying198
  a139 := Tryd.isAgg198
  z139 := Tryd.sizeOf198
  v139 := Tryd.zeroValue198
  g3 := by kernel_rfl
  g4 := by kernel_rfl }
open Go.RowKit in
/-- strings.Trim: "Trim returns a slice of the string s with all leading and trailing Unicode code points contained in cutset removed.": AT A cutset OF ONE ASCII BYTE. THE WORLD BEHIND IT: as it was, or (where s is not empty) with ONE DRAW MORE off the tape: the statement 'return trimLeftByte(trimRightByte(s, c), c)' draws its order of evaluation. (LAID: no walk: one application.) -/
theorem Tryd.strings_Trim_one (s : ByteArray) (c : UInt8) (hc : c.toNat < 128) (w : World) (hs : s.size ≤ 9223372036854775807) :
    Calls Tryd.prog 98 #[.string s, .string ⟨#[c]⟩] w fun e w' => e = .returned (.string ⟨(Lib.trimB s.data.toList c).toArray⟩) ∧ (w' = w ∨ w' = w.drew) := Any.strings_Trim_one Tryd.lays160 s c hc w hs
def Tryd.lays103_ren : Go.Shelf.Ren := ⟨fun | 103 => 97 | 210 => 126 | 206 => 136 | n => n, fun | 9 => 9 | 4 => 4 | 24 => 60 | 3 => 3 | n => n, fun | n => n⟩
theorem Tryd.lays103 : Go.Proofs.Lays.n103 Tryd.prog Tryd.lays103_ren := {
  mixed := by kernel_rfl
  f103 := Tryd.func97.trans (congrArg some (by kernel_rfl))
  f206 := Tryd.func136.trans (congrArg some (by kernel_rfl))
  f210 := Tryd.func126.trans (congrArg some (by kernel_rfl))
  t3 := Tryd.underlying3
  a3 := Tryd.isAgg3
  z3 := Tryd.sizeOf3
  v3 := Tryd.zeroValue3
  t4 := Tryd.underlying4
  a4 := Tryd.isAgg4
  z4 := Tryd.sizeOf4
  v4 := Tryd.zeroValue4
  t9 := Tryd.underlying9
  a9 := Tryd.isAgg9
  z9 := Tryd.sizeOf9
  v9 := Tryd.zeroValue9
  t24 := Tryd.underlying60
  a24 := Tryd.isAgg60
  z24 := Tryd.sizeOf60
  v24 := Tryd.zeroValue60 }
open Go.RowKit in
/-- strings.CutPrefix: "CutPrefix returns s without the provided leading prefix string and reports whether it found the prefix. If s doesn't start with prefix, CutPrefix returns s, false. If prefix is the empty string, CutPrefix returns s, true.": IT RETURNS '(Lib.trimPrefix s p, Lib.hasPrefix s p)'; the world is as it was. (LAID: no walk: one application.) -/
theorem Tryd.strings_CutPrefix (s p : ByteArray) (w : World) :
    Calls Tryd.prog 97 #[.string s, .string p] w fun e w' => e = .returned (.tuple #[.string ⟨(Lib.trimPrefix s.data.toList p.data.toList).toArray⟩, .bool (Lib.hasPrefix s.data.toList p.data.toList)]) ∧ w' = w := Any.strings_CutPrefix Tryd.lays103 s p w
def Tryd.laysM171_ren : Go.Shelf.Ren := ⟨fun | 171 => 39 | 243 => 62 | 246 => 86 | 283 => 116 | 284 => 117 | 285 => 118 | 286 => 119 | 129 => 142 | 317 => 141 | 318 => 143 | 319 => 144 | 320 => 145 | 337 => 158 | 338 => 159 | n => n, fun | 3 => 3 | 9 => 9 | 2 => 2 | 4 => 4 | 171 => 151 | 0 => 0 | 53 => 152 | 37 => 63 | 5 => 5 | 173 => 155 | 212 => 184 | 51 => 185 | 20 => 20 | 213 => 186 | 46 => 127 | 232 => 207 | 233 => 208 | n => n, fun | 17 => 2 | 18 => 8 | 19 => 9 | n => n⟩
theorem Tryd.laysM171 : Go.Proofs.LaysM.n171 Tryd.prog Tryd.laysM171_ren := {
  mixed := by kernel_rfl
  f129 := Tryd.func142.trans (congrArg some (by kernel_rfl))
  f171 := Tryd.func39.trans (congrArg some (by kernel_rfl))
  f243 := Tryd.func62.trans (congrArg some (by kernel_rfl))
  f246 := Tryd.func86.trans (congrArg some (by kernel_rfl))
  f283 := Tryd.func116.trans (congrArg some (by kernel_rfl))
  f284 := Tryd.func117.trans (congrArg some (by kernel_rfl))
  f285 := Tryd.func118.trans (congrArg some (by kernel_rfl))
  f286 := Tryd.func119.trans (congrArg some (by kernel_rfl))
  f317 := Tryd.func141.trans (congrArg some (by kernel_rfl))
  f318 := Tryd.func143.trans (congrArg some (by kernel_rfl))
  f319 := Tryd.func144.trans (congrArg some (by kernel_rfl))
  f320 := Tryd.func145.trans (congrArg some (by kernel_rfl))
  f337 := Tryd.func158.trans (congrArg some (by kernel_rfl))
  f338 := Tryd.func159.trans (congrArg some (by kernel_rfl))
  t0 := Tryd.underlying0
  a0 := Tryd.isAgg0
  z0 := Tryd.sizeOf0
  v0 := Tryd.zeroValue0
  t2 := Tryd.underlying2
  a2 := Tryd.isAgg2
  z2 := Tryd.sizeOf2
  v2 := Tryd.zeroValue2
  t3 := Tryd.underlying3
  a3 := Tryd.isAgg3
  z3 := Tryd.sizeOf3
  v3 := Tryd.zeroValue3
  t4 := Tryd.underlying4
  a4 := Tryd.isAgg4
  z4 := Tryd.sizeOf4
  v4 := Tryd.zeroValue4
  t5 := Tryd.underlying5
  a5 := Tryd.isAgg5
  z5 := Tryd.sizeOf5
  v5 := Tryd.zeroValue5
  t9 := Tryd.underlying9
  a9 := Tryd.isAgg9
  z9 := Tryd.sizeOf9
  v9 := Tryd.zeroValue9
  t20 := Tryd.underlying20
  a20 := Tryd.isAgg20
  z20 := Tryd.sizeOf20
  v20 := Tryd.zeroValue20
  t37 := Tryd.underlying63
  a37 := Tryd.isAgg63
  z37 := Tryd.sizeOf63
  v37 := Tryd.zeroValue63
  t46 := Tryd.underlying127
  a46 := Tryd.isAgg127
  z46 := Tryd.sizeOf127
  v46 := Tryd.zeroValue127
  t51 := Tryd.underlying185
  a51 := Tryd.isAgg185
  z51 := Tryd.sizeOf185
  v51 := Tryd.zeroValue185
  t53 := Tryd.underlying152
  a53 := Tryd.isAgg152
  z53 := Tryd.sizeOf152
  v53 := Tryd.zeroValue152
  t171 := Tryd.underlying151
  a171 := Tryd.isAgg151
  z171 := Tryd.sizeOf151
  v171 := Tryd.zeroValue151
  t173 := Tryd.underlying155
  a173 := Tryd.isAgg155
  z173 := Tryd.sizeOf155
  v173 := Tryd.zeroValue155
  t212 := Tryd.underlying184
  a212 := Tryd.isAgg184
  z212 := Tryd.sizeOf184
  v212 := Tryd.zeroValue184
  t213 := Tryd.underlying186
  a213 := Tryd.isAgg186
  z213 := Tryd.sizeOf186
  t232 := Tryd.underlying207
  a232 := Tryd.isAgg207
  z232 := Tryd.sizeOf207
  v232 := Tryd.zeroValue207
  t233 := Tryd.underlying208
  a233 := Tryd.isAgg208
  z233 := Tryd.sizeOf208
  v233 := Tryd.zeroValue208
  g17 := by kernel_rfl
  g18 := by kernel_rfl
  g19 := by kernel_rfl
  i0 := by kernel_rfl
  i2 := by kernel_rfl
  i3 := by kernel_rfl
  i4 := by kernel_rfl
  i5 := by kernel_rfl
  i9 := by kernel_rfl
  i20 := by kernel_rfl
  i37 := by kernel_rfl
  i46 := by kernel_rfl
  i51 := by kernel_rfl
  i53 := by kernel_rfl
  i171 := by kernel_rfl
  i173 := by kernel_rfl
  i212 := by kernel_rfl
  i232 := by kernel_rfl
  i233 := by kernel_rfl
  m17 := by kernel_rfl
  m18 := by kernel_rfl
  m19 := by kernel_rfl }
open Go.RowKit Go.Sort Go.Lib in
/-- strconv.Itoa: "Itoa is equivalent to FormatInt(int64(i), 10).": i's DECIMAL NUMERAL ('Lib.itoa': a '-' where i is negative, then the digits), FOR EVERY int. The world behind the call: the world before it, new blocks behind the heap (the library's 'var a [24]byte'), draws. (LAID: no walk: one application.) -/
theorem Tryd.strconv_Itoa (n : Int) (h0 : -9223372036854775808 ≤ n) (h1 : n ≤ 9223372036854775807) (w : World) (htab : Lib.TabIs Tryd.prog w "internal/strconv.uint64pow10" .u64 Lib.pow10Tab) :
    Calls Tryd.prog 39 #[.int .i64 n] w fun e w' => e = .returned (.string ⟨(Lib.itoa n).toArray⟩) ∧ ∃ k os, w' = grow (w.drewN k) os := Any.strconv_Itoa Tryd.laysM171 n h0 h1 w htab
def Tryd.laysM316_ren : Go.Shelf.Ren := ⟨fun | 316 => 94 | n => n, fun | 9 => 9 | 3 => 3 | 4 => 4 | 37 => 63 | 0 => 0 | 127 => 104 | 5 => 5 | n => n, fun | n => n⟩
theorem Tryd.laysM316 : Go.Proofs.LaysM.n316 Tryd.prog Tryd.laysM316_ren := {
  mixed := by kernel_rfl
  f316 := Tryd.func94.trans (congrArg some (by kernel_rfl))
  t0 := Tryd.underlying0
  a0 := Tryd.isAgg0
  z0 := Tryd.sizeOf0
  v0 := Tryd.zeroValue0
  t3 := Tryd.underlying3
  a3 := Tryd.isAgg3
  z3 := Tryd.sizeOf3
  v3 := Tryd.zeroValue3
  t4 := Tryd.underlying4
  a4 := Tryd.isAgg4
  z4 := Tryd.sizeOf4
  v4 := Tryd.zeroValue4
  t9 := Tryd.underlying9
  a9 := Tryd.isAgg9
  z9 := Tryd.sizeOf9
  v9 := Tryd.zeroValue9
  t37 := Tryd.underlying63
  a37 := Tryd.isAgg63
  z37 := Tryd.sizeOf63
  v37 := Tryd.zeroValue63
  t127 := Tryd.underlying104
  a127 := Tryd.isAgg104
  z127 := Tryd.sizeOf104
  v127 := Tryd.zeroValue104
  t5 := Tryd.underlying5
  a5 := Tryd.isAgg5
  z5 := Tryd.sizeOf5
  v5 := Tryd.zeroValue5
  i0 := by kernel_rfl
  i3 := by kernel_rfl
  i4 := by kernel_rfl
  i5 := by kernel_rfl
  i9 := by kernel_rfl
  i37 := by kernel_rfl
  i127 := by kernel_rfl }
open Go.RowKit in
/-- internal/stringslite.Clone (what strings.Clone calls): "Clone returns a fresh copy of s.": THE SAME BYTES. Of what was there nothing has turned (a new row is laid, and frozen, where s is not empty). (LAID: no walk: one application.) -/
theorem Tryd.stringslite_Clone (s : ByteArray) (w : World) (hlim : s.size ≤ 281474976710656) :
    Calls Tryd.prog 94 #[.string s] w fun e w' => e = .returned (.string s) ∧ Below w.heap.size w w' := Any.stringslite_Clone Tryd.laysM316 s w hlim
def Tryd.laysC172_ren : Go.Shelf.Ren := ⟨fun | 172 => 99 | 244 => 134 | 245 => 135 | 247 => 140 | 279 => 152 | 280 => 153 | 281 => 154 | 282 => 155 | 287 => 157 | 316 => 94 | 171 => 39 | 205 => 163 | 321 => 164 | 322 => 165 | 243 => 62 | 246 => 86 | 283 => 116 | 284 => 117 | 285 => 118 | 286 => 119 | 129 => 142 | 317 => 141 | 318 => 143 | 319 => 144 | 320 => 145 | 337 => 158 | 338 => 159 | n => n, fun | 9 => 9 | 3 => 3 | 75 => 27 | 76 => 96 | 4 => 4 | 5 => 5 | 167 => 189 | 37 => 63 | 0 => 0 | 85 => 149 | 2 => 2 | 168 => 190 | 53 => 152 | 175 => 193 | 46 => 127 | 210 => 204 | 127 => 104 | 145 => 211 | 143 => 209 | 21 => 21 | 171 => 151 | 173 => 155 | 212 => 184 | 51 => 185 | 20 => 20 | 213 => 186 | 232 => 207 | 233 => 208 | 80 => 68 | n => n, fun | 15 => 6 | 16 => 7 | 17 => 2 | 18 => 8 | 19 => 9 | n => n⟩
theorem Tryd.laysC172 : Go.Proofs.LaysC.n172 Tryd.prog Tryd.laysC172_ren := {
  mixed := by kernel_rfl
  f129 := Tryd.func142.trans (congrArg some (by kernel_rfl))
  f171 := Tryd.func39.trans (congrArg some (by kernel_rfl))
  f172 := Tryd.func99.trans (congrArg some (by kernel_rfl))
  f205 := Tryd.func163.trans (congrArg some (by kernel_rfl))
  f243 := Tryd.func62.trans (congrArg some (by kernel_rfl))
  f244 := Tryd.func134.trans (congrArg some (by kernel_rfl))
  f245 := Tryd.func135.trans (congrArg some (by kernel_rfl))
  f246 := Tryd.func86.trans (congrArg some (by kernel_rfl))
  f247 := Tryd.func140.trans (congrArg some (by kernel_rfl))
  f279 := Tryd.func152.trans (congrArg some (by kernel_rfl))
  f280 := Tryd.func153.trans (congrArg some (by kernel_rfl))
  f281 := Tryd.func154.trans (congrArg some (by kernel_rfl))
  f282 := Tryd.func155.trans (congrArg some (by kernel_rfl))
  f283 := Tryd.func116.trans (congrArg some (by kernel_rfl))
  f284 := Tryd.func117.trans (congrArg some (by kernel_rfl))
  f285 := Tryd.func118.trans (congrArg some (by kernel_rfl))
  f286 := Tryd.func119.trans (congrArg some (by kernel_rfl))
  f287 := Tryd.func157.trans (congrArg some (by kernel_rfl))
  f316 := Tryd.func94.trans (congrArg some (by kernel_rfl))
  f317 := Tryd.func141.trans (congrArg some (by kernel_rfl))
  f318 := Tryd.func143.trans (congrArg some (by kernel_rfl))
  f319 := Tryd.func144.trans (congrArg some (by kernel_rfl))
  f320 := Tryd.func145.trans (congrArg some (by kernel_rfl))
  f321 := Tryd.func164.trans (congrArg some (by kernel_rfl))
  f322 := Tryd.func165.trans (congrArg some (by kernel_rfl))
  f337 := Tryd.func158.trans (congrArg some (by kernel_rfl))
  f338 := Tryd.func159.trans (congrArg some (by kernel_rfl))
  t0 := Tryd.underlying0
  a0 := Tryd.isAgg0
  z0 := Tryd.sizeOf0
  v0 := Tryd.zeroValue0
  t2 := Tryd.underlying2
  a2 := Tryd.isAgg2
  z2 := Tryd.sizeOf2
  v2 := Tryd.zeroValue2
  t3 := Tryd.underlying3
  a3 := Tryd.isAgg3
  z3 := Tryd.sizeOf3
  v3 := Tryd.zeroValue3
  t4 := Tryd.underlying4
  a4 := Tryd.isAgg4
  z4 := Tryd.sizeOf4
  v4 := Tryd.zeroValue4
  t5 := Tryd.underlying5
  a5 := Tryd.isAgg5
  z5 := Tryd.sizeOf5
  v5 := Tryd.zeroValue5
  t9 := Tryd.underlying9
  a9 := Tryd.isAgg9
  z9 := Tryd.sizeOf9
  v9 := Tryd.zeroValue9
  t20 := Tryd.underlying20
  a20 := Tryd.isAgg20
  z20 := Tryd.sizeOf20
  v20 := Tryd.zeroValue20
  t21 := Tryd.underlying21
  a21 := Tryd.isAgg21
  z21 := Tryd.sizeOf21
  v21 := Tryd.zeroValue21
  t37 := Tryd.underlying63
  a37 := Tryd.isAgg63
  z37 := Tryd.sizeOf63
  v37 := Tryd.zeroValue63
  t46 := Tryd.underlying127
  a46 := Tryd.isAgg127
  z46 := Tryd.sizeOf127
  v46 := Tryd.zeroValue127
  t51 := Tryd.underlying185
  a51 := Tryd.isAgg185
  z51 := Tryd.sizeOf185
  v51 := Tryd.zeroValue185
  t53 := Tryd.underlying152
  a53 := Tryd.isAgg152
  z53 := Tryd.sizeOf152
  v53 := Tryd.zeroValue152
  t75 := Tryd.underlying27
  a75 := Tryd.isAgg27
  z75 := Tryd.sizeOf27
  v75 := Tryd.zeroValue27
  t76 := Tryd.underlying96
  a76 := Tryd.isAgg96
  z76 := Tryd.sizeOf96
  v76 := Tryd.zeroValue96
  t85 := Tryd.underlying149
  a85 := Tryd.isAgg149
  z85 := Tryd.sizeOf149
  v85 := Tryd.zeroValue149
  t127 := Tryd.underlying104
  a127 := Tryd.isAgg104
  z127 := Tryd.sizeOf104
  v127 := Tryd.zeroValue104
  t143 := Tryd.underlying209
  a143 := Tryd.isAgg209
  z143 := Tryd.sizeOf209
  v143 := Tryd.zeroValue209
  t145 := Tryd.underlying211
  a145 := Tryd.isAgg211
  z145 := Tryd.sizeOf211
  v145 := Tryd.zeroValue211
  t167 := Tryd.underlying189
  a167 := Tryd.isAgg189
  z167 := Tryd.sizeOf189
  v167 := Tryd.zeroValue189
  t168 := Tryd.underlying190
  a168 := Tryd.isAgg190
  z168 := Tryd.sizeOf190
  v168 := Tryd.zeroValue190
  t171 := Tryd.underlying151
  a171 := Tryd.isAgg151
  z171 := Tryd.sizeOf151
  v171 := Tryd.zeroValue151
  t173 := Tryd.underlying155
  a173 := Tryd.isAgg155
  z173 := Tryd.sizeOf155
  v173 := Tryd.zeroValue155
  t175 := Tryd.underlying193
  a175 := Tryd.isAgg193
  z175 := Tryd.sizeOf193
  v175 := Tryd.zeroValue193
  t210 := Tryd.underlying204
  a210 := Tryd.isAgg204
  z210 := Tryd.sizeOf204
  v210 := Tryd.zeroValue204
  t212 := Tryd.underlying184
  a212 := Tryd.isAgg184
  z212 := Tryd.sizeOf184
  v212 := Tryd.zeroValue184
  t213 := Tryd.underlying186
  a213 := Tryd.isAgg186
  z213 := Tryd.sizeOf186
  t232 := Tryd.underlying207
  a232 := Tryd.isAgg207
  z232 := Tryd.sizeOf207
  v232 := Tryd.zeroValue207
  t233 := Tryd.underlying208
  a233 := Tryd.isAgg208
  z233 := Tryd.sizeOf208
  v233 := Tryd.zeroValue208
  g15 := by kernel_rfl
  g16 := by kernel_rfl
  g17 := by kernel_rfl
  g18 := by kernel_rfl
  g19 := by kernel_rfl
  t80 := Tryd.underlying68
  a80 := Tryd.isAgg68
  z80 := Tryd.sizeOf68
  v80 := Tryd.zeroValue68
  i0 := by kernel_rfl
  i2 := by kernel_rfl
  i3 := by kernel_rfl
  i4 := by kernel_rfl
  i5 := by kernel_rfl
  i9 := by kernel_rfl
  i20 := by kernel_rfl
  i21 := by kernel_rfl
  i37 := by kernel_rfl
  i46 := by kernel_rfl
  i51 := by kernel_rfl
  i53 := by kernel_rfl
  i75 := by kernel_rfl
  i76 := by kernel_rfl
  i80 := by kernel_rfl
  i85 := by kernel_rfl
  i127 := by kernel_rfl
  i143 := by kernel_rfl
  i145 := by kernel_rfl
  i167 := by kernel_rfl
  i168 := by kernel_rfl
  i171 := by kernel_rfl
  i173 := by kernel_rfl
  i175 := by kernel_rfl
  i210 := by kernel_rfl
  i212 := by kernel_rfl
  i232 := by kernel_rfl
  i233 := by kernel_rfl
  m15 := by kernel_rfl
  m16 := by kernel_rfl
  m17 := by kernel_rfl
  m18 := by kernel_rfl
  m19 := by kernel_rfl
  c0 := by kernel_rfl
  c2 := by kernel_rfl
  c3 := by kernel_rfl
  c4 := by kernel_rfl
  c5 := by kernel_rfl
  c9 := by kernel_rfl
  c20 := by kernel_rfl
  c21 := by kernel_rfl
  c37 := by kernel_rfl
  c46 := by kernel_rfl
  c51 := by kernel_rfl
  c53 := by kernel_rfl
  c75 := by kernel_rfl
  c76 := by kernel_rfl
  c80 := by kernel_rfl
  c85 := by kernel_rfl
  c127 := by kernel_rfl
  c143 := by kernel_rfl
  c145 := by kernel_rfl
  c167 := by kernel_rfl
  c168 := by kernel_rfl
  c171 := by kernel_rfl
  c173 := by kernel_rfl
  c175 := by kernel_rfl
  c210 := by kernel_rfl
  c212 := by kernel_rfl
  c213 := by kernel_rfl
  c232 := by kernel_rfl
  c233 := by kernel_rfl }
open Go.RowKit in
/-- strconv.Atoi, AT EVERY STRING THAT SPELLS AN int ('Lib.atoiAll .. = .ok v'; of whatever length: leading zeros count): v, AND NO ERROR. The world: as it was, or with the one new row that '[]byte(..)' lays. (LAID: no walk: one application.) -/
theorem Tryd.strconv_Atoi_ok (s : ByteArray) (hmax : s.size ≤ 9223372036854775806) (v : Int) (h : Lib.atoiAll s.data.toList = .ok v) (w : World) :
    Calls Tryd.prog 99 #[.string s] w fun e w' => e = .returned (.tuple #[.int .i64 v, .nilIface]) ∧ (w' = w ∨ ∃ t, w' = Lib.bytesWorld w 5 t) := Any.strconv_Atoi_ok Tryd.laysC172 s hmax v h w
def Tryd.lays145_ren : Go.Shelf.Ren := ⟨fun | 145 => 64 | 220 => 95 | 219 => 124 | 217 => 103 | 225 => 146 | 224 => 147 | 267 => 148 | 266 => 138 | 314 => 160 | n => n, fun | 9 => 9 | 4 => 4 | 59 => 107 | 3 => 3 | 5 => 5 | 46 => 127 | 146 => 200 | 51 => 185 | n => n, fun | 1 => 3 | n => n⟩
theorem Tryd.lays145 : Go.Proofs.Lays.n145 Tryd.prog Tryd.lays145_ren := {
  mixed := by kernel_rfl
  f145 := Tryd.func64.trans (congrArg some (by kernel_rfl))
  f217 := Tryd.func103.trans (congrArg some (by kernel_rfl))
  f219 := Tryd.func124.trans (congrArg some (by kernel_rfl))
  f220 := Tryd.func95.trans (congrArg some (by kernel_rfl))
  f224 := Tryd.func147.trans (congrArg some (by kernel_rfl))
  f225 := Tryd.func146.trans (congrArg some (by kernel_rfl))
  f266 := Tryd.func138.trans (congrArg some (by kernel_rfl))
  f267 := Tryd.func148.trans (congrArg some (by kernel_rfl))
  f314 := Tryd.func160.trans (congrArg some (by kernel_rfl))
  t3 := Tryd.underlying3
  a3 := Tryd.isAgg3
  z3 := Tryd.sizeOf3
  v3 := Tryd.zeroValue3
  t4 := Tryd.underlying4
  a4 := Tryd.isAgg4
  z4 := Tryd.sizeOf4
  v4 := Tryd.zeroValue4
  t5 := Tryd.underlying5
  a5 := Tryd.isAgg5
  z5 := Tryd.sizeOf5
  v5 := Tryd.zeroValue5
  t9 := Tryd.underlying9
  a9 := Tryd.isAgg9
  z9 := Tryd.sizeOf9
  v9 := Tryd.zeroValue9
  t46 := Tryd.underlying127
  a46 := Tryd.isAgg127
  z46 := Tryd.sizeOf127
  v46 := Tryd.zeroValue127
  t51 := Tryd.underlying185
  a51 := Tryd.isAgg185
  z51 := Tryd.sizeOf185
  v51 := Tryd.zeroValue185
  t59 := Tryd.underlying107
  a59 := Tryd.isAgg107
  z59 := Tryd.sizeOf107
  v59 := Tryd.zeroValue107
  t146 := Tryd.underlying200
  a146 := Tryd.isAgg200
  z146 := Tryd.sizeOf200
  v146 := Tryd.zeroValue200
  g1 := by kernel_rfl }
open Go.RowKit Go.Lib in
/-- strings.Cut: "Cut slices s around the first instance of sep, returning the text before and after sep. The found result reports whether sep appears in s. If sep does not appear in s, cut returns s, "", false.": IT RETURNS 'Lib.cut s sep'; the world is as it was but for the count of draws. (LAID: no walk: one application.) -/
theorem Tryd.strings_Cut (s sep : ByteArray) (m : Int) (w : World) (hs : s.size < 4294967281) (hm : w.cell? ⟨3, 0, none⟩ = some (.int .i64 m)) :
    Calls Tryd.prog 64 #[.string s, .string sep] w fun e w' => e = .returned (.tuple #[.string ⟨(Lib.cut s.data.toList sep.data.toList).1.toArray⟩, .string ⟨(Lib.cut s.data.toList sep.data.toList).2.1.toArray⟩, .bool (Lib.cut s.data.toList sep.data.toList).2.2]) ∧ ∃ n, w' = w.drewN n := Any.strings_Cut Tryd.lays145 s sep m w hs hm
def Tryd.lays102_ren : Go.Shelf.Ren := ⟨fun | 102 => 65 | 209 => 96 | 207 => 125 | n => n, fun | 9 => 9 | 4 => 4 | 3 => 3 | n => n, fun | n => n⟩
theorem Tryd.lays102 : Go.Proofs.Lays.n102 Tryd.prog Tryd.lays102_ren := {
  mixed := by kernel_rfl
  f102 := Tryd.func65.trans (congrArg some (by kernel_rfl))
  f207 := Tryd.func125.trans (congrArg some (by kernel_rfl))
  f209 := Tryd.func96.trans (congrArg some (by kernel_rfl))
  t3 := Tryd.underlying3
  a3 := Tryd.isAgg3
  z3 := Tryd.sizeOf3
  v3 := Tryd.zeroValue3
  t4 := Tryd.underlying4
  a4 := Tryd.isAgg4
  z4 := Tryd.sizeOf4
  v4 := Tryd.zeroValue4
  t9 := Tryd.underlying9
  a9 := Tryd.isAgg9
  z9 := Tryd.sizeOf9
  v9 := Tryd.zeroValue9 }
open Go.RowKit Go.Lib in
/-- strings.TrimSuffix: "TrimSuffix returns s without the provided trailing suffix string. If s doesn't end with suffix, s is returned unchanged.": IT RETURNS 'Lib.trimSuffix s suffix'; the world is as it was. (LAID: no walk: one application.) -/
theorem Tryd.strings_TrimSuffix (s p : ByteArray) (w : World) (hs : s.size ≤ 9223372036854775807) :
    Calls Tryd.prog 65 #[.string s, .string p] w fun e w' => e = .returned (.string ⟨(Lib.trimSuffix s.data.toList p.data.toList).toArray⟩) ∧ w' = w := Any.strings_TrimSuffix Tryd.lays102 s p w hs
end Go.Proofs
