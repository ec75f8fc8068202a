import Derived.Shelf.Strings.Builder1
import Derived.Shelf.Strings.Trim
import Derived.Shelf.Small.Utf8
import Derived.Shelf.Small.Strs
import Derived.Shelf.Strings.BuilderF
import Derived.Shelf.Strings.BuilderK
import Derived.Shelf.Strconv.Itoa0
import Derived.Shelf.Strconv.Itoa1
import Derived.Shelf.LaysM
import Derived.Shelf.Strconv.Itoa2
import Derived.Shelf.Strconv.Itoa3
import Derived.Shelf.Strconv.ParseIntEmpty
import Derived.Shelf.Strconv.Clone
import Derived.Shelf.Strconv.SyntaxError
import Derived.Shelf.LaysC
import Derived.Shelf.Strconv.ToError
import Derived.Shelf.Strconv.Lower
import Derived.Shelf.Strconv.ParseUint10
import Derived.Shelf.Strconv.ParseUint10Empty
import Derived.Shelf.Strconv.ParseUint10Any
import Derived.Shelf.Strconv.ParseInt10
import Derived.Shelf.Strconv.RangeError
import Derived.Shelf.Strconv.ToErrorRange
import Derived.Shelf.Strings.Search1
import Derived.Shelf.Strings.Search2
import Derived.Shelf.Strings.Cut
import Derived.Shelf.Strings.Shaped
import Derived.Shelf.Strings.Prefix
import Derived.Shelf.Strings.Runes
import Derived.Shelf.Strings.AsciiSet
import Derived.Shelf.Bits.Mul64
import Derived.Shelf.Unicode.DecodeSlow
import Derived.Shelf.Unicode.DecodeAny
import Derived.Shelf.Unicode.DecodeLast
import Derived.Shelf.Slices.Turned
import Derived.Test.YtcjjfeephaddcaaGreatDoorProg
set_option linter.all false
namespace Go.Proofs
open Go.Shelf
def Tryz.lays160_ren:Go.Shelf.Ren:=⟨fun|160=>251|232=>259|231=>258|227=>260|234=>262|233=>261|236=>264|235=>263|228=>268|271=>270|151=>269|197=>155|120=>279|152=>278|260=>206|137=>226|119=>287|224=>249|225=>248|217=>244|266=>253|n=>n,fun|9=>9|4=>4|3=>3|5=>5|117=>377|116=>376|0=>0|124=>380|21=>21|105=>217|46=>303|119=>352|139=>355|138=>354|n=>n,fun|3=>4|4=>5|n=>n⟩
theorem Tryz.lays160:Go.Proofs.Lays.n160 Tryz.prog Tryz.lays160_ren:={
  mixed:=by kernel_rfl
  f119:=Tryz.func287.trans (congrArg some (by kernel_rfl))
  f120:=Tryz.func279.trans (congrArg some (by kernel_rfl))
  f137:=Tryz.func226.trans (congrArg some (by kernel_rfl))
  f151:=Tryz.func269.trans (congrArg some (by kernel_rfl))
  f152:=Tryz.func278.trans (congrArg some (by kernel_rfl))
  f160:=Tryz.func251.trans (congrArg some (by kernel_rfl))
  f197:=Tryz.func155.trans (congrArg some (by kernel_rfl))
  f217:=Tryz.func244.trans (congrArg some (by kernel_rfl))
  f224:=Tryz.func249.trans (congrArg some (by kernel_rfl))
  f225:=Tryz.func248.trans (congrArg some (by kernel_rfl))
  f227:=Tryz.func260.trans (congrArg some (by kernel_rfl))
  f228:=Tryz.func268.trans (congrArg some (by kernel_rfl))
  f231:=Tryz.func258.trans (congrArg some (by kernel_rfl))
  f232:=Tryz.func259.trans (congrArg some (by kernel_rfl))
  f233:=Tryz.func261.trans (congrArg some (by kernel_rfl))
  f234:=Tryz.func262.trans (congrArg some (by kernel_rfl))
  f235:=Tryz.func263.trans (congrArg some (by kernel_rfl))
  f236:=Tryz.func264.trans (congrArg some (by kernel_rfl))
  f260:=Tryz.func206.trans (congrArg some (by kernel_rfl))
  f266:=Tryz.func253.trans (congrArg some (by kernel_rfl))
  f271:=Tryz.func270.trans (congrArg some (by kernel_rfl))
  t0:=Tryz.underlying0
  a0:=Tryz.isAgg0
  z0:=Tryz.sizeOf0
  v0:=Tryz.zeroValue0
  t3:=Tryz.underlying3
  a3:=Tryz.isAgg3
  z3:=Tryz.sizeOf3
  v3:=Tryz.zeroValue3
  t4:=Tryz.underlying4
  a4:=Tryz.isAgg4
  z4:=Tryz.sizeOf4
  v4:=Tryz.zeroValue4
  t5:=Tryz.underlying5
  a5:=Tryz.isAgg5
  z5:=Tryz.sizeOf5
  v5:=Tryz.zeroValue5
  t9:=Tryz.underlying9
  a9:=Tryz.isAgg9
  z9:=Tryz.sizeOf9
  v9:=Tryz.zeroValue9
  t21:=Tryz.underlying21
  a21:=Tryz.isAgg21
  z21:=Tryz.sizeOf21
  v21:=Tryz.zeroValue21
  t46:=Tryz.underlying303
  a46:=Tryz.isAgg303
  z46:=Tryz.sizeOf303
  v46:=Tryz.zeroValue303
  t105:=Tryz.underlying217
  a105:=Tryz.isAgg217
  z105:=Tryz.sizeOf217
  v105:=Tryz.zeroValue217
  t116:=Tryz.underlying376
  a116:=Tryz.isAgg376
  z116:=Tryz.sizeOf376
  t117:=Tryz.underlying377
  a117:=Tryz.isAgg377
  z117:=Tryz.sizeOf377
  v117:=Tryz.zeroValue377
  t119:=Tryz.underlying352
  a119:=Tryz.isAgg352
  z119:=Tryz.sizeOf352
  t124:=Tryz.underlying380
  a124:=Tryz.isAgg380
  z124:=Tryz.sizeOf380
  v124:=Tryz.zeroValue380
  t138:=Tryz.underlying354
  a138:=Tryz.isAgg354
  z138:=Tryz.sizeOf354
  v138:=Tryz.zeroValue354
  t139:=Tryz.underlying355
  a139:=Tryz.isAgg355
  z139:=Tryz.sizeOf355
  v139:=Tryz.zeroValue355
  g3:=by kernel_rfl
  g4:=by kernel_rfl}
open Go.RowKit in
open Go.RowKit Go.Sort Go.Lib in
open Go.RowKit in
def Tryz.lays145_ren:Go.Shelf.Ren:=⟨fun|145=>188|220=>224|219=>242|217=>244|225=>248|224=>249|267=>250|266=>253|314=>257|n=>n,fun|9=>9|4=>4|59=>314|3=>3|5=>5|46=>303|146=>340|51=>339|n=>n,fun|1=>2|n=>n⟩
theorem Tryz.lays145:Go.Proofs.Lays.n145 Tryz.prog Tryz.lays145_ren:={
  mixed:=by kernel_rfl
  f145:=Tryz.func188.trans (congrArg some (by kernel_rfl))
  f217:=Tryz.func244.trans (congrArg some (by kernel_rfl))
  f219:=Tryz.func242.trans (congrArg some (by kernel_rfl))
  f220:=Tryz.func224.trans (congrArg some (by kernel_rfl))
  f224:=Tryz.func249.trans (congrArg some (by kernel_rfl))
  f225:=Tryz.func248.trans (congrArg some (by kernel_rfl))
  f266:=Tryz.func253.trans (congrArg some (by kernel_rfl))
  f267:=Tryz.func250.trans (congrArg some (by kernel_rfl))
  f314:=Tryz.func257.trans (congrArg some (by kernel_rfl))
  t3:=Tryz.underlying3
  a3:=Tryz.isAgg3
  z3:=Tryz.sizeOf3
  v3:=Tryz.zeroValue3
  t4:=Tryz.underlying4
  a4:=Tryz.isAgg4
  z4:=Tryz.sizeOf4
  v4:=Tryz.zeroValue4
  t5:=Tryz.underlying5
  a5:=Tryz.isAgg5
  z5:=Tryz.sizeOf5
  v5:=Tryz.zeroValue5
  t9:=Tryz.underlying9
  a9:=Tryz.isAgg9
  z9:=Tryz.sizeOf9
  v9:=Tryz.zeroValue9
  t46:=Tryz.underlying303
  a46:=Tryz.isAgg303
  z46:=Tryz.sizeOf303
  v46:=Tryz.zeroValue303
  t51:=Tryz.underlying339
  a51:=Tryz.isAgg339
  z51:=Tryz.sizeOf339
  v51:=Tryz.zeroValue339
  t59:=Tryz.underlying314
  a59:=Tryz.isAgg314
  z59:=Tryz.sizeOf314
  v59:=Tryz.zeroValue314
  t146:=Tryz.underlying340
  a146:=Tryz.isAgg340
  z146:=Tryz.sizeOf340
  v146:=Tryz.zeroValue340
  g1:=by kernel_rfl}
open Go.RowKit Go.Lib in
theorem Tryz.strings_Cut (s sep:ByteArray)(m:Int)(w:World)(hs:s.size<4294967281)(hm:w.cell? ⟨2,0,none⟩=some (.int .i64 m)):
    Calls Tryz.prog 188 #[.string s,.string sep] w fun e w'=>e=.returned (.tuple #[.string ⟨(Lib.cut s.data.toList sep.data.toList).1.toArray⟩,.string ⟨(Lib.cut s.data.toList sep.data.toList).2.1.toArray⟩,.bool (Lib.cut s.data.toList sep.data.toList).2.2])∧∃n,w'=w.drewN n:=Any.strings_Cut Tryz.lays145 s sep m w hs hm
end Go.Proofs
