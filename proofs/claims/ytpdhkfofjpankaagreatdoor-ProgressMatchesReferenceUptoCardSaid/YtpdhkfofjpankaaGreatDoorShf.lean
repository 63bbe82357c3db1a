/-
  DERIVED: THE SHELF's CONTRACTS AT THIS DUMP, IN PLAIN WORDS (tools/lay-plain.mjs out of 'TryzShelf.lean', which tools/lay-shelf.mjs wrote): THE SAME DECLARATIONS UNDER THE SAME NAMES: 'import', 'namespace', 'open', 'def', 'theorem' AND NOTHING ELSE: no command of the shelf's: FOR A HAND-IN. Each laying: the table of numbers ('.._ren') and one theorem, a field a fact of the dump's own or the kernel's comparison; each contract: ONE APPLICATION.
-/
import Derived.Shelf.Small.Utf8
import Derived.Shelf.Small.Strs
import Derived.Shelf.Strconv.Itoa0
import Derived.Shelf.Strconv.Itoa1
import Derived.Shelf.LaysM
import Derived.Shelf.Strconv.Itoa2
import Derived.Shelf.Strconv.Itoa3
import Derived.Shelf.Strings.Search1
import Derived.Shelf.Strings.Search2
import Derived.Shelf.Strings.Search3
import Derived.Shelf.Strings.Shaped
import Derived.Shelf.Unicode.Decode
import Derived.Shelf.Strings.Runes
import Derived.Shelf.Strings.AsciiSet
import Derived.Shelf.Unicode.DecodeSlow
import Derived.Shelf.Unicode.DecodeAny
import Derived.Shelf.Unicode.DecodeLast
import Derived.Test.YtpdhkfofjpankaaGreatDoorProg
set_option linter.unusedVariables false
set_option linter.unusedSimpArgs false
set_option linter.unnecessarySimpa false
set_option linter.unusedSectionVars false
namespace Go.Proofs
open Go.Shelf
def Tryz.laysM171_ren:Go.Shelf.Ren:=⟨fun|171=>64|243=>76|246=>88|283=>95|284=>96|285=>97|286=>98|129=>107|317=>106|318=>108|319=>109|320=>110|337=>115|338=>116|n=>n,fun|3=>3|9=>9|2=>2|4=>4|171=>130|0=>0|53=>131|37=>115|5=>5|173=>134|212=>141|51=>142|20=>20|213=>143|46=>138|232=>154|233=>155|n=>n,fun|17=>1|18=>4|19=>5|n=>n⟩
theorem Tryz.laysM171:Go.Proofs.LaysM.n171 Tryz.prog Tryz.laysM171_ren:= {
 mixed:=by kernel_rfl
 f129:=Tryz.func107.trans (congrArg some (by kernel_rfl))
 f171:=Tryz.func64.trans (congrArg some (by kernel_rfl))
 f243:=Tryz.func76.trans (congrArg some (by kernel_rfl))
 f246:=Tryz.func88.trans (congrArg some (by kernel_rfl))
 f283:=Tryz.func95.trans (congrArg some (by kernel_rfl))
 f284:=Tryz.func96.trans (congrArg some (by kernel_rfl))
 f285:=Tryz.func97.trans (congrArg some (by kernel_rfl))
 f286:=Tryz.func98.trans (congrArg some (by kernel_rfl))
 f317:=Tryz.func106.trans (congrArg some (by kernel_rfl))
 f318:=Tryz.func108.trans (congrArg some (by kernel_rfl))
 f319:=Tryz.func109.trans (congrArg some (by kernel_rfl))
 f320:=Tryz.func110.trans (congrArg some (by kernel_rfl))
 f337:=Tryz.func115.trans (congrArg some (by kernel_rfl))
 f338:=Tryz.func116.trans (congrArg some (by kernel_rfl))
 t0:=Tryz.underlying0
 a0:=Tryz.isAgg0
 z0:=Tryz.sizeOf0
 v0:=Tryz.zeroValue0
 t2:=Tryz.underlying2
 a2:=Tryz.isAgg2
 z2:=Tryz.sizeOf2
 v2:=Tryz.zeroValue2
 t3:=Tryz.underlying3
 a3:=Tryz.isAgg3
 z3:=Tryz.sizeOf3
 v3:=Tryz.zeroValue3
 t4:=Tryz.underlying4
 a4:=Tryz.isAgg4
 z4:=Tryz.sizeOf4
 v4:=Tryz.zeroValue4
 t5:=Tryz.underlying5
 a5:=Tryz.isAgg5
 z5:=Tryz.sizeOf5
 v5:=Tryz.zeroValue5
 t9:=Tryz.underlying9
 a9:=Tryz.isAgg9
 z9:=Tryz.sizeOf9
 v9:=Tryz.zeroValue9
 t20:=Tryz.underlying20
 a20:=Tryz.isAgg20
 z20:=Tryz.sizeOf20
 v20:=Tryz.zeroValue20
 t37:=Tryz.underlying115
 a37:=Tryz.isAgg115
 z37:=Tryz.sizeOf115
 v37:=Tryz.zeroValue115
 t46:=Tryz.underlying138
 a46:=Tryz.isAgg138
 z46:=Tryz.sizeOf138
 v46:=Tryz.zeroValue138
 t51:=Tryz.underlying142
 a51:=Tryz.isAgg142
 z51:=Tryz.sizeOf142
 v51:=Tryz.zeroValue142
 t53:=Tryz.underlying131
 a53:=Tryz.isAgg131
 z53:=Tryz.sizeOf131
 v53:=Tryz.zeroValue131
 t171:=Tryz.underlying130
 a171:=Tryz.isAgg130
 z171:=Tryz.sizeOf130
 v171:=Tryz.zeroValue130
 t173:=Tryz.underlying134
 a173:=Tryz.isAgg134
 z173:=Tryz.sizeOf134
 v173:=Tryz.zeroValue134
 t212:=Tryz.underlying141
 a212:=Tryz.isAgg141
 z212:=Tryz.sizeOf141
 v212:=Tryz.zeroValue141
 t213:=Tryz.underlying143
 a213:=Tryz.isAgg143
 z213:=Tryz.sizeOf143
 t232:=Tryz.underlying154
 a232:=Tryz.isAgg154
 z232:=Tryz.sizeOf154
 v232:=Tryz.zeroValue154
 t233:=Tryz.underlying155
 a233:=Tryz.isAgg155
 z233:=Tryz.sizeOf155
 v233:=Tryz.zeroValue155
 g17:=by kernel_rfl
 g18:=by kernel_rfl
 g19:=by kernel_rfl
 i0:=by kernel_rfl
 i2:=by kernel_rfl
 i3:=by kernel_rfl
 i4:=by kernel_rfl
 i5:=by kernel_rfl
 i9:=by kernel_rfl
 i20:=by kernel_rfl
 i37:=by kernel_rfl
 i46:=by kernel_rfl
 i51:=by kernel_rfl
 i53:=by kernel_rfl
 i171:=by kernel_rfl
 i173:=by kernel_rfl
 i212:=by kernel_rfl
 i232:=by kernel_rfl
 i233:=by kernel_rfl
 m17:=by kernel_rfl
 m18:=by kernel_rfl
 m19:=by kernel_rfl }
open Go.RowKit Go.Sort Go.Lib in
theorem Tryz.strconv_Itoa (n:Int) (h0: -9223372036854775808≤n) (h1:n≤9223372036854775807) (w:World) (htab:Lib.TabIs Tryz.prog w "internal/strconv.uint64pow10" .u64 Lib.pow10Tab):
  Calls Tryz.prog 64 #[.int .i64 n] w fun e w'=>e= .returned (.string ⟨(Lib.itoa n).toArray⟩)∧∃k os,w'=grow (w.drewN k) os:=Any.strconv_Itoa Tryz.laysM171 n h0 h1 w htab
def Tryz.lays219_ren:Go.Shelf.Ren:=⟨fun|219=>90|217=>99|225=>100|224=>101|267=>102|266=>111|314=>112|n=>n,fun|9=>9|3=>3|4=>4|5=>5|46=>138|146=>146|51=>142|n=>n,fun|1=>0|n=>n⟩
theorem Tryz.lays219:Go.Proofs.Lays.n219 Tryz.prog Tryz.lays219_ren:= {
 mixed:=by kernel_rfl
 f217:=Tryz.func99.trans (congrArg some (by kernel_rfl))
 f219:=Tryz.func90.trans (congrArg some (by kernel_rfl))
 f224:=Tryz.func101.trans (congrArg some (by kernel_rfl))
 f225:=Tryz.func100.trans (congrArg some (by kernel_rfl))
 f266:=Tryz.func111.trans (congrArg some (by kernel_rfl))
 f267:=Tryz.func102.trans (congrArg some (by kernel_rfl))
 f314:=Tryz.func112.trans (congrArg some (by kernel_rfl))
 t3:=Tryz.underlying3
 a3:=Tryz.isAgg3
 z3:=Tryz.sizeOf3
 v3:=Tryz.zeroValue3
 t4:=Tryz.underlying4
 a4:=Tryz.isAgg4
 z4:=Tryz.sizeOf4
 v4:=Tryz.zeroValue4
 t5:=Tryz.underlying5
 a5:=Tryz.isAgg5
 z5:=Tryz.sizeOf5
 v5:=Tryz.zeroValue5
 t9:=Tryz.underlying9
 a9:=Tryz.isAgg9
 z9:=Tryz.sizeOf9
 v9:=Tryz.zeroValue9
 t46:=Tryz.underlying138
 a46:=Tryz.isAgg138
 z46:=Tryz.sizeOf138
 v46:=Tryz.zeroValue138
 t51:=Tryz.underlying142
 a51:=Tryz.isAgg142
 z51:=Tryz.sizeOf142
 v51:=Tryz.zeroValue142
 t146:=Tryz.underlying146
 a146:=Tryz.isAgg146
 z146:=Tryz.sizeOf146
 v146:=Tryz.zeroValue146
 g1:=by kernel_rfl }
open Go.RowKit Go.Lib in
theorem Tryz.stringslite_Index_one (s:ByteArray) (c:UInt8) (w:World):
  Calls Tryz.prog 90 #[.string s,.string ⟨#[c]⟩] w fun e w'=>e= .returned (.int .i64 (Lib.indexByte s.data.toList c))∧w'=w:=Any.stringslite_Index_one Tryz.lays219 s c w
end Go.Proofs
