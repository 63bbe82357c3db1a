/-
  DERIVED: THE SHELF's CONTRACTS AT THIS DUMP, IN PLAIN WORDS (tools/lay-plain.mjs out of 'TryzShelf.lean', which tools/lay-shelf.mjs wrote): THE SAME DECLARATIONS UNDER THE SAME NAMES: 'import', 'namespace', 'open', 'def', 'theorem' AND NOTHING ELSE: no command of the shelf's: FOR A HAND-IN. Each laying: the table of numbers ('.._ren') and one theorem, a field a fact of the dump's own or the kernel's comparison; each contract: ONE APPLICATION.
-/
import Derived.Shelf.Strings.Builder1
import Derived.Shelf.Small.Utf8
import Derived.Shelf.Small.Strs
import Derived.Shelf.Small.Wraps
import Derived.Shelf.Strings.BuilderF
import Derived.Shelf.Strings.BuilderK
import Derived.Shelf.Strconv.Itoa0
import Derived.Shelf.Strconv.Itoa1
import Derived.Shelf.LaysM
import Derived.Shelf.Strconv.Itoa2
import Derived.Shelf.Strconv.Itoa3
import Derived.Shelf.Strings.Search1
import Derived.Shelf.Strings.Search2
import Derived.Shelf.Strings.Search3
import Derived.Shelf.Strings.Shaped
import Derived.Shelf.Unicode.Decode
import Derived.Shelf.Strings.Runes
import Derived.Shelf.Strings.AsciiSet
import Derived.Shelf.Unicode.DecodeSlow
import Derived.Shelf.Unicode.DecodeAny
import Derived.Shelf.Unicode.DecodeLast
import Derived.Ground.Names2Prog
import Derived.Shelf.Slices.Clone
import Derived.Ground.SlgnProg
import Derived.Shelf.SlicesE.Clone
import Derived.Test.YtfcdfdnlgfebmaaGreatDoorProg
set_option linter.unusedVariables false
set_option linter.unusedSimpArgs false
set_option linter.unnecessarySimpa false
set_option linter.unusedSectionVars false
namespace Go.Proofs
open Go.Shelf
def Tryz.lays169_ren:Go.Shelf.Ren:=⟨fun|169=>102|n=>n,fun|70=>145|9=>9|0=>0|72=>148|37=>146|127=>245|3=>3|5=>5|n=>n,fun|n=>n⟩
theorem Tryz.lays169:Go.Proofs.Lays.n169 Tryz.prog Tryz.lays169_ren:= {
 mixed:=by kernel_rfl
 f169:=Tryz.func102.trans (congrArg some (by kernel_rfl))
 t0:=Tryz.underlying0
 a0:=Tryz.isAgg0
 z0:=Tryz.sizeOf0
 v0:=Tryz.zeroValue0
 t3:=Tryz.underlying3
 a3:=Tryz.isAgg3
 z3:=Tryz.sizeOf3
 v3:=Tryz.zeroValue3
 t9:=Tryz.underlying9
 a9:=Tryz.isAgg9
 z9:=Tryz.sizeOf9
 v9:=Tryz.zeroValue9
 t37:=Tryz.underlying146
 a37:=Tryz.isAgg146
 z37:=Tryz.sizeOf146
 v37:=Tryz.zeroValue146
 t70:=Tryz.underlying145
 a70:=Tryz.isAgg145
 z70:=Tryz.sizeOf145
 v70:=Tryz.zeroValue145
 t72:=Tryz.underlying148
 a72:=Tryz.isAgg148
 z72:=Tryz.sizeOf148
 v72:=Tryz.zeroValue148
 t127:=Tryz.underlying245
 a127:=Tryz.isAgg245
 z127:=Tryz.sizeOf245
 v127:=Tryz.zeroValue245 }
theorem Tryz.Builder_Extra_169:Builder.Extra Tryz.prog Tryz.lays169_ren:= {
 sizeBuilder:=by kernel_rfl
 liesBuilder:=by kernel_rfl
 t5:=Tryz.underlying5
 a5:=Tryz.isAgg5
 z5:=Tryz.sizeOf5
 v5:=Tryz.zeroValue5
 infoByte:=by kernel_rfl
 cellsByte:=by kernel_rfl
 sizeByte:=by kernel_rfl
 neB5:=by decide }
open Go.RowKit in
theorem Tryz.Builder_String_any_k (B b:Nat) (l:List UInt8) (w:World) (h:Lib.IsBuilderF 148 5 B b (Lib.byteCells l) w) (hBw:B≤w.heap.size):
  Calls Tryz.prog 102 #[.pointer (some ⟨b,0,none⟩)] w fun e w'=>e= .returned (.string ⟨l.toArray⟩)∧(Lib.IsBuilderF 148 5 B b (Lib.byteCells l) w'∧Below B w w'∧Lib.OthersKept 5 (some b) w w'):=Any.Builder_String_any_k Tryz.lays169 Tryz.Builder_Extra_169 B b l w h hBw
def Tryz.laysM171_ren:Go.Shelf.Ren:=⟨fun|171=>71|243=>178|246=>248|283=>294|284=>295|285=>296|286=>297|129=>205|317=>313|318=>314|319=>315|320=>316|337=>331|338=>332|n=>n,fun|3=>3|9=>9|2=>2|4=>4|171=>324|0=>0|53=>256|37=>146|5=>5|173=>326|212=>340|51=>254|20=>20|213=>341|46=>158|232=>355|233=>356|n=>n,fun|17=>0|18=>4|19=>5|n=>n⟩
theorem Tryz.laysM171:Go.Proofs.LaysM.n171 Tryz.prog Tryz.laysM171_ren:= {
 mixed:=by kernel_rfl
 f129:=Tryz.func205.trans (congrArg some (by kernel_rfl))
 f171:=Tryz.func71.trans (congrArg some (by kernel_rfl))
 f243:=Tryz.func178.trans (congrArg some (by kernel_rfl))
 f246:=Tryz.func248.trans (congrArg some (by kernel_rfl))
 f283:=Tryz.func294.trans (congrArg some (by kernel_rfl))
 f284:=Tryz.func295.trans (congrArg some (by kernel_rfl))
 f285:=Tryz.func296.trans (congrArg some (by kernel_rfl))
 f286:=Tryz.func297.trans (congrArg some (by kernel_rfl))
 f317:=Tryz.func313.trans (congrArg some (by kernel_rfl))
 f318:=Tryz.func314.trans (congrArg some (by kernel_rfl))
 f319:=Tryz.func315.trans (congrArg some (by kernel_rfl))
 f320:=Tryz.func316.trans (congrArg some (by kernel_rfl))
 f337:=Tryz.func331.trans (congrArg some (by kernel_rfl))
 f338:=Tryz.func332.trans (congrArg some (by kernel_rfl))
 t0:=Tryz.underlying0
 a0:=Tryz.isAgg0
 z0:=Tryz.sizeOf0
 v0:=Tryz.zeroValue0
 t2:=Tryz.underlying2
 a2:=Tryz.isAgg2
 z2:=Tryz.sizeOf2
 v2:=Tryz.zeroValue2
 t3:=Tryz.underlying3
 a3:=Tryz.isAgg3
 z3:=Tryz.sizeOf3
 v3:=Tryz.zeroValue3
 t4:=Tryz.underlying4
 a4:=Tryz.isAgg4
 z4:=Tryz.sizeOf4
 v4:=Tryz.zeroValue4
 t5:=Tryz.underlying5
 a5:=Tryz.isAgg5
 z5:=Tryz.sizeOf5
 v5:=Tryz.zeroValue5
 t9:=Tryz.underlying9
 a9:=Tryz.isAgg9
 z9:=Tryz.sizeOf9
 v9:=Tryz.zeroValue9
 t20:=Tryz.underlying20
 a20:=Tryz.isAgg20
 z20:=Tryz.sizeOf20
 v20:=Tryz.zeroValue20
 t37:=Tryz.underlying146
 a37:=Tryz.isAgg146
 z37:=Tryz.sizeOf146
 v37:=Tryz.zeroValue146
 t46:=Tryz.underlying158
 a46:=Tryz.isAgg158
 z46:=Tryz.sizeOf158
 v46:=Tryz.zeroValue158
 t51:=Tryz.underlying254
 a51:=Tryz.isAgg254
 z51:=Tryz.sizeOf254
 v51:=Tryz.zeroValue254
 t53:=Tryz.underlying256
 a53:=Tryz.isAgg256
 z53:=Tryz.sizeOf256
 v53:=Tryz.zeroValue256
 t171:=Tryz.underlying324
 a171:=Tryz.isAgg324
 z171:=Tryz.sizeOf324
 v171:=Tryz.zeroValue324
 t173:=Tryz.underlying326
 a173:=Tryz.isAgg326
 z173:=Tryz.sizeOf326
 v173:=Tryz.zeroValue326
 t212:=Tryz.underlying340
 a212:=Tryz.isAgg340
 z212:=Tryz.sizeOf340
 v212:=Tryz.zeroValue340
 t213:=Tryz.underlying341
 a213:=Tryz.isAgg341
 z213:=Tryz.sizeOf341
 t232:=Tryz.underlying355
 a232:=Tryz.isAgg355
 z232:=Tryz.sizeOf355
 v232:=Tryz.zeroValue355
 t233:=Tryz.underlying356
 a233:=Tryz.isAgg356
 z233:=Tryz.sizeOf356
 v233:=Tryz.zeroValue356
 g17:=by kernel_rfl
 g18:=by kernel_rfl
 g19:=by kernel_rfl
 i0:=by kernel_rfl
 i2:=by kernel_rfl
 i3:=by kernel_rfl
 i4:=by kernel_rfl
 i5:=by kernel_rfl
 i9:=by kernel_rfl
 i20:=by kernel_rfl
 i37:=by kernel_rfl
 i46:=by kernel_rfl
 i51:=by kernel_rfl
 i53:=by kernel_rfl
 i171:=by kernel_rfl
 i173:=by kernel_rfl
 i212:=by kernel_rfl
 i232:=by kernel_rfl
 i233:=by kernel_rfl
 m17:=by kernel_rfl
 m18:=by kernel_rfl
 m19:=by kernel_rfl }
open Go.RowKit Go.Sort Go.Lib in
theorem Tryz.strconv_Itoa (n:Int) (h0: -9223372036854775808≤n) (h1:n≤9223372036854775807) (w:World) (htab:Lib.TabIs Tryz.prog w "internal/strconv.uint64pow10" .u64 Lib.pow10Tab):
  Calls Tryz.prog 71 #[.int .i64 n] w fun e w'=>e= .returned (.string ⟨(Lib.itoa n).toArray⟩)∧∃k os,w'=grow (w.drewN k) os:=Any.strconv_Itoa Tryz.laysM171 n h0 h1 w htab
def Tryz.lays219_ren:Go.Shelf.Ren:=⟨fun|219=>301|217=>320|225=>321|224=>322|267=>323|266=>334|314=>335|n=>n,fun|9=>9|3=>3|4=>4|5=>5|46=>158|146=>348|51=>254|n=>n,fun|1=>1|n=>n⟩
theorem Tryz.lays219:Go.Proofs.Lays.n219 Tryz.prog Tryz.lays219_ren:= {
 mixed:=by kernel_rfl
 f217:=Tryz.func320.trans (congrArg some (by kernel_rfl))
 f219:=Tryz.func301.trans (congrArg some (by kernel_rfl))
 f224:=Tryz.func322.trans (congrArg some (by kernel_rfl))
 f225:=Tryz.func321.trans (congrArg some (by kernel_rfl))
 f266:=Tryz.func334.trans (congrArg some (by kernel_rfl))
 f267:=Tryz.func323.trans (congrArg some (by kernel_rfl))
 f314:=Tryz.func335.trans (congrArg some (by kernel_rfl))
 t3:=Tryz.underlying3
 a3:=Tryz.isAgg3
 z3:=Tryz.sizeOf3
 v3:=Tryz.zeroValue3
 t4:=Tryz.underlying4
 a4:=Tryz.isAgg4
 z4:=Tryz.sizeOf4
 v4:=Tryz.zeroValue4
 t5:=Tryz.underlying5
 a5:=Tryz.isAgg5
 z5:=Tryz.sizeOf5
 v5:=Tryz.zeroValue5
 t9:=Tryz.underlying9
 a9:=Tryz.isAgg9
 z9:=Tryz.sizeOf9
 v9:=Tryz.zeroValue9
 t46:=Tryz.underlying158
 a46:=Tryz.isAgg158
 z46:=Tryz.sizeOf158
 v46:=Tryz.zeroValue158
 t51:=Tryz.underlying254
 a51:=Tryz.isAgg254
 z51:=Tryz.sizeOf254
 v51:=Tryz.zeroValue254
 t146:=Tryz.underlying348
 a146:=Tryz.isAgg348
 z146:=Tryz.sizeOf348
 v146:=Tryz.zeroValue348
 g1:=by kernel_rfl }
open Go.RowKit Go.Lib in
theorem Tryz.stringslite_Index_one (s:ByteArray) (c:UInt8) (w:World):
  Calls Tryz.prog 301 #[.string s,.string ⟨#[c]⟩] w fun e w'=>e= .returned (.int .i64 (Lib.indexByte s.data.toList c))∧w'=w:=Any.stringslite_Index_one Tryz.lays219 s c w
end Go.Proofs
