/-
  DERIVED: THE SHELF's CONTRACTS AT THIS DUMP, IN PLAIN WORDS (tools/lay-plain.mjs out of 'TryzShelf.lean', which tools/lay-shelf.mjs wrote): THE SAME DECLARATIONS UNDER THE SAME NAMES: 'import', 'namespace', 'open', 'def', 'theorem' AND NOTHING ELSE: no command of the shelf's: FOR A HAND-IN. Each laying: the table of numbers ('.._ren') and one theorem, a field a fact of the dump's own or the kernel's comparison; each contract: ONE APPLICATION.
-/
import Derived.Shelf.Strings.Builder1
import Derived.Shelf.Small.Utf8
import Derived.Shelf.Small.Strs
import Derived.Shelf.Strings.BuilderF
import Derived.Shelf.Strings.BuilderK
import Derived.Shelf.Strconv.Itoa0
import Derived.Shelf.Strconv.Itoa1
import Derived.Shelf.LaysM
import Derived.Shelf.Strconv.Itoa2
import Derived.Shelf.Strconv.Itoa3
import Derived.Shelf.Strings.Search1
import Derived.Shelf.Strings.Search2
import Derived.Shelf.Strings.Search3
import Derived.Shelf.Strings.Shaped
import Derived.Shelf.Unicode.Decode
import Derived.Shelf.Strings.Runes
import Derived.Shelf.Strings.AsciiSet
import Derived.Shelf.Unicode.DecodeSlow
import Derived.Shelf.Unicode.DecodeAny
import Derived.Shelf.Unicode.DecodeLast
import Derived.Test.YtnlkfgdojfijpaaGreatDoorProg
set_option linter.unusedVariables false
set_option linter.unusedSimpArgs false
set_option linter.unnecessarySimpa false
set_option linter.unusedSectionVars false
namespace Go.Proofs
open Go.Shelf
def Tryz.lays169_ren:Go.Shelf.Ren:=⟨fun|169=>84|n=>n,fun|70=>134|9=>9|0=>0|72=>137|37=>135|127=>152|3=>3|5=>5|n=>n,fun|n=>n⟩
theorem Tryz.lays169:Go.Proofs.Lays.n169 Tryz.prog Tryz.lays169_ren:= {
 mixed:=by kernel_rfl
 f169:=Tryz.func84.trans (congrArg some (by kernel_rfl))
 t0:=Tryz.underlying0
 a0:=Tryz.isAgg0
 z0:=Tryz.sizeOf0
 v0:=Tryz.zeroValue0
 t3:=Tryz.underlying3
 a3:=Tryz.isAgg3
 z3:=Tryz.sizeOf3
 v3:=Tryz.zeroValue3
 t9:=Tryz.underlying9
 a9:=Tryz.isAgg9
 z9:=Tryz.sizeOf9
 v9:=Tryz.zeroValue9
 t37:=Tryz.underlying135
 a37:=Tryz.isAgg135
 z37:=Tryz.sizeOf135
 v37:=Tryz.zeroValue135
 t70:=Tryz.underlying134
 a70:=Tryz.isAgg134
 z70:=Tryz.sizeOf134
 v70:=Tryz.zeroValue134
 t72:=Tryz.underlying137
 a72:=Tryz.isAgg137
 z72:=Tryz.sizeOf137
 v72:=Tryz.zeroValue137
 t127:=Tryz.underlying152
 a127:=Tryz.isAgg152
 z127:=Tryz.sizeOf152
 v127:=Tryz.zeroValue152 }
theorem Tryz.Builder_Extra_169:Builder.Extra Tryz.prog Tryz.lays169_ren:= {
 sizeBuilder:=by kernel_rfl
 liesBuilder:=by kernel_rfl
 t5:=Tryz.underlying5
 a5:=Tryz.isAgg5
 z5:=Tryz.sizeOf5
 v5:=Tryz.zeroValue5
 infoByte:=by kernel_rfl
 cellsByte:=by kernel_rfl
 sizeByte:=by kernel_rfl
 neB5:=by decide }
open Go.RowKit in
theorem Tryz.Builder_String_any_k (B b:Nat) (l:List UInt8) (w:World) (h:Lib.IsBuilderF 137 5 B b (Lib.byteCells l) w) (hBw:B≤w.heap.size):
  Calls Tryz.prog 84 #[.pointer (some ⟨b,0,none⟩)] w fun e w'=>e= .returned (.string ⟨l.toArray⟩)∧(Lib.IsBuilderF 137 5 B b (Lib.byteCells l) w'∧Below B w w'∧Lib.OthersKept 5 (some b) w w'):=Any.Builder_String_any_k Tryz.lays169 Tryz.Builder_Extra_169 B b l w h hBw
def Tryz.laysM171_ren:Go.Shelf.Ren:=⟨fun|171=>75|243=>94|246=>110|283=>121|284=>122|285=>123|286=>124|129=>135|317=>134|318=>136|319=>137|320=>138|337=>144|338=>145|n=>n,fun|3=>3|9=>9|2=>2|4=>4|171=>171|0=>0|53=>172|37=>135|5=>5|173=>175|212=>183|51=>184|20=>20|213=>185|46=>177|232=>196|233=>197|n=>n,fun|17=>1|18=>4|19=>5|n=>n⟩
theorem Tryz.laysM171:Go.Proofs.LaysM.n171 Tryz.prog Tryz.laysM171_ren:= {
 mixed:=by kernel_rfl
 f129:=Tryz.func135.trans (congrArg some (by kernel_rfl))
 f171:=Tryz.func75.trans (congrArg some (by kernel_rfl))
 f243:=Tryz.func94.trans (congrArg some (by kernel_rfl))
 f246:=Tryz.func110.trans (congrArg some (by kernel_rfl))
 f283:=Tryz.func121.trans (congrArg some (by kernel_rfl))
 f284:=Tryz.func122.trans (congrArg some (by kernel_rfl))
 f285:=Tryz.func123.trans (congrArg some (by kernel_rfl))
 f286:=Tryz.func124.trans (congrArg some (by kernel_rfl))
 f317:=Tryz.func134.trans (congrArg some (by kernel_rfl))
 f318:=Tryz.func136.trans (congrArg some (by kernel_rfl))
 f319:=Tryz.func137.trans (congrArg some (by kernel_rfl))
 f320:=Tryz.func138.trans (congrArg some (by kernel_rfl))
 f337:=Tryz.func144.trans (congrArg some (by kernel_rfl))
 f338:=Tryz.func145.trans (congrArg some (by kernel_rfl))
 t0:=Tryz.underlying0
 a0:=Tryz.isAgg0
 z0:=Tryz.sizeOf0
 v0:=Tryz.zeroValue0
 t2:=Tryz.underlying2
 a2:=Tryz.isAgg2
 z2:=Tryz.sizeOf2
 v2:=Tryz.zeroValue2
 t3:=Tryz.underlying3
 a3:=Tryz.isAgg3
 z3:=Tryz.sizeOf3
 v3:=Tryz.zeroValue3
 t4:=Tryz.underlying4
 a4:=Tryz.isAgg4
 z4:=Tryz.sizeOf4
 v4:=Tryz.zeroValue4
 t5:=Tryz.underlying5
 a5:=Tryz.isAgg5
 z5:=Tryz.sizeOf5
 v5:=Tryz.zeroValue5
 t9:=Tryz.underlying9
 a9:=Tryz.isAgg9
 z9:=Tryz.sizeOf9
 v9:=Tryz.zeroValue9
 t20:=Tryz.underlying20
 a20:=Tryz.isAgg20
 z20:=Tryz.sizeOf20
 v20:=Tryz.zeroValue20
 t37:=Tryz.underlying135
 a37:=Tryz.isAgg135
 z37:=Tryz.sizeOf135
 v37:=Tryz.zeroValue135
 t46:=Tryz.underlying177
 a46:=Tryz.isAgg177
 z46:=Tryz.sizeOf177
 v46:=Tryz.zeroValue177
 t51:=Tryz.underlying184
 a51:=Tryz.isAgg184
 z51:=Tryz.sizeOf184
 v51:=Tryz.zeroValue184
 t53:=Tryz.underlying172
 a53:=Tryz.isAgg172
 z53:=Tryz.sizeOf172
 v53:=Tryz.zeroValue172
 t171:=Tryz.underlying171
 a171:=Tryz.isAgg171
 z171:=Tryz.sizeOf171
 v171:=Tryz.zeroValue171
 t173:=Tryz.underlying175
 a173:=Tryz.isAgg175
 z173:=Tryz.sizeOf175
 v173:=Tryz.zeroValue175
 t212:=Tryz.underlying183
 a212:=Tryz.isAgg183
 z212:=Tryz.sizeOf183
 v212:=Tryz.zeroValue183
 t213:=Tryz.underlying185
 a213:=Tryz.isAgg185
 z213:=Tryz.sizeOf185
 t232:=Tryz.underlying196
 a232:=Tryz.isAgg196
 z232:=Tryz.sizeOf196
 v232:=Tryz.zeroValue196
 t233:=Tryz.underlying197
 a233:=Tryz.isAgg197
 z233:=Tryz.sizeOf197
 v233:=Tryz.zeroValue197
 g17:=by kernel_rfl
 g18:=by kernel_rfl
 g19:=by kernel_rfl
 i0:=by kernel_rfl
 i2:=by kernel_rfl
 i3:=by kernel_rfl
 i4:=by kernel_rfl
 i5:=by kernel_rfl
 i9:=by kernel_rfl
 i20:=by kernel_rfl
 i37:=by kernel_rfl
 i46:=by kernel_rfl
 i51:=by kernel_rfl
 i53:=by kernel_rfl
 i171:=by kernel_rfl
 i173:=by kernel_rfl
 i212:=by kernel_rfl
 i232:=by kernel_rfl
 i233:=by kernel_rfl
 m17:=by kernel_rfl
 m18:=by kernel_rfl
 m19:=by kernel_rfl }
open Go.RowKit Go.Sort Go.Lib in
theorem Tryz.strconv_Itoa (n:Int) (h0: -9223372036854775808≤n) (h1:n≤9223372036854775807) (w:World) (htab:Lib.TabIs Tryz.prog w "internal/strconv.uint64pow10" .u64 Lib.pow10Tab):
  Calls Tryz.prog 75 #[.int .i64 n] w fun e w'=>e= .returned (.string ⟨(Lib.itoa n).toArray⟩)∧∃k os,w'=grow (w.drewN k) os:=Any.strconv_Itoa Tryz.laysM171 n h0 h1 w htab
def Tryz.lays219_ren:Go.Shelf.Ren:=⟨fun|219=>116|217=>127|225=>128|224=>129|267=>130|266=>140|314=>141|n=>n,fun|9=>9|3=>3|4=>4|5=>5|46=>177|146=>188|51=>184|n=>n,fun|1=>0|n=>n⟩
theorem Tryz.lays219:Go.Proofs.Lays.n219 Tryz.prog Tryz.lays219_ren:= {
 mixed:=by kernel_rfl
 f217:=Tryz.func127.trans (congrArg some (by kernel_rfl))
 f219:=Tryz.func116.trans (congrArg some (by kernel_rfl))
 f224:=Tryz.func129.trans (congrArg some (by kernel_rfl))
 f225:=Tryz.func128.trans (congrArg some (by kernel_rfl))
 f266:=Tryz.func140.trans (congrArg some (by kernel_rfl))
 f267:=Tryz.func130.trans (congrArg some (by kernel_rfl))
 f314:=Tryz.func141.trans (congrArg some (by kernel_rfl))
 t3:=Tryz.underlying3
 a3:=Tryz.isAgg3
 z3:=Tryz.sizeOf3
 v3:=Tryz.zeroValue3
 t4:=Tryz.underlying4
 a4:=Tryz.isAgg4
 z4:=Tryz.sizeOf4
 v4:=Tryz.zeroValue4
 t5:=Tryz.underlying5
 a5:=Tryz.isAgg5
 z5:=Tryz.sizeOf5
 v5:=Tryz.zeroValue5
 t9:=Tryz.underlying9
 a9:=Tryz.isAgg9
 z9:=Tryz.sizeOf9
 v9:=Tryz.zeroValue9
 t46:=Tryz.underlying177
 a46:=Tryz.isAgg177
 z46:=Tryz.sizeOf177
 v46:=Tryz.zeroValue177
 t51:=Tryz.underlying184
 a51:=Tryz.isAgg184
 z51:=Tryz.sizeOf184
 v51:=Tryz.zeroValue184
 t146:=Tryz.underlying188
 a146:=Tryz.isAgg188
 z146:=Tryz.sizeOf188
 v146:=Tryz.zeroValue188
 g1:=by kernel_rfl }
open Go.RowKit Go.Lib in
theorem Tryz.stringslite_Index_one (s:ByteArray) (c:UInt8) (w:World):
  Calls Tryz.prog 116 #[.string s,.string ⟨#[c]⟩] w fun e w'=>e= .returned (.int .i64 (Lib.indexByte s.data.toList c))∧w'=w:=Any.stringslite_Index_one Tryz.lays219 s c w
end Go.Proofs
