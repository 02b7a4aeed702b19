/- The contracts of the library that the walks use, laid at this program (printed by a tool o. -/
import Derived.Shelf.Strings.Builder1
import Derived.Shelf.Strings.Builder2
import Derived.Shelf.Small.Strs
import Derived.Shelf.Strings.BuilderF
import Derived.Shelf.Strings.BuilderK
import Derived.Shelf.Strconv.Itoa0
import Derived.Shelf.Strconv.Itoa1
import Derived.Shelf.LaysM
import Derived.Shelf.Strconv.Itoa2
import Derived.Shelf.Strconv.Itoa3
import Derived.Shelf.Strconv.Itoa4
import Derived.Shelf.Strconv.ParseIntEmpty
import Derived.Shelf.Strconv.Clone
import Derived.Shelf.Strconv.SyntaxError
import Derived.Shelf.LaysC
import Derived.Shelf.Strconv.ToError
import Derived.Shelf.Strconv.Lower
import Derived.Shelf.Strconv.ParseUint10
import Derived.Shelf.Strconv.ParseUint10Empty
import Derived.Shelf.Strconv.ParseUint10Any
import Derived.Shelf.Strconv.ParseInt10
import Derived.Shelf.Strconv.RangeError
import Derived.Shelf.Strconv.ToErrorRange
import Derived.Shelf.Strconv.ParseUintEmpty
import Derived.Shelf.Strconv.ParseUint10b64
import Derived.Shelf.Strconv.ParseUint10b32
import Derived.Shelf.Strconv.ParseUint10b16
import Derived.Shelf.Strconv.ParseUint10b8
import Derived.Shelf.Strconv.ParseUint10At
import Derived.Shelf.Strconv.ParseInt10At64
import Derived.Shelf.Strconv.ParseInt10At32
import Derived.Shelf.Strconv.ParseInt10At16
import Derived.Shelf.Strconv.ParseInt10At8
import Derived.Shelf.Strconv.ParseInt10All
import Derived.Shelf.Strconv.ParseIntPublic10
import Derived.Shelf.Strings.Search1
import Derived.Shelf.Strings.Search2
import Derived.Shelf.Strings.Search3
import Derived.Shelf.Strings.Count
import Derived.Shelf.Strings.Shaped
import Derived.Shelf.Strings.Prefix
import Derived.Shelf.Strings.Split
import Derived.Shelf.Strings.Fields
import Derived.Shelf.Strings.Replace
import Derived.Shelf.Strings.SplitShaped
import Derived.Shelf.Unicode.Latin
import Derived.Shelf.Unicode.DecodeSlow
import Derived.Shelf.Unicode.Is16White
import Derived.Shelf.Unicode.IsSpaceAny
import Derived.Shelf.Unicode.Is16Any
import Derived.Shelf.Unicode.Is32Any
import Derived.Shelf.Unicode.ExclAny
import Derived.Shelf.Slices.Turned
import Derived.Shelf.Slices.Equal
import Derived.Ground.Names2Prog
import Derived.Shelf.Slices.Clone
import Derived.Shelf.Slices.SearchI
import Derived.Shelf.Slices.Empties2
import Derived.Ground.SlgnProg
import Derived.Shelf.SlicesG.SearchI
import Derived.Test.YtieojjngeibnmaaGreatDoorProg
set_option linter.unusedVariables false
set_option linter.unusedSimpArgs false
set_option maxRecDepth 100000
set_option maxHeartbeats 64000000
namespace Go.Proofs
open Go.Shelf
def Tryz.lays170_ren:Go.Shelf.Ren:=⟨fun|170=>188|n=>n,fun|70=>129|3=>3|0=>0|72=>131|37=>48|5=>5|n=>n,fun|n=>n⟩
theorem Tryz.lays170:Go.Proofs.Lays.n170 Tryz.prog Tryz.lays170_ren:={
 mixed:=by kernel_rfl
 f170:=Tryz.func188.trans (congrArg some (by kernel_rfl))
 t0:=Tryz.underlying0
 a0:=Tryz.isAgg0
 z0:=Tryz.sizeOf0
 v0:=Tryz.zeroValue0
 t3:=Tryz.underlying3
 a3:=Tryz.isAgg3
 z3:=Tryz.sizeOf3
 v3:=Tryz.zeroValue3
 t37:=Tryz.underlying48
 a37:=Tryz.isAgg48
 z37:=Tryz.sizeOf48
 v37:=Tryz.zeroValue48
 t70:=Tryz.underlying129
 a70:=Tryz.isAgg129
 z70:=Tryz.sizeOf129
 v70:=Tryz.zeroValue129
 t72:=Tryz.underlying131
 a72:=Tryz.isAgg131
 z72:=Tryz.sizeOf131
 v72:=Tryz.zeroValue131 }
def Tryz.lays169_ren:Go.Shelf.Ren:=⟨fun|169=>67|n=>n,fun|70=>129|9=>9|0=>0|72=>131|37=>48|127=>195|3=>3|5=>5|n=>n,fun|n=>n⟩
theorem Tryz.lays169:Go.Proofs.Lays.n169 Tryz.prog Tryz.lays169_ren:={
 mixed:=by kernel_rfl
 f169:=Tryz.func67.trans (congrArg some (by kernel_rfl))
 t0:=Tryz.underlying0
 a0:=Tryz.isAgg0
 z0:=Tryz.sizeOf0
 v0:=Tryz.zeroValue0
 t3:=Tryz.underlying3
 a3:=Tryz.isAgg3
 z3:=Tryz.sizeOf3
 v3:=Tryz.zeroValue3
 t9:=Tryz.underlying9
 a9:=Tryz.isAgg9
 z9:=Tryz.sizeOf9
 v9:=Tryz.zeroValue9
 t37:=Tryz.underlying48
 a37:=Tryz.isAgg48
 z37:=Tryz.sizeOf48
 v37:=Tryz.zeroValue48
 t70:=Tryz.underlying129
 a70:=Tryz.isAgg129
 z70:=Tryz.sizeOf129
 v70:=Tryz.zeroValue129
 t72:=Tryz.underlying131
 a72:=Tryz.isAgg131
 z72:=Tryz.sizeOf131
 v72:=Tryz.zeroValue131
 t127:=Tryz.underlying195
 a127:=Tryz.isAgg195
 z127:=Tryz.sizeOf195
 v127:=Tryz.zeroValue195 }
theorem Tryz.Builder_Extra_169:Builder.Extra Tryz.prog Tryz.lays169_ren:={
 sizeBuilder:=by kernel_rfl
 liesBuilder:=by kernel_rfl
 t5:=Tryz.underlying5
 a5:=Tryz.isAgg5
 z5:=Tryz.sizeOf5
 v5:=Tryz.zeroValue5
 infoByte:=by kernel_rfl
 cellsByte:=by kernel_rfl
 sizeByte:=by kernel_rfl
 neB5:=by decide }
def Tryz.lays137_ren:Go.Shelf.Ren:=⟨fun|137=>57|217=>110|266=>185|n=>n,fun|9=>9|5=>5|3=>3|n=>n,fun|n=>n⟩
theorem Tryz.lays137:Go.Proofs.Lays.n137 Tryz.prog Tryz.lays137_ren:={
 mixed:=by kernel_rfl
 f137:=Tryz.func57.trans (congrArg some (by kernel_rfl))
 f217:=Tryz.func110.trans (congrArg some (by kernel_rfl))
 f266:=Tryz.func185.trans (congrArg some (by kernel_rfl))
 t3:=Tryz.underlying3
 a3:=Tryz.isAgg3
 z3:=Tryz.sizeOf3
 v3:=Tryz.zeroValue3
 t5:=Tryz.underlying5
 a5:=Tryz.isAgg5
 z5:=Tryz.sizeOf5
 v5:=Tryz.zeroValue5
 t9:=Tryz.underlying9
 a9:=Tryz.isAgg9
 z9:=Tryz.sizeOf9
 v9:=Tryz.zeroValue9 }
open Go.RowKit in
theorem Tryz.strings_IndexByte (s:ByteArray) (c:Int) (w:World) :
 Calls Tryz.prog 57 #[.string s,.int .u8 c] w fun e w'=>e=.returned (.int .i64 (Lib.indexByte s.data.toList c.toNat.toUInt8))/\w'=w:=Any.strings_IndexByte Tryz.lays137 s c w
open Go.RowKit in
theorem Tryz.Builder_Len_f (B b:Nat) (bs:List Value) (w:World) (h:Lib.IsBuilderF 131 5 B b bs w) :
 Calls Tryz.prog 188 #[.pointer (some ⟨b,0,none⟩)] w fun e w'=>e=.returned (.int .i64 bs.length)/\w'=w:=Any.Builder_Len_f Tryz.lays170 B b bs w h
open Go.RowKit in
theorem Tryz.Builder_String_any_k (B b:Nat) (l:List UInt8) (w:World) (h:Lib.IsBuilderF 131 5 B b (Lib.byteCells l) w) (hBw:B<=w.heap.size) :
 Calls Tryz.prog 67 #[.pointer (some ⟨b,0,none⟩)] w fun e w'=>e=.returned (.string ⟨l.toArray⟩)/\(Lib.IsBuilderF 131 5 B b (Lib.byteCells l) w'/\Below B w w'/\Lib.OthersKept 5 (some b) w w'):=Any.Builder_String_any_k Tryz.lays169 Tryz.Builder_Extra_169 B b l w h hBw
def Tryz.laysM171_ren:Go.Shelf.Ren:=⟨fun|171=>216|243=>247|246=>119|283=>192|284=>193|285=>194|286=>195|129=>234|317=>233|318=>235|319=>236|320=>237|337=>256|338=>257|n=>n,fun|3=>3|9=>9|2=>2|4=>4|171=>236|0=>0|53=>138|37=>48|5=>5|173=>239|212=>272|51=>268|20=>20|213=>273|46=>261|232=>304|233=>305|n=>n,fun|17=>4|18=>9|19=>10|n=>n⟩
theorem Tryz.laysM171:Go.Proofs.LaysM.n171 Tryz.prog Tryz.laysM171_ren:={
 mixed:=by kernel_rfl
 f129:=Tryz.func234.trans (congrArg some (by kernel_rfl))
 f171:=Tryz.func216.trans (congrArg some (by kernel_rfl))
 f243:=Tryz.func247.trans (congrArg some (by kernel_rfl))
 f246:=Tryz.func119.trans (congrArg some (by kernel_rfl))
 f283:=Tryz.func192.trans (congrArg some (by kernel_rfl))
 f284:=Tryz.func193.trans (congrArg some (by kernel_rfl))
 f285:=Tryz.func194.trans (congrArg some (by kernel_rfl))
 f286:=Tryz.func195.trans (congrArg some (by kernel_rfl))
 f317:=Tryz.func233.trans (congrArg some (by kernel_rfl))
 f318:=Tryz.func235.trans (congrArg some (by kernel_rfl))
 f319:=Tryz.func236.trans (congrArg some (by kernel_rfl))
 f320:=Tryz.func237.trans (congrArg some (by kernel_rfl))
 f337:=Tryz.func256.trans (congrArg some (by kernel_rfl))
 f338:=Tryz.func257.trans (congrArg some (by kernel_rfl))
 t0:=Tryz.underlying0
 a0:=Tryz.isAgg0
 z0:=Tryz.sizeOf0
 v0:=Tryz.zeroValue0
 t2:=Tryz.underlying2
 a2:=Tryz.isAgg2
 z2:=Tryz.sizeOf2
 v2:=Tryz.zeroValue2
 t3:=Tryz.underlying3
 a3:=Tryz.isAgg3
 z3:=Tryz.sizeOf3
 v3:=Tryz.zeroValue3
 t4:=Tryz.underlying4
 a4:=Tryz.isAgg4
 z4:=Tryz.sizeOf4
 v4:=Tryz.zeroValue4
 t5:=Tryz.underlying5
 a5:=Tryz.isAgg5
 z5:=Tryz.sizeOf5
 v5:=Tryz.zeroValue5
 t9:=Tryz.underlying9
 a9:=Tryz.isAgg9
 z9:=Tryz.sizeOf9
 v9:=Tryz.zeroValue9
 t20:=Tryz.underlying20
 a20:=Tryz.isAgg20
 z20:=Tryz.sizeOf20
 v20:=Tryz.zeroValue20
 t37:=Tryz.underlying48
 a37:=Tryz.isAgg48
 z37:=Tryz.sizeOf48
 v37:=Tryz.zeroValue48
 t46:=Tryz.underlying261
 a46:=Tryz.isAgg261
 z46:=Tryz.sizeOf261
 v46:=Tryz.zeroValue261
 t51:=Tryz.underlying268
 a51:=Tryz.isAgg268
 z51:=Tryz.sizeOf268
 v51:=Tryz.zeroValue268
 t53:=Tryz.underlying138
 a53:=Tryz.isAgg138
 z53:=Tryz.sizeOf138
 v53:=Tryz.zeroValue138
 t171:=Tryz.underlying236
 a171:=Tryz.isAgg236
 z171:=Tryz.sizeOf236
 v171:=Tryz.zeroValue236
 t173:=Tryz.underlying239
 a173:=Tryz.isAgg239
 z173:=Tryz.sizeOf239
 v173:=Tryz.zeroValue239
 t212:=Tryz.underlying272
 a212:=Tryz.isAgg272
 z212:=Tryz.sizeOf272
 v212:=Tryz.zeroValue272
 t213:=Tryz.underlying273
 a213:=Tryz.isAgg273
 z213:=Tryz.sizeOf273
 t232:=Tryz.underlying304
 a232:=Tryz.isAgg304
 z232:=Tryz.sizeOf304
 v232:=Tryz.zeroValue304
 t233:=Tryz.underlying305
 a233:=Tryz.isAgg305
 z233:=Tryz.sizeOf305
 v233:=Tryz.zeroValue305
 g17:=by kernel_rfl
 g18:=by kernel_rfl
 g19:=by kernel_rfl
 i0:=by kernel_rfl
 i2:=by kernel_rfl
 i3:=by kernel_rfl
 i4:=by kernel_rfl
 i5:=by kernel_rfl
 i9:=by kernel_rfl
 i20:=by kernel_rfl
 i37:=by kernel_rfl
 i46:=by kernel_rfl
 i51:=by kernel_rfl
 i53:=by kernel_rfl
 i171:=by kernel_rfl
 i173:=by kernel_rfl
 i212:=by kernel_rfl
 i232:=by kernel_rfl
 i233:=by kernel_rfl
 m17:=by kernel_rfl
 m18:=by kernel_rfl
 m19:=by kernel_rfl }
open Go.RowKit Go.Sort Go.Lib in
theorem Tryz.strconv_Itoa (n:Int) (h0:-9223372036854775808<=n) (h1:n<=9223372036854775807) (w:World) (htab:Lib.TabIs Tryz.prog w "internal/strconv.uint64pow10" .u64 Lib.pow10Tab) :
 Calls Tryz.prog 216 #[.int .i64 n] w fun e w'=>e=.returned (.string ⟨(Lib.itoa n).toArray⟩)/\∃ k os,w'=grow (w.drewN k) os:=Any.strconv_Itoa Tryz.laysM171 n h0 h1 w htab
def Tryz.laysM173_ren:Go.Shelf.Ren:=⟨fun|173=>59|246=>119|283=>192|284=>193|285=>194|286=>195|129=>234|317=>233|318=>235|319=>236|320=>237|337=>256|338=>257|n=>n,fun|2=>2|3=>3|9=>9|4=>4|171=>236|0=>0|53=>138|37=>48|5=>5|173=>239|212=>272|51=>268|20=>20|213=>273|46=>261|232=>304|233=>305|n=>n,fun|17=>4|18=>9|19=>10|n=>n⟩
theorem Tryz.laysM173:Go.Proofs.LaysM.n173 Tryz.prog Tryz.laysM173_ren:={
 mixed:=by kernel_rfl
 f129:=Tryz.func234.trans (congrArg some (by kernel_rfl))
 f173:=Tryz.func59.trans (congrArg some (by kernel_rfl))
 f246:=Tryz.func119.trans (congrArg some (by kernel_rfl))
 f283:=Tryz.func192.trans (congrArg some (by kernel_rfl))
 f284:=Tryz.func193.trans (congrArg some (by kernel_rfl))
 f285:=Tryz.func194.trans (congrArg some (by kernel_rfl))
 f286:=Tryz.func195.trans (congrArg some (by kernel_rfl))
 f317:=Tryz.func233.trans (congrArg some (by kernel_rfl))
 f318:=Tryz.func235.trans (congrArg some (by kernel_rfl))
 f319:=Tryz.func236.trans (congrArg some (by kernel_rfl))
 f320:=Tryz.func237.trans (congrArg some (by kernel_rfl))
 f337:=Tryz.func256.trans (congrArg some (by kernel_rfl))
 f338:=Tryz.func257.trans (congrArg some (by kernel_rfl))
 t0:=Tryz.underlying0
 a0:=Tryz.isAgg0
 z0:=Tryz.sizeOf0
 v0:=Tryz.zeroValue0
 t2:=Tryz.underlying2
 a2:=Tryz.isAgg2
 z2:=Tryz.sizeOf2
 v2:=Tryz.zeroValue2
 t3:=Tryz.underlying3
 a3:=Tryz.isAgg3
 z3:=Tryz.sizeOf3
 v3:=Tryz.zeroValue3
 t4:=Tryz.underlying4
 a4:=Tryz.isAgg4
 z4:=Tryz.sizeOf4
 v4:=Tryz.zeroValue4
 t5:=Tryz.underlying5
 a5:=Tryz.isAgg5
 z5:=Tryz.sizeOf5
 v5:=Tryz.zeroValue5
 t9:=Tryz.underlying9
 a9:=Tryz.isAgg9
 z9:=Tryz.sizeOf9
 v9:=Tryz.zeroValue9
 t20:=Tryz.underlying20
 a20:=Tryz.isAgg20
 z20:=Tryz.sizeOf20
 v20:=Tryz.zeroValue20
 t37:=Tryz.underlying48
 a37:=Tryz.isAgg48
 z37:=Tryz.sizeOf48
 v37:=Tryz.zeroValue48
 t46:=Tryz.underlying261
 a46:=Tryz.isAgg261
 z46:=Tryz.sizeOf261
 v46:=Tryz.zeroValue261
 t51:=Tryz.underlying268
 a51:=Tryz.isAgg268
 z51:=Tryz.sizeOf268
 v51:=Tryz.zeroValue268
 t53:=Tryz.underlying138
 a53:=Tryz.isAgg138
 z53:=Tryz.sizeOf138
 v53:=Tryz.zeroValue138
 t171:=Tryz.underlying236
 a171:=Tryz.isAgg236
 z171:=Tryz.sizeOf236
 v171:=Tryz.zeroValue236
 t173:=Tryz.underlying239
 a173:=Tryz.isAgg239
 z173:=Tryz.sizeOf239
 v173:=Tryz.zeroValue239
 t212:=Tryz.underlying272
 a212:=Tryz.isAgg272
 z212:=Tryz.sizeOf272
 v212:=Tryz.zeroValue272
 t213:=Tryz.underlying273
 a213:=Tryz.isAgg273
 z213:=Tryz.sizeOf273
 t232:=Tryz.underlying304
 a232:=Tryz.isAgg304
 z232:=Tryz.sizeOf304
 v232:=Tryz.zeroValue304
 t233:=Tryz.underlying305
 a233:=Tryz.isAgg305
 z233:=Tryz.sizeOf305
 v233:=Tryz.zeroValue305
 g17:=by kernel_rfl
 g18:=by kernel_rfl
 g19:=by kernel_rfl
 i0:=by kernel_rfl
 i2:=by kernel_rfl
 i3:=by kernel_rfl
 i4:=by kernel_rfl
 i5:=by kernel_rfl
 i9:=by kernel_rfl
 i20:=by kernel_rfl
 i37:=by kernel_rfl
 i46:=by kernel_rfl
 i51:=by kernel_rfl
 i53:=by kernel_rfl
 i171:=by kernel_rfl
 i173:=by kernel_rfl
 i212:=by kernel_rfl
 i232:=by kernel_rfl
 i233:=by kernel_rfl
 m17:=by kernel_rfl
 m18:=by kernel_rfl
 m19:=by kernel_rfl }
open Go.RowKit Go.Sort Go.Lib in
theorem Tryz.strconv_FormatInt_10 (n:Int) (h0:-9223372036854775808<=n) (h1:n<=9223372036854775807) (w:World) (htab:Lib.TabIs Tryz.prog w "internal/strconv.uint64pow10" .u64 Lib.pow10Tab) :
 Calls Tryz.prog 59 #[.int .i64 n,.int .i64 10] w fun e w'=>e=.returned (.string ⟨(Lib.itoa n).toArray⟩)/\∃ k os,w'=grow (w.drewN k) os:=Any.strconv_FormatInt_10 Tryz.laysM173 n h0 h1 w htab
def Tryz.laysC174_ren:Go.Shelf.Ren:=⟨fun|174=>115|247=>186|245=>187|287=>227|279=>228|280=>229|281=>230|282=>231|321=>250|322=>251|316=>252|171=>216|205=>253|243=>247|246=>119|283=>192|284=>193|285=>194|286=>195|129=>234|317=>233|318=>235|319=>236|320=>237|337=>256|338=>257|n=>n,fun|9=>9|3=>3|2=>2|75=>133|85=>183|4=>4|167=>258|5=>5|53=>138|175=>259|46=>261|168=>262|37=>48|0=>0|210=>281|21=>21|127=>195|145=>301|143=>299|171=>236|173=>239|212=>272|51=>268|20=>20|213=>273|232=>304|233=>305|80=>72|n=>n,fun|15=>5|16=>6|17=>4|18=>9|19=>10|n=>n⟩
theorem Tryz.laysC174:Go.Proofs.LaysC.n174 Tryz.prog Tryz.laysC174_ren:={
 mixed:=by kernel_rfl
 f129:=Tryz.func234.trans (congrArg some (by kernel_rfl))
 f171:=Tryz.func216.trans (congrArg some (by kernel_rfl))
 f174:=Tryz.func115.trans (congrArg some (by kernel_rfl))
 f205:=Tryz.func253.trans (congrArg some (by kernel_rfl))
 f243:=Tryz.func247.trans (congrArg some (by kernel_rfl))
 f245:=Tryz.func187.trans (congrArg some (by kernel_rfl))
 f246:=Tryz.func119.trans (congrArg some (by kernel_rfl))
 f247:=Tryz.func186.trans (congrArg some (by kernel_rfl))
 f279:=Tryz.func228.trans (congrArg some (by kernel_rfl))
 f280:=Tryz.func229.trans (congrArg some (by kernel_rfl))
 f281:=Tryz.func230.trans (congrArg some (by kernel_rfl))
 f282:=Tryz.func231.trans (congrArg some (by kernel_rfl))
 f283:=Tryz.func192.trans (congrArg some (by kernel_rfl))
 f284:=Tryz.func193.trans (congrArg some (by kernel_rfl))
 f285:=Tryz.func194.trans (congrArg some (by kernel_rfl))
 f286:=Tryz.func195.trans (congrArg some (by kernel_rfl))
 f287:=Tryz.func227.trans (congrArg some (by kernel_rfl))
 f316:=Tryz.func252.trans (congrArg some (by kernel_rfl))
 f317:=Tryz.func233.trans (congrArg some (by kernel_rfl))
 f318:=Tryz.func235.trans (congrArg some (by kernel_rfl))
 f319:=Tryz.func236.trans (congrArg some (by kernel_rfl))
 f320:=Tryz.func237.trans (congrArg some (by kernel_rfl))
 f321:=Tryz.func250.trans (congrArg some (by kernel_rfl))
 f322:=Tryz.func251.trans (congrArg some (by kernel_rfl))
 f337:=Tryz.func256.trans (congrArg some (by kernel_rfl))
 f338:=Tryz.func257.trans (congrArg some (by kernel_rfl))
 t0:=Tryz.underlying0
 a0:=Tryz.isAgg0
 z0:=Tryz.sizeOf0
 v0:=Tryz.zeroValue0
 t2:=Tryz.underlying2
 a2:=Tryz.isAgg2
 z2:=Tryz.sizeOf2
 v2:=Tryz.zeroValue2
 t3:=Tryz.underlying3
 a3:=Tryz.isAgg3
 z3:=Tryz.sizeOf3
 v3:=Tryz.zeroValue3
 t4:=Tryz.underlying4
 a4:=Tryz.isAgg4
 z4:=Tryz.sizeOf4
 v4:=Tryz.zeroValue4
 t5:=Tryz.underlying5
 a5:=Tryz.isAgg5
 z5:=Tryz.sizeOf5
 v5:=Tryz.zeroValue5
 t9:=Tryz.underlying9
 a9:=Tryz.isAgg9
 z9:=Tryz.sizeOf9
 v9:=Tryz.zeroValue9
 t20:=Tryz.underlying20
 a20:=Tryz.isAgg20
 z20:=Tryz.sizeOf20
 v20:=Tryz.zeroValue20
 t21:=Tryz.underlying21
 a21:=Tryz.isAgg21
 z21:=Tryz.sizeOf21
 v21:=Tryz.zeroValue21
 t37:=Tryz.underlying48
 a37:=Tryz.isAgg48
 z37:=Tryz.sizeOf48
 v37:=Tryz.zeroValue48
 t46:=Tryz.underlying261
 a46:=Tryz.isAgg261
 z46:=Tryz.sizeOf261
 v46:=Tryz.zeroValue261
 t51:=Tryz.underlying268
 a51:=Tryz.isAgg268
 z51:=Tryz.sizeOf268
 v51:=Tryz.zeroValue268
 t53:=Tryz.underlying138
 a53:=Tryz.isAgg138
 z53:=Tryz.sizeOf138
 v53:=Tryz.zeroValue138
 t75:=Tryz.underlying133
 a75:=Tryz.isAgg133
 z75:=Tryz.sizeOf133
 v75:=Tryz.zeroValue133
 t85:=Tryz.underlying183
 a85:=Tryz.isAgg183
 z85:=Tryz.sizeOf183
 v85:=Tryz.zeroValue183
 t127:=Tryz.underlying195
 a127:=Tryz.isAgg195
 z127:=Tryz.sizeOf195
 v127:=Tryz.zeroValue195
 t143:=Tryz.underlying299
 a143:=Tryz.isAgg299
 z143:=Tryz.sizeOf299
 v143:=Tryz.zeroValue299
 t145:=Tryz.underlying301
 a145:=Tryz.isAgg301
 z145:=Tryz.sizeOf301
 v145:=Tryz.zeroValue301
 t167:=Tryz.underlying258
 a167:=Tryz.isAgg258
 z167:=Tryz.sizeOf258
 v167:=Tryz.zeroValue258
 t168:=Tryz.underlying262
 a168:=Tryz.isAgg262
 z168:=Tryz.sizeOf262
 v168:=Tryz.zeroValue262
 t171:=Tryz.underlying236
 a171:=Tryz.isAgg236
 z171:=Tryz.sizeOf236
 v171:=Tryz.zeroValue236
 t173:=Tryz.underlying239
 a173:=Tryz.isAgg239
 z173:=Tryz.sizeOf239
 v173:=Tryz.zeroValue239
 t175:=Tryz.underlying259
 a175:=Tryz.isAgg259
 z175:=Tryz.sizeOf259
 v175:=Tryz.zeroValue259
 t210:=Tryz.underlying281
 a210:=Tryz.isAgg281
 z210:=Tryz.sizeOf281
 v210:=Tryz.zeroValue281
 t212:=Tryz.underlying272
 a212:=Tryz.isAgg272
 z212:=Tryz.sizeOf272
 v212:=Tryz.zeroValue272
 t213:=Tryz.underlying273
 a213:=Tryz.isAgg273
 z213:=Tryz.sizeOf273
 t232:=Tryz.underlying304
 a232:=Tryz.isAgg304
 z232:=Tryz.sizeOf304
 v232:=Tryz.zeroValue304
 t233:=Tryz.underlying305
 a233:=Tryz.isAgg305
 z233:=Tryz.sizeOf305
 v233:=Tryz.zeroValue305
 g15:=by kernel_rfl
 g16:=by kernel_rfl
 g17:=by kernel_rfl
 g18:=by kernel_rfl
 g19:=by kernel_rfl
 t80:=Tryz.underlying72
 a80:=Tryz.isAgg72
 z80:=Tryz.sizeOf72
 v80:=Tryz.zeroValue72
 i0:=by kernel_rfl
 i2:=by kernel_rfl
 i3:=by kernel_rfl
 i4:=by kernel_rfl
 i5:=by kernel_rfl
 i9:=by kernel_rfl
 i20:=by kernel_rfl
 i21:=by kernel_rfl
 i37:=by kernel_rfl
 i46:=by kernel_rfl
 i51:=by kernel_rfl
 i53:=by kernel_rfl
 i75:=by kernel_rfl
 i80:=by kernel_rfl
 i85:=by kernel_rfl
 i127:=by kernel_rfl
 i143:=by kernel_rfl
 i145:=by kernel_rfl
 i167:=by kernel_rfl
 i168:=by kernel_rfl
 i171:=by kernel_rfl
 i173:=by kernel_rfl
 i175:=by kernel_rfl
 i210:=by kernel_rfl
 i212:=by kernel_rfl
 i232:=by kernel_rfl
 i233:=by kernel_rfl
 m15:=by kernel_rfl
 m16:=by kernel_rfl
 m17:=by kernel_rfl
 m18:=by kernel_rfl
 m19:=by kernel_rfl
 c0:=by kernel_rfl
 c2:=by kernel_rfl
 c3:=by kernel_rfl
 c4:=by kernel_rfl
 c5:=by kernel_rfl
 c9:=by kernel_rfl
 c20:=by kernel_rfl
 c21:=by kernel_rfl
 c37:=by kernel_rfl
 c46:=by kernel_rfl
 c51:=by kernel_rfl
 c53:=by kernel_rfl
 c75:=by kernel_rfl
 c80:=by kernel_rfl
 c85:=by kernel_rfl
 c127:=by kernel_rfl
 c143:=by kernel_rfl
 c145:=by kernel_rfl
 c167:=by kernel_rfl
 c168:=by kernel_rfl
 c171:=by kernel_rfl
 c173:=by kernel_rfl
 c175:=by kernel_rfl
 c210:=by kernel_rfl
 c212:=by kernel_rfl
 c213:=by kernel_rfl
 c232:=by kernel_rfl
 c233:=by kernel_rfl }
open Go.RowKit in
theorem Tryz.strconv_ParseInt_10_at64_ok (s:ByteArray) (hmax:s.size<=9223372036854775806) (v:Int) (h:Lib.parseIntB 64 s.data.toList=.ok v) (w:World) :
 Calls Tryz.prog 115 #[.string s,.int .i64 10,.int .i64 64] w fun e w'=>e=.returned (.tuple #[.int .i64 v,.nilIface])/\(w'=w \/ ∃ t,w'=Lib.bytesWorld w 5 t):=Any.strconv_ParseInt_10_at64_ok Tryz.laysC174 s hmax v h w
open Go.RowKit in
theorem Tryz.strconv_ParseInt_10_at64_range (s:ByteArray) (hlim:s.size<=281474976710656) (h:Lib.parseIntB 64 s.data.toList=.range) (ev:Value) (w:World) (hv:w.cell? ⟨6,0,none⟩=some ev) (hev:ev=.nilIface \/ ∃ te pe,ev=.iface te pe) :
 Calls Tryz.prog 115 #[.string s,.int .i64 10,.int .i64 64] w fun e w'=>∃ N,e=.returned (.tuple #[.int .i64 (Lib.intSat 64 s.data.toList),.iface 262 (.pointer (some ⟨N,0,none⟩))])/\w.heap.size<=N/\w'.heap[N]? = some (.cells #[.string ⟨#[80,97,114,115,101,73,110,116]⟩,.string s,ev] 281 (0,0))/\Below w.heap.size w w':=Any.strconv_ParseInt_10_at64_range Tryz.laysC174 s hlim h ev w hv hev
def Tryz.lays144_ren:Go.Shelf.Ren:=⟨fun|144=>224|143=>198|219=>241|217=>110|225=>259|224=>260|267=>261|266=>185|314=>263|n=>n,fun|9=>9|4=>4|3=>3|5=>5|46=>261|146=>306|51=>268|n=>n,fun|1=>2|n=>n⟩
theorem Tryz.lays144:Go.Proofs.Lays.n144 Tryz.prog Tryz.lays144_ren:={
 mixed:=by kernel_rfl
 f143:=Tryz.func198.trans (congrArg some (by kernel_rfl))
 f144:=Tryz.func224.trans (congrArg some (by kernel_rfl))
 f217:=Tryz.func110.trans (congrArg some (by kernel_rfl))
 f219:=Tryz.func241.trans (congrArg some (by kernel_rfl))
 f224:=Tryz.func260.trans (congrArg some (by kernel_rfl))
 f225:=Tryz.func259.trans (congrArg some (by kernel_rfl))
 f266:=Tryz.func185.trans (congrArg some (by kernel_rfl))
 f267:=Tryz.func261.trans (congrArg some (by kernel_rfl))
 f314:=Tryz.func263.trans (congrArg some (by kernel_rfl))
 t3:=Tryz.underlying3
 a3:=Tryz.isAgg3
 z3:=Tryz.sizeOf3
 v3:=Tryz.zeroValue3
 t4:=Tryz.underlying4
 a4:=Tryz.isAgg4
 z4:=Tryz.sizeOf4
 v4:=Tryz.zeroValue4
 t5:=Tryz.underlying5
 a5:=Tryz.isAgg5
 z5:=Tryz.sizeOf5
 v5:=Tryz.zeroValue5
 t9:=Tryz.underlying9
 a9:=Tryz.isAgg9
 z9:=Tryz.sizeOf9
 v9:=Tryz.zeroValue9
 t46:=Tryz.underlying261
 a46:=Tryz.isAgg261
 z46:=Tryz.sizeOf261
 v46:=Tryz.zeroValue261
 t51:=Tryz.underlying268
 a51:=Tryz.isAgg268
 z51:=Tryz.sizeOf268
 v51:=Tryz.zeroValue268
 t146:=Tryz.underlying306
 a146:=Tryz.isAgg306
 z146:=Tryz.sizeOf306
 v146:=Tryz.zeroValue306
 g1:=by kernel_rfl }
open Go.RowKit Go.Lib in
theorem Tryz.strings_Contains (s sub:ByteArray) (m:Int) (w:World) (hs:s.size<4294967281) (hm:w.cell? ⟨2,0,none⟩=some (.int .i64 m)) :
 Calls Tryz.prog 224 #[.string s,.string sub] w fun e w'=>e=.returned (.bool (Lib.contains s.data.toList sub.data.toList))/\w'=w:=Any.strings_Contains Tryz.lays144 s sub m w hs hm
def Tryz.lays99_ren:Go.Shelf.Ren:=⟨fun|99=>118|206=>191|n=>n,fun|9=>9|4=>4|3=>3|n=>n,fun|n=>n⟩
theorem Tryz.lays99:Go.Proofs.Lays.n99 Tryz.prog Tryz.lays99_ren:={
 mixed:=by kernel_rfl
 f99:=Tryz.func118.trans (congrArg some (by kernel_rfl))
 f206:=Tryz.func191.trans (congrArg some (by kernel_rfl))
 t3:=Tryz.underlying3
 a3:=Tryz.isAgg3
 z3:=Tryz.sizeOf3
 v3:=Tryz.zeroValue3
 t4:=Tryz.underlying4
 a4:=Tryz.isAgg4
 z4:=Tryz.sizeOf4
 v4:=Tryz.zeroValue4
 t9:=Tryz.underlying9
 a9:=Tryz.isAgg9
 z9:=Tryz.sizeOf9
 v9:=Tryz.zeroValue9 }
open Go.RowKit Go.Lib in
theorem Tryz.strings_HasPrefix (s p:ByteArray) (w:World) :
 Calls Tryz.prog 118 #[.string s,.string p] w fun e w'=>e=.returned (.bool (Lib.hasPrefix s.data.toList p.data.toList))/\w'=w:=Any.strings_HasPrefix Tryz.lays99 s p w
def Tryz.lays157_ren:Go.Shelf.Ren:=⟨fun|157=>117|229=>189|199=>190|261=>232|311=>254|312=>255|n=>n,fun|9=>9|31=>23|3=>3|5=>5|4=>4|119=>233|0=>0|40=>235|152=>265|21=>21|154=>267|51=>268|141=>270|196=>286|193=>283|198=>289|49=>287|194=>284|201=>292|226=>302|46=>261|227=>303|n=>n,fun|0=>1|6=>3|n=>n⟩
theorem Tryz.lays157:Go.Proofs.Lays.n157 Tryz.prog Tryz.lays157_ren:={
 mixed:=by kernel_rfl
 f157:=Tryz.func117.trans (congrArg some (by kernel_rfl))
 f199:=Tryz.func190.trans (congrArg some (by kernel_rfl))
 f229:=Tryz.func189.trans (congrArg some (by kernel_rfl))
 f261:=Tryz.func232.trans (congrArg some (by kernel_rfl))
 f311:=Tryz.func254.trans (congrArg some (by kernel_rfl))
 f312:=Tryz.func255.trans (congrArg some (by kernel_rfl))
 t0:=Tryz.underlying0
 a0:=Tryz.isAgg0
 z0:=Tryz.sizeOf0
 v0:=Tryz.zeroValue0
 t3:=Tryz.underlying3
 a3:=Tryz.isAgg3
 z3:=Tryz.sizeOf3
 v3:=Tryz.zeroValue3
 t4:=Tryz.underlying4
 a4:=Tryz.isAgg4
 z4:=Tryz.sizeOf4
 v4:=Tryz.zeroValue4
 t5:=Tryz.underlying5
 a5:=Tryz.isAgg5
 z5:=Tryz.sizeOf5
 v5:=Tryz.zeroValue5
 t9:=Tryz.underlying9
 a9:=Tryz.isAgg9
 z9:=Tryz.sizeOf9
 v9:=Tryz.zeroValue9
 t21:=Tryz.underlying21
 a21:=Tryz.isAgg21
 z21:=Tryz.sizeOf21
 v21:=Tryz.zeroValue21
 t31:=Tryz.underlying23
 a31:=Tryz.isAgg23
 z31:=Tryz.sizeOf23
 v31:=Tryz.zeroValue23
 t40:=Tryz.underlying235
 a40:=Tryz.isAgg235
 z40:=Tryz.sizeOf235
 v40:=Tryz.zeroValue235
 t46:=Tryz.underlying261
 a46:=Tryz.isAgg261
 z46:=Tryz.sizeOf261
 v46:=Tryz.zeroValue261
 t49:=Tryz.underlying287
 a49:=Tryz.isAgg287
 z49:=Tryz.sizeOf287
 v49:=Tryz.zeroValue287
 t51:=Tryz.underlying268
 a51:=Tryz.isAgg268
 z51:=Tryz.sizeOf268
 v51:=Tryz.zeroValue268
 t119:=Tryz.underlying233
 a119:=Tryz.isAgg233
 z119:=Tryz.sizeOf233
 t141:=Tryz.underlying270
 a141:=Tryz.isAgg270
 z141:=Tryz.sizeOf270
 v141:=Tryz.zeroValue270
 t152:=Tryz.underlying265
 a152:=Tryz.isAgg265
 z152:=Tryz.sizeOf265
 v152:=Tryz.zeroValue265
 t154:=Tryz.underlying267
 a154:=Tryz.isAgg267
 z154:=Tryz.sizeOf267
 v154:=Tryz.zeroValue267
 t193:=Tryz.underlying283
 a193:=Tryz.isAgg283
 z193:=Tryz.sizeOf283
 v193:=Tryz.zeroValue283
 t194:=Tryz.underlying284
 a194:=Tryz.isAgg284
 z194:=Tryz.sizeOf284
 v194:=Tryz.zeroValue284
 t196:=Tryz.underlying286
 a196:=Tryz.isAgg286
 z196:=Tryz.sizeOf286
 v196:=Tryz.zeroValue286
 t198:=Tryz.underlying289
 a198:=Tryz.isAgg289
 z198:=Tryz.sizeOf289
 v198:=Tryz.zeroValue289
 t201:=Tryz.underlying292
 a201:=Tryz.isAgg292
 z201:=Tryz.sizeOf292
 v201:=Tryz.zeroValue292
 t226:=Tryz.underlying302
 a226:=Tryz.isAgg302
 z226:=Tryz.sizeOf302
 v226:=Tryz.zeroValue302
 t227:=Tryz.underlying303
 a227:=Tryz.isAgg303
 z227:=Tryz.sizeOf303
 v227:=Tryz.zeroValue303
 g0:=by kernel_rfl
 g6:=by kernel_rfl }
open Go.RowKit Go.Lib in
theorem Tryz.strings_Fields (s:ByteArray) (w:World) (hs:s.size<4294967281) (hascii:∀ (j:Nat) b,s.data.toList[j]? = some b->b.toNat<128) (htab:Lib.TabIs Tryz.prog w "strings.asciiSpace" .u8 Lib.asciiSpaceTab) :
 Calls Tryz.prog 117 #[.string s] w fun e w' =>
  e=.returned (.slice (some ⟨w.heap.size,0,none⟩) (Lib.fields s.data.toList).length (Lib.fields s.data.toList).length)/\w'=w.alloc (.cells ((Lib.fields s.data.toList).map fun l=>Value.string ⟨l.toArray⟩).toArray 9):=Any.strings_Fields Tryz.lays157 (by kernel_rfl) (by kernel_rfl) s w hs hascii htab
def Tryz.lays155_ren:Go.Shelf.Ren:=⟨fun|155=>60|154=>120|138=>196|165=>197|143=>198|166=>65|197=>199|169=>67|195=>238|218=>239|240=>125|241=>240|219=>241|260=>242|276=>200|277=>258|217=>110|225=>259|224=>260|267=>261|266=>185|314=>263|n=>n,fun|9=>9|3=>3|4=>4|72=>131|0=>0|76=>135|105=>242|21=>21|5=>5|70=>129|20=>20|37=>48|75=>133|127=>195|164=>244|46=>261|119=>233|139=>298|138=>297|146=>306|51=>268|80=>72|n=>n,fun|1=>2|3=>7|4=>8|n=>n⟩
theorem Tryz.lays155:Go.Proofs.Lays.n155 Tryz.prog Tryz.lays155_ren:={
 mixed:=by kernel_rfl
 f138:=Tryz.func196.trans (congrArg some (by kernel_rfl))
 f143:=Tryz.func198.trans (congrArg some (by kernel_rfl))
 f154:=Tryz.func120.trans (congrArg some (by kernel_rfl))
 f155:=Tryz.func60.trans (congrArg some (by kernel_rfl))
 f165:=Tryz.func197.trans (congrArg some (by kernel_rfl))
 f166:=Tryz.func65.trans (congrArg some (by kernel_rfl))
 f169:=Tryz.func67.trans (congrArg some (by kernel_rfl))
 f195:=Tryz.func238.trans (congrArg some (by kernel_rfl))
 f197:=Tryz.func199.trans (congrArg some (by kernel_rfl))
 f217:=Tryz.func110.trans (congrArg some (by kernel_rfl))
 f218:=Tryz.func239.trans (congrArg some (by kernel_rfl))
 f219:=Tryz.func241.trans (congrArg some (by kernel_rfl))
 f224:=Tryz.func260.trans (congrArg some (by kernel_rfl))
 f225:=Tryz.func259.trans (congrArg some (by kernel_rfl))
 f240:=Tryz.func125.trans (congrArg some (by kernel_rfl))
 f241:=Tryz.func240.trans (congrArg some (by kernel_rfl))
 f260:=Tryz.func242.trans (congrArg some (by kernel_rfl))
 f266:=Tryz.func185.trans (congrArg some (by kernel_rfl))
 f267:=Tryz.func261.trans (congrArg some (by kernel_rfl))
 f276:=Tryz.func200.trans (congrArg some (by kernel_rfl))
 f277:=Tryz.func258.trans (congrArg some (by kernel_rfl))
 f314:=Tryz.func263.trans (congrArg some (by kernel_rfl))
 t0:=Tryz.underlying0
 a0:=Tryz.isAgg0
 z0:=Tryz.sizeOf0
 v0:=Tryz.zeroValue0
 t3:=Tryz.underlying3
 a3:=Tryz.isAgg3
 z3:=Tryz.sizeOf3
 v3:=Tryz.zeroValue3
 t4:=Tryz.underlying4
 a4:=Tryz.isAgg4
 z4:=Tryz.sizeOf4
 v4:=Tryz.zeroValue4
 t5:=Tryz.underlying5
 a5:=Tryz.isAgg5
 z5:=Tryz.sizeOf5
 v5:=Tryz.zeroValue5
 t9:=Tryz.underlying9
 a9:=Tryz.isAgg9
 z9:=Tryz.sizeOf9
 v9:=Tryz.zeroValue9
 t20:=Tryz.underlying20
 a20:=Tryz.isAgg20
 z20:=Tryz.sizeOf20
 v20:=Tryz.zeroValue20
 t21:=Tryz.underlying21
 a21:=Tryz.isAgg21
 z21:=Tryz.sizeOf21
 v21:=Tryz.zeroValue21
 t37:=Tryz.underlying48
 a37:=Tryz.isAgg48
 z37:=Tryz.sizeOf48
 v37:=Tryz.zeroValue48
 t46:=Tryz.underlying261
 a46:=Tryz.isAgg261
 z46:=Tryz.sizeOf261
 v46:=Tryz.zeroValue261
 t51:=Tryz.underlying268
 a51:=Tryz.isAgg268
 z51:=Tryz.sizeOf268
 v51:=Tryz.zeroValue268
 t70:=Tryz.underlying129
 a70:=Tryz.isAgg129
 z70:=Tryz.sizeOf129
 v70:=Tryz.zeroValue129
 t72:=Tryz.underlying131
 a72:=Tryz.isAgg131
 z72:=Tryz.sizeOf131
 v72:=Tryz.zeroValue131
 t75:=Tryz.underlying133
 a75:=Tryz.isAgg133
 z75:=Tryz.sizeOf133
 v75:=Tryz.zeroValue133
 t76:=Tryz.underlying135
 a76:=Tryz.isAgg135
 z76:=Tryz.sizeOf135
 v76:=Tryz.zeroValue135
 t105:=Tryz.underlying242
 a105:=Tryz.isAgg242
 z105:=Tryz.sizeOf242
 v105:=Tryz.zeroValue242
 t119:=Tryz.underlying233
 a119:=Tryz.isAgg233
 z119:=Tryz.sizeOf233
 t127:=Tryz.underlying195
 a127:=Tryz.isAgg195
 z127:=Tryz.sizeOf195
 v127:=Tryz.zeroValue195
 t138:=Tryz.underlying297
 a138:=Tryz.isAgg297
 z138:=Tryz.sizeOf297
 v138:=Tryz.zeroValue297
 t139:=Tryz.underlying298
 a139:=Tryz.isAgg298
 z139:=Tryz.sizeOf298
 v139:=Tryz.zeroValue298
 t146:=Tryz.underlying306
 a146:=Tryz.isAgg306
 z146:=Tryz.sizeOf306
 v146:=Tryz.zeroValue306
 t164:=Tryz.underlying244
 a164:=Tryz.isAgg244
 z164:=Tryz.sizeOf244
 v164:=Tryz.zeroValue244
 g1:=by kernel_rfl
 g3:=by kernel_rfl
 g4:=by kernel_rfl }
theorem Tryz.Builder_Extra_155:Builder.Extra Tryz.prog Tryz.lays155_ren:={
 sizeBuilder:=by kernel_rfl
 liesBuilder:=by kernel_rfl
 t5:=Tryz.underlying5
 a5:=Tryz.isAgg5
 z5:=Tryz.sizeOf5
 v5:=Tryz.zeroValue5
 infoByte:=by kernel_rfl
 cellsByte:=by kernel_rfl
 sizeByte:=by kernel_rfl
 neB5:=by decide }
open Go.RowKit Go.Lib in
theorem Tryz.strings_ReplaceAll (s old new:ByteArray) (m:Int) (w:World) (hs:s.size<4294967281) (hm:w.cell? ⟨2,0,none⟩=some (.int .i64 m)) (h1:1<=old.size) (hlen:s.size+Lib.countB s old * new.size<=140737488355328) :
 Calls Tryz.prog 60 #[.string s,.string old,.string new] w fun e w' =>
  e=.returned (.string ⟨(Lib.replaceAll s.data.toList old.data.toList new.data.toList).toArray⟩)/\Below w.heap.size w w':=Any.strings_ReplaceAll Tryz.lays155 Tryz.Builder_Extra_155 s old new m w hs hm h1 hlen
def Tryz.lays109_ren:Go.Shelf.Ren:=⟨fun|109=>84|n=>n,fun|31=>23|9=>9|3=>3|0=>0|4=>4|n=>n,fun|n=>n⟩
theorem Tryz.lays109:Go.Proofs.Lays.n109 Tryz.prog Tryz.lays109_ren:={
 mixed:=by kernel_rfl
 f109:=Tryz.func84.trans (congrArg some (by kernel_rfl))
 t0:=Tryz.underlying0
 a0:=Tryz.isAgg0
 z0:=Tryz.sizeOf0
 v0:=Tryz.zeroValue0
 t3:=Tryz.underlying3
 a3:=Tryz.isAgg3
 z3:=Tryz.sizeOf3
 v3:=Tryz.zeroValue3
 t4:=Tryz.underlying4
 a4:=Tryz.isAgg4
 z4:=Tryz.sizeOf4
 v4:=Tryz.zeroValue4
 t9:=Tryz.underlying9
 a9:=Tryz.isAgg9
 z9:=Tryz.sizeOf9
 v9:=Tryz.zeroValue9
 t31:=Tryz.underlying23
 a31:=Tryz.isAgg23
 z31:=Tryz.sizeOf23
 v31:=Tryz.zeroValue23 }
open Go.Lib in
theorem Tryz.slices_Index_string (b off n c:Nat) (zs:List ByteArray) (x:ByteArray) (w:World) (hz:n<=zs.length) (hbig:n<=9223372036854775807) (hc:∀ j,j<zs.length->w.cell? ⟨b,off+j,none⟩=some (.string (zs.getD j ByteArray.empty))) :
 Calls Tryz.prog 84 #[.slice (some ⟨b,off,none⟩) n c,.string x] w fun e w'=>e=.returned (.int .i64 (Lib.idxOfS (zs.take n) x))/\w'=w:=Any.slices_Index_string Tryz.lays109 b off n c zs x w hz hbig hc
def Tryz.lays193_ren:Go.Shelf.Ren:=⟨fun|193=>45|n=>n,fun|31=>23|9=>9|4=>4|3=>3|0=>0|n=>n,fun|n=>n⟩
theorem Tryz.lays193:Go.Proofs.Lays.n193 Tryz.prog Tryz.lays193_ren:={
 mixed:=by kernel_rfl
 f193:=Tryz.func45.trans (congrArg some (by kernel_rfl))
 t0:=Tryz.underlying0
 a0:=Tryz.isAgg0
 z0:=Tryz.sizeOf0
 v0:=Tryz.zeroValue0
 t3:=Tryz.underlying3
 a3:=Tryz.isAgg3
 z3:=Tryz.sizeOf3
 v3:=Tryz.zeroValue3
 t4:=Tryz.underlying4
 a4:=Tryz.isAgg4
 z4:=Tryz.sizeOf4
 v4:=Tryz.zeroValue4
 t9:=Tryz.underlying9
 a9:=Tryz.isAgg9
 z9:=Tryz.sizeOf9
 v9:=Tryz.zeroValue9
 t31:=Tryz.underlying23
 a31:=Tryz.isAgg23
 z31:=Tryz.sizeOf23
 v31:=Tryz.zeroValue23 }
open Go.RowKit Go.Lib in
theorem Tryz.slices_Equal_string (b1 o1 n c b2 o2 m d:Nat) (xs ys:List ByteArray) (w:World) (hx:n<=xs.length) (hy:m<=ys.length) (hbig:n<=9223372036854775807) (hbig2:m<=9223372036854775807) (hc1:∀ j,j<xs.length->w.cell? ⟨b1,o1+j,none⟩=some (.string (xs.getD j ByteArray.empty))) (hc2:∀ j,j<ys.length->w.cell? ⟨b2,o2+j,none⟩=some (.string (ys.getD j ByteArray.empty))) :
 Calls Tryz.prog 45 #[.slice (some ⟨b1,o1,none⟩) n c,.slice (some ⟨b2,o2,none⟩) m d] w fun e w'=>e=.returned (.bool (decide (xs.take n=ys.take m)))/\∃ q,w'=w.drewN q:=Any.slices_Equal_string Tryz.lays193 b1 o1 n c b2 o2 m d xs ys w hx hy hbig hbig2 hc1 hc2
open Go.RowKit Go.Lib in
theorem Tryz.slices_Equal_string_empty (a1 a2:Option Addr) (c m d:Nat) (w:World) (hbig2:m<=9223372036854775807) :
 Calls Tryz.prog 45 #[.slice a1 0 c,.slice a2 m d] w fun e w'=>e=.returned (.bool (decide (m=0)))/\w'=w:=Any.slices_Equal_string_empty Tryz.lays193 a1 a2 c m d w hbig2
open Go.RowKit Go.Lib in
theorem Tryz.slices_Equal_string_lens (a1 a2:Option Addr) (n c m d:Nat) (w:World) (hnm:n ≠ m) :
 Calls Tryz.prog 45 #[.slice a1 n c,.slice a2 m d] w fun e w'=>e=.returned (.bool false)/\w'=w:=Any.slices_Equal_string_lens Tryz.lays193 a1 a2 n c m d w hnm
def Tryz.lays167_ren:Go.Shelf.Ren:=⟨fun|167=>64|240=>125|276=>200|n=>n,fun|37=>48|70=>129|72=>131|75=>133|80=>72|164=>244|n=>n,fun n=>n⟩
theorem Tryz.lays167:Go.Proofs.Lays.n167 Tryz.prog Tryz.lays167_ren:={
 mixed:=by kernel_rfl
 f167:=Tryz.func64.trans (congrArg some (by kernel_rfl))
 f240:=Tryz.func125.trans (congrArg some (by kernel_rfl))
 f276:=Tryz.func200.trans (congrArg some (by kernel_rfl))
 t0:=Tryz.underlying0
 a0:=Tryz.isAgg0
 z0:=Tryz.sizeOf0
 v0:=Tryz.zeroValue0
 t4:=Tryz.underlying4
 a4:=Tryz.isAgg4
 z4:=Tryz.sizeOf4
 v4:=Tryz.zeroValue4
 t5:=Tryz.underlying5
 a5:=Tryz.isAgg5
 z5:=Tryz.sizeOf5
 v5:=Tryz.zeroValue5
 t9:=Tryz.underlying9
 a9:=Tryz.isAgg9
 z9:=Tryz.sizeOf9
 v9:=Tryz.zeroValue9
 t20:=Tryz.underlying20
 a20:=Tryz.isAgg20
 z20:=Tryz.sizeOf20
 v20:=Tryz.zeroValue20
 t37:=Tryz.underlying48
 a37:=Tryz.isAgg48
 z37:=Tryz.sizeOf48
 v37:=Tryz.zeroValue48
 t70:=Tryz.underlying129
 a70:=Tryz.isAgg129
 z70:=Tryz.sizeOf129
 v70:=Tryz.zeroValue129
 t72:=Tryz.underlying131
 a72:=Tryz.isAgg131
 z72:=Tryz.sizeOf131
 v72:=Tryz.zeroValue131
 t75:=Tryz.underlying133
 a75:=Tryz.isAgg133
 z75:=Tryz.sizeOf133
 v75:=Tryz.zeroValue133
 t164:=Tryz.underlying244
 a164:=Tryz.isAgg244
 z164:=Tryz.sizeOf244
 v164:=Tryz.zeroValue244 }
def Tryz.lays166_ren:Go.Shelf.Ren:=⟨fun|166=>65|240=>125|276=>200|n=>n,fun|37=>48|70=>129|72=>131|75=>133|80=>72|164=>244|n=>n,fun n=>n⟩
theorem Tryz.lays166:Go.Proofs.Lays.n166 Tryz.prog Tryz.lays166_ren:={
 mixed:=by kernel_rfl
 f166:=Tryz.func65.trans (congrArg some (by kernel_rfl))
 f240:=Tryz.func125.trans (congrArg some (by kernel_rfl))
 f276:=Tryz.func200.trans (congrArg some (by kernel_rfl))
 t0:=Tryz.underlying0
 a0:=Tryz.isAgg0
 z0:=Tryz.sizeOf0
 v0:=Tryz.zeroValue0
 t3:=Tryz.underlying3
 a3:=Tryz.isAgg3
 z3:=Tryz.sizeOf3
 v3:=Tryz.zeroValue3
 t4:=Tryz.underlying4
 a4:=Tryz.isAgg4
 z4:=Tryz.sizeOf4
 v4:=Tryz.zeroValue4
 t9:=Tryz.underlying9
 a9:=Tryz.isAgg9
 z9:=Tryz.sizeOf9
 v9:=Tryz.zeroValue9
 t20:=Tryz.underlying20
 a20:=Tryz.isAgg20
 z20:=Tryz.sizeOf20
 v20:=Tryz.zeroValue20
 t37:=Tryz.underlying48
 a37:=Tryz.isAgg48
 z37:=Tryz.sizeOf48
 v37:=Tryz.zeroValue48
 t70:=Tryz.underlying129
 a70:=Tryz.isAgg129
 z70:=Tryz.sizeOf129
 v70:=Tryz.zeroValue129
 t72:=Tryz.underlying131
 a72:=Tryz.isAgg131
 z72:=Tryz.sizeOf131
 v72:=Tryz.zeroValue131
 t75:=Tryz.underlying133
 a75:=Tryz.isAgg133
 z75:=Tryz.sizeOf133
 v75:=Tryz.zeroValue133
 t164:=Tryz.underlying244
 a164:=Tryz.isAgg244
 z164:=Tryz.sizeOf244
 v164:=Tryz.zeroValue244 }
theorem Tryz.Builder_Extra_167:Go.Proofs.Builder.Extra Tryz.prog Tryz.lays167_ren:={
 sizeBuilder:=by kernel_rfl
 liesBuilder:=by kernel_rfl
 t5:=Tryz.underlying5
 a5:=Tryz.isAgg5
 z5:=Tryz.sizeOf5
 v5:=Tryz.zeroValue5
 infoByte:=by kernel_rfl
 cellsByte:=by kernel_rfl
 sizeByte:=by kernel_rfl
 neB5:=by decide }
theorem Tryz.Builder_Extra_166:Go.Proofs.Builder.Extra Tryz.prog Tryz.lays166_ren:={
 sizeBuilder:=by kernel_rfl
 liesBuilder:=by kernel_rfl
 t5:=Tryz.underlying5
 a5:=Tryz.isAgg5
 z5:=Tryz.sizeOf5
 v5:=Tryz.zeroValue5
 infoByte:=by kernel_rfl
 cellsByte:=by kernel_rfl
 sizeByte:=by kernel_rfl
 neB5:=by decide }
open Go.RowKit in
theorem Tryz.Builder_WriteByte_k (B b:Nat) (bs:List Value) (c:Int) (w:World) (h:Lib.IsBuilderF 131 5 B b bs w) (hlen:bs.length+1<=140737488355328) (hBw:B<=w.heap.size) :
 Calls Tryz.prog 64 #[.pointer (some ⟨b,0,none⟩),.int .u8 c] w fun e w'=>e=.returned .nilIface/\(Lib.BuilderAtF 131 5 B b (.pointer (some ⟨b,0,none⟩)) (bs ++ [.int .u8 c]) w'/\Below B w w'/\Lib.OthersKept 5 (some b) w w'):=Any.Builder_WriteByte_k Tryz.lays167 Tryz.Builder_Extra_167 B b bs c w h hlen hBw
open Go.RowKit in
theorem Tryz.Builder_WriteString_k (B b:Nat) (bs:List Value) (s:ByteArray) (w:World) (h:Lib.IsBuilderF 131 5 B b bs w) (hlen:bs.length+s.size<=140737488355328) (hBw:B<=w.heap.size) :
 Calls Tryz.prog 65 #[.pointer (some ⟨b,0,none⟩),.string s] w fun e w'=>e=.returned (.tuple #[.int .i64 s.size,.nilIface])/\(Lib.BuilderAtF 131 5 B b (.pointer (some ⟨b,0,none⟩)) (bs ++ Lib.strCells s) w'/\Below B w w'/\Lib.OthersKept 5 (some b) w w'):=Any.Builder_WriteString_k Tryz.lays166 Tryz.Builder_Extra_166 B b bs s w h hlen hBw
end Go.Proofs
