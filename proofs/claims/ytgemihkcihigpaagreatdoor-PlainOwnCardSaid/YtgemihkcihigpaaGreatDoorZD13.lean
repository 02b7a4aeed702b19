/- DERIVED: THE SHELF's CONTRACTS AT THIS DUMP, IN PLAIN WORDS (tools/lay-plain.mjs out of 'T. -/
import Derived.Shelf.Small.Strs
import Derived.Shelf.Slices.Turned
import Derived.Shelf.Slices.Equal
import Derived.Ground.Names2Prog
import Derived.Shelf.Slices.Clone
import Derived.Shelf.Slices.SearchI
import Derived.Shelf.Slices.Empties2
import Derived.Ground.SlgnProg
import Derived.Shelf.SlicesG.SearchI
import Derived.Shelf.SlicesE.Clone
import Derived.Test.YtgemihkcihigpaaGreatDoorProg
set_option linter.unusedVariables false
set_option linter.unusedSimpArgs false
set_option maxRecDepth 100000
set_option maxHeartbeats 64000000
namespace Go.Proofs
open Go.Shelf
def Tryz.lays213_ren:Go.Shelf.Ren:=⟨fun|213=>203|265=>204|n=>n,fun|9=>9|3=>3|n=>n,fun|n=>n⟩
def Tryz.lays106_ren:Go.Shelf.Ren:=⟨fun|106=>201|213=>203|265=>204|n=>n,fun|9=>9|3=>3|n=>n,fun|n=>n⟩
theorem Tryz.lays106:Go.Proofs.Lays.n106 Tryz.prog Tryz.lays106_ren:={
 mixed:=by kernel_rfl
 f106:=Tryz.func201.trans (congrArg some (by kernel_rfl))
 f213:=Tryz.func203.trans (congrArg some (by kernel_rfl))
 f265:=Tryz.func204.trans (congrArg some (by kernel_rfl))
 t3:=Tryz.underlying3
 a3:=Tryz.isAgg3
 z3:=Tryz.sizeOf3
 v3:=Tryz.zeroValue3
 t9:=Tryz.underlying9
 a9:=Tryz.isAgg9
 z9:=Tryz.sizeOf9
 v9:=Tryz.zeroValue9 }
open Go.RowKit in
theorem Tryz.strings_Compare (a b:ByteArray) (w:World) :
 Calls Tryz.prog 201 #[.string a,.string b] w fun e w'=>e=.returned (.int .i64 (Lib.compareBytes a.data.toList b.data.toList))/\w'=w:=Any.strings_Compare Tryz.lays106 a b w
def Tryz.lays108_ren:Go.Shelf.Ren:=⟨fun|108=>139|n=>n,fun|28=>22|3=>3|0=>0|4=>4|n=>n,fun|n=>n⟩
def Tryz.lays107_ren:Go.Shelf.Ren:=⟨fun|107=>96|108=>139|n=>n,fun|28=>22|3=>3|4=>4|0=>0|n=>n,fun|n=>n⟩
theorem Tryz.lays107:Go.Proofs.Lays.n107 Tryz.prog Tryz.lays107_ren:={
 mixed:=by kernel_rfl
 f107:=Tryz.func96.trans (congrArg some (by kernel_rfl))
 f108:=Tryz.func139.trans (congrArg some (by kernel_rfl))
 t0:=Tryz.underlying0
 a0:=Tryz.isAgg0
 z0:=Tryz.sizeOf0
 v0:=Tryz.zeroValue0
 t3:=Tryz.underlying3
 a3:=Tryz.isAgg3
 z3:=Tryz.sizeOf3
 v3:=Tryz.zeroValue3
 t4:=Tryz.underlying4
 a4:=Tryz.isAgg4
 z4:=Tryz.sizeOf4
 v4:=Tryz.zeroValue4
 t28:=Tryz.underlying22
 a28:=Tryz.isAgg22
 z28:=Tryz.sizeOf22
 v28:=Tryz.zeroValue22 }
open Go.Lib in
theorem Tryz.slices_Contains_int (b off n c:Nat) (zs:List Int) (x:Int) (w:World) (hz:n<=zs.length) (hbig:n<=9223372036854775807) (hc:∀ j,j<zs.length->w.cell? ⟨b,off+j,none⟩=some (.int .i64 (zs.getD j 0))) :
 Calls Tryz.prog 96 #[.slice (some ⟨b,off,none⟩) n c,.int .i64 x] w fun e w'=>e=.returned (.bool ((zs.take n).contains x))/\w'=w:=Any.slices_Contains_int Tryz.lays107 b off n c zs x w hz hbig hc
open Go.Lib in
theorem Tryz.slices_Contains_int_empty (a:Option Addr) (c:Nat) (x:Int) (w:World) :
 Calls Tryz.prog 96 #[.slice a 0 c,.int .i64 x] w fun e w'=>e=.returned (.bool false)/\w'=w:=Any.slices_Contains_int_empty Tryz.lays107 a c x w
def Tryz.lays109_ren:Go.Shelf.Ren:=⟨fun|109=>123|n=>n,fun|31=>33|9=>9|3=>3|0=>0|4=>4|n=>n,fun|n=>n⟩
theorem Tryz.lays109:Go.Proofs.Lays.n109 Tryz.prog Tryz.lays109_ren:={
 mixed:=by kernel_rfl
 f109:=Tryz.func123.trans (congrArg some (by kernel_rfl))
 t0:=Tryz.underlying0
 a0:=Tryz.isAgg0
 z0:=Tryz.sizeOf0
 v0:=Tryz.zeroValue0
 t3:=Tryz.underlying3
 a3:=Tryz.isAgg3
 z3:=Tryz.sizeOf3
 v3:=Tryz.zeroValue3
 t4:=Tryz.underlying4
 a4:=Tryz.isAgg4
 z4:=Tryz.sizeOf4
 v4:=Tryz.zeroValue4
 t9:=Tryz.underlying9
 a9:=Tryz.isAgg9
 z9:=Tryz.sizeOf9
 v9:=Tryz.zeroValue9
 t31:=Tryz.underlying33
 a31:=Tryz.isAgg33
 z31:=Tryz.sizeOf33
 v31:=Tryz.zeroValue33 }
open Go.Lib in
theorem Tryz.slices_Index_string (b off n c:Nat) (zs:List ByteArray) (x:ByteArray) (w:World) (hz:n<=zs.length) (hbig:n<=9223372036854775807) (hc:∀ j,j<zs.length->w.cell? ⟨b,off+j,none⟩=some (.string (zs.getD j ByteArray.empty))) :
 Calls Tryz.prog 123 #[.slice (some ⟨b,off,none⟩) n c,.string x] w fun e w'=>e=.returned (.int .i64 (Lib.idxOfS (zs.take n) x))/\w'=w:=Any.slices_Index_string Tryz.lays109 b off n c zs x w hz hbig hc
open Go.Lib in
theorem Tryz.slices_Index_string_empty (a:Option Addr) (c:Nat) (x:ByteArray) (w:World) :
 Calls Tryz.prog 123 #[.slice a 0 c,.string x] w fun e w'=>e=.returned (.int .i64 (Lib.idxOfS [] x))/\w'=w:=Any.slices_Index_string_empty Tryz.lays109 a c x w
def Tryz.lays111_ren:Go.Shelf.Ren:=⟨fun|111=>72|n=>n,fun|28=>22|3=>3|4=>4|0=>0|n=>n,fun|n=>n⟩
def Tryz.laysNm215_ren:Go.Shelf.Ren:=⟨fun|15=>103|n=>n,fun|22=>22|3=>3|4=>4|n=>n,fun|n=>n⟩
def Tryz.laysNm237_ren:Go.Shelf.Ren:=⟨fun|37=>116|n=>n,fun|3=>3|4=>4|n=>n,fun|n=>n⟩
def Tryz.laysSlN68_f202_ren:Go.Shelf.Ren:=⟨fun|68=>202|n=>n,fun|23=>2|4=>4|n=>n,fun|n=>n⟩
def Tryz.laysSlE041_f103_ren:Go.Shelf.Ren:=⟨fun|41=>103|n=>n,fun|22=>22|23=>3|4=>4|n=>n,fun|n=>n⟩
end Go.Proofs
