/- The eight bytes of a number. -/
import Derived.Test.YtieojjngeibnmaaGreatDoorZD2
import Derived.Test.YtieojjngeibnmaaGreatDoorProg
import Derived.Test.YtieojjngeibnmaaGreatDoorZD7
import Derived.Test.YtieojjngeibnmaaGreatDoorZD3
import Derived.LoopN
set_option linter.unusedVariables false
set_option linter.unusedSimpArgs false
set_option maxRecDepth 100000
set_option maxHeartbeats 64000000
namespace Go.Proofs.YtieojjngeibnmaaGreatDoor
open Go.Lib (hid)
section
open Go.RowKit
theorem and_mask8 (x:Int):bits .and .i64 x 255=x % 256:=and_mask x 8 (by omega)
theorem div_b7 (n:Int):n / 72057594037927936 % 256=(n / 256 / 256 / 256 / 256 / 256 / 256 / 256) % 256:=by omega
theorem div_b6 (n:Int):n / 281474976710656 % 256=(n / 256 / 256 / 256 / 256 / 256 / 256) % 256:=by omega
theorem div_b5 (n:Int):n / 1099511627776 % 256=(n / 256 / 256 / 256 / 256 / 256) % 256:=by omega
theorem div_b4 (n:Int):n / 4294967296 % 256=(n / 256 / 256 / 256 / 256) % 256:=by omega
theorem div_b3 (n:Int):n / 16777216 % 256=(n / 256 / 256 / 256) % 256:=by omega
theorem div_b2 (n:Int):n / 65536 % 256=(n / 256 / 256) % 256:=by omega
theorem whole_any (n:Int) (h0:0<=n) (h1:n<=18446744073709551615) (w:World) :
 Calls Tryz.prog 66 #[.int .u64 n] w fun e w'=>e=.returned (.string ⟨(be 8 n).toArray⟩)/\Below w.heap.size w w':=by
 have C:=hid (conv_tail (P:=Tryz.prog) w 48 5 9 194 Tryz.underlying48 Tryz.underlying5 Tryz.underlying9 [n / 72057594037927936 % 256,n / 281474976710656 % 256,n / 1099511627776 % 256,n / 4294967296 % 256,n / 16777216 % 256,n / 65536 % 256,n / 256 % 256,n % 256])
 have c:=C.out 0 8 8 (by simp)
 simp only [List.map_cons,List.map_nil,List.drop,List.take] at c
 clear C
 go_enter Tryz.func66,Tryz.ntmps66
 go_wp2
 clear h0 h1
 refine wp_loop_rounds 9 ?_
 repeat any_goals (rw [rounds_succ];go_wp2_with fail)
 go_ret
 refine ⟨?_,by go_grown⟩
 simp only [div_b2,div_b3,div_b4,div_b5,div_b6,div_b7]
 rfl
end
end Go.Proofs.YtieojjngeibnmaaGreatDoor
