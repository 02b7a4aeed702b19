/- Values. -/
import Derived.Test.YtieojjngeibnmaaGreatDoorZB2
import Derived.Test.YtieojjngeibnmaaGreatDoorProg
set_option linter.unusedVariables false
set_option linter.unusedSimpArgs false
set_option maxRecDepth 100000
set_option maxHeartbeats 64000000
namespace Go.Proofs.YtieojjngeibnmaaGreatDoor
section
open Go.RowKit
structure Val where
 kind:Int
 n:Int
 s:ByteArray
 deriving DecidableEq
def Val.enc (v:Val):Value:=.agg #[.int .i64 v.kind,.int .i64 v.n,.string v.s]
def knownB (k:Int):Bool:=decide (0<=k) && decide (k<=2)
def rightB (v:Val):Bool:=knownB v.kind && (decide (v.kind ≠ 2) || decide (v.s.size<=40))
end
section
open Go
def placeV (k:Int):Int:=if k<0 \/ 2<k then 3 else k
def ordI (l m:Bool):Int:=if l then -1 else if m then 1 else 0
def cmpL:List UInt8->List UInt8->Int
 | [],[]=>0
 | [],_ :: _=>-1
 | _ :: _,[]=>1
 | a :: x,b :: y=>if a=b then cmpL x y else if a.toNat<b.toNat then -1 else 1
def cmpV (a b:Val):Int :=
 if placeV a.kind ≠ placeV b.kind then ordI (decide (placeV a.kind<placeV b.kind)) (decide (placeV b.kind<placeV a.kind))
 else if placeV a.kind=1 then ordI (decide (a.n<b.n)) (decide (b.n<a.n))
 else if placeV a.kind=2 then cmpL a.s.data.toList b.s.data.toList else 0
def opOk (op c:Int):Bool :=
 if op=1 then c == 0 else if op=2 then !(c == 0) else if op=3 then decide (c<0) else if op=4 then decide (c<=0) else if op=5 then decide (0<c) else if op=6 then decide (0<=c) else false
def fitsV (a:Val) (op:Int) (b:Val):Bool :=
 if placeV a.kind=0 \/ placeV b.kind=0 \/ placeV a.kind=3 \/ placeV b.kind=3 then false
 else if placeV a.kind ≠ placeV b.kind then op == 2
 else opOk op (cmpV a b)
end
section
open Go
structure Cond where
 col:ByteArray
 op:Int
 val:Val
 deriving DecidableEq
structure Ix where
 name:ByteArray
 cols:List Int
 root:Int
structure Tab where
 id:Int
 name:ByteArray
 cols:List (ByteArray × Int)
 idx:List Ix
structure SetV where
 col:ByteArray
 col2:ByteArray
 val:Val
 deriving DecidableEq
structure Stmt where
 kind:Int
 table:ByteArray
 name:ByteArray
 cols:List (ByteArray × Int)
 names:List ByteArray
 row:List Val
 sets:List SetV
 wher:List Cond
 join:ByteArray
 left:ByteArray
 right:ByteArray
 agg:Int
 order:List ByteArray
 mode:Int
 n:Int
 deriving DecidableEq
def noStr:ByteArray:=⟨#[]⟩
theorem toList_data (s:ByteArray):s.toList=s.data.toList:=ByteArray.toList_eq s
def val0:Val:=⟨0,0,noStr⟩
instance:Inhabited Val:=⟨val0⟩
instance:Inhabited Cond:=⟨⟨noStr,0,val0⟩⟩
instance:Inhabited Ix:=⟨⟨noStr,[],0⟩⟩
instance:Inhabited Tab:=⟨⟨0,noStr,[],[]⟩⟩
def stmt0:Stmt:=⟨0,noStr,noStr,[],[],[],[],[],noStr,noStr,noStr,0,[],0,0⟩
def idxOf {α:Type} (p:α->Bool) (L:List α):Int:=match L.findIdx? p with|some i=>(i:Int)|none=>-1
def sEq (a b:ByteArray):Bool:=a.toList == b.toList
def colOf (T:Tab) (name:ByteArray):Int:=idxOf (fun c=>sEq c.1 name) T.cols
def cmpR:List Val->List Val->Int
 | [],[]=>0
 | [],_ :: _=>-1
 | _ :: _,[]=>1
 | a :: x,b :: y=>if cmpV a b=0 then cmpR x y else cmpV a b
structure StV where
 tabs:List Tab
 rows:List (List (List Val))
structure AnsV where
 err:Int
 rows:List (List Val)
 n:Int
def ans0:AnsV:=⟨0,[],0⟩
def ansE (e:Int):AnsV:=⟨e,[],0⟩
def findV (s:StV) (name:ByteArray):Int:=idxOf (fun t=>sEq t.name name) s.tabs
def fitsC (T:Tab) (r:List Val) (c:Cond):Bool:=decide (0<=colOf T c.col) && decide (colOf T c.col<r.length) && fitsV (r.getD (colOf T c.col).toNat default) c.op c.val
def fitsW (T:Tab) (W:List Cond) (r:List Val):Bool:=W.all (fitsC T r)
def checkV (T:Tab) (r:List Val):Int :=
 if r.length ≠ T.cols.length then 2 else if (List.zip r T.cols).all fun x=>rightB x.1 && (decide (x.1.kind=0) || decide (x.1.kind=x.2.2)) then 0 else 52
end
end Go.Proofs.YtieojjngeibnmaaGreatDoor
