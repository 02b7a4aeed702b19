/- PlainJoins, plain: the size of a join, its rows, and the statements that are refused. -/
import Derived.Test.YtgemihkcihigpaaGreatDoorZD11
set_option linter.unusedVariables false
set_option linter.unusedSimpArgs false
set_option maxRecDepth 100000
set_option maxHeartbeats 64000000
namespace Go.Proofs.YtgemihkcihigpaaGreatDoor
section
open Go Go.RowKit
def joS:Stmt:={ stmt0 with kind:=7,table:=sT,names:=[sB,sA,sC],join:=sU,left:=sB,right:=sB,order:=[sC,sA] }
def badS (j l:ByteArray):Stmt:={ stmt0 with kind:=7,table:=sT,names:=[sB],join:=j,left:=l,right:=sB }
def tTU:Tab:={ tT with cols:=colsT ++ colsU }
def joR (A B:List (List Val)):List (List Val):=joinR A B 1 0
def joK (A B:List (List Val)):List (List Val):=sortBy cmpR ((joR A B).map fun r=>([3,0,1,0,3]:List Int).map (valAt r))
def joM (A B:List (List Val)):List (List Val):=(joK A B).map (·.drop 2)
def JV (v:Val):Prop:=v=val0 \/ v=tx (xyzB 0) \/ v=tx (xyzB 1) \/ v=tx (xyzB 2)
def JRowT (r:List Val):Prop:=∃ a b,r=[a,b]/\JV b
def JRowU (r:List Val):Prop:=∃ b a,r=[b,a]/\JV b
def eqJ (b:Val) (j:Nat):Bool:=fitsV b 1 (tx (xyzB j))
def cA (A:List (List Val)) (j:Nat):Nat:=(A.filter fun r=>eqJ (valAt r 1) j).length
def cB (B:List (List Val)) (j:Nat):Nat:=(B.filter fun r=>eqJ (valAt r 0) j).length
def pairsTo (A B:List (List Val)):Nat->Nat
 | 0=>0
 | k+1=>pairsTo A B k+cA A k * cB B k
end
end Go.Proofs.YtgemihkcihigpaaGreatDoor
