/- As GrowRel (with a tail), with an invariant that may speak of several slots at once. -/
import Derived.Test.YtgemihkcihigpaaGreatDoorZD6
set_option linter.unusedVariables false
set_option linter.unusedSimpArgs false
set_option maxRecDepth 100000
set_option maxHeartbeats 64000000
namespace Go.Proofs.YtgemihkcihigpaaGreatDoor
section
open Go Go.RowKit
abbrev Joint:=(Nat->Bool)->(Tmp->Value)->World->Prop
def set1 (L:Nat->Bool) (i:Nat):Nat->Bool:=fun j=>if j=i then true else L j
def upd (v:Tmp->Value) (t:Option Tmp) (u:Value):Tmp->Value:=fun s=>if t=some s then u else v s
def JStep (l:List Oper) (J:Joint) (i:Nat) (v:Tmp->Value) (t:Option Tmp) (u:Value) (w w':World):Prop:=∀ L,L i=false->(∀ j,Region.waitsFor .any l.toArray i j=true->L j=true)->J L v w->J (set1 L i) (upd v t u) w'
def GrowEachJ (P:Program) (l:List Oper) (Ds:List Said) (C Cp Dm:World->Prop) (F:(Tmp->Value)->Act) (R:World->World->Prop) (J:Joint) (m:Nat):Nat->List Oper->List Said->Prop
 | _,[],[]=>True
 | i,o :: os,D :: Dr=>(bif Nat.beq i m then
  (∀ (v:Tmp->Value) (w:World),C w->Cp w->(∃ L,J L v w/\∀ j,Region.waitsFor .any l.toArray m j=true->L j=true)->(∀ (j:Nat) (x:Oper) (E:Said) (t:Tmp),l[j]? = some x->Ds[j]? = some E->x.dst=some t->looks l o t=true->E (mask l x v) (v t) w) ->
   wpList P l.toArray (Ends fun b w'=>∃ u,b=(F v).put o.dst u/\R w w'/\Dm w'/\JStep l J m v o.dst u w w') [o] (F v) w)
  else ((v:Tmp->Value)->(w:World)->C w->(Region.waitsFor .any l.toArray m i=true->Cp w)->(∀ (j:Nat) (x:Oper) (E:Said) (t:Tmp),l[j]? = some x->Ds[j]? = some E->x.dst=some t->looks l o t=true->E (mask l x v) (v t) w) ->
   wpList P l.toArray (Ends fun b w'=>∃ u,b=(F v).put o.dst u/\Below w.heap.size w w'/\D (mask l o v) u w'/\JStep l J i v o.dst u w w') [o] (F v) w))/\GrowEachJ P l Ds C Cp Dm F R J m (i+1) os Dr
 | _,_,_=>False
section
variable {P:Program} {l:List Oper} {ds:List Tmp} {Ds:List Said} {n m:Nat} {R:World->World->Prop} {J:Joint} {a:Act} {C Cp Dm:World->Prop} {F:(Tmp->Value)->Act} {Q:Exit->Act->World->Prop}
end
end
end Go.Proofs.YtgemihkcihigpaaGreatDoor
