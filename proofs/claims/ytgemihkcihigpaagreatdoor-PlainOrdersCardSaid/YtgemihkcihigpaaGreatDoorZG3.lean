/- A drawn region that executes a statement and keeps the new state in a box of its own: what. -/
import Derived.Test.YtgemihkcihigpaaGreatDoorZD34
import Derived.Test.YtgemihkcihigpaaGreatDoorZG1
set_option linter.unusedVariables false
set_option linter.unusedSimpArgs false
set_option maxRecDepth 100000
set_option maxHeartbeats 64000000
namespace Go.Proofs.YtgemihkcihigpaaGreatDoor
section
open Go Go.RowKit
structure Keep where
 ib:Nat
 ic:Nat
 im:Nat
 ie:Nat
 mm:Nat
 ia:Nat
 ta:Tmp
 tb:Tmp
 tc:Tmp
 tm:Tmp
 te:Tmp
def stV (b1:Option Addr) (d1:Nat) (b2:Option Addr) (d2:Nat):Value:=.agg #[.slice b1 2 d1,.slice b2 2 d2]
def NewSt (A B:List (List Val)) (s:Value) (w:World) (ok:Nat->Prop):Prop:=∃ b1 d1 b2 d2 p,s=stV b1 d1 b2 d2/\TwoAt p w b1 d1 b2 d2 A B/\∀ k,p k->k<w.heap.size/\ok k
def notBox (K:Keep) (L:Nat->Bool) (v:Tmp->Value) (k:Nat):Prop:=(L K.ib=true->v K.tb ≠ .pointer (some ⟨k,0,none⟩))/\(L K.ia=true->v K.ta ≠ .pointer (some ⟨k,0,none⟩))
def KeepJ (K:Keep) (S:Nat) (A B:List (List Val)):Joint:=fun L v w =>
 (L K.ia=true->∃ q,v K.ta=.pointer (some ⟨q,0,none⟩)/\S<=q/\q<w.heap.size) /\
 (L K.ib=true->∃ q,v K.tb=.pointer (some ⟨q,0,none⟩)/\S<=q/\q<w.heap.size/\(L K.mm=false->w.heap[q]? = some (.cells #[.slice none 0 0,.slice none 0 0] 27 (0,0)))) /\
 (L K.ic=true->∃ s x,v K.tc=.tuple #[s,x]/\NewSt A B s w (notBox K L v)) /\
 (L K.im=true->L K.ic=true/\v K.tm=v K.tc) /\
 (L K.ie=true->L K.im=true/\∃ s x,v K.tm=.tuple #[s,x]/\v K.te=s) /\
 (L K.mm=true->L K.ib=true/\L K.ie=true/\∃ q s b1 d1 b2 d2 x,v K.tb=.pointer (some ⟨q,0,none⟩)/\v K.tc=.tuple #[s,x]/\s=stV b1 d1 b2 d2/\w.heap[q]? = some (.cells #[.slice b1 2 d1,.slice b2 2 d2] 27 (0,0)))
structure Keep.Apart (K:Keep):Prop where
 i1:K.ib ≠ K.ic/\K.ib ≠ K.im/\K.ib ≠ K.ie/\K.ib ≠ K.mm
 i2:K.ic ≠ K.im/\K.ic ≠ K.ie/\K.ic ≠ K.mm
 i3:K.im ≠ K.ie/\K.im ≠ K.mm/\K.ie ≠ K.mm
 t1:K.tb ≠ K.tc/\K.tb ≠ K.tm/\K.tb ≠ K.te
 t2:K.tc ≠ K.tm/\K.tc ≠ K.te/\K.tm ≠ K.te
 i0:K.ia ≠ K.ib/\K.ia ≠ K.ic/\K.ia ≠ K.im/\K.ia ≠ K.ie/\K.ia ≠ K.mm
 t0:K.ta ≠ K.tb/\K.ta ≠ K.tc/\K.ta ≠ K.tm/\K.ta ≠ K.te
variable {l:List Oper} {K:Keep} {S:Nat} {A B:List (List Val)} {v:Tmp->Value} {u:Value} {w w':World}
end
end Go.Proofs.YtgemihkcihigpaaGreatDoor
