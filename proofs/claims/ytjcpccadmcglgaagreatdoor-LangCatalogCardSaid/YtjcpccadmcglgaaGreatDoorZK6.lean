/- append of a slice of multi-cell elements, of any capacity and perhaps nil, to a list of on. -/
import Derived.Test.YtjcpccadmcglgaaGreatDoorZK5
import Derived.Laws.AppendOwnNone
import Derived.Maps.AppendAt
set_option linter.unusedVariables false
set_option linter.unusedSimpArgs false
set_option maxRecDepth 100000
set_option maxHeartbeats 64000000
namespace Go.Proofs.YtjcpccadmcglgaaGreatDoor
section
open Go.RowKit
theorem run_append_flat_nil {P:Program} {w:World} (base:Nat) (t ty e:TypeId) (i:TypeInfo) (size:Nat) (ht:P.underlying t=some (.slice e)) (hi:P.info? e=some i) (v:Value) (n c:Nat) (xs:List Value) (hown:w.ownsRow base e size v n xs) :
 (Builtin.append_ #[t,t] ty #[v,.slice none 0 c]).run P w=.ok v w:=by
 rcases hown.2 with ⟨rfl,rfl⟩|⟨g,cap,cur,rfl,_,_,hnc,_⟩
 · simp [Builtin.append_,run_underlying ht,sizeOf,typeInfo,hi,Builtin.lenOf,Builtin.firstCells]
 · simp [Builtin.append_,run_underlying ht,sizeOf,typeInfo,hi,Builtin.lenOf,Builtin.firstCells,hnc,storeCells]
theorem wpList_append_flat_nil {P:Program} {w:World} {ops:Array Oper} {rest:List Oper} {o:Oper} {a:Act} {Q:Exit->Act->World->Prop} (hgd:o.guard=none) (s x:Operand) (t:TypeId)
 (ho:o.op=.call { callee:=.builtin .append,args:=#[s,x],argTypes:=#[t,t] })
 (base:Nat) (e:TypeId) (i:TypeInfo) (size:Nat) (ht:P.underlying t=some (.slice e)) (hi:P.info? e=some i)
 (v:Value) (n c:Nat) (xs:List Value) (hs:a.eval s=v) (hown:w.ownsRow base e size v n xs) (hx:a.eval x=.slice none 0 c)
 (h:wpList P ops Q rest (a.put o.dst v) w):wpList P ops Q (o :: rest) a w:=by
 refine wpList_plain hgd fun K hK=>?_
 have hrun:=run_append_flat_nil (P:=P) (w:=w) base t o.type e i size ht hi v n c xs hown
 unfold Oper.wp
 simp [execOp,ho,resolve,invoke,builtin,hs,hx,hrun,Result.andThen]
 exact hK _ _ h
theorem wpList_append_flat_at {P:Program} {w:World} {ops:Array Oper} {rest:List Oper} {o:Oper} {a:Act} {Q:Exit->Act->World->Prop} (hgd:o.guard=none) (s x:Operand) (t:TypeId)
 (ho:o.op=.call { callee:=.builtin .append,args:=#[s,x],argTypes:=#[t,t] })
 (base:Nat) (e:TypeId) (i:TypeInfo) (z:Value) (size bytes:Nat) (ht:P.underlying t=some (.slice e)) (hi:P.info? e=some i) (hz:i.zero=some z)
 (hsize:i.size=size) (hby:i.bytes=bytes) (hzs:z.cells.size=size) (hsz:0<size)
 (v:Value) (n:Nat) (xs:List Value) (hs:a.eval s=v) (hown:w.ownsRow base e size v n xs)
 {α:Type} {enc:α->List Value} {hl:∀ x,(enc x).length=size} {p:Nat->Prop} (L:List α) (ax:Option Addr) (c:Nat) (hx:a.eval x=.slice ax L.length c) (hrow:RowAt (flatR size enc hl) p w ax L)
 (h1:∀ u ∈ L.flatMap enc,u.oneCell'=true)
 (h63:n+L.length<=maxLen) (hbytes:(n+L.length) * bytes<=140737488355328) (hbase:base<=w.heap.size)
 (h:∀ v' w',w'.ownsRow base e size v' (n+L.length) (xs ++ L.flatMap enc)->w.grownBy w' v.ownBlock->(v'.ownBlock=v.ownBlock \/ v'.ownBlock=some w.heap.size)->wpList P ops Q rest (a.put o.dst v') w'):wpList P ops Q (o :: rest) a w:=by
 cases ax with
 | none =>
  have hL:L=[]:=by
   rcases hrow with h|⟨b,off,ha,_⟩
   · exact h
   · cases ha
  subst hL
  refine wpList_append_flat_nil hgd s x t ho base e i size ht hi v n c xs hs hown hx ?_
  have:=h v w (by simpa using hown) (grownBy_refl _ _) (Or.inl rfl)
  simpa using this
 | some ad =>
  exact wpList_append_own_at w hgd s x t ho base e i z size bytes ht hi hz hsize hby hzs hsz v n xs hs hown ad L.length c (L.flatMap enc) hx (flat_len hl L) (hrow.news) h1 h63 hbytes hbase (fun v' w' h2 h3 _ h4=>h v' w' h2 h3 h4)
end
end Go.Proofs.YtjcpccadmcglgaaGreatDoor
