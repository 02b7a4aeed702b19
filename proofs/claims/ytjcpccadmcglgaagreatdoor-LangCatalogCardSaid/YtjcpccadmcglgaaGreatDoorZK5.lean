/- append of a slice that reads as a list, nil or not, to a row of the call's own. -/
import Derived.Test.YtjcpccadmcglgaaGreatDoorZK2
import Derived.Laws.AppendOwnNone
set_option linter.unusedVariables false
set_option linter.unusedSimpArgs false
set_option maxRecDepth 100000
set_option maxHeartbeats 64000000
namespace Go.Proofs.YtjcpccadmcglgaaGreatDoor
section
open Go.RowKit
theorem addr_add (b o j:Nat):(⟨b,o,none⟩:Addr).add j=⟨b,o+j,none⟩:=by unfold Addr.add;split <;> simp_all
theorem flat_getElem {α:Type} {enc:α->List Value} {sz:Nat} (hl:∀ x,(enc x).length=sz):∀ (L:List α) (j:Nat) (u:Value),(L.flatMap enc)[j]? = some u->∃ t,∃ (ht:t<L.length),∃ i,i<sz/\j=t * sz+i/\(enc L[t])[i]? = some u
 | [],j,u,h=>by simp at h
 | x :: L,j,u,h=>by
  rw [List.flatMap_cons] at h
  rcases Nat.lt_or_ge j sz with hj|hj
  · rw [List.getElem?_append_left (by rw [hl];exact hj)] at h
    exact ⟨0,by simp,j,hj,by omega,by simpa using h⟩
  · rw [List.getElem?_append_right (by rw [hl];exact hj),hl] at h
    obtain ⟨t,ht,i,hi,hji,hu⟩:=flat_getElem hl L (j - sz) u h
    refine ⟨t+1,by simpa using ht,i,hi,?_,by simpa using hu⟩
    rw [Nat.add_mul];omega
theorem flat_len {α:Type} {enc:α->List Value} {sz:Nat} (hl:∀ x,(enc x).length=sz):∀ L:List α,(L.flatMap enc).length=L.length * sz
 | []=>by simp
 | x :: L=>by rw [List.flatMap_cons,List.length_append,hl,flat_len hl L,List.length_cons,Nat.add_mul];omega
theorem RowAt.news {α:Type} {enc:α->List Value} {sz:Nat} {hl:∀ x,(enc x).length=sz} {p:Nat->Prop} {w:World} {ad:Addr} {L:List α} (h:RowAt (flatR sz enc hl) p w (some ad) L):∀ j u,(L.flatMap enc)[j]? = some u->w.cell? (ad.add j)=some u:=by
 intro j u hj
 obtain ⟨t,ht,i,hi,rfl,hu⟩:=flat_getElem hl L j u hj
 rcases h with h|⟨b,off,ha,_,_,h⟩
 · rw [h] at ht;cases ht
 · simp only [Option.some.injEq] at ha
   subst ha
   obtain ⟨cs,h1,rfl⟩:=h t ht
   rw [addr_add,<- Nat.add_assoc]
   exact (h1 i hi).trans hu
theorem grownBy_refl (w:World) (r:Option Nat):w.grownBy w r:=⟨rfl,rfl,rfl,jR _,fun _ _ _=>rfl⟩
theorem wpList_append_flat {P:Program} {w:World} {ops:Array Oper} {rest:List Oper} {o:Oper} {a:Act} {Q:Exit->Act->World->Prop} (hgd:o.guard=none) (s x:Operand) (t:TypeId)
 (ho:o.op=.call { callee:=.builtin .append,args:=#[s,x],argTypes:=#[t,t] })
 (base:Nat) (e:TypeId) (i:TypeInfo) (z:Value) (size bytes:Nat) (ht:P.underlying t=some (.slice e)) (hi:P.info? e=some i) (hz:i.zero=some z)
 (hsize:i.size=size) (hby:i.bytes=bytes) (hzs:z.cells.size=size) (hsz:0<size)
 (v:Value) (n:Nat) (xs:List Value) (hs:a.eval s=v) (hown:w.ownsRow base e size v n xs)
 {α:Type} {enc:α->List Value} {hl:∀ x,(enc x).length=size} {p:Nat->Prop} (L:List α) (ax:Option Addr) (c:Nat) (hx:a.eval x=.slice ax L.length c) (hrow:RowAt (flatR size enc hl) p w ax L) (hnone:ax=none->c=0)
 (h1:∀ x,∀ u ∈ enc x,u.oneCell'=true)
 (h63:n+L.length<=maxLen) (hbytes:(n+L.length) * bytes<=140737488355328) (hbase:base<=w.heap.size)
 (h:∀ v' w',w'.ownsRow base e size v' (n+L.length) (xs ++ L.flatMap enc)->w.grownBy w' v.ownBlock->wpList P ops Q rest (a.put o.dst v') w'):wpList P ops Q (o :: rest) a w:=by
 cases ax with
 | none =>
  have hL:L=[]:=by
   rcases hrow with h|⟨b,off,ha,_⟩
   · exact h
   · cases ha
  subst hL
  have hc:=hnone rfl
  subst hc
  refine wpList_append_own_none hgd s x t ho base e i size ht hi v n xs hs hown hx ?_
  have:=h v w (by simpa using hown) (grownBy_refl _ _)
  simpa using this
 | some ad =>
  exact wpList_append_own w hgd s x t ho base e i z size bytes ht hi hz hsize hby hzs hsz v n xs hs hown ad L.length c (L.flatMap enc) hx (flat_len hl L) (hrow.news) (fun u hu=>by
   obtain ⟨y,_,hy⟩:=List.mem_flatMap.1 hu
   exact h1 y u hy) h63 hbytes hbase (fun v' w' h2 h3 _=>h v' w' h2 h3)
theorem row_not {W:World} {k:Nat} {cs:Array Value} {T:TypeId} {fz:Nat × Nat} (h:W.heap[k]? = some (.cells cs T fz)) {base:Nat} {e:TypeId} {size:Nat} {v:Value} {n:Nat} {xs:List Value} (hr:W.ownsRow base e size v n xs) (hT:T ≠ e):some k ≠ v.ownBlock:=by
 rcases hr.2 with ⟨rfl,_⟩|⟨g,cap,cur,rfl,_,hgb,_⟩
 · simp [Value.ownBlock]
 · intro e'
   obtain rfl:k=g:=by simpa [Value.ownBlock] using e'
   rw [h] at hgb
   simp at hgb
   exact hT hgb.2.1
theorem owns_base {w:World} {base base':Nat} {e:TypeId} {size:Nat} {v:Value} {n:Nat} {xs:List Value} (h:w.ownsRow base e size v n xs) (hb:base'<=base):w.ownsRow base' e size v n xs:=by
 refine ⟨h.1,?_⟩
 rcases h.2 with h0|⟨g,cap,cur,h1,h2,h3⟩
 · exact Or.inl h0
 · exact Or.inr ⟨g,cap,cur,h1,Nat.le_trans hb h2,h3⟩
theorem owns_below {w w':World} {base:Nat} {e:TypeId} {size:Nat} {v:Value} {n:Nat} {xs:List Value} (h:w.ownsRow base e size v n xs) (hb:Below w.heap.size w w'):w'.ownsRow base e size v n xs :=
 h.kept (row:=none) ⟨hb.os,hb.tape,hb.output,hb.size,fun k hk _=>hb.block k hk⟩ (by cases hv:v.ownBlock <;> simp)
end
end Go.Proofs.YtjcpccadmcglgaaGreatDoor
