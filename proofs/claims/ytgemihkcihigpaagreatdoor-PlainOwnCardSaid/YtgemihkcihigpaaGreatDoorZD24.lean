/- States and answers in memory; what a statement's function leaves. -/
import Derived.Test.YtgemihkcihigpaaGreatDoorZD21
import Derived.Test.YtgemihkcihigpaaGreatDoorZD22
set_option linter.unusedVariables false
set_option linter.unusedSimpArgs false
set_option maxRecDepth 100000
set_option maxHeartbeats 64000000
namespace Go.Proofs.YtgemihkcihigpaaGreatDoor
section
open Go.RowKit
def StOut (p q:Nat->Prop) (w:World) (v:Value) (s:StV):Prop :=
 ∃ a1 c1 a2 c2,v=.agg #[.slice a1 s.tabs.length c1,.slice a2 s.rows.length c2]/\SlV tabR p w (.slice a1 s.tabs.length c1) s.tabs/\SlV rowsR q w (.slice a2 s.rows.length c2) s.rows
theorem StOut.keep {p q:Nat->Prop} {w w':World} {v:Value} {s:StV} (h:StOut p q w v s) (hp:∀ k,p k->k<w.heap.size->w'.heap[k]? = w.heap[k]?) (hq:∀ k,q k->k<w.heap.size->w'.heap[k]? = w.heap[k]?):StOut p q w' v s:=by
 obtain ⟨a1,c1,a2,c2,h0,h1,h2⟩:=h
 exact ⟨a1,c1,a2,c2,h0,h1.keep hp,h2.keep hq⟩
theorem StOut.weaken {p q p' q':Nat->Prop} {w:World} {v:Value} {s:StV} (h:StOut p q w v s) (hp:∀ k,p k->p' k) (hq:∀ k,q k->q' k):StOut p' q' w v s:=by
 obtain ⟨a1,c1,a2,c2,h0,h1,h2⟩:=h
 exact ⟨a1,c1,a2,c2,h0,h1.weaken hp,h2.weaken hq⟩
def AnsAt (p:Nat->Prop) (w:World) (v:Value) (A:AnsV):Prop:=∃ a c,v=.agg #[.int .i64 A.err,.slice a A.rows.length c,.int .i64 A.n]/\SlV rowR p w (.slice a A.rows.length c) A.rows
theorem AnsAt.keep {p:Nat->Prop} {w w':World} {v:Value} {A:AnsV} (h:AnsAt p w v A) (hp:∀ k,p k->k<w.heap.size->w'.heap[k]? = w.heap[k]?):AnsAt p w' v A:=by
 obtain ⟨a,c,h0,h1⟩:=h
 exact ⟨a,c,h0,h1.keep hp⟩
theorem AnsAt.weaken {p q:Nat->Prop} {w:World} {v:Value} {A:AnsV} (h:AnsAt p w v A) (hp:∀ k,p k->q k):AnsAt q w v A:=by
 obtain ⟨a,c,h0,h1⟩:=h
 exact ⟨a,c,h0,h1.weaken hp⟩
theorem ansAt_none {p:Nat->Prop} (w:World) (e n:Int):AnsAt p w (.agg #[.int .i64 e,.slice none 0 0,.int .i64 n]) ⟨e,[],n⟩:=⟨none,0,rfl,none,0,rfl,jR _,Nat.zero_le _,RowAt.nil⟩
def DoesPost (p:Nat->Prop) (w:World) (old:Prop) (r:Int × StV × AnsV) (e:Ending) (w':World):Prop :=
 ∃ x1 l1 y1 x2 l2 y2 x3 l3 y3 nn,e=.returned (.tuple #[.agg #[.slice x1 l1 y1,.slice x2 l2 y2],.agg #[.int .i64 r.1,.slice x3 l3 y3,.int .i64 nn]])/\Below w.heap.size w w' /\
  (r.1=0->StOut (fun k=>p k \/ w.heap.size<=k) (fun k=>(old/\p k) \/ w.heap.size<=k) w' (.agg #[.slice x1 l1 y1,.slice x2 l2 y2]) r.2.1/\AnsAt (fun k=>w.heap.size<=k) w' (.agg #[.int .i64 r.1,.slice x3 l3 y3,.int .i64 nn]) r.2.2)
def RowsSmall (R:List (List (List Val))):Prop:=R.length<=1000000/\(∀ x ∈ R,x.length<=1000000)/\∀ x ∈ R,∀ y ∈ x,y.length<=1000000
theorem CatOk.small {C:List Tab} (h:CatOk C):TabsSmall C:=by
 refine ⟨by have:=h.len;omega,fun t ht=>?_⟩
 have h1:=h.tab t ht
 exact ⟨by have:=h1.len;omega,by have:=h1.ixs;omega,fun x hx=>by have:=(h1.ix x hx).len;omega⟩
theorem named_size {s:ByteArray} (h:namedB s=true):s.size<=maxLen:=by
 simp [namedB] at h
 unfold maxLen
 omega
theorem CatOk.names {C:List Tab} (h:CatOk C):∀ t ∈ C,∀ c ∈ t.cols,c.1.size<=maxLen:=fun t ht c hc=>named_size ((h.tab t ht).names c hc)
theorem tabs_raw {p:Nat->Prop} {w:World} {a:Option Addr} {C:List Tab} (h:RowAt tabR p w a C):∃ xs:List Value,RawAt w a xs/\xs.length=C.length * 4/\∀ u ∈ xs,u.oneCell'=true:=by
 rcases h with rfl|⟨b,off,rfl,_,_,h⟩
 · exact ⟨[],fun _ _ j u hj=>by simp at hj,rfl,fun u hu=>by cases hu⟩
 · have key:∀ t,∃ cs:List Value,cs.length=4/\(t<C.length->∀ j,j<4->w.cell? ⟨b,off+t * 4+j,none⟩=cs[j]?)/\∀ u ∈ cs,u.oneCell'=true:=by
    intro t
    by_cases ht:t<C.length
    · obtain ⟨cs,h1,ac,cc,ai,ci,rfl,_,_⟩:=h t ht
      exact ⟨_,rfl,fun _=>h1,fun u hu=>by
       simp only [List.mem_cons,List.not_mem_nil,or_false] at hu
       rcases hu with rfl|rfl|rfl|rfl <;> rfl⟩
    · exact ⟨[.int .i64 0,.int .i64 0,.int .i64 0,.int .i64 0],rfl,fun h=>absurd h ht,fun u hu=>by
       simp only [List.mem_cons,List.not_mem_nil,or_false] at hu
       rcases hu with rfl|rfl|rfl|rfl <;> rfl⟩
   obtain ⟨f,hf⟩:=Classical.axiomOfChoice key
   refine ⟨(List.range C.length).flatMap f,?_,by rw [flat_len (sz:=4) (fun t=>(hf t).1),List.length_range],fun u hu=>?_⟩
   · rintro ad e j u hj
     cases e
     obtain ⟨t,ht,i,hi,rfl,hu⟩:=flat_getElem (sz:=4) (fun t=>(hf t).1) _ j u hj
     rw [List.length_range] at ht
     rw [addr_add,<- Nat.add_assoc,(hf t).2.1 ht i hi]
     simpa using hu
   · obtain ⟨t,_,hu⟩:=List.mem_flatMap.1 hu
     exact (hf t).2.2 u hu
theorem copies2_sl {B:Nat} {w:World} {v:Value} {R:List (List (List Val))} {outs:List Value} (h:w.ownsRow B 41 1 v R.length outs) (hc:Copies2 B R R.length outs w) (hs:RowsSmall R):SlV rowsR (fun k=>B<=k) w v R:=by
 have one:∀ (xs:List Value) (n:Nat) (hx:xs.length=n) (t:Nat) (ht:t<n),List.take 1 (List.drop (t * 1) xs)=[xs[t]'(by omega)]:=by
  intro xs n hx t ht
  rw [Nat.mul_one,List.drop_eq_getElem_cons (by omega)]
  rfl
 obtain ⟨a,c,hv,h1,h2,_⟩:=RowAt.of_owns (R:=rowsR) (p:=fun k=>B<=k) h (fun _ h=>h) (fun t ht=>by
  show rowsR.ok _ w (List.take 1 (List.drop (t * 1) outs)) R[t]
  rw [one outs _ hc.1 t ht]
  obtain ⟨xs,h3,h4⟩:=hc.2 t (by rw [hc.1];exact ht) ht
  have hl:=hs.2.1 _ (List.getElem_mem ht)
  obtain ⟨a',c',hv',h5,h6,_⟩:=RowAt.of_owns (R:=rowR) (p:=fun k=>B<=k) h3 (fun _ h=>h) (fun i hi=>by
   show rowR.ok _ w (List.take 1 (List.drop (i * 1) xs)) R[t][i]
   rw [one xs _ h4.1 i hi]
   have h7:=h4.2 i (by rw [h4.1];exact hi) hi
   have hl2:=hs.2.2 _ (List.getElem_mem ht) _ (List.getElem_mem hi)
   obtain ⟨a2,c2,e2,h8,_,h9⟩:=sl_owned (enc:=valEnc) (sz:=3) (hl:=fun _=>rfl) h7 (by omega)
   exact ⟨a2,c2,by rw [e2],h8,by omega,h9⟩)
  exact ⟨a',c',by rw [hv'],h5,by omega,h6⟩)
 have:=hs.1
 exact ⟨a,c,hv,h1,by omega,h2⟩
end
end Go.Proofs.YtgemihkcihigpaaGreatDoor
