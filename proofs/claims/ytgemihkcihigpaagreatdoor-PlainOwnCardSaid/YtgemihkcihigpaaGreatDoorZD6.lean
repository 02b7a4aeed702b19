/- As GrowStore, but what the store changes is said by a relation between worlds; with a forc. -/
import Derived.Test.YtgemihkcihigpaaGreatDoorZD4
set_option linter.unusedVariables false
set_option linter.unusedSimpArgs false
set_option maxRecDepth 100000
set_option maxHeartbeats 64000000
namespace Go.Proofs.YtgemihkcihigpaaGreatDoor
section
open Go Go.RowKit
def StableR (R:World->World->Prop) (C:World->Prop):Prop:=∀ w w',C w->R w w'->C w'
def growAB (l:List Oper) (ds:List Tmp) (m:Nat):Bool :=
 decide (m<l.length) && growMB .any l m && (List.range l.length).all (fun i=>Nat.beq i m || growOne .any l ds i) &&
  (List.range l.length).all fun i=>match l[i]? with|none=>true|some o=>o.after.all fun e=>!Region.binds .any e || decide (e.on<i)
def GrowEachR (P:Program) (l:List Oper) (Ds:List Said) (C Cp Dm:World->Prop) (F:(Tmp->Value)->Act) (R:World->World->Prop) (m:Nat):Nat->List Oper->List Said->Prop
 | _,[],[]=>True
 | i,o :: os,D :: Dr=>(bif Nat.beq i m then
  (∀ (v:Tmp->Value) (w:World),C w->Cp w->(∀ (j:Nat) (x:Oper) (E:Said) (t:Tmp),l[j]? = some x->Ds[j]? = some E->x.dst=some t->looks l o t=true->E (mask l x v) (v t) w) ->
   wpList P l.toArray (Ends fun b w'=>∃ u,b=(F v).put o.dst u/\R w w'/\Dm w') [o] (F v) w)
  else ((v:Tmp->Value)->(w:World)->C w->(Region.waitsFor .any l.toArray m i=true->Cp w)->(∀ (j:Nat) (x:Oper) (E:Said) (t:Tmp),l[j]? = some x->Ds[j]? = some E->x.dst=some t->looks l o t=true->E (mask l x v) (v t) w) ->
   wpList P l.toArray (Ends fun b w'=>∃ u,b=(F v).put o.dst u/\Below w.heap.size w w'/\D (mask l o v) u w') [o] (F v) w))/\GrowEachR P l Ds C Cp Dm F R m (i+1) os Dr
 | _,_,_=>False
theorem growr_nil {P:Program} {l:List Oper} {Ds:List Said} {C Cp Dm:World->Prop} {F:(Tmp->Value)->Act} {R:World->World->Prop} {m i:Nat}:GrowEachR P l Ds C Cp Dm F R m i [] []:=trivial
theorem growr_cons {P:Program} {l:List Oper} {Ds:List Said} {C Cp Dm:World->Prop} {F:(Tmp->Value)->Act} {R:World->World->Prop} {m i:Nat} {o:Oper} {os:List Oper} {D:Said} {Dr:List Said} (hi:Nat.beq i m=false)
 (h:∀ (v:Tmp->Value) (w:World),C w->(∀ (j:Nat) (x:Oper) (E:Said) (t:Tmp),l[j]? = some x->Ds[j]? = some E->x.dst=some t->looks l o t=true->E (mask l x v) (v t) w) ->
  wpList P l.toArray (fun e b w'=>e=.normal/\∃ u,b=(F v).put o.dst u/\Below w.heap.size w w'/\D (mask l o v) u w') [o] (F v) w)
 (hr:GrowEachR P l Ds C Cp Dm F R m (i+1) os Dr):GrowEachR P l Ds C Cp Dm F R m i (o :: os) (D :: Dr):=⟨by rw [hi];exact fun v w hc _ hd=>h v w hc hd,hr⟩
theorem growr_ahead {P:Program} {l:List Oper} {Ds:List Said} {C Cp Dm:World->Prop} {F:(Tmp->Value)->Act} {R:World->World->Prop} {m i:Nat} {o:Oper} {os:List Oper} {D:Said} {Dr:List Said} (hi:Nat.beq i m=false) (hw:Region.waitsFor .any l.toArray m i=true)
 (h:∀ (v:Tmp->Value) (w:World),C w->Cp w->(∀ (j:Nat) (x:Oper) (E:Said) (t:Tmp),l[j]? = some x->Ds[j]? = some E->x.dst=some t->looks l o t=true->E (mask l x v) (v t) w) ->
  wpList P l.toArray (fun e b w'=>e=.normal/\∃ u,b=(F v).put o.dst u/\Below w.heap.size w w'/\D (mask l o v) u w') [o] (F v) w)
 (hr:GrowEachR P l Ds C Cp Dm F R m (i+1) os Dr):GrowEachR P l Ds C Cp Dm F R m i (o :: os) (D :: Dr):=⟨by rw [hi];exact fun v w hc hp hd=>h v w hc (hp hw) hd,hr⟩
theorem growr_one {P:Program} {l:List Oper} {Ds:List Said} {C Cp Dm:World->Prop} {F:(Tmp->Value)->Act} {R:World->World->Prop} {m i:Nat} {o:Oper} {os:List Oper} {D:Said} {Dr:List Said} (hi:Nat.beq i m=true)
 (h:∀ (v:Tmp->Value) (w:World),C w->Cp w->(∀ (j:Nat) (x:Oper) (E:Said) (t:Tmp),l[j]? = some x->Ds[j]? = some E->x.dst=some t->looks l o t=true->E (mask l x v) (v t) w) ->
  wpList P l.toArray (fun e b w'=>e=.normal/\∃ u,b=(F v).put o.dst u/\R w w'/\Dm w') [o] (F v) w)
 (hr:GrowEachR P l Ds C Cp Dm F R m (i+1) os Dr):GrowEachR P l Ds C Cp Dm F R m i (o :: os) (D :: Dr):=⟨by rw [hi];exact h,hr⟩
theorem growr_at {P:Program} {l:List Oper} {Ds:List Said} {C Cp Dm:World->Prop} {F:(Tmp->Value)->Act} {R:World->World->Prop} {m:Nat}:∀ (k:Nat) (os:List Oper) (Dr:List Said),GrowEachR P l Ds C Cp Dm F R m k os Dr->Dr.length=os.length/\∀ (i:Nat) (o:Oper),os[i]? = some o->∃ D,Dr[i]? = some D /\
 (bif Nat.beq (k+i) m then
  (∀ (v:Tmp->Value) (w:World),C w->Cp w->(∀ (j:Nat) (x:Oper) (E:Said) (t:Tmp),l[j]? = some x->Ds[j]? = some E->x.dst=some t->looks l o t=true->E (mask l x v) (v t) w) ->
   wpList P l.toArray (Ends fun b w'=>∃ u,b=(F v).put o.dst u/\R w w'/\Dm w') [o] (F v) w)
  else ((v:Tmp->Value)->(w:World)->C w->(Region.waitsFor .any l.toArray m (k+i)=true->Cp w)->(∀ (j:Nat) (x:Oper) (E:Said) (t:Tmp),l[j]? = some x->Ds[j]? = some E->x.dst=some t->looks l o t=true->E (mask l x v) (v t) w) ->
   wpList P l.toArray (Ends fun b w'=>∃ u,b=(F v).put o.dst u/\Below w.heap.size w w'/\D (mask l o v) u w') [o] (F v) w))
 | _,[],[],_=>⟨rfl,fun i o h=>by simp at h⟩
 | k,o :: os,D :: Dr,h=>by
  obtain ⟨h1,h2⟩:=h
  obtain ⟨h3,h4⟩:=growr_at (k+1) os Dr h2
  refine ⟨by simp [h3],fun i y hy=>?_⟩
  cases i with
  | zero=>simp at hy;subst hy;exact ⟨D,rfl,h1⟩
  | succ i =>
   obtain ⟨E,e1,e2⟩:=h4 i y (by simpa using hy)
   exact ⟨E,e1,by rw [show k+(i+1)=k+1+i by omega];exact e2⟩
 | _,[],_ :: _,h=>h.elim
 | _,_ :: _,[],h=>h.elim
section
variable {P:Program} {l:List Oper} {ds:List Tmp} {Ds:List Said} {n m:Nat} {R:World->World->Prop} {a:Act} {C Cp Dm:World->Prop} {F:(Tmp->Value)->Act} {Q:Exit->Act->World->Prop}
theorem wp_growr_any (hF:∀ v,setAll ds a v=F v) (hsz:∀ t ∈ ds,t<a.tmps.size) (hB:growSB .any l ds n m=true) (hR:∀ w w',Below w.heap.size w w'->R w w') (hC:StableR R C) (hCp:Stable Cp) (hDm:Stable Dm) (hS:∀ D ∈ Ds,∀ v u,StableR R (D v u)) (hob:GrowEachR P l Ds C Cp Dm F R m 0 (l.take n) Ds)
 (hend:∀ (v:Tmp->Value) (w:World),C w->Dm w->(∀ (j:Nat) (x:Oper) (E:Said) (t:Tmp),l[j]? = some x->Ds[j]? = some E->x.dst=some t->E (mask l x v) (v t) w)->wpList P l.toArray Q (l.drop n) (F v) w) :
 ∀ (f:Nat) (listed:Array Bool) (b:Act) (w:World),l.length<=f+(listed.toList.take n).count true->GTInv l ds Ds n a C listed b w->(listed.getD m false=false->Cp w)->(listed.getD m false=true->Dm w)->wpAny P .any l.toArray Q f listed b w:=by
 have hB':=hB
 simp only [growSB,Bool.and_eq_true,decide_eq_true_eq] at hB'
 obtain ⟨⟨⟨⟨⟨⟨⟨h0,hmn⟩,_⟩,hs⟩,hc⟩,_⟩,hseq⟩,hac⟩:=hB'
 have hn:n<l.toArray.size:=by simpa using h0
 obtain ⟨hlen,hat⟩:=growr_at 0 (l.take n) Ds hob
 obtain ⟨om,hom,hmd,hml⟩:=grows_spec_m hB
 have hDl:Ds.length=n:=by rw [hlen,List.length_take];omega
 have fin:∀ (f:Nat) (listed:Array Bool) (b:Act) (w:World),l.length<=f+(listed.toList.take n).count true->GTInv l ds Ds n a C listed b w->(listed.getD m false=true->Dm w)->(∀ k,k<n->listed.getD k false=true)->wpAny P .any l.toArray Q f listed b w:=by
  intro f listed b w hf inv hdm hall
  have hb:F (vals b)=b:=(hF _).symm.trans (setAll_own inv.defers inv.size inv.out)
  have hle:=List.count_le_length (a:=true) (l:=listed.toList.take n)
  rw [List.length_take] at hle
  have hL:listed=headList n (l.length - n):=heads_all (by omega) (by rw [inv.head.size];simp) hall (fun t h1 h2=>inv.head.tail t h1 (by simpa using h2))
  have hw:=hend (vals b) w inv.c (hdm (hall m hmn)) (fun j x E s hx hE hs'=>by
   have hj:j<n:=by have:=(List.getElem?_eq_some_iff.1 hE).1;omega
   exact inv.d j x E s hj (hall j hj) hx hE hs')
  rw [hb] at hw
  refine wpAny_le (f:=(l.drop n).length) (wpAny_of_seq (md:=.any) (Q':=Q) (l.drop n) n listed b w (fun j=>by simp [List.getElem?_drop]) ?_ hw) (by rw [List.length_drop];omega)
  rw [List.length_drop,hL]
  exact hseq
 intro f
 induction f with
 | zero =>
  intro listed b w hf inv _ _
  exfalso
  have hle:=List.count_le_length (a:=true) (l:=listed.toList.take n)
  rw [List.length_take] at hle
  omega
 | succ f ih =>
  intro listed b w hf inv hcp hdm
  by_cases hall:∀ k,k<n->listed.getD k false=true
  · exact fin _ listed b w hf inv hdm hall
  · have hb:F (vals b)=b:=(hF _).symm.trans (setAll_own inv.defers inv.size inv.out)
    have hsz':listed.size=l.length:=by rw [inv.head.size];simp
    obtain ⟨k0,hk0⟩:=Classical.not_forall.1 hall
    obtain ⟨hk0n,hk0l⟩:=Classical.not_imp.1 hk0
    have hk0f:listed.getD k0 false=false:=by simpa using hk0l
    have hk0t:listed.getD k0 true=false:=getD_in (by rw [hsz'];omega) hk0f
    refine ⟨fun h=>?_,fun i hi=>?_⟩
    · exfalso
      obtain ⟨k,hk1,hk2,hk3⟩:=least_of (p:=fun i=>listed.getD i false=false) k0 hk0f
      have hkl:k<l.length:=by omega
      have hr:k ∈ Region.ready .any l.toArray listed:=mem_ready.2 ⟨getD_in (by rw [hsz'];exact hkl) hk2,l[k],by simp [hkl],fun e he hb=>by
       have h1:=List.all_eq_true.1 hac k (List.mem_range.2 hkl)
       rw [List.getElem?_eq_getElem hkl] at h1
       have h2:=Array.all_eq_true'.1 h1 e he
       rw [hb] at h2
       have h3:=hk3 e.on (by simpa using h2)
       simpa using h3⟩
      rw [h] at hr
      cases hr
    · have hin:i<n:=Nat.lt_of_not_le fun h=>absurd hi (tail_waits hs hc hn inv.head _ k0 rfl hk0n hk0t i h)
      obtain ⟨hiu,oi,hoi,hall'⟩:=mem_ready.1 hi
      have hil:i<l.length:=by omega
      have hoi':l[i]? = some oi:=by rw [List.getElem?_toArray] at hoi;exact hoi
      have hlD:∀ {j:Nat} {E:Said},Ds[j]? = some E->j<n:=fun hE=>by have:=(List.getElem?_eq_some_iff.1 hE).1;omega
      obtain ⟨D,hD,hg⟩:=hat i oi (by rw [List.getElem?_take_of_lt hin];exact hoi')
      rw [Nat.zero_add] at hg
      have hcnt:l.length<=f+1+(listed.toList.take n).count true->l.length<=f+((listed.setIfInBounds i true).toList.take n).count true:=fun hf=>by
       have hsz2:i<(listed.toList.take n).length:=by rw [List.length_take,Array.length_toList,hsz'];omega
       have e:(listed.toList.take n)[i]=false:=by
        have:i<listed.size:=by omega
        have h2:listed[i]=false:=by simpa [this] using hiu
        simpa using h2
       have e2:((listed.setIfInBounds i true).toList.take n)=(listed.toList.take n).set i true:=by
        rw [Array.toList_setIfInBounds,List.take_set]
       rw [e2,List.count_set hsz2,e]
       simp
       omega
      by_cases him:i=m
      · subst him
        obtain rfl:oi=om:=Option.some.inj (hoi'.symm.trans hom)
        have hdep:∀ (j:Nat) (x:Oper) (E:Said) (s:Tmp),l[j]? = some x->Ds[j]? = some E->x.dst=some s->looks l oi s=true->E (mask l x (vals b)) (vals b s) w:=fun j x E s hx hE hs' hl=>by
         obtain ⟨oj,hoj,e,he,hb1,hb2⟩:=Region.waitsFor_spec (hml j x s hx hs' hl)
         obtain rfl:oi=oj:=Option.some.inj (hoi.symm.trans hoj)
         have:=hall' e he hb1
         rw [hb2] at this
         exact inv.d j x E s (hlD hE) this hx hE hs'
        rw [Nat.beq_refl] at hg
        have hw:=hg (vals b) w inv.c (hcp (getD_both hiu)) hdep
        rw [hb] at hw
        refine one_op hoi hw fun b' w' hR=>?_
        obtain ⟨u,rfl,hbl,hDu⟩:=hR
        rw [hmd]
        refine ih _ _ _ (hcnt hf) ⟨inv.head.set hi hin,inv.defers,inv.size,inv.out,hC w w' inv.c hbl,fun j x E s hj hlj hx hE hs'=>?_⟩ (fun hl=>?_) (fun _=>hDu)
        · have hji:i ≠ j:=by
           rintro rfl
           obtain rfl:oi=x:=Option.some.inj (hom.symm.trans hx)
           rw [hmd] at hs';cases hs'
          rw [getD_set_ne false hji] at hlj
          exact hS E (List.mem_of_getElem? hE) _ _ w w' (inv.d j x E s hj hlj hx hE hs') hbl
        · exfalso
          have:i<listed.size:=by rw [hsz'];exact hil
          simp [this] at hl
      · obtain ⟨o,t,ho,ht,hds,hsp⟩:=grows_spec hB hin him
        obtain rfl:oi=o:=Option.some.inj (hoi'.symm.trans ho)
        have hdep:∀ (j:Nat) (x:Oper) (E:Said) (s:Tmp),l[j]? = some x->Ds[j]? = some E->x.dst=some s->looks l oi s=true->E (mask l x (vals b)) (vals b s) w:=fun j x E s hx hE hs' hl=>by
         obtain ⟨oj,hoj,e,he,hb1,hb2⟩:=Region.waitsFor_spec ((hsp j x s hx hs').1 hl)
         obtain rfl:oi=oj:=Option.some.inj (hoi.symm.trans hoj)
         have:=hall' e he hb1
         rw [hb2] at this
         exact inv.d j x E s (hlD hE) this hx hE hs'
        have hself:looks l oi t=false:=by
         cases hl:looks l oi t with
         | false=>rfl
         | true =>
          obtain ⟨oj,hoj,e,he,hb1,hb2⟩:=Region.waitsFor_spec ((hsp i oi t ho ht).1 hl)
          obtain rfl:oi=oj:=Option.some.inj (hoi.symm.trans hoj)
          have:=hall' e he hb1
          rw [hb2,getD_both hiu] at this
          cases this
        have hmf:Nat.beq i m=false:=by
         cases h:Nat.beq i m
         · rfl
         · exact absurd (Nat.eq_of_beq_eq_true h) him
        rw [hmf] at hg
        have hw:=hg (vals b) w inv.c (fun hwt=>by
         refine hcp ?_
         cases hlm:listed.getD m false
         · rfl
         · exfalso
           obtain ⟨oj,hoj,e,he,hb1,hb2⟩:=Region.waitsFor_spec hwt
           have:=inv.head.closed m oj hoj hlm e he hb1
           rw [hb2,getD_both hiu] at this
           cases this) hdep
        rw [hb] at hw
        refine one_op hoi hw fun b' w' hR=>?_
        obtain ⟨u,rfl,hbl0,hDu⟩:=hR
        have hbl:R w w':=hR w w' hbl0
        rw [ht]
        have htz:t<b.tmps.size:=by rw [inv.size];exact hsz t hds
        refine ih _ _ _ (hcnt hf) ⟨inv.head.set hi hin,inv.defers,(size_put _ _ _).trans inv.size,fun s hs'=>?_,hC w w' inv.c hbl,fun j x E s hj hlj hx hE hs'=>?_⟩ (fun hl=>?_) (fun hl=>?_)
        · rw [show (b.put (some t) u).tmps=b.tmps.setIfInBounds t u from rfl,Array.getElem?_setIfInBounds_ne (fun e:t=s=>hs' (by rw [<- e];exact hds))]
          exact inv.out s hs'
        · by_cases hji:i=j
          · subst hji
            obtain rfl:oi=x:=Option.some.inj (ho.symm.trans hx)
            obtain rfl:D=E:=Option.some.inj (hD.symm.trans hE)
            obtain rfl:t=s:=Option.some.inj (ht.symm.trans hs')
            rw [mask_put hself,vals_eq htz]
            exact hDu
          · rw [getD_set_ne false hji] at hlj
            have hlk:looks l x t=false:=by
             cases hl:looks l x t with
             | false=>rfl
             | true =>
              have hwt:Region.waitsFor .any l.toArray j i=true:=by
               by_cases hjm:j=m
               · subst hjm
                 obtain rfl:x=om:=Option.some.inj (hx.symm.trans hom)
                 exact hml i oi t ho ht hl
               · obtain ⟨_,_,hx',_,_,hsp'⟩:=grows_spec hB hj hjm
                 obtain rfl:=Option.some.inj (hx.symm.trans hx')
                 exact (hsp' i oi t ho ht).1 hl
              obtain ⟨oj,hoj,e,he,hb1,hb2⟩:=Region.waitsFor_spec hwt
              have:=inv.head.closed j oj hoj hlj e he hb1
              rw [hb2,getD_both hiu] at this
              cases this
            rw [mask_put hlk,vals_ne ((hsp j x s hx hs').2 hji)]
            exact hS E (List.mem_of_getElem? hE) _ _ w w' (inv.d j x E s hj hlj hx hE hs') hbl
        · rw [getD_set_ne false him] at hl
          exact hCp w w' (hcp hl) hbl0
        · rw [getD_set_ne false him] at hl
          exact hDm w w' (hdm hl) hbl0
theorem wp_region_growr {id:Nat} {w:World} (n m:Nat) (R:World->World->Prop) (ds:List Tmp) (Ds:List Said) (C Cp Dm:World->Prop) (hF:∀ v,setAll ds a v=F v) (hm:P.follows .mixedOrders=true) (hB:growSB .any l ds n m=true) (hsz:(ds.all fun t=>decide (t<a.tmps.size))=true)
 (hR:∀ w w',Below w.heap.size w w'->R w w') (hC:StableR R C) (hCp:Stable Cp) (hDm:Stable Dm) (hw:C w.drew) (hwp:Cp w.drew) (hS:∀ D ∈ Ds,∀ v u,StableR R (D v u)) (hob:GrowEachR P l Ds C Cp Dm F R m 0 (l.take n) Ds)
 (hend:∀ (v:Tmp->Value) (w:World),C w->Dm w->(∀ (j:Nat) (x:Oper) (E:Said) (t:Tmp),l[j]? = some x->Ds[j]? = some E->x.dst=some t->E (mask l x v) (v t) w)->wpList P l.toArray Q (l.drop n) (F v) w):(Code.region id l.toArray true).wp P Q a w:=by
 refine wp_region_any hm ?_
 refine wp_growr_any hF (fun t ht=>by simpa using List.all_eq_true.1 hsz t ht) hB hR hC hCp hDm hS hob hend _ _ a w.drew (by simp) ⟨⟨by simp,fun j oj _ hl=>(by rw [getD_replicate_false] at hl;cases hl),fun t _ ht=>getD_in (by simpa using ht) (getD_replicate_false _ _)⟩,rfl,rfl,fun _ _=>rfl,hw,fun j x E s hj hl=>?_⟩ (fun _=>hwp) (fun hl=>?_)
 · rw [getD_replicate_false] at hl
   cases hl
 · rw [getD_replicate_false] at hl
   cases hl
theorem growa_spec {i:Nat} (h:growAB l ds m=true) (hi:i<l.length) (him:i ≠ m):∃ o t,l[i]? = some o/\o.dst=some t/\t ∈ ds/\∀ (j:Nat) (x:Oper) (s:Tmp),l[j]? = some x->x.dst=some s->(looks l o s=true->Region.waitsFor .any l.toArray i j=true)/\(i ≠ j->s ≠ t):=by
 simp only [growAB,Bool.and_eq_true,List.all_eq_true,List.mem_range,decide_eq_true_eq,Bool.or_eq_true] at h
 have h1:=(h.1.2 i hi).resolve_left (fun e=>him (Nat.eq_of_beq_eq_true e))
 refine ⟨l[i],?_⟩
 have ho:l[i]? = some l[i]:=List.getElem?_eq_getElem hi
 simp only [growOne,ho,Bool.and_eq_true,List.all_eq_true,List.mem_range] at h1
 obtain ⟨h2,h3⟩:=h1
 cases hd:l[i].dst with
 | none=>rw [hd] at h2;simp at h2
 | some t =>
  rw [hd] at h2
  refine ⟨t,ho,rfl,any_beq.1 h2,fun j x s hx hs=>?_⟩
  have hj:j<l.length:=(List.getElem?_eq_some_iff.1 hx).1
  have h4:=h3 j hj
  rw [hx] at h4
  simp only [hs,hd,Bool.and_eq_true,Bool.or_eq_true,Bool.not_eq_true',beq_iff_eq,bne_iff_ne,ne_eq,Option.some.injEq] at h4
  exact ⟨fun hl=>by rcases h4.1 with h5|h5;· rw [hl] at h5;cases h5
                    · exact h5,fun hij=>by rcases h4.2 with h5|h5;· exact absurd h5 hij
                                           · exact h5⟩
theorem growa_spec_m (h:growAB l ds m=true):∃ o,l[m]? = some o/\o.dst=none/\∀ (j:Nat) (x:Oper) (s:Tmp),l[j]? = some x->x.dst=some s->looks l o s=true->Region.waitsFor .any l.toArray m j=true:=by
 simp only [growAB,Bool.and_eq_true] at h
 have h1:=h.1.1.2
 unfold growMB at h1
 cases ho:l[m]? with
 | none=>rw [ho] at h1;cases h1
 | some o =>
  rw [ho] at h1
  simp only [Bool.and_eq_true,List.all_eq_true,List.mem_range] at h1
  refine ⟨o,rfl,by simpa using h1.1,fun j x s hx hs hl=>?_⟩
  have hj:j<l.length:=(List.getElem?_eq_some_iff.1 hx).1
  have h4:=h1.2 j hj
  rw [hx] at h4
  simp only [hs,Bool.or_eq_true,Bool.not_eq_true'] at h4
  rcases h4 with h5|h5
  · rw [hl] at h5;cases h5
  · exact h5
theorem wp_growa_any (hF:∀ v,setAll ds a v=F v) (hsz:∀ t ∈ ds,t<a.tmps.size) (hB:growAB l ds m=true) (hR:∀ w w',Below w.heap.size w w'->R w w') (hC:StableR R C) (hCp:Stable Cp) (hDm:Stable Dm) (hS:∀ D ∈ Ds,∀ v u,StableR R (D v u)) (hob:GrowEachR P l Ds C Cp Dm F R m 0 l Ds)
 (hend:∀ (v:Tmp->Value) (w:World),C w->Dm w->(∀ (j:Nat) (x:Oper) (E:Said) (t:Tmp),l[j]? = some x->Ds[j]? = some E->x.dst=some t->E (mask l x v) (v t) w)->Q .normal (F v) w) :
 ∀ (f:Nat) (listed:Array Bool) (b:Act) (w:World),l.length<=f+(listed.toList.take l.length).count true->GTInv l ds Ds l.length a C listed b w->(listed.getD m false=false->Cp w)->(listed.getD m false=true->Dm w)->wpAny P .any l.toArray Q f listed b w:=by
 have hB':=hB
 simp only [growAB,Bool.and_eq_true,decide_eq_true_eq] at hB'
 obtain ⟨⟨⟨hmn,_⟩,_⟩,hac⟩:=hB'
 obtain ⟨n,hnl⟩:∃ n,n=l.length:=⟨_,rfl⟩
 obtain ⟨hlen,hat⟩:=growr_at 0 l Ds hob
 obtain ⟨om,hom,hmd,hml⟩:=growa_spec_m hB
 have hDl:Ds.length=l.length:=hlen
 have fin:∀ (f:Nat) (listed:Array Bool) (b:Act) (w:World),GTInv l ds Ds l.length a C listed b w->(listed.getD m false=true->Dm w)->(∀ k,k<l.length->listed.getD k false=true)->wpAny P .any l.toArray Q f listed b w:=by
  intro f listed b w inv hdm hall
  have hb:F (vals b)=b:=(hF _).symm.trans (setAll_own inv.defers inv.size inv.out)
  have hw:=hend (vals b) w inv.c (hdm (hall m hmn)) (fun j x E s hx hE hs'=>by
   have hj:j<l.length:=(List.getElem?_eq_some_iff.1 hx).1
   exact inv.d j x E s hj (hall j hj) hx hE hs')
  rw [hb] at hw
  have hno:Region.ready .any l.toArray listed=[]:=by
   cases hr:Region.ready .any l.toArray listed with
   | nil=>rfl
   | cons i r =>
    exfalso
    have hi:i ∈ Region.ready .any l.toArray listed:=by rw [hr];exact List.mem_cons_self ..
    obtain ⟨hiu,oi,hoi,_⟩:=mem_ready.1 hi
    have hil:i<l.length:=by have:=(Array.getElem?_eq_some_iff.1 hoi).1;simpa using this
    have:=hall i hil
    rw [getD_both hiu] at this
    cases this
  cases f with
  | zero=>exact ⟨hno,hw⟩
  | succ f=>exact ⟨fun _=>hw,fun i hi=>by rw [hno] at hi;cases hi⟩
 intro f
 induction f with
 | zero =>
  intro listed b w hf inv hcp hdm
  exact fin 0 listed b w inv (by assumption) (fun k hk=>by
   have hsz':listed.size=l.length:=by rw [inv.head.size];simp
   have hle:=List.count_le_length (a:=true) (l:=listed.toList.take l.length)
   have e1:listed.toList.take l.length=listed.toList:=List.take_of_length_le (by simp [hsz'])
   rw [e1] at hf hle
   have hl2:listed.toList.length=l.length:=by rw [<- hsz'];exact Array.length_toList
   have hc:List.count true listed.toList=listed.toList.length:=by omega
   have:=List.count_eq_length.1 hc
   have hk':k<listed.size:=by rw [hsz'];exact hk
   have h3:=this listed[k] (by simp)
   simp [hk',<- h3])
 | succ f ih =>
  intro listed b w hf inv hcp hdm
  by_cases hall:∀ k,k<l.length->listed.getD k false=true
  · exact fin _ listed b w inv hdm hall
  · have hb:F (vals b)=b:=(hF _).symm.trans (setAll_own inv.defers inv.size inv.out)
    have hsz':listed.size=l.length:=by rw [inv.head.size];simp
    obtain ⟨k0,hk0⟩:=Classical.not_forall.1 hall
    obtain ⟨hk0n,hk0l⟩:=Classical.not_imp.1 hk0
    have hk0f:listed.getD k0 false=false:=by simpa using hk0l
    have hk0t:listed.getD k0 true=false:=getD_in (by rw [hsz'];omega) hk0f
    refine ⟨fun h=>?_,fun i hi=>?_⟩
    · exfalso
      obtain ⟨k,hk1,hk2,hk3⟩:=least_of (p:=fun i=>listed.getD i false=false) k0 hk0f
      have hkl:k<l.length:=by omega
      have hr:k ∈ Region.ready .any l.toArray listed:=mem_ready.2 ⟨getD_in (by rw [hsz'];exact hkl) hk2,l[k],by simp [hkl],fun e he hb=>by
       have h1:=List.all_eq_true.1 hac k (List.mem_range.2 hkl)
       rw [List.getElem?_eq_getElem hkl] at h1
       have h2:=Array.all_eq_true'.1 h1 e he
       rw [hb] at h2
       have h3:=hk3 e.on (by simpa using h2)
       simpa using h3⟩
      rw [h] at hr
      cases hr
    · obtain ⟨hiu,oi,hoi,hall'⟩:=mem_ready.1 hi
      have hil:i<l.length:=by have:=(Array.getElem?_eq_some_iff.1 hoi).1;simpa using this
      have hin:i<l.length:=hil
      have hoi':l[i]? = some oi:=by rw [List.getElem?_toArray] at hoi;exact hoi
      have hlD:∀ {j:Nat} {E:Said},Ds[j]? = some E->j<l.length:=fun hE=>by have:=(List.getElem?_eq_some_iff.1 hE).1;omega
      obtain ⟨D,hD,hg⟩:=hat i oi hoi'
      rw [Nat.zero_add] at hg
      have hcnt:l.length<=f+1+(listed.toList.take l.length).count true->l.length<=f+((listed.setIfInBounds i true).toList.take l.length).count true:=fun hf=>by
       have hsz2:i<(listed.toList.take l.length).length:=by
        have hl2:listed.toList.length=l.length:=by rw [<- hsz'];exact Array.length_toList
        rw [List.length_take,hl2];omega
       have e:(listed.toList.take l.length)[i]=false:=by
        have:i<listed.size:=by omega
        have h2:listed[i]=false:=by simpa [this] using hiu
        simpa using h2
       have e2:((listed.setIfInBounds i true).toList.take l.length)=(listed.toList.take l.length).set i true:=by
        rw [Array.toList_setIfInBounds,List.take_set]
       rw [e2,List.count_set hsz2,e]
       simp
       omega
      by_cases him:i=m
      · subst him
        obtain rfl:oi=om:=Option.some.inj (hoi'.symm.trans hom)
        have hdep:∀ (j:Nat) (x:Oper) (E:Said) (s:Tmp),l[j]? = some x->Ds[j]? = some E->x.dst=some s->looks l oi s=true->E (mask l x (vals b)) (vals b s) w:=fun j x E s hx hE hs' hl=>by
         obtain ⟨oj,hoj,e,he,hb1,hb2⟩:=Region.waitsFor_spec (hml j x s hx hs' hl)
         obtain rfl:oi=oj:=Option.some.inj (hoi.symm.trans hoj)
         have:=hall' e he hb1
         rw [hb2] at this
         exact inv.d j x E s (hlD hE) this hx hE hs'
        rw [Nat.beq_refl] at hg
        have hw:=hg (vals b) w inv.c (hcp (getD_both hiu)) hdep
        rw [hb] at hw
        refine one_op hoi hw fun b' w' hR=>?_
        obtain ⟨u,rfl,hbl,hDu⟩:=hR
        rw [hmd]
        refine ih _ _ _ (hcnt hf) ⟨inv.head.set hi hin,inv.defers,inv.size,inv.out,hC w w' inv.c hbl,fun j x E s hj hlj hx hE hs'=>?_⟩ (fun hl=>?_) (fun _=>hDu)
        · have hji:i ≠ j:=by
           rintro rfl
           obtain rfl:oi=x:=Option.some.inj (hom.symm.trans hx)
           rw [hmd] at hs';cases hs'
          rw [getD_set_ne false hji] at hlj
          exact hS E (List.mem_of_getElem? hE) _ _ w w' (inv.d j x E s hj hlj hx hE hs') hbl
        · exfalso
          have:i<listed.size:=by rw [hsz'];exact hil
          simp [this] at hl
      · obtain ⟨o,t,ho,ht,hds,hsp⟩:=growa_spec hB hin him
        obtain rfl:oi=o:=Option.some.inj (hoi'.symm.trans ho)
        have hdep:∀ (j:Nat) (x:Oper) (E:Said) (s:Tmp),l[j]? = some x->Ds[j]? = some E->x.dst=some s->looks l oi s=true->E (mask l x (vals b)) (vals b s) w:=fun j x E s hx hE hs' hl=>by
         obtain ⟨oj,hoj,e,he,hb1,hb2⟩:=Region.waitsFor_spec ((hsp j x s hx hs').1 hl)
         obtain rfl:oi=oj:=Option.some.inj (hoi.symm.trans hoj)
         have:=hall' e he hb1
         rw [hb2] at this
         exact inv.d j x E s (hlD hE) this hx hE hs'
        have hself:looks l oi t=false:=by
         cases hl:looks l oi t with
         | false=>rfl
         | true =>
          obtain ⟨oj,hoj,e,he,hb1,hb2⟩:=Region.waitsFor_spec ((hsp i oi t ho ht).1 hl)
          obtain rfl:oi=oj:=Option.some.inj (hoi.symm.trans hoj)
          have:=hall' e he hb1
          rw [hb2,getD_both hiu] at this
          cases this
        have hmf:Nat.beq i m=false:=by
         cases h:Nat.beq i m
         · rfl
         · exact absurd (Nat.eq_of_beq_eq_true h) him
        rw [hmf] at hg
        have hw:=hg (vals b) w inv.c (fun hwt=>by
         refine hcp ?_
         cases hlm:listed.getD m false
         · rfl
         · exfalso
           obtain ⟨oj,hoj,e,he,hb1,hb2⟩:=Region.waitsFor_spec hwt
           have:=inv.head.closed m oj hoj hlm e he hb1
           rw [hb2,getD_both hiu] at this
           cases this) hdep
        rw [hb] at hw
        refine one_op hoi hw fun b' w' hR=>?_
        obtain ⟨u,rfl,hbl0,hDu⟩:=hR
        have hbl:R w w':=hR w w' hbl0
        rw [ht]
        have htz:t<b.tmps.size:=by rw [inv.size];exact hsz t hds
        refine ih _ _ _ (hcnt hf) ⟨inv.head.set hi hin,inv.defers,(size_put _ _ _).trans inv.size,fun s hs'=>?_,hC w w' inv.c hbl,fun j x E s hj hlj hx hE hs'=>?_⟩ (fun hl=>?_) (fun hl=>?_)
        · rw [show (b.put (some t) u).tmps=b.tmps.setIfInBounds t u from rfl,Array.getElem?_setIfInBounds_ne (fun e:t=s=>hs' (by rw [<- e];exact hds))]
          exact inv.out s hs'
        · by_cases hji:i=j
          · subst hji
            obtain rfl:oi=x:=Option.some.inj (ho.symm.trans hx)
            obtain rfl:D=E:=Option.some.inj (hD.symm.trans hE)
            obtain rfl:t=s:=Option.some.inj (ht.symm.trans hs')
            rw [mask_put hself,vals_eq htz]
            exact hDu
          · rw [getD_set_ne false hji] at hlj
            have hlk:looks l x t=false:=by
             cases hl:looks l x t with
             | false=>rfl
             | true =>
              have hwt:Region.waitsFor .any l.toArray j i=true:=by
               by_cases hjm:j=m
               · subst hjm
                 obtain rfl:x=om:=Option.some.inj (hx.symm.trans hom)
                 exact hml i oi t ho ht hl
               · obtain ⟨_,_,hx',_,_,hsp'⟩:=growa_spec hB hj hjm
                 obtain rfl:=Option.some.inj (hx.symm.trans hx')
                 exact (hsp' i oi t ho ht).1 hl
              obtain ⟨oj,hoj,e,he,hb1,hb2⟩:=Region.waitsFor_spec hwt
              have:=inv.head.closed j oj hoj hlj e he hb1
              rw [hb2,getD_both hiu] at this
              cases this
            rw [mask_put hlk,vals_ne ((hsp j x s hx hs').2 hji)]
            exact hS E (List.mem_of_getElem? hE) _ _ w w' (inv.d j x E s hj hlj hx hE hs') hbl
        · rw [getD_set_ne false him] at hl
          exact hCp w w' (hcp hl) hbl0
        · rw [getD_set_ne false him] at hl
          exact hDm w w' (hdm hl) hbl0
theorem wp_region_growa {id:Nat} {w:World} (m:Nat) (R:World->World->Prop) (ds:List Tmp) (Ds:List Said) (C Cp Dm:World->Prop) (hF:∀ v,setAll ds a v=F v) (hm:P.follows .mixedOrders=true) (hB:growAB l ds m=true) (hsz:(ds.all fun t=>decide (t<a.tmps.size))=true)
 (hR:∀ w w',Below w.heap.size w w'->R w w') (hC:StableR R C) (hCp:Stable Cp) (hDm:Stable Dm) (hw:C w.drew) (hwp:Cp w.drew) (hS:∀ D ∈ Ds,∀ v u,StableR R (D v u)) (hob:GrowEachR P l Ds C Cp Dm F R m 0 l Ds)
 (hend:∀ (v:Tmp->Value) (w:World),C w->Dm w->(∀ (j:Nat) (x:Oper) (E:Said) (t:Tmp),l[j]? = some x->Ds[j]? = some E->x.dst=some t->E (mask l x v) (v t) w)->Q .normal (F v) w):(Code.region id l.toArray true).wp P Q a w:=by
 refine wp_region_any hm ?_
 refine wp_growa_any hF (fun t ht=>by simpa using List.all_eq_true.1 hsz t ht) hB hR hC hCp hDm hS hob hend _ _ a w.drew (by simp) ⟨⟨by simp,fun j oj _ hl=>(by rw [getD_replicate_false] at hl;cases hl),fun t _ ht=>getD_in (by simpa using ht) (getD_replicate_false _ _)⟩,rfl,rfl,fun _ _=>rfl,hw,fun j x E s hj hl=>?_⟩ (fun _=>hwp) (fun hl=>?_)
 · rw [getD_replicate_false] at hl
   cases hl
 · rw [getD_replicate_false] at hl
   cases hl
end
end
end Go.Proofs.YtgemihkcihigpaaGreatDoor
