/- A region that draws its order: its operations are quiet in a class of worlds but for the l. -/
import Derived.Test.YtjcpccadmcglgaaGreatDoorZK3
import Derived.StillTail
set_option linter.unusedVariables false
set_option linter.unusedSimpArgs false
set_option maxRecDepth 100000
set_option maxHeartbeats 64000000
namespace Go.Proofs.YtjcpccadmcglgaaGreatDoor
section
open Go Go.RowKit
section
variable {P:Program} {md:Region.Mode} {ops:Array Oper} {C:World->Prop}
def wpHeadQ (P:Program) (md:Region.Mode) (ops:Array Oper) (C:World->Prop) (n:Nat) (L:Array Bool->Act->Prop):Nat->Array Bool->Act->Prop
 | 0,listed,a=>L listed a
 | f+1,listed,a=>Region.ready md ops listed ≠ []/\∀ i ∈ Region.ready md ops listed,i<n/\qOp P ops C i (wpHeadQ P md ops C n L f (listed.setIfInBounds i true)) a
theorem any_of_headQ {n g:Nat} {L:Array Bool->Act->Prop} {Q':Exit->Act->World->Prop} (hL:∀ listed a w,C w->L listed a->wpAny P md ops Q' g listed a w) :
 ∀ (f:Nat) (listed:Array Bool) (a:Act) (w:World),C w->wpHeadQ P md ops C n L f listed a->wpAny P md ops Q' (f+g) listed a w
 | 0,listed,a,w,hC,h=>by rw [Nat.zero_add];exact hL _ _ _ hC h
 | f+1,listed,a,w,hC,h=>by
  rw [show f+1+g=(f+g)+1 by omega]
  refine ⟨fun h0=>absurd h0 h.1,fun i hi=>?_⟩
  exact wpOp_of_qOp hC (fun a' w' hw' h'=>any_of_headQ hL f _ a' w' hw' h') (h.2 i hi).2
theorem headQ_first {n i:Nat} {oi:Oper} {v:Value} {L:Array Bool->Act->Prop} (hi:ops[i]? = some oi) (hsel:∀ (j:Nat) (o:Oper) cs b,ops[j]? = some o->o.op ≠ .select cs b)
 (hs:Region.sinkB md ops n=true) (hc:Region.chainB md ops n=true) (hn:n<ops.size) (hin:i<n) (hdone:∀ listed a,L listed a->∀ j ∈ Region.ready md ops listed,n<=j) :
 ∀ (f:Nat) (listed:Array Bool) (a:Act),HeadInv md ops n listed ->
  (∀ j oj,ops[j]? = some oj->j ≠ i->listed.getD j true=false->(∀ e ∈ oj.after,Region.binds md e=true->e.on ≠ i)->oi.apart ops oj=true) ->
  i ∈ Region.ready md ops listed->YieldsIn P ops C oi v a->wpHeadQ P md ops C n L f (listed.setIfInBounds i true) (a.put oi.dst v)->wpHeadQ P md ops C n L (f+1) listed a:=by
 intro f
 induction f with
 | zero =>
  intro listed a inv _ hr hy H
  have hun:=(mem_ready.1 hr).1
  refine ⟨fun h=>(by rw [h] at hr;cases hr),fun j hj=>?_⟩
  have hjn:j<n:=Nat.lt_of_not_le fun h=>absurd hj (tail_waits hs hc hn inv _ i rfl hin hun j h)
  refine ⟨hjn,?_⟩
  by_cases hji:j=i
  · subst hji;exact hy.qOp hi H
  · have:=hdone _ _ H j (ready_mono hj hji)
    omega
 | succ f ih =>
  intro listed a inv hfree hr hy H
  have hun:=(mem_ready.1 hr).1
  refine ⟨fun h=>(by rw [h] at hr;cases hr),fun j hj=>?_⟩
  have hjn:j<n:=Nat.lt_of_not_le fun h=>absurd hj (tail_waits hs hc hn inv _ i rfl hin hun j h)
  refine ⟨hjn,?_⟩
  by_cases hji:j=i
  · subst hji;exact hy.qOp hi H
  · have h1:=(H.2 j (ready_mono hj hji)).2
    obtain ⟨hjun,oj,hoj,hall⟩:=mem_ready.1 hj
    have hnot:∀ e ∈ oj.after,Region.binds md e=true->e.on ≠ i:=fun e he hb heq=>by
     have h2:=hall e he hb
     rw [heq,getD_both hun] at h2
     cases h2
    have h2:=qOp_put hoj (hfree j oj hoj hji hjun hnot) (fun cs b=>hsel i oi cs b hi) (fun cs b=>hsel j oj cs b hoj) hy h1
    refine qOp_mono (fun a' h3=>ih (listed.setIfInBounds j true) a' (inv.set hj hjn) (fun k ok hk hki hku hno=>hfree k ok hk hki ?_ hno) (ready_mono hr (Ne.symm hji)) h3.1 ?_) h2
    · by_cases hjk:j=k
      · subst hjk;exact hjun
      · rw [getD_set_ne true hjk] at hku;exact hku
    · rw [Array.setIfInBounds_comm _ _ hji]
      exact h3.2
theorem headQ_lex {n g:Nat} {Lq:Act->Prop} (hsel:Region.noSelect ops=true) (hs:Region.sinkB md ops n=true) (hc:Region.chainB md ops n=true) (hn:n<ops.size) :
 ∀ (l:List Oper) (k:Nat) (listed:Array Bool) (a:Act),(∀ j,j<l.length->l[j]? = ops[k+j]?)->k+l.length=n->HeadInv md ops n listed->Region.lexHead md ops g l.length k listed=true->wpQuiet P ops C Lq l a ->
  wpHeadQ P md ops C n (fun listed' a'=>Region.seqB md ops g n listed'=true/\Lq a') l.length listed a
 | [],k,listed,a,_,hk,_,hB,h=>by
  obtain rfl:k=n:=by simpa using hk
  exact ⟨by simpa [Region.lexHead] using hB,h⟩
 | o :: l,k,listed,a,hl,hk,inv,hB,h=>by
  have h0:ops[k]? = some o:=by simpa using (hl 0 (by simp)).symm
  simp only [List.length_cons,Region.lexHead,Bool.and_eq_true] at hB
  obtain ⟨⟨hr,hf⟩,hB'⟩:=hB
  have hkn:k<n:=by simp only [List.length_cons] at hk;omega
  have hr':k ∈ Region.ready md ops listed:=by simpa using hr
  have hst:qOp P ops C k (wpQuiet P ops C Lq l) a:=by unfold qOp;simp only [h0];exact h
  obtain ⟨v,hy,hK⟩:=yieldsIn_of_qOp h0 hst
  refine headQ_first h0 (Region.noSelect_spec hsel) hs hc hn hkn (fun listed' a' hL=>seqB_ready hL.1) l.length listed a inv (Region.free_spec h0 hf) hr' hy ?_
  refine headQ_lex hsel hs hc hn l (k+1) _ _ (fun j hj=>?_) (by simp only [List.length_cons] at hk;omega) (inv.set hr' hkn) hB' hK
  have:=hl (j+1) (by simp;omega)
  simpa [Nat.add_assoc,Nat.add_comm 1 j] using this
end
theorem quiet_swap {P:Program} {ops:Array Oper} {C:World->Prop} {K K':Act->Prop} (hK:∀ a,K a->K' a):∀ (k:List Oper) (a:Act),wpQuiet P ops C K k a->wpQuiet P ops C K' k a:=by
 intro k
 induction k with
 | nil=>intro a h;exact hK a h
 | cons o k ih =>
  intro a h
  simp only [wpQuiet] at h ⊢
  split
  · rename_i hw
    rw [if_pos hw] at h
    exact Oper.quiet_mono ih h
  · rename_i hw
    rw [if_neg hw] at h
    exact ih _ h
theorem wp_region_class_tail {P:Program} {id:Nat} {Q:Exit->Act->World->Prop} {a:Act} {w:World} {l:List Oper} (n:Nat) (Good:World->Prop) (hm:P.follows .mixedOrders=true) (hB:Region.lexTailB .any l.toArray n=true) (hg:Good w.drew)
 (h:Nonempty (Wld Good)->wpQuiet P l.toArray (fun w'=>∃ x:Wld Good,w'=x.val) (fun a'=>∀ w',Good w'->wpList P l.toArray Q (l.drop n) a' w') (l.take n) a):(Code.region id l.toArray true).wp P Q a w:=by
 have h1:=quiet_swap (K':=fun a'=>∀ w',(∃ x:Wld Good,w'=x.val)->wpList P l.toArray Q (l.drop n) a' w') (fun a' hh w' ⟨x,hx⟩=>by rw [hx];exact hh _ x.good) _ _ (h ⟨⟨_,hg⟩⟩)
 simp only [Region.lexTailB,Bool.and_eq_true,decide_eq_true_eq] at hB
 obtain ⟨⟨⟨⟨hsel,hn⟩,hs⟩,hc⟩,hlex⟩:=hB
 have hn':n<l.length:=by simpa using hn
 have htl:(l.take n).length=n:=by simp;omega
 have hdl:(l.drop n).length=l.toArray.size - n:=by simp
 have inv0:HeadInv .any l.toArray n (Array.replicate l.toArray.size false):=⟨by simp,fun j oj _ hl=>(by rw [getD_replicate_false] at hl;cases hl),fun t _ ht=>getD_in (by simpa using ht) (getD_replicate_false _ _)⟩
 have H:=headQ_lex (md:=.any) (g:=l.toArray.size - n) hsel hs hc hn (l.take n) 0 _ a (fun j hj=>by
  have hj':j<n:=by rw [htl] at hj;exact hj
  simp [hj']) (by simpa using htl) inv0 (by rw [htl];exact hlex) h1
 refine wp_region_any hm ?_
 have:=any_of_headQ (Q':=Q) (g:=l.toArray.size - n) (fun listed a' w' hC hL=>by
  have:=wpAny_of_seq (md:=.any) (Q':=Q) (l.drop n) n listed a' w' (fun j=>by simp [List.getElem?_drop]) (by rw [hdl];exact hL.1) (hL.2 w' hC)
  rwa [hdl] at this) _ _ _ w.drew ⟨⟨_,hg⟩,rfl⟩ H
 rw [htl,show n+(l.toArray.size - n)=l.toArray.size by omega] at this
 exact this
end
open Go.Lib (hid)
section
open Go Go.RowKit
def Stable (C:World->Prop):Prop:=∀ w w',C w->Below w.heap.size w w'->C w'
def Same (a:Act) (dst:Option Tmp) (u v:Value):Prop:=∀ d,dst=some d->d<a.tmps.size->u=v
theorem size_put (a:Act) (dst:Option Tmp) (v:Value):(a.put dst v).tmps.size=a.tmps.size:=by
 cases dst <;> simp [Act.put]
theorem Same.put {a:Act} {dst:Option Tmp} {u v:Value} (h:Same a dst u v):a.put dst u=a.put dst v:=by
 cases dst with
 | none=>rfl
 | some d =>
  by_cases hd:d<a.tmps.size
  · rw [h d rfl hd]
  · have e:∀ y:Value,a.tmps.setIfInBounds d y=a.tmps:=fun y=>Array.setIfInBounds_eq_of_size_le (Nat.le_of_not_lt hd)
    simp only [Act.put,e]
theorem Same.of_put {a:Act} {dst:Option Tmp} {u v:Value} (h:a.put dst u=a.put dst v):Same a dst u v:=by
 intro d e hd
 subst e
 have h1:(a.put (some d) u).tmps[d]? = (a.put (some d) v).tmps[d]? := by rw [h]
 simpa [Act.put,hd] using h1
theorem Same.at_put {a:Act} {dst x:Option Tmp} {u v y:Value} (h:Same a dst u v):Same (a.put x y) dst u v:=fun d e hd=>h d e (by rwa [size_put] at hd)
theorem Same.of_at_put {a:Act} {dst x:Option Tmp} {u v y:Value} (h:Same (a.put x y) dst u v):Same a dst u v:=fun d e hd=>h d e (by rwa [size_put])
def Oper.loose (P:Program) (o:Oper) (a:Act) (w:World) (D:Value->World->Prop):Prop :=
 match (execOp a.eval o).run P w with
 | .ok (.value v) w'=>∃ u,Same a o.dst v u/\D u w'
 | .ok .skip w'=>∃ u,Same a o.dst undef u/\D u w'
 | .ok (.enter f args) w'=>Calls P f args w' (fun e w''=>∃ v,e=.returned v/\∃ u,Same a o.dst v u/\D u w'')
 | _=>False
theorem loose_wp {P:Program} {o:Oper} {a:Act} {w:World} {D:Value->World->Prop} {K:Act->World->Prop} {Q:Exit->Act->World->Prop} (h:Oper.loose P o a w D) (hk:∀ u w',D u w'->K (a.put o.dst u) w'):o.wp P a w K Q:=by
 unfold Oper.loose at h
 unfold Oper.wp
 split at h <;> rename_i hr
 · rw [hr];obtain ⟨u,e,hd⟩:=h
   show K _ _
   rw [e.put];exact hk _ _ hd
 · rw [hr];obtain ⟨u,e,hd⟩:=h
   show K _ _
   rw [e.put];exact hk _ _ hd
 · rw [hr]
   show Calls _ _ _ _ _
   refine h.mono fun e w'' ⟨v,he,u,e',hd⟩=>?_
   subst he
   show K _ _
   rw [e'.put];exact hk _ _ hd
 · exact h.elim
theorem loose_of_wp {P:Program} {o:Oper} {a:Act} {w:World} {D:Value->World->Prop} (h:o.wp P a w (fun a' w'=>∃ u,a'=a.put o.dst u/\D u w') (fun _ _ _=>False)) (hdef:∀ d w',(execOp a.eval o).run P w ≠ .ok (.defer d) w') (hrow:∀ r x w',(execOp a.eval o).run P w ≠ .ok (.row r x) w'):Oper.loose P o a w D:=by
 unfold Oper.loose
 unfold Oper.wp at h
 generalize (execOp a.eval o).run P w=r at *
 cases r with
 | ok n w' =>
  cases n with
  | value v=>obtain ⟨u,e,hd⟩:=h;exact ⟨u,Same.of_put e,hd⟩
  | skip=>obtain ⟨u,e,hd⟩:=h;exact ⟨u,Same.of_put e,hd⟩
  | enter f args =>
   refine Calls.mono h fun e w'' he=>?_
   cases e with
   | returned v=>obtain ⟨u,e,hd⟩:=he;exact ⟨v,rfl,u,Same.of_put e,hd⟩
   | panicked c=>exact he.elim
   | outgrown=>obtain ⟨_,_,h⟩:=he;exact h.elim
  | defer d=>exact absurd rfl (hdef d w')
  | row r x=>exact absurd rfl (hrow r x w')
  | _=>exact h.elim
 | halt x w'=>cases x <;> exact h.elim
section
variable {P:Program} {md:Region.Mode} {ops:Array Oper}
def Mild (P:Program) (ops:Array Oper) (I:World->Prop) (o:Oper) (v:Value) (a:Act):Prop:=∀ w,I w->∃ u,YieldsIn P ops (fun w'=>Below w.heap.size w w') o u a/\Same a o.dst u v
def lStep (P:Program) (ops:Array Oper) (I:World->Prop) (last j:Nat) (K:Act->(World->Prop)->Prop) (a:Act) (C:World->Prop):Prop :=
 ∃ o,ops[j]? = some o/\((∃ v,Mild P ops C o v a/\K (a.put o.dst v) C) \/
  (Region.wanted o (yielded ops a.tmps)=true/\∃ D:Value->World->Prop,(∀ u,Stable (D u))/\(j ≠ last->∀ u w,D u w->I w)/\(∀ w,C w->Oper.loose P o a w D)/\∀ u,(∃ w,D u w)->K (a.put o.dst u) (D u)))
theorem lStep_mono {I I':World->Prop} {last j:Nat} {K K':Act->(World->Prop)->Prop} {a:Act} {C:World->Prop} (hI:∀ w,I w->I' w) (hk:∀ a C,K a C->K' a C) (h:lStep P ops I last j K a C):lStep P ops I' last j K' a C:=by
 obtain ⟨o,ho,h⟩:=h
 refine ⟨o,ho,?_⟩
 rcases h with ⟨v,h1,h2⟩|⟨hw,D,h1,h2,h3,h4⟩
 · exact .inl ⟨v,h1,hk _ _ h2⟩
 · exact .inr ⟨hw,D,h1,fun hj u w hd=>hI _ (h2 hj u w hd),h3,fun u hu=>hk _ _ (h4 u hu)⟩
def wpL (P:Program) (md:Region.Mode) (ops:Array Oper) (last:Nat) (Q:Act->World->Prop) (I:World->Prop):Nat->Array Bool->Act->(World->Prop)->Prop
 | 0,listed,a,C=>Region.ready md ops listed=[]/\∀ w,C w->Q a w
 | fuel+1,listed,a,C=>(Region.ready md ops listed=[]->∀ w,C w->Q a w)/\∀ i ∈ Region.ready md ops listed,lStep P ops I last i (wpL P md ops last Q I fuel (listed.setIfInBounds i true)) a C
theorem wpL_mono {last:Nat} {Q:Act->World->Prop} {I I':World->Prop} (hI:∀ w,I w->I' w):∀ (f:Nat) (listed:Array Bool) (a:Act) (C:World->Prop),wpL P md ops last Q I f listed a C->wpL P md ops last Q I' f listed a C
 | 0,_,_,_,h=>h
 | f+1,_,_,_,h=>⟨h.1,fun i hi=>lStep_mono hI (fun a C=>wpL_mono hI f _ a C) (h.2 i hi)⟩
theorem wpL_any {last:Nat} {Q:Act->World->Prop} {I:World->Prop} {Q':Exit->Act->World->Prop} (hQ:∀ a w,Q a w->Q' .normal a w):∀ (f:Nat) (listed:Array Bool) (a:Act) (C:World->Prop),Stable C->wpL P md ops last Q I f listed a C->∀ w,C w->wpAny P md ops Q' f listed a w
 | 0,_,_,_,_,h,w,hw=>⟨h.1,hQ _ _ (h.2 w hw)⟩
 | f+1,listed,a,C,hC,h,w,hw=>by
  refine ⟨fun h0=>hQ _ _ (h.1 h0 w hw),fun i hi=>?_⟩
  obtain ⟨o,ho,h1⟩:=h.2 i hi
  unfold wpOp
  rw [ho]
  simp only
  rcases h1 with ⟨v,h1,h2⟩|⟨hw',D,hD,_,h3,h4⟩
  · obtain ⟨u,hy,hs⟩:=h1 w hw
    rcases hy with ⟨hwt,hq⟩|⟨hwt,rfl⟩
    · rw [if_pos hwt]
      refine Or.inl (Oper.wp_of_quiet (C:=fun w'=>Below w.heap.size w w') (K:=fun a'=>a'=a.put o.dst v) (Below.refl _ _) (fun a' w' hb he=>?_) ⟨u,hq,hs.put⟩)
      subst he
      exact wpL_any hQ f _ _ C hC h2 w' (hC w w' hw hb)
    · rw [if_neg (by rw [hwt];exact Bool.false_ne_true),hs.put]
      exact wpL_any hQ f _ _ C hC h2 w hw
  · rw [if_pos hw']
    exact Or.inl (loose_wp (h3 w hw) fun u w' hd=>wpL_any hQ f _ _ (D u) (hD u) (h4 u ⟨w',hd⟩) w' hd)
theorem Mild.of_same {I:World->Prop} {o:Oper} {v:Value} {a:Act} {x:Option Tmp} {y:Value} (h:Mild P ops I o v a) (hsel:∀ cs b,o.op ≠ .select cs b) (hl:∀ d,x=some d->d ∉ o.looksAt ops):Mild P ops I o v (a.put x y):=fun w hw=>by
 obtain ⟨u,hy,hs⟩:=h w hw
 exact ⟨u,hy.of_same (execOp_put o hsel a x y hl) (wanted_put o a x y hl),hs.at_put⟩
theorem Mild.of_put {I:World->Prop} {o:Oper} {v:Value} {a:Act} {x:Option Tmp} {y:Value} (h:Mild P ops I o v (a.put x y)) (hsel:∀ cs b,o.op ≠ .select cs b) (hl:∀ d,x=some d->d ∉ o.looksAt ops):Mild P ops I o v a:=fun w hw=>by
 obtain ⟨u,hy,hs⟩:=h w hw
 exact ⟨u,hy.of_same (execOp_put o hsel a x y hl).symm (wanted_put o a x y hl).symm,hs.of_at_put⟩
theorem Mild.weak {I J:World->Prop} {o:Oper} {v:Value} {a:Act} (h:Mild P ops J o v a) (hI:∀ w,I w->J w):Mild P ops I o v a:=fun w hw=>h w (hI w hw)
theorem loose_put {o:Oper} {a:Act} {x:Option Tmp} {y:Value} {w:World} {D:Value->World->Prop} (hsel:∀ cs b,o.op ≠ .select cs b) (hl:∀ d,x=some d->d ∉ o.looksAt ops) (h:Oper.loose P o (a.put x y) w D):Oper.loose P o a w D:=by
 unfold Oper.loose at *
 rw [execOp_put o hsel a x y hl] at h
 split at h <;> rename_i hr
 · obtain ⟨u,e,hd⟩:=h;exact ⟨u,e.of_at_put,hd⟩
 · obtain ⟨u,e,hd⟩:=h;exact ⟨u,e.of_at_put,hd⟩
 · exact h.mono fun e w'' ⟨v,he,u,e',hd⟩=>⟨v,he,u,e'.of_at_put,hd⟩
 · exact h.elim
theorem first_mild {last:Nat} {Q:Act->World->Prop} {I:World->Prop} {i:Nat} {oi:Oper} {v:Value} (hi:ops[i]? = some oi) (hsel:∀ (j:Nat) (o:Oper) cs b,ops[j]? = some o->o.op ≠ .select cs b)
 (hs:Region.sinkB md ops last=true) (hc:Region.chainB md ops last=true) (hn:last<ops.size) (hil:i<last) (hlast:last+1=ops.size) :
 ∀ (f:Nat) (listed:Array Bool) (a:Act) (C:World->Prop),HeadInv md ops last listed ->
  (∀ j oj,ops[j]? = some oj->j ≠ i->listed.getD j true=false->(∀ e ∈ oj.after,Region.binds md e=true->e.on ≠ i)->oi.apart ops oj=true) ->
  i ∈ Region.ready md ops listed->Mild P ops I oi v a->(∀ w,C w->I w) ->
  wpL P md ops last Q I f (listed.setIfInBounds i true) (a.put oi.dst v) C->wpL P md ops last Q I (f+1) listed a C:=by
 intro f
 induction f with
 | zero =>
  intro listed a C inv _ hr hy hCI H
  refine ⟨fun h=>(by rw [h] at hr;cases hr),fun j hj=>?_⟩
  by_cases hji:j=i
  · subst hji;exact ⟨oi,hi,.inl ⟨v,hy.weak hCI,H⟩⟩
  · have:=ready_mono hj hji
    rw [H.1] at this
    cases this
 | succ f ih =>
  intro listed a C inv hfree hr hy hCI H
  have hun:=(mem_ready.1 hr).1
  refine ⟨fun h=>(by rw [h] at hr;cases hr),fun j hj=>?_⟩
  have hjn:j<last:=Nat.lt_of_not_le fun h=>absurd hj (tail_waits hs hc hn inv _ i rfl hil hun j h)
  by_cases hji:j=i
  · subst hji;exact ⟨oi,hi,.inl ⟨v,hy.weak hCI,H⟩⟩
  · obtain ⟨oj',hoj',h1⟩:=H.2 j (ready_mono hj hji)
    obtain ⟨hjun,oj,hoj,hall⟩:=mem_ready.1 hj
    obtain rfl:oj'=oj:=Option.some.inj (hoj'.symm.trans hoj)
    have hnot:∀ e ∈ oj'.after,Region.binds md e=true->e.on ≠ i:=fun e he hb heq=>by
     have h2:=hall e he hb
     rw [heq,getD_both hun] at h2
     cases h2
    obtain ⟨p1,p2,p3⟩:=Oper.apart_spec (hfree j oj' hoj hji hjun hnot)
    have hfree':∀ k ok,ops[k]? = some ok->k ≠ i->(listed.setIfInBounds j true).getD k true=false ->
     (∀ e ∈ ok.after,Region.binds md e=true->e.on ≠ i)->oi.apart ops ok=true:=fun k ok hk hki hku hno=>by
     refine hfree k ok hk hki ?_ hno
     by_cases hjk:j=k
     · subst hjk;exact hjun
     · rw [getD_set_ne true hjk] at hku;exact hku
    have go:∀ (u:Value) (D:World->Prop),(∀ w,D w->I w)->wpL P md ops last Q I f ((listed.setIfInBounds i true).setIfInBounds j true) ((a.put oi.dst v).put oj'.dst u) D->wpL P md ops last Q I (f+1) (listed.setIfInBounds j true) (a.put oj'.dst u) D:=fun u D hDI h=>by
     refine ih (listed.setIfInBounds j true) _ D (inv.set hj hjn) hfree' (ready_mono hr (Ne.symm hji)) (hy.of_same (hsel i oi · · hi) p3) hDI ?_
     rw [Array.setIfInBounds_comm _ _ hji,<- Act.put_comm a v u p2]
     exact h
    refine ⟨oj',hoj,?_⟩
    rcases h1 with ⟨u,h1,h2⟩|⟨hw',D,hD,h2,h3,h4⟩
    · exact .inl ⟨u,h1.of_put (hsel j oj' · · hoj) p1,go u C hCI h2⟩
    · rw [wanted_put oj' a oi.dst v p1] at hw'
      exact .inr ⟨hw',D,hD,h2,fun w hw=>loose_put (hsel j oj' · · hoj) p1 (h3 w hw),fun u hu=>go u (D u) (h2 (by omega) u) (h4 u hu)⟩
end
def pickOps (l:List Oper):List Nat->List Oper
 | []=>[]
 | i :: is=>match l[i]? with
  | some o=>o :: pickOps l is
  | none=>pickOps l is
def lexOrd (md:Region.Mode) (ops:Array Oper) (last:Nat):List (Nat × Bool)->Array Bool->Bool
 | [],listed=>(Region.ready md ops listed).isEmpty
 | (i,true) :: r,listed=>(Region.ready md ops listed).contains i && Region.free md ops listed i && decide (i<last) && lexOrd md ops last r (listed.setIfInBounds i true)
 | (j,false) :: r,listed=>Region.ready md ops listed == [j] && (decide (j<last) || (j == last && r.isEmpty)) && lexOrd md ops last r (listed.setIfInBounds j true)
def flatSegs:List (List Nat × Nat)->List (Nat × Bool)
 | []=>[]
 | (qs,j) :: r=>qs.map (·,true) ++ (j,false) :: flatSegs r
def dstsB:List Oper->Bool
 | []=>true
 | o :: r=>(match o.dst with|none=>true|some d=>r.all fun y=>y.dst != some d) && dstsB r
def segsB (l:List Oper):List (List Nat × Nat)->Bool
 | []=>true
 | (qs,_) :: r=>dstsB (pickOps l qs) && segsB l r
def looseB (md:Region.Mode) (l:List Oper) (segs:List (List Nat × Nat)):Bool :=
 Region.noSelect l.toArray && decide (0<l.length) && Region.sinkB md l.toArray (l.length - 1) && Region.chainB md l.toArray (l.length - 1) && segsB l segs && lexOrd md l.toArray (l.length - 1) (flatSegs segs) (Array.replicate l.length false)
def wpSegs (P:Program) (l:List Oper) (Q:Act->World->Prop):(World->Prop)->List (List Nat × Nat)->Act->(World->Prop)->Prop
 | _,[],a,C=>∀ w,C w->Q a w
 | I,(qs,j) :: rest,a,C=>∃ (J:World->Prop) (A:Act),(∀ w,J w->I w)/\(∀ w,C w->J w) /\
  (∀ w0,J w0->wpQuiet P l.toArray (fun w'=>∃ x:Wld (Below w0.heap.size w0),w'=x.val) (fun a'=>a'=A) (pickOps l qs) a) /\
  ∃ o,l[j]? = some o/\Region.wanted o (yielded l.toArray A.tmps)=true/\∃ D:Value->World->Prop,(∀ u,Stable (D u))/\(j ≠ l.length - 1->∀ u w,D u w->J w)/\(∀ w,C w->Oper.loose P o A w D)/\∀ u,(∃ w,D u w)->wpSegs P l Q J rest (A.put o.dst u) (D u)
section
variable {P:Program} {md:Region.Mode} {ops:Array Oper}
theorem quiet_keeps {C:World->Prop} {A:Act} {d:Nat}:∀ (k:List Oper) (a:Act),(∀ o ∈ k,o.dst ≠ some d)->wpQuiet P ops C (fun a'=>a'=A) k a->A.tmps[d]? = a.tmps[d]?
 | [],a,_,h=>by
  have h':a=A:=h
  rw [h']
 | o :: k,a,hk,h=>by
  have hput:∀ v,(a.put o.dst v).tmps[d]? = a.tmps[d]? := fun v=>by
   have h1:=hk o (List.mem_cons_self ..)
   cases hd:o.dst with
   | none=>rfl
   | some e =>
    rw [hd] at h1
    have:e ≠ d:=fun h=>h1 (by rw [h])
    simp [Act.put,Array.getElem?_setIfInBounds_ne this]
  unfold wpQuiet at h
  split at h
  · obtain ⟨v,_,h2⟩:=h
    rw [quiet_keeps k _ (fun o ho=>hk o (List.mem_cons_of_mem _ ho)) h2,hput]
  · rw [quiet_keeps k _ (fun o ho=>hk o (List.mem_cons_of_mem _ ho)) h,hput]
theorem mild_of_quiet {J:World->Prop} {A a:Act} {o:Oper} {k:List Oper} (hd:dstsB (o :: k)=true) (h:∀ w0,J w0->wpQuiet P ops (fun w'=>∃ x:Wld (Below w0.heap.size w0),w'=x.val) (fun a'=>a'=A) (o :: k) a) (hJ:∃ w,J w) :
 ∃ v,Mild P ops J o v a/\∀ w0,J w0->wpQuiet P ops (fun w'=>∃ x:Wld (Below w0.heap.size w0),w'=x.val) (fun a'=>a'=A) k (a.put o.dst v):=by
 have step:∀ w0,J w0->∃ v,YieldsIn P ops (fun w'=>Below w0.heap.size w0 w') o v a/\wpQuiet P ops (fun w'=>∃ x:Wld (Below w0.heap.size w0),w'=x.val) (fun a'=>a'=A) k (a.put o.dst v):=fun w0 hw0=>by
  have h1:=h w0 hw0
  have e:(fun w'=>∃ x:Wld (Below w0.heap.size w0),w'=x.val)=(fun w'=>Below w0.heap.size w0 w'):=by
   funext w'
   exact propext ⟨fun ⟨x,hx⟩=>by rw [hx];exact x.good,fun hb=>⟨⟨w',hb⟩,rfl⟩⟩
  rw [e] at h1 ⊢
  unfold wpQuiet at h1
  split at h1
  · rename_i hw
    obtain ⟨v,h2,h3⟩:=h1
    exact ⟨v,.inl ⟨hw,h2⟩,h3⟩
  · rename_i hw
    exact ⟨undef,.inr ⟨by simpa using hw,rfl⟩,h1⟩
 simp only [dstsB,Bool.and_eq_true] at hd
 have same:∀ w0 w1 u v,J w0->J w1->wpQuiet P ops (fun w'=>∃ x:Wld (Below w0.heap.size w0),w'=x.val) (fun a'=>a'=A) k (a.put o.dst u)->wpQuiet P ops (fun w'=>∃ x:Wld (Below w1.heap.size w1),w'=x.val) (fun a'=>a'=A) k (a.put o.dst v)->Same a o.dst u v:=fun w0 w1 u v _ _ hu hv d e hlt=>by
  rw [e] at hu hv hd
  have hk:∀ y ∈ k,y.dst ≠ some d:=fun y hy=>by
   have:=List.all_eq_true.1 hd.1 y hy
   simpa using this
  have e1:=quiet_keeps k _ hk hu
  have e2:=quiet_keeps k _ hk hv
  rw [e1] at e2
  simpa [Act.put,hlt] using e2
 obtain ⟨w,hw⟩:=hJ
 obtain ⟨v,_,hv⟩:=step w hw
 refine ⟨v,fun w0 hw0=>?_,fun w0 hw0=>?_⟩
 · obtain ⟨u,hu,hk⟩:=step w0 hw0
   exact ⟨u,hu,same w0 w u v hw0 hw hk hv⟩
 · obtain ⟨u,hu,hk⟩:=step w0 hw0
   rw [<- (same w0 w u v hw0 hw hk hv).put]
   exact hk
theorem quiet_chain {l:List Oper} {Q:Act->World->Prop} {J C:World->Prop} {A:Act} {tl:List (Nat × Bool)} (hsel:∀ (j:Nat) (o:Oper) cs b,l.toArray[j]? = some o->o.op ≠ .select cs b)
 (hs:Region.sinkB md l.toArray (l.length - 1)=true) (hc:Region.chainB md l.toArray (l.length - 1)=true) (h0:0<l.length) (hCJ:∀ w,C w->J w) (hJ:∃ w,J w)
 (hend:∀ listed,HeadInv md l.toArray (l.length - 1) listed->lexOrd md l.toArray (l.length - 1) tl listed=true->wpL P md l.toArray (l.length - 1) Q J tl.length listed A C) :
 ∀ (qs:List Nat) (listed:Array Bool) (a:Act),HeadInv md l.toArray (l.length - 1) listed->lexOrd md l.toArray (l.length - 1) (qs.map (·,true) ++ tl) listed=true->dstsB (pickOps l qs)=true ->
  (∀ w0,J w0->wpQuiet P l.toArray (fun w'=>∃ x:Wld (Below w0.heap.size w0),w'=x.val) (fun a'=>a'=A) (pickOps l qs) a) ->
  wpL P md l.toArray (l.length - 1) Q J (qs.length+tl.length) listed a C
 | [],listed,a,inv,hB,_,h=>by
  obtain ⟨w,hw⟩:=hJ
  have e:a=A:=h w hw
  subst e
  simpa using hend listed inv (by simpa using hB)
 | i :: qs,listed,a,inv,hB,hd,h=>by
  simp only [List.map_cons,List.cons_append,lexOrd,Bool.and_eq_true,decide_eq_true_eq] at hB
  obtain ⟨⟨⟨hr,hf⟩,hil⟩,hB'⟩:=hB
  have hr':i ∈ Region.ready md l.toArray listed:=by simpa using hr
  obtain ⟨_,o,ho,_⟩:=mem_ready.1 hr'
  have ho':l[i]? = some o:=by simpa using ho
  simp only [pickOps,ho'] at hd h
  obtain ⟨v,hm,hk⟩:=mild_of_quiet hd h hJ
  simp only [dstsB,Bool.and_eq_true] at hd
  have hsz:l.toArray.size=l.length:=by simp
  rw [show (i :: qs).length+tl.length=(qs.length+tl.length)+1 by simp only [List.length_cons];omega]
  exact first_mild ho hsel hs hc (by omega) hil (by omega) _ listed a C inv (Region.free_spec ho hf) hr' hm hCJ
   (quiet_chain hsel hs hc h0 hCJ hJ hend qs _ _ (inv.set hr' hil) hB' hd.2 hk)
theorem wpL_segs {l:List Oper} {Q:Act->World->Prop} (hsel:∀ (j:Nat) (o:Oper) cs b,l.toArray[j]? = some o->o.op ≠ .select cs b)
 (hs:Region.sinkB md l.toArray (l.length - 1)=true) (hc:Region.chainB md l.toArray (l.length - 1)=true) (h0:0<l.length) :
 ∀ (segs:List (List Nat × Nat)) (I:World->Prop) (listed:Array Bool) (a:Act) (C:World->Prop),(HeadInv md l.toArray (l.length - 1) listed \/ segs=[])->(∃ w,C w)->segsB l segs=true->lexOrd md l.toArray (l.length - 1) (flatSegs segs) listed=true ->
  wpSegs P l Q I segs a C->wpL P md l.toArray (l.length - 1) Q I (flatSegs segs).length listed a C
 | [],I,listed,a,C,_,_,_,hB,h=>⟨by simpa [flatSegs,lexOrd] using hB,h⟩
 | (qs,j) :: rest,I,listed,a,C,inv,hC,hd,hB,h=>by
  have inv:=inv.resolve_right (by simp)
  obtain ⟨J,A,hJI,hCJ,hq,o,ho,hwant,D,hD,hDJ,hlo,hrest⟩:=h
  simp only [segsB,Bool.and_eq_true] at hd
  refine wpL_mono hJI _ _ _ _ ?_
  simp only [flatSegs] at hB ⊢
  rw [List.length_append,List.length_map]
  refine quiet_chain hsel hs hc h0 hCJ (hC.imp hCJ) (fun listed' inv' hB'=>?_) qs listed a inv hB hd.1 hq
  simp only [lexOrd,Bool.and_eq_true,Bool.or_eq_true,decide_eq_true_eq,beq_iff_eq] at hB'
  obtain ⟨⟨hr,hj⟩,hB'⟩:=hB'
  have hr':j ∈ Region.ready md l.toArray listed':=by rw [hr];exact List.mem_singleton.2 rfl
  refine ⟨fun h=>(by rw [h] at hr;cases hr),fun i hi=>?_⟩
  rw [hr] at hi
  obtain rfl:=List.mem_singleton.1 hi
  refine ⟨o,by simpa using ho,.inr ⟨hwant,D,hD,hDJ,hlo,fun u hu=>?_⟩⟩
  refine wpL_segs hsel hs hc h0 rest J _ _ (D u) ?_ hu hd.2 hB' (hrest u hu)
  rcases hj with hj|⟨_,hj⟩
  · exact .inl (inv'.set hr' hj)
  · refine .inr ?_
    cases rest with
    | nil=>rfl
    | cons x r=>obtain ⟨qs',j'⟩:=x;simp [flatSegs] at hj
end
theorem wp_region_loose {P:Program} {id:Nat} {Q:Exit->Act->World->Prop} {a:Act} {w:World} {l:List Oper} (segs:List (List Nat × Nat)) (C:World->Prop) (hm:P.follows .mixedOrders=true) (hB:looseB .any l segs=true)
 (hlen:(flatSegs segs).length=l.length) (hC:Stable C) (hw:C w.drew) (h:wpSegs P l (Q .normal) C segs a C):(Code.region id l.toArray true).wp P Q a w:=by
 simp only [looseB,Bool.and_eq_true,decide_eq_true_eq] at hB
 obtain ⟨⟨⟨⟨⟨hsel,h0⟩,hs⟩,hc⟩,hd⟩,hlex⟩:=hB
 refine wp_region_any hm ?_
 have hsz:l.toArray.size=l.length:=by simp
 have inv0:HeadInv .any l.toArray (l.length - 1) (Array.replicate l.length false):=⟨by simp,fun j oj _ hl=>(by rw [getD_replicate_false] at hl;cases hl),fun t _ ht=>getD_in (by simpa using ht) (getD_replicate_false _ _)⟩
 have H:=wpL_segs (P:=P) (Q:=Q .normal) (Region.noSelect_spec hsel) hs hc h0 segs C _ a C (.inl inv0) ⟨_,hw⟩ hd hlex h
 rw [hlen] at H
 have:=wpL_any (Q':=Q) (fun _ _ h=>h) _ _ _ _ hC H w.drew hw
 rw [hsz]
 exact this
def looseOp:Op->Bool
 | .alloc _ | .box .. | .buildSlice .. | .store ..=>true
 | .call { callee:=.builtin .append,.. }=>true
 | _=>false
theorem loose_any {α β:Type} {P:Program} {s:Sem α} {f:α->Sem β} {w w':World} {n:β} (h:(s >>= f).run P w=.ok n w'):∃ x w1,(f x).run P w1=.ok n w':=by
 rw [Sem.run_bind] at h
 cases hs:s.run P w with
 | ok x w1 =>
  rw [hs] at h
  exact ⟨x,w1,h⟩
 | halt x w1 =>
  rw [hs] at h
  simp [Result.andThen] at h
theorem loose_pure {P:Program} {v n:Next} {w w':World} (h:(pure v:Sem Next).run P w=.ok n w'):n=v:=by
 have h':Result.ok v w=.ok n w':=h
 cases h'
 rfl
theorem loose_value {P:Program} {s:Sem Value} {w w':World} {n:Next} (h:(do pure (Next.value (<- s)):Sem Next).run P w=.ok n w'):(∃ v,n=.value v) \/ n=.skip:=by
 obtain ⟨x,w1,h1⟩:=loose_any h
 exact .inl ⟨_,loose_pure h1⟩
theorem loose_next {P:Program} {o:Oper} (hc:looseOp o.op=true) {ρ:Operand->Value} {w w':World} {n:Next} (h:(execOp ρ o).run P w=.ok n w'):(∃ v,n=.value v) \/ n=.skip:=by
 obtain ⟨dst,op,type,pos,after,guard⟩:=o
 cases op
 case call c =>
  obtain ⟨callee,args,tys⟩:=c
  cases callee with
  | value f=>simp [looseOp] at hc
  | invoke r m=>simp [looseOp] at hc
  | builtin b=>cases b <;> first|(simp [looseOp] at hc;done)|exact loose_value h
 case store t x y =>
  obtain ⟨x,w1,h1⟩:=loose_any (s:=Instr.storeAt t (ρ x) (ρ y)) (f:=fun _=>pure Next.skip) h
  exact .inr (loose_pure h1)
 all_goals first|(simp [looseOp] at hc;done)|exact loose_value h
theorem loose_list {P:Program} {ops:Array Oper} {o:Oper} {A:Act} {w:World} {D:Value->World->Prop} (hc:looseOp o.op=true) (hw:Region.wanted o (yielded ops A.tmps)=true)
 (h:wpList P ops (fun e a' w'=>e=.normal/\∃ u,a'=A.put o.dst u/\D u w') [o] A w):Oper.loose P o A w D:=by
 unfold wpList at h
 rw [if_pos hw] at h
 rcases h with h|⟨_,_,_,h,_⟩
 · have h1:=Oper.wp_mono (K':=fun a' w'=>∃ u,a'=A.put o.dst u/\D u w') (fun a w h=>by exact (show _/\_ from h).2) h
   have h2:o.wp P A w (fun a' w'=>∃ u,a'=A.put o.dst u/\D u w') (fun _ _ _=>False):=by
    unfold Oper.wp at *
    generalize hr:(execOp A.eval o).run P w=r at *
    cases r with
    | ok n w' =>
     rcases loose_next hc hr with ⟨v,rfl⟩|rfl
     · exact h1
     · exact h1
    | halt x w' =>
     cases x <;> first|exact h1|exact absurd (show _/\_ from h1).1 (by simp)
   exact loose_of_wp h2 (fun d w' e=>by rcases loose_next hc e with ⟨v,h⟩|h <;> cases h) (fun r x w' e=>by rcases loose_next hc e with ⟨v,h⟩|h <;> cases h)
 · cases h
theorem wpSegs_nil {P:Program} {l:List Oper} {Q:Act->World->Prop} {I C:World->Prop} {a:Act} (h:∀ w,C w->Q a w):wpSegs P l Q I [] a C:=h
theorem wpSegs_cons {P:Program} {l:List Oper} {Q:Act->World->Prop} {I C:World->Prop} {qs:List Nat} {j:Nat} {rest:List (List Nat × Nat)} {a A:Act} {o:Oper} (J:World->Prop) (D:Value->World->Prop)
 (hJI:∀ w,J w->I w) (hCJ:∀ w,C w->J w)
 (hq:∀ w0,J w0->wpQuiet P l.toArray (fun w'=>∃ x:Wld (Below w0.heap.size w0),w'=x.val) (fun a'=>a'=A) (pickOps l qs) a)
 (ho:l[j]? = some o) (hop:looseOp o.op=true) (hw:Region.wanted o (yielded l.toArray A.tmps)=true)
 (hD:∀ u,Stable (D u)) (hDJ:j ≠ l.length - 1->∀ u w,D u w->J w)
 (hlo:∀ w,C w->wpList P l.toArray (fun e a' w'=>e=.normal/\∃ u,a'=A.put o.dst u/\D u w') [o] A w)
 (hrest:∀ u w,D u w->wpSegs P l Q J rest (A.put o.dst u) (D u)):wpSegs P l Q I ((qs,j) :: rest) a C :=
 ⟨J,A,hJI,hCJ,hq,o,ho,hw,D,hD,hDJ,fun w hw'=>loose_list hop hw (hlo w hw'),fun u ⟨w,h⟩=>hrest u w h⟩
theorem wpSegs_cons0 {P:Program} {l:List Oper} {Q:Act->World->Prop} {I C:World->Prop} {j:Nat} {rest:List (List Nat × Nat)} {a:Act} {o:Oper} (D:Value->World->Prop)
 (hCI:∀ w,C w->I w)
 (ho:l[j]? = some o) (hop:looseOp o.op=true) (hw:Region.wanted o (yielded l.toArray a.tmps)=true)
 (hD:∀ u,Stable (D u)) (hDI:j ≠ l.length - 1->∀ u w,D u w->I w)
 (hlo:∀ w,C w->wpList P l.toArray (fun e a' w'=>e=.normal/\∃ u,a'=a.put o.dst u/\D u w') [o] a w)
 (hrest:∀ u w,D u w->wpSegs P l Q I rest (a.put o.dst u) (D u)):wpSegs P l Q I (([],j) :: rest) a C :=
 wpSegs_cons I D (fun _ h=>h) hCI (fun _ _=>rfl) ho hop hw hD hDI hlo hrest
theorem quiet_hide {P:Program} {ops:Array Oper} {C:World->Prop} {l:List Oper} {a A:Act} (h:∀ K:Act->Prop,(∀ a',a'=A->K a')->wpQuiet P ops C K l a):wpQuiet P ops C (fun a'=>a'=A) l a:=h _ fun _ h=>h
end
section
open Go Go.RowKit
def Ends (R:Act->World->Prop):Exit->Act->World->Prop:=fun e a w=>e=.normal/\R a w
theorem wp_ends {P:Program} {o:Oper} {a:Act} {w:World} {K R:Act->World->Prop} {Q:Exit->Act->World->Prop} (h:Oper.wp P o a w K (Ends R)):Oper.wp P o a w K Q:=by
 unfold Oper.wp at *
 generalize (execOp a.eval o).run P w=r at *
 cases r with
 | ok n w' =>
  cases n with
  | enter f args =>
   refine Calls.mono h fun e w'' he=>?_
   cases e with
   | returned v=>exact he
   | panicked c=>exact absurd he.1 (by simp)
   | outgrown=>obtain ⟨_,_,he,_⟩:=he;cases he
  | _=>exact h
 | halt x w'=>cases x <;> first|exact h|exact absurd h.1 (by simp)
theorem one_op {P:Program} {ops:Array Oper} {o:Oper} {a:Act} {w:World} {R K:Act->World->Prop} {i:Nat} {Q:Exit->Act->World->Prop} (hi:ops[i]? = some o) (h:wpList P ops (Ends R) [o] a w) (hk:∀ a w,R a w->K a w):wpOp P ops Q i K a w:=by
 unfold wpOp
 rw [hi]
 unfold wpList at h
 simp only
 by_cases hw:Region.wanted o (yielded ops a.tmps)=true
 · rw [if_pos hw] at h ⊢
   rcases h with h|⟨_,_,_,h,_⟩
   · exact .inl (Oper.wp_mono (fun a w h=>hk a w h.2) (wp_ends h))
   · cases h
 · rw [if_neg hw] at h ⊢
   exact hk _ _ h.2
def setAll (ds:List Tmp) (a:Act) (v:Tmp->Value):Act:=ds.foldl (fun b t=>b.put (some t) (v t)) a
def vals (a:Act) (t:Tmp):Value:=(a.tmps[t]?).getD undef
theorem setAll_defers (v:Tmp->Value):∀ (ds:List Tmp) (a:Act),(setAll ds a v).defers=a.defers
 | [],_=>rfl
 | t :: r,a=>setAll_defers v r (a.put (some t) (v t))
theorem setAll_at (v:Tmp->Value) (k:Nat):∀ (ds:List Tmp) (a:Act),(setAll ds a v).tmps[k]? = if k ∈ ds/\k<a.tmps.size then some (v k) else a.tmps[k]?
 | [],a=>by simp [setAll]
 | t :: r,a=>by
  have h:=setAll_at v k r (a.put (some t) (v t))
  show (setAll r (a.put (some t) (v t)) v).tmps[k]? = _
  rw [h,size_put]
  simp only [Act.put,List.mem_cons]
  by_cases hk:k<a.tmps.size
  · by_cases h1:k ∈ r
    · simp [h1,hk]
    · by_cases h2:k=t
      · subst h2;simp [h1,hk]
      · rw [Array.getElem?_setIfInBounds_ne (Ne.symm h2)]
        simp [h1,h2]
  · have e:a.tmps[k]? = none:=Array.getElem?_eq_none (Nat.le_of_not_lt hk)
    simp only [hk,and_false,if_false]
    rw [e]
    exact Array.getElem?_eq_none (by simp;omega)
theorem setAll_own {ds:List Tmp} {a b:Act} (hd:b.defers=a.defers) (hs:b.tmps.size=a.tmps.size) (ho:∀ t,t ∉ ds->b.tmps[t]? = a.tmps[t]?):setAll ds a (vals b)=b:=by
 have h1:(setAll ds a (vals b)).tmps=b.tmps:=by
  apply Array.ext_getElem?
  intro k
  rw [setAll_at]
  split
  · rename_i h
    have:k<b.tmps.size:=by rw [hs];exact h.2
    simp [vals,this]
  · rename_i h
    by_cases h2:k ∈ ds
    · have h3:¬ k<a.tmps.size:=fun h3=>h ⟨h2,h3⟩
      rw [Array.getElem?_eq_none (Nat.le_of_not_lt h3),Array.getElem?_eq_none (by rw [hs];exact Nat.le_of_not_lt h3)]
    · exact (ho k h2).symm
 have h2:=(setAll_defers (vals b) ds a).trans hd.symm
 cases b
 cases h:setAll ds a (vals _)
 rw [h] at h1 h2
 simp only at h1 h2
 rw [h1,h2]
def looks (l:List Oper) (o:Oper) (t:Tmp):Bool:=(o.looksAt l.toArray).any (Nat.beq t)
def mask (l:List Oper) (o:Oper) (v:Tmp->Value):Tmp->Value:=fun t=>bif looks l o t then v t else undef
abbrev Said:=(Tmp->Value)->Value->World->Prop
def growOne (md:Region.Mode) (l:List Oper) (ds:List Tmp) (i:Nat):Bool :=
 match l[i]? with
 | none=>true
 | some o=>(match o.dst with|some t=>ds.any (Nat.beq t)|none=>false) &&
  (List.range l.length).all fun j=>match l[j]? with
   | none=>true
   | some x=>(match x.dst with|some t=>!looks l o t || Region.waitsFor md l.toArray i j|none=>true) && (i == j || x.dst != o.dst)
def growB (md:Region.Mode) (l:List Oper) (ds:List Tmp):Bool :=
 decide (0<l.length) && Region.sinkB md l.toArray (l.length - 1) && Region.chainB md l.toArray (l.length - 1) && (List.range (l.length - 1)).all (growOne md l ds) &&
  (List.range l.length).all fun i=>match l[i]? with|none=>true|some o=>o.after.all fun e=>!Region.binds md e || decide (e.on<i)
theorem mask_put {l:List Oper} {o:Oper} {a:Act} {t:Tmp} {u:Value} (h:looks l o t=false):mask l o (vals (a.put (some t) u))=mask l o (vals a):=by
 funext s
 unfold mask
 by_cases e:s=t
 · subst e;rw [h];rfl
 · simp only [vals,Act.put]
   rw [Array.getElem?_setIfInBounds_ne (Ne.symm e)]
theorem vals_ne {a:Act} {t s:Tmp} {u:Value} (h:s ≠ t):vals (a.put (some t) u) s=vals a s:=by
 simp only [vals,Act.put]
 rw [Array.getElem?_setIfInBounds_ne (Ne.symm h)]
theorem vals_eq {a:Act} {t:Tmp} {u:Value} (h:t<a.tmps.size):vals (a.put (some t) u) t=u:=by
 simp [vals,Act.put,h]
structure GInv (l:List Oper) (ds:List Tmp) (Ds:List Said) (a:Act) (C:World->Prop) (listed:Array Bool) (b:Act) (w:World):Prop where
 head:HeadInv .any l.toArray (l.length - 1) listed
 defers:b.defers=a.defers
 size:b.tmps.size=a.tmps.size
 out:∀ t,t ∉ ds->b.tmps[t]? = a.tmps[t]?
 c:C w
 d:∀ (j:Nat) (o:Oper) (D:Said) (t:Tmp),j<l.length - 1->listed.getD j false=true->l[j]? = some o->Ds[j]? = some D->o.dst=some t->D (mask l o (vals b)) (vals b t) w
def GrowAt (P:Program) (l:List Oper) (Ds:List Said) (C:World->Prop) (F:(Tmp->Value)->Act) (o:Oper) (D:Said):Prop :=
 ∀ (v:Tmp->Value) (w:World),C w->(∀ (j:Nat) (x:Oper) (E:Said) (t:Tmp),l[j]? = some x->Ds[j]? = some E->x.dst=some t->looks l o t=true->E (mask l x v) (v t) w) ->
  wpList P l.toArray (Ends fun b w'=>∃ u,b=(F v).put o.dst u/\Below w.heap.size w w'/\D (mask l o v) u w') [o] (F v) w
def GrowAll (P:Program) (l:List Oper) (Ds:List Said) (C:World->Prop) (F:(Tmp->Value)->Act):List Oper->List Said->Prop
 | [_],[]=>True
 | o :: r,D :: Dr=>GrowAt P l Ds C F o D/\GrowAll P l Ds C F r Dr
 | _,_=>False
theorem grow_nil {P:Program} {l:List Oper} {Ds:List Said} {C:World->Prop} {F:(Tmp->Value)->Act} {o:Oper}:GrowAll P l Ds C F [o] []:=trivial
theorem grow_cons {P:Program} {l:List Oper} {Ds:List Said} {C:World->Prop} {F:(Tmp->Value)->Act} {o:Oper} {r:List Oper} {D:Said} {Dr:List Said}
 (h:∀ (v:Tmp->Value) (w:World),C w->(∀ (j:Nat) (x:Oper) (E:Said) (t:Tmp),l[j]? = some x->Ds[j]? = some E->x.dst=some t->looks l o t=true->E (mask l x v) (v t) w) ->
  wpList P l.toArray (fun e b w'=>e=.normal/\∃ u,b=(F v).put o.dst u/\Below w.heap.size w w'/\D (mask l o v) u w') [o] (F v) w)
 (hr:GrowAll P l Ds C F r Dr):GrowAll P l Ds C F (o :: r) (D :: Dr):=by
 cases r with
 | nil=>cases Dr <;> exact hr.elim
 | cons x r=>exact ⟨h,hr⟩
theorem grow_at {P:Program} {l:List Oper} {Ds:List Said} {C:World->Prop} {F:(Tmp->Value)->Act}:∀ (r:List Oper) (Dr:List Said),GrowAll P l Ds C F r Dr->Dr.length+1=r.length/\∀ (i:Nat) (o:Oper),i+1<r.length->r[i]? = some o->∃ D,Dr[i]? = some D/\GrowAt P l Ds C F o D
 | [_],[],_=>⟨rfl,fun i o h=>by simp at h⟩
 | o :: x :: r,D :: Dr,h=>by
  obtain ⟨h1,h2⟩:=h
  obtain ⟨h3,h4⟩:=grow_at (x :: r) Dr h2
  refine ⟨by simp at h3 ⊢;omega,fun i y hi hy=>?_⟩
  cases i with
  | zero=>simp at hy;subst hy;exact ⟨D,rfl,h1⟩
  | succ i=>exact h4 i y (by simpa using hi) (by simpa using hy)
 | [],[],h=>h.elim
 | [],_ :: _,h=>h.elim
 | [_],_ :: _,h=>by have:=h.2;cases ‹List Said› <;> exact this.elim
 | _ :: _ :: _,[],h=>h.elim
theorem any_beq {l:List Nat} {t:Nat}:l.any (Nat.beq t)=true ↔ t ∈ l:=by
 rw [List.any_eq_true]
 exact ⟨fun ⟨x,hx,e⟩=>(Nat.eq_of_beq_eq_true e) ▸ hx,fun h=>⟨t,h,Nat.beq_refl t⟩⟩
theorem least_of {p:Nat->Prop} (n:Nat) (h:p n):∃ k,k<=n/\p k/\∀ j,j<k->¬ p j:=by
 induction n using Nat.strongRecOn with
 | _ n ih =>
  by_cases hx:∃ m,m<n/\p m
  · obtain ⟨m,hm,hp⟩:=hx
    obtain ⟨k,h1,h2,h3⟩:=ih m hm hp
    exact ⟨k,by omega,h2,h3⟩
  · exact ⟨n,Nat.le_refl _,h,fun j hj hp=>hx ⟨j,hj,hp⟩⟩
section
variable {P:Program} {l:List Oper} {ds:List Tmp} {Ds:List Said} {a:Act} {C:World->Prop} {F:(Tmp->Value)->Act} {Q:Exit->Act->World->Prop}
theorem grow_spec {i:Nat} (h:growB .any l ds=true) (hi:i<l.length - 1):∃ o t,l[i]? = some o/\o.dst=some t/\t ∈ ds/\∀ (j:Nat) (x:Oper) (s:Tmp),l[j]? = some x->x.dst=some s->(looks l o s=true->Region.waitsFor .any l.toArray i j=true)/\(i ≠ j->s ≠ t):=by
 simp only [growB,Bool.and_eq_true,List.all_eq_true,List.mem_range] at h
 have h1:=h.1.2 i hi
 have hil:i<l.length:=by omega
 refine ⟨l[i],?_⟩
 have ho:l[i]? = some l[i]:=List.getElem?_eq_getElem hil
 simp only [growOne,ho,Bool.and_eq_true,List.all_eq_true,List.mem_range] at h1
 obtain ⟨h2,h3⟩:=h1
 cases hd:l[i].dst with
 | none=>rw [hd] at h2;simp at h2
 | some t =>
  rw [hd] at h2
  refine ⟨t,ho,rfl,any_beq.1 h2,fun j x s hx hs=>?_⟩
  have hj:j<l.length:=(List.getElem?_eq_some_iff.1 hx).1
  have h4:=h3 j hj
  rw [hx] at h4
  simp only [hs,hd,Bool.and_eq_true,Bool.or_eq_true,Bool.not_eq_true',beq_iff_eq,bne_iff_ne,ne_eq,Option.some.injEq] at h4
  exact ⟨fun hl=>by rcases h4.1 with h5|h5;· rw [hl] at h5;cases h5
                    · exact h5,fun hij=>by rcases h4.2 with h5|h5;· exact absurd h5 hij
                                           · exact h5⟩
theorem wp_grow_any (hF:∀ v,setAll ds a v=F v) (hsz:∀ t ∈ ds,t<a.tmps.size) (hB:growB .any l ds=true) (hC:Stable C) (hS:∀ D ∈ Ds,∀ v u,Stable (D v u)) (hob:GrowAll P l Ds C F l Ds)
 (hend:∀ (v:Tmp->Value) (w:World),C w->(∀ (j:Nat) (x:Oper) (E:Said) (t:Tmp),l[j]? = some x->Ds[j]? = some E->x.dst=some t->E (mask l x v) (v t) w)->∀ o,l[l.length - 1]? = some o->wpList P l.toArray (Ends (Q .normal)) [o] (F v) w) :
 ∀ (f:Nat) (listed:Array Bool) (b:Act) (w:World),listed.count false<=f->GInv l ds Ds a C listed b w->wpAny P .any l.toArray Q f listed b w:=by
 have hB':=hB
 simp only [growB,Bool.and_eq_true,decide_eq_true_eq] at hB'
 obtain ⟨⟨⟨⟨h0,hs⟩,hc⟩,_⟩,hac⟩:=hB'
 have hn:l.length - 1<l.toArray.size:=by simp;omega
 obtain ⟨hlen,hat⟩:=grow_at l Ds hob
 intro f
 induction f with
 | zero =>
  intro listed b w hf inv
  have h1:=inv.head.tail (l.length - 1) (Nat.le_refl _) (by simp;omega)
  have h2:l.length - 1<listed.size:=by rw [inv.head.size];simp;omega
  have h3:false ∈ listed:=by
   have e:listed[l.length - 1]=false:=by simpa [h2] using h1
   exact e ▸ Array.getElem_mem h2
  have:=Array.count_pos_iff.2 h3
  omega
 | succ f ih =>
  intro listed b w hf inv
  have hb:F (vals b)=b:=(hF _).symm.trans (setAll_own inv.defers inv.size inv.out)
  have hun:=inv.head.tail (l.length - 1) (Nat.le_refl _) (by simp;omega)
  refine ⟨fun h=>?_,fun i hi=>?_⟩
  · exfalso
    obtain ⟨k,hk1,hk2,hk3⟩:=least_of (p:=fun i=>listed.getD i false=false) (l.length - 1) (getD_both hun)
    have hkl:k<l.length:=by omega
    have hsz':listed.size=l.length:=by rw [inv.head.size];simp
    have hr:k ∈ Region.ready .any l.toArray listed:=mem_ready.2 ⟨getD_in (by rw [hsz'];exact hkl) hk2,l[k],by simp [hkl],fun e he hb=>by
     have h1:=List.all_eq_true.1 hac k (List.mem_range.2 hkl)
     rw [List.getElem?_eq_getElem hkl] at h1
     have h2:=Array.all_eq_true'.1 h1 e he
     rw [hb] at h2
     have h3:=hk3 e.on (by simpa using h2)
     simpa using h3⟩
    rw [h] at hr
    cases hr
  · obtain ⟨hiu,oi,hoi,hall⟩:=mem_ready.1 hi
    have hil:i<l.length:=by have:=(Array.getElem?_eq_some_iff.1 hoi).1;simpa using this
    have hlD:∀ {j:Nat} {E:Said},Ds[j]? = some E->j<l.length - 1:=fun hE=>by have:=(List.getElem?_eq_some_iff.1 hE).1;omega
    by_cases hin:i<l.length - 1
    · obtain ⟨o,t,ho,ht,hds,hsp⟩:=grow_spec hB hin
      obtain rfl:oi=o:=by rw [List.getElem?_toArray] at hoi;exact Option.some.inj (hoi.symm.trans ho)
      obtain ⟨D,hD,hg⟩:=hat i oi (by omega) ho
      have hdep:∀ (j:Nat) (x:Oper) (E:Said) (s:Tmp),l[j]? = some x->Ds[j]? = some E->x.dst=some s->looks l oi s=true->E (mask l x (vals b)) (vals b s) w:=fun j x E s hx hE hs' hl=>by
       obtain ⟨oj,hoj,e,he,hb1,hb2⟩:=Region.waitsFor_spec ((hsp j x s hx hs').1 hl)
       obtain rfl:oi=oj:=Option.some.inj (hoi.symm.trans hoj)
       have:=hall e he hb1
       rw [hb2] at this
       exact inv.d j x E s (hlD hE) this hx hE hs'
      have hself:looks l oi t=false:=by
       cases hl:looks l oi t with
       | false=>rfl
       | true =>
        obtain ⟨oj,hoj,e,he,hb1,hb2⟩:=Region.waitsFor_spec ((hsp i oi t ho ht).1 hl)
        obtain rfl:oi=oj:=Option.some.inj (hoi.symm.trans hoj)
        have:=hall e he hb1
        rw [hb2,getD_both hiu] at this
        cases this
      have hw:=hg (vals b) w inv.c hdep
      rw [hb] at hw
      refine one_op hoi hw fun b' w' hR=>?_
      obtain ⟨u,rfl,hbl,hDu⟩:=hR
      rw [ht]
      have htz:t<b.tmps.size:=by rw [inv.size];exact hsz t hds
      refine ih _ _ _ ?_ ⟨inv.head.set hi hin,inv.defers,(size_put _ _ _).trans inv.size,fun s hs'=>?_,hC w w' inv.c hbl,fun j x E s hj hlj hx hE hs'=>?_⟩
      · have hsz':i<listed.size:=by rw [inv.head.size];simpa using hil
        have e:listed[i]=false:=by simpa [hsz'] using hiu
        have:=Array.count_set (a:=false) (b:=true) (xs:=listed) (i:=i) hsz'
        rw [Array.setIfInBounds,dif_pos hsz',Array.count_set hsz']
        have hpos:0<listed.count false:=Array.count_pos_iff.2 (e ▸ Array.getElem_mem hsz')
        simp [e]
        omega
      · rw [show (b.put (some t) u).tmps=b.tmps.setIfInBounds t u from rfl,Array.getElem?_setIfInBounds_ne (fun e:t=s=>hs' (by rw [<- e];exact hds))]
        exact inv.out s hs'
      · by_cases hji:i=j
        · subst hji
          obtain rfl:oi=x:=Option.some.inj (ho.symm.trans hx)
          obtain rfl:D=E:=Option.some.inj (hD.symm.trans hE)
          obtain rfl:t=s:=Option.some.inj (ht.symm.trans hs')
          rw [mask_put hself,vals_eq htz]
          exact hDu
        · rw [getD_set_ne false hji] at hlj
          have hlk:looks l x t=false:=by
           cases hl:looks l x t with
           | false=>rfl
           | true =>
            obtain ⟨_,_,hx',_,_,hsp'⟩:=grow_spec hB hj
            obtain rfl:=Option.some.inj (hx.symm.trans hx')
            obtain ⟨oj,hoj,e,he,hb1,hb2⟩:=Region.waitsFor_spec ((hsp' i oi t ho ht).1 hl)
            have:=inv.head.closed j oj hoj hlj e he hb1
            rw [hb2,getD_both hiu] at this
            cases this
          rw [mask_put hlk,vals_ne ((hsp j x s hx hs').2 hji)]
          exact hS E (List.mem_of_getElem? hE) _ _ w w' (inv.d j x E s hj hlj hx hE hs') hbl
    · have hil':i=l.length - 1:=by omega
      subst hil'
      have hlt:∀ k,k<l.length - 1->listed.getD k true=true:=fun k hk=>by
       cases h:listed.getD k true with
       | true=>rfl
       | false=>exact absurd hi (tail_waits hs hc hn inv.head _ k rfl hk h (l.length - 1) (Nat.le_refl _))
      have hsz':listed.size=l.length:=by rw [inv.head.size];simp
      have hlt':∀ k,k<l.length - 1->listed.getD k false=true:=fun k hk=>by
       have h:=hlt k hk
       have:k<listed.size:=by omega
       simpa [this] using h
      have hw:=hend (vals b) w inv.c (fun j x E s hx hE hs'=>inv.d j x E s (hlD hE) (hlt' j (hlD hE)) hx hE hs') oi (by simpa using hoi)
      rw [hb] at hw
      refine one_op hoi hw fun b' w' hR=>?_
      have hr:Region.ready .any l.toArray (listed.setIfInBounds (l.length - 1) true)=[]:=by
       rw [List.eq_nil_iff_forall_not_mem]
       intro k hk
       obtain ⟨hku,ok,hok,_⟩:=mem_ready.1 hk
       have hkl:k<l.length:=by have:=(Array.getElem?_eq_some_iff.1 hok).1;simpa using this
       by_cases e:l.length - 1=k
       · subst e
         have:l.length - 1<listed.size:=by omega
         simp [this] at hku
       · rw [getD_set_ne true e,hlt k (by omega)] at hku
         cases hku
      cases f with
      | zero=>exact ⟨hr,hR⟩
      | succ f=>exact ⟨fun _=>hR,fun k hk=>by rw [hr] at hk;cases hk⟩
theorem wp_region_grow {id:Nat} {w:World} (ds:List Tmp) (Ds:List Said) (C:World->Prop) (hF:∀ v,setAll ds a v=F v) (hm:P.follows .mixedOrders=true) (hB:growB .any l ds=true) (hsz:(ds.all fun t=>decide (t<a.tmps.size))=true)
 (hC:Stable C) (hw:C w.drew) (hS:∀ D ∈ Ds,∀ v u,Stable (D v u)) (hob:GrowAll P l Ds C F l Ds)
 (hend:∀ (v:Tmp->Value) (w:World),C w->(∀ (j:Nat) (x:Oper) (E:Said) (t:Tmp),l[j]? = some x->Ds[j]? = some E->x.dst=some t->E (mask l x v) (v t) w)->∀ o,l[l.length - 1]? = some o->wpList P l.toArray (fun e b w'=>e=.normal/\Q .normal b w') [o] (F v) w):(Code.region id l.toArray true).wp P Q a w:=by
 refine wp_region_any hm ?_
 refine wp_grow_any hF (fun t ht=>by simpa using List.all_eq_true.1 hsz t ht) hB hC hS hob hend _ _ a w.drew (Nat.le_trans Array.count_le_size (by simp)) ⟨⟨by simp,fun j oj _ hl=>(by rw [getD_replicate_false] at hl;cases hl),fun t _ ht=>getD_in (by simpa using ht) (getD_replicate_false _ _)⟩,rfl,rfl,fun _ _=>rfl,hw,fun j x E s hj hl=>?_⟩
 rw [getD_replicate_false] at hl
 cases hl
end
end
section
open Go Go.RowKit
theorem wp_region_loose2 {P:Program} {id:Nat} {Q:Exit->Act->World->Prop} {a:Act} {w:World} {l:List Oper} (segs:List (List Nat × Nat)) (I C:World->Prop) (hm:P.follows .mixedOrders=true) (hB:looseB .any l segs=true)
 (hlen:(flatSegs segs).length=l.length) (hC:Stable C) (hw:C w.drew) (h:wpSegs P l (Q .normal) I segs a C):(Code.region id l.toArray true).wp P Q a w:=by
 simp only [looseB,Bool.and_eq_true,decide_eq_true_eq] at hB
 obtain ⟨⟨⟨⟨⟨hsel,h0⟩,hs⟩,hc⟩,hd⟩,hlex⟩:=hB
 refine wp_region_any hm ?_
 have hsz:l.toArray.size=l.length:=by simp
 have inv0:HeadInv .any l.toArray (l.length - 1) (Array.replicate l.length false):=⟨by simp,fun j oj _ hl=>(by rw [getD_replicate_false] at hl;cases hl),fun t _ ht=>getD_in (by simpa using ht) (getD_replicate_false _ _)⟩
 have H:=wpL_segs (P:=P) (Q:=Q .normal) (Region.noSelect_spec hsel) hs hc h0 segs I _ a C (.inl inv0) ⟨_,hw⟩ hd hlex h
 rw [hlen] at H
 have:=wpL_any (Q':=Q) (fun _ _ h=>h) _ _ _ _ hC H w.drew hw
 rw [hsz]
 exact this
theorem wpSegs_assign {P:Program} {l:List Oper} {Q:Act->World->Prop} {I C:World->Prop} {j:Nat} {a:Act} {o:Oper} {x:Operand} (hC:Stable C) (hCI:∀ w,C w->I w)
 (ho:l[j]? = some o) (hop:o.op=.assign x) (hw:Region.wanted o (yielded l.toArray a.tmps)=true) (hj:j=l.length - 1)
 (hrest:∀ w,C w->Q (a.put o.dst (a.eval x)) w):wpSegs P l Q I [([],j)] a C:=by
 refine ⟨I,a,fun _ h=>h,hCI,fun _ _=>rfl,o,ho,hw,fun u w=>u=a.eval x/\C w,fun u w w' h hb=>⟨h.1,hC w w' h.2 hb⟩,fun h=>absurd hj h,fun w hc=>?_,fun u ⟨w,h⟩ w' h'=>?_⟩
 · unfold Oper.loose execOp
   rw [hop]
   exact ⟨a.eval x,fun _ _ _=>rfl,rfl,hc⟩
 · rw [h'.1]
   exact hrest w' h'.2
end
section
open Go Go.RowKit
theorem wpAny_up {P:Program} {md:Region.Mode} {ops:Array Oper} {Q:Exit->Act->World->Prop}:∀ (f:Nat) (listed:Array Bool) (a:Act) (w:World),wpAny P md ops Q f listed a w->wpAny P md ops Q (f+1) listed a w
 | 0,_,_,_,h=>⟨fun _=>h.2,fun i hi=>by rw [h.1] at hi;cases hi⟩
 | f+1,_,_,_,h=>⟨h.1,fun i hi=>wpOp_mono (fun a w h=>wpAny_up f _ a w h) (h.2 i hi)⟩
theorem wpAny_le {P:Program} {md:Region.Mode} {ops:Array Oper} {Q:Exit->Act->World->Prop} {listed:Array Bool} {a:Act} {w:World} {f g:Nat} (h:wpAny P md ops Q f listed a w) (hg:f<=g):wpAny P md ops Q g listed a w:=by
 induction g with
 | zero=>obtain rfl:f=0:=by omega
         exact h
 | succ g ih =>
  by_cases e:f=g+1
  · exact e ▸ h
  · exact wpAny_up _ _ _ _ (ih (by omega))
def headList (n m:Nat):Array Bool:=Array.replicate n true ++ Array.replicate m false
def growTB (md:Region.Mode) (l:List Oper) (ds:List Tmp) (n:Nat):Bool :=
 decide (n<l.length) && Region.sinkB md l.toArray n && Region.chainB md l.toArray n && (List.range n).all (growOne md l ds) && Region.seqB md l.toArray (l.length - n) n (headList n (l.length - n)) &&
  (List.range l.length).all fun i=>match l[i]? with|none=>true|some o=>o.after.all fun e=>!Region.binds md e || decide (e.on<i)
structure GTInv (l:List Oper) (ds:List Tmp) (Ds:List Said) (n:Nat) (a:Act) (C:World->Prop) (listed:Array Bool) (b:Act) (w:World):Prop where
 head:HeadInv .any l.toArray n listed
 defers:b.defers=a.defers
 size:b.tmps.size=a.tmps.size
 out:∀ t,t ∉ ds->b.tmps[t]? = a.tmps[t]?
 c:C w
 d:∀ (j:Nat) (o:Oper) (D:Said) (t:Tmp),j<n->listed.getD j false=true->l[j]? = some o->Ds[j]? = some D->o.dst=some t->D (mask l o (vals b)) (vals b t) w
def GrowEach (P:Program) (l:List Oper) (Ds:List Said) (C:World->Prop) (F:(Tmp->Value)->Act):List Oper->List Said->Prop
 | [],[]=>True
 | o :: r,D :: Dr=>GrowAt P l Ds C F o D/\GrowEach P l Ds C F r Dr
 | _,_=>False
theorem growt_nil {P:Program} {l:List Oper} {Ds:List Said} {C:World->Prop} {F:(Tmp->Value)->Act}:GrowEach P l Ds C F [] []:=trivial
theorem growt_cons {P:Program} {l:List Oper} {Ds:List Said} {C:World->Prop} {F:(Tmp->Value)->Act} {o:Oper} {r:List Oper} {D:Said} {Dr:List Said}
 (h:∀ (v:Tmp->Value) (w:World),C w->(∀ (j:Nat) (x:Oper) (E:Said) (t:Tmp),l[j]? = some x->Ds[j]? = some E->x.dst=some t->looks l o t=true->E (mask l x v) (v t) w) ->
  wpList P l.toArray (fun e b w'=>e=.normal/\∃ u,b=(F v).put o.dst u/\Below w.heap.size w w'/\D (mask l o v) u w') [o] (F v) w)
 (hr:GrowEach P l Ds C F r Dr):GrowEach P l Ds C F (o :: r) (D :: Dr):=⟨h,hr⟩
theorem growt_at {P:Program} {l:List Oper} {Ds:List Said} {C:World->Prop} {F:(Tmp->Value)->Act}:∀ (r:List Oper) (Dr:List Said),GrowEach P l Ds C F r Dr->Dr.length=r.length/\∀ (i:Nat) (o:Oper),r[i]? = some o->∃ D,Dr[i]? = some D/\GrowAt P l Ds C F o D
 | [],[],_=>⟨rfl,fun i o h=>by simp at h⟩
 | o :: r,D :: Dr,h=>by
  obtain ⟨h1,h2⟩:=h
  obtain ⟨h3,h4⟩:=growt_at r Dr h2
  refine ⟨by simp [h3],fun i y hy=>?_⟩
  cases i with
  | zero=>simp at hy;subst hy;exact ⟨D,rfl,h1⟩
  | succ i=>exact h4 i y (by simpa using hy)
 | [],_ :: _,h=>h.elim
 | _ :: _,[],h=>h.elim
section
variable {P:Program} {l:List Oper} {ds:List Tmp} {Ds:List Said} {n:Nat} {a:Act} {C:World->Prop} {F:(Tmp->Value)->Act} {Q:Exit->Act->World->Prop}
theorem growt_spec {i:Nat} (h:growTB .any l ds n=true) (hi:i<n):∃ o t,l[i]? = some o/\o.dst=some t/\t ∈ ds/\∀ (j:Nat) (x:Oper) (s:Tmp),l[j]? = some x->x.dst=some s->(looks l o s=true->Region.waitsFor .any l.toArray i j=true)/\(i ≠ j->s ≠ t):=by
 simp only [growTB,Bool.and_eq_true,List.all_eq_true,List.mem_range,decide_eq_true_eq] at h
 have h1:=h.1.1.2 i hi
 have hil:i<l.length:=by have:=h.1.1.1.1.1;omega
 refine ⟨l[i],?_⟩
 have ho:l[i]? = some l[i]:=List.getElem?_eq_getElem hil
 simp only [growOne,ho,Bool.and_eq_true,List.all_eq_true,List.mem_range] at h1
 obtain ⟨h2,h3⟩:=h1
 cases hd:l[i].dst with
 | none=>rw [hd] at h2;simp at h2
 | some t =>
  rw [hd] at h2
  refine ⟨t,ho,rfl,any_beq.1 h2,fun j x s hx hs=>?_⟩
  have hj:j<l.length:=(List.getElem?_eq_some_iff.1 hx).1
  have h4:=h3 j hj
  rw [hx] at h4
  simp only [hs,hd,Bool.and_eq_true,Bool.or_eq_true,Bool.not_eq_true',beq_iff_eq,bne_iff_ne,ne_eq,Option.some.injEq] at h4
  exact ⟨fun hl=>by rcases h4.1 with h5|h5;· rw [hl] at h5;cases h5
                    · exact h5,fun hij=>by rcases h4.2 with h5|h5;· exact absurd h5 hij
                                           · exact h5⟩
theorem heads_all {listed:Array Bool} {N:Nat} (hn:n<=N) (hs:listed.size=N) (h1:∀ k,k<n->listed.getD k false=true) (h2:∀ t,n<=t->t<N->listed.getD t true=false):listed=headList n (N - n):=by
 refine Array.ext (by simp [headList,hs];omega) fun i hi1 hi2=>?_
 by_cases hin:i<n
 · have:=h1 i hin
   simp [hi1] at this
   rw [this]
   simp [headList,Array.getElem_append,hin]
 · have:=h2 i (by omega) (by omega)
   simp [hi1] at this
   rw [this]
   simp [headList,Array.getElem_append,hin]
theorem wp_growt_any (hF:∀ v,setAll ds a v=F v) (hsz:∀ t ∈ ds,t<a.tmps.size) (hB:growTB .any l ds n=true) (hC:Stable C) (hS:∀ D ∈ Ds,∀ v u,Stable (D v u)) (hob:GrowEach P l Ds C F (l.take n) Ds)
 (hend:∀ (v:Tmp->Value) (w:World),C w->(∀ (j:Nat) (x:Oper) (E:Said) (t:Tmp),l[j]? = some x->Ds[j]? = some E->x.dst=some t->E (mask l x v) (v t) w)->wpList P l.toArray Q (l.drop n) (F v) w) :
 ∀ (f:Nat) (listed:Array Bool) (b:Act) (w:World),l.length<=f+(listed.toList.take n).count true->GTInv l ds Ds n a C listed b w->wpAny P .any l.toArray Q f listed b w:=by
 have hB':=hB
 simp only [growTB,Bool.and_eq_true,decide_eq_true_eq] at hB'
 obtain ⟨⟨⟨⟨⟨h0,hs⟩,hc⟩,_⟩,hseq⟩,hac⟩:=hB'
 have hn:n<l.toArray.size:=by simpa using h0
 obtain ⟨hlen,hat⟩:=growt_at (l.take n) Ds hob
 have hDl:Ds.length=n:=by rw [hlen,List.length_take];omega
 have fin:∀ (f:Nat) (listed:Array Bool) (b:Act) (w:World),l.length<=f+(listed.toList.take n).count true->GTInv l ds Ds n a C listed b w->(∀ k,k<n->listed.getD k false=true)->wpAny P .any l.toArray Q f listed b w:=by
  intro f listed b w hf inv hall
  have hb:F (vals b)=b:=(hF _).symm.trans (setAll_own inv.defers inv.size inv.out)
  have hle:=List.count_le_length (a:=true) (l:=listed.toList.take n)
  rw [List.length_take] at hle
  have hL:listed=headList n (l.length - n):=heads_all (by omega) (by rw [inv.head.size];simp) hall (fun t h1 h2=>inv.head.tail t h1 (by simpa using h2))
  have hw:=hend (vals b) w inv.c (fun j x E s hx hE hs'=>by
   have hj:j<n:=by have:=(List.getElem?_eq_some_iff.1 hE).1;omega
   exact inv.d j x E s hj (hall j hj) hx hE hs')
  rw [hb] at hw
  refine wpAny_le (f:=(l.drop n).length) (wpAny_of_seq (md:=.any) (Q':=Q) (l.drop n) n listed b w (fun j=>by simp [List.getElem?_drop]) ?_ hw) (by rw [List.length_drop];omega)
  rw [List.length_drop,hL]
  exact hseq
 intro f
 induction f with
 | zero =>
  intro listed b w hf inv
  exfalso
  have hle:=List.count_le_length (a:=true) (l:=listed.toList.take n)
  rw [List.length_take] at hle
  omega
 | succ f ih =>
  intro listed b w hf inv
  by_cases hall:∀ k,k<n->listed.getD k false=true
  · exact fin _ listed b w hf inv hall
  · have hb:F (vals b)=b:=(hF _).symm.trans (setAll_own inv.defers inv.size inv.out)
    have hsz':listed.size=l.length:=by rw [inv.head.size];simp
    obtain ⟨k0,hk0⟩:=Classical.not_forall.1 hall
    obtain ⟨hk0n,hk0l⟩:=Classical.not_imp.1 hk0
    have hk0f:listed.getD k0 false=false:=by simpa using hk0l
    have hk0t:listed.getD k0 true=false:=getD_in (by rw [hsz'];omega) hk0f
    refine ⟨fun h=>?_,fun i hi=>?_⟩
    · exfalso
      obtain ⟨k,hk1,hk2,hk3⟩:=least_of (p:=fun i=>listed.getD i false=false) k0 hk0f
      have hkl:k<l.length:=by omega
      have hr:k ∈ Region.ready .any l.toArray listed:=mem_ready.2 ⟨getD_in (by rw [hsz'];exact hkl) hk2,l[k],by simp [hkl],fun e he hb=>by
       have h1:=List.all_eq_true.1 hac k (List.mem_range.2 hkl)
       rw [List.getElem?_eq_getElem hkl] at h1
       have h2:=Array.all_eq_true'.1 h1 e he
       rw [hb] at h2
       have h3:=hk3 e.on (by simpa using h2)
       simpa using h3⟩
      rw [h] at hr
      cases hr
    · have hin:i<n:=Nat.lt_of_not_le fun h=>absurd hi (tail_waits hs hc hn inv.head _ k0 rfl hk0n hk0t i h)
      obtain ⟨hiu,oi,hoi,hall'⟩:=mem_ready.1 hi
      have hil:i<l.length:=by omega
      have hlD:∀ {j:Nat} {E:Said},Ds[j]? = some E->j<n:=fun hE=>by have:=(List.getElem?_eq_some_iff.1 hE).1;omega
      obtain ⟨o,t,ho,ht,hds,hsp⟩:=growt_spec hB hin
      obtain rfl:oi=o:=by rw [List.getElem?_toArray] at hoi;exact Option.some.inj (hoi.symm.trans ho)
      obtain ⟨D,hD,hg⟩:=hat i oi (by rw [List.getElem?_take_of_lt hin];exact ho)
      have hdep:∀ (j:Nat) (x:Oper) (E:Said) (s:Tmp),l[j]? = some x->Ds[j]? = some E->x.dst=some s->looks l oi s=true->E (mask l x (vals b)) (vals b s) w:=fun j x E s hx hE hs' hl=>by
       obtain ⟨oj,hoj,e,he,hb1,hb2⟩:=Region.waitsFor_spec ((hsp j x s hx hs').1 hl)
       obtain rfl:oi=oj:=Option.some.inj (hoi.symm.trans hoj)
       have:=hall' e he hb1
       rw [hb2] at this
       exact inv.d j x E s (hlD hE) this hx hE hs'
      have hself:looks l oi t=false:=by
       cases hl:looks l oi t with
       | false=>rfl
       | true =>
        obtain ⟨oj,hoj,e,he,hb1,hb2⟩:=Region.waitsFor_spec ((hsp i oi t ho ht).1 hl)
        obtain rfl:oi=oj:=Option.some.inj (hoi.symm.trans hoj)
        have:=hall' e he hb1
        rw [hb2,getD_both hiu] at this
        cases this
      have hw:=hg (vals b) w inv.c hdep
      rw [hb] at hw
      refine one_op hoi hw fun b' w' hR=>?_
      obtain ⟨u,rfl,hbl,hDu⟩:=hR
      rw [ht]
      have htz:t<b.tmps.size:=by rw [inv.size];exact hsz t hds
      refine ih _ _ _ ?_ ⟨inv.head.set hi hin,inv.defers,(size_put _ _ _).trans inv.size,fun s hs'=>?_,hC w w' inv.c hbl,fun j x E s hj hlj hx hE hs'=>?_⟩
      · have hsz2:i<(listed.toList.take n).length:=by rw [List.length_take,Array.length_toList,hsz'];omega
        have e:(listed.toList.take n)[i]=false:=by
         have:i<listed.size:=by omega
         have h2:listed[i]=false:=by simpa [this] using hiu
         simpa using h2
        have e2:((listed.setIfInBounds i true).toList.take n)=(listed.toList.take n).set i true:=by
         rw [Array.toList_setIfInBounds,List.take_set]
        rw [e2,List.count_set hsz2,e]
        simp
        omega
      · rw [show (b.put (some t) u).tmps=b.tmps.setIfInBounds t u from rfl,Array.getElem?_setIfInBounds_ne (fun e:t=s=>hs' (by rw [<- e];exact hds))]
        exact inv.out s hs'
      · by_cases hji:i=j
        · subst hji
          obtain rfl:oi=x:=Option.some.inj (ho.symm.trans hx)
          obtain rfl:D=E:=Option.some.inj (hD.symm.trans hE)
          obtain rfl:t=s:=Option.some.inj (ht.symm.trans hs')
          rw [mask_put hself,vals_eq htz]
          exact hDu
        · rw [getD_set_ne false hji] at hlj
          have hlk:looks l x t=false:=by
           cases hl:looks l x t with
           | false=>rfl
           | true =>
            obtain ⟨_,_,hx',_,_,hsp'⟩:=growt_spec hB hj
            obtain rfl:=Option.some.inj (hx.symm.trans hx')
            obtain ⟨oj,hoj,e,he,hb1,hb2⟩:=Region.waitsFor_spec ((hsp' i oi t ho ht).1 hl)
            have:=inv.head.closed j oj hoj hlj e he hb1
            rw [hb2,getD_both hiu] at this
            cases this
          rw [mask_put hlk,vals_ne ((hsp j x s hx hs').2 hji)]
          exact hS E (List.mem_of_getElem? hE) _ _ w w' (inv.d j x E s hj hlj hx hE hs') hbl
theorem wp_region_growt {id:Nat} {w:World} (n:Nat) (ds:List Tmp) (Ds:List Said) (C:World->Prop) (hF:∀ v,setAll ds a v=F v) (hm:P.follows .mixedOrders=true) (hB:growTB .any l ds n=true) (hsz:(ds.all fun t=>decide (t<a.tmps.size))=true)
 (hC:Stable C) (hw:C w.drew) (hS:∀ D ∈ Ds,∀ v u,Stable (D v u)) (hob:GrowEach P l Ds C F (l.take n) Ds)
 (hend:∀ (v:Tmp->Value) (w:World),C w->(∀ (j:Nat) (x:Oper) (E:Said) (t:Tmp),l[j]? = some x->Ds[j]? = some E->x.dst=some t->E (mask l x v) (v t) w)->wpList P l.toArray Q (l.drop n) (F v) w):(Code.region id l.toArray true).wp P Q a w:=by
 refine wp_region_any hm ?_
 refine wp_growt_any hF (fun t ht=>by simpa using List.all_eq_true.1 hsz t ht) hB hC hS hob hend _ _ a w.drew (by simp) ⟨⟨by simp,fun j oj _ hl=>(by rw [getD_replicate_false] at hl;cases hl),fun t _ ht=>getD_in (by simpa using ht) (getD_replicate_false _ _)⟩,rfl,rfl,fun _ _=>rfl,hw,fun j x E s hj hl=>?_⟩
 rw [getD_replicate_false] at hl
 cases hl
end
end
section
open Go Go.RowKit
def Oper.dies (P:Program) (o:Oper) (a:Act) (w:World) (R:Ending->World->Prop):Prop :=
 match (execOp a.eval o).run P w with
 | .ok (.enter f args) w'=>Calls P f args w' (fun e w''=>(∃ ch,e=.panicked ch)/\R e w'')
 | _=>False
theorem dies_wp {P:Program} {o:Oper} {a:Act} {w:World} {R:Ending->World->Prop} {K:Act->World->Prop} {Q:Exit->Act->World->Prop} (h:Oper.dies P o a w R) (hQ:∀ ch w',R (.panicked ch) w'->Q (.panic ch) a w'):o.wp P a w K Q:=by
 unfold Oper.dies at h
 unfold Oper.wp
 split at h <;> rename_i hr
 · rw [hr]
   refine Calls.mono h fun e w'' he=>?_
   obtain ⟨⟨ch,rfl⟩,h2⟩:=he
   exact hQ ch w'' h2
 · exact h.elim
theorem run_call_func {P:Program} {o:Oper} {a:Act} {f:FuncId} {xs:Array Operand} {ts:Array TypeId} {w:World} {args:Array Value} (ho:o.op=.call { callee:=.value (.func f),args:=xs,argTypes:=ts }) (ha:xs.map a.eval=args)
 (he:∀ args w,(callFunc f args).run P w=.ok (.enter f args) w):(execOp a.eval o).run P w=.ok (.enter f args) w:=by
 subst ha
 unfold execOp
 simp only [ho]
 simp [resolve,Deferred.ofValue,Act.eval,invoke,Sem.run_bind,Sem.run_pure,Result.andThen_ok,he]
theorem dies_call {P:Program} {o:Oper} {a:Act} {w:World} {R:Ending->World->Prop} {f:FuncId} {args:Array Value} (hr:(execOp a.eval o).run P w=.ok (.enter f args) w) (h:Calls P f args w fun e w''=>(∃ ch,e=.panicked ch)/\R e w''):Oper.dies P o a w R:=by
 unfold Oper.dies
 rw [hr]
 exact h
theorem loose_call {P:Program} {o:Oper} {a:Act} {w:World} {D:Value->World->Prop} {f:FuncId} {args:Array Value} (hr:(execOp a.eval o).run P w=.ok (.enter f args) w) (h:Calls P f args w fun e w''=>∃ v,e=.returned v/\D v w''):Oper.loose P o a w D:=by
 unfold Oper.loose
 rw [hr]
 exact h.mono fun e w'' ⟨v,he,hd⟩=>⟨v,he,v,fun _ _ _=>rfl,hd⟩
theorem wpSegs_call {P:Program} {l:List Oper} {Q:Act->World->Prop} {I C:World->Prop} {qs:List Nat} {j:Nat} {rest:List (List Nat × Nat)} {a A:Act} {o:Oper} (J:World->Prop) (D:Value->World->Prop)
 (hJI:∀ w,J w->I w) (hCJ:∀ w,C w->J w)
 (hq:∀ w0,J w0->wpQuiet P l.toArray (fun w'=>∃ x:Wld (Below w0.heap.size w0),w'=x.val) (fun a'=>a'=A) (pickOps l qs) a)
 (ho:l[j]? = some o) (hw:Region.wanted o (yielded l.toArray A.tmps)=true)
 (hD:∀ u,Stable (D u)) (hDJ:j ≠ l.length - 1->∀ u w,D u w->J w)
 (hlo:∀ w,C w->Oper.loose P o A w D)
 (hrest:∀ u w,D u w->wpSegs P l Q J rest (A.put o.dst u) (D u)):wpSegs P l Q I ((qs,j) :: rest) a C :=
 ⟨J,A,hJI,hCJ,hq,o,ho,hw,D,hD,hDJ,hlo,fun u ⟨w,h⟩=>hrest u w h⟩
section
variable {P:Program} {md:Region.Mode} {ops:Array Oper}
def dStep (P:Program) (ops:Array Oper) (I:World->Prop) (R:Ending->World->Prop) (j:Nat) (K:Act->Prop) (a:Act):Prop :=
 ∃ o,ops[j]? = some o/\((∃ v,Mild P ops I o v a/\K (a.put o.dst v)) \/ (Region.wanted o (yielded ops a.tmps)=true/\∀ w,I w->Oper.dies P o a w R))
def wpD (P:Program) (md:Region.Mode) (ops:Array Oper) (I:World->Prop) (R:Ending->World->Prop):Nat->Array Bool->Act->Prop
 | 0,_,_=>False
 | f+1,listed,a=>Region.ready md ops listed ≠ []/\∀ i ∈ Region.ready md ops listed,dStep P ops I R i (wpD P md ops I R f (listed.setIfInBounds i true)) a
theorem wpD_any {I:World->Prop} {R:Ending->World->Prop} {d:List Deferred} {Q:Exit->Act->World->Prop} (hI:Stable I) (hQ:∀ a w ch,a.defers=d->R (.panicked ch) w->Q (.panic ch) a w) :
 ∀ (f:Nat) (listed:Array Bool) (a:Act),a.defers=d->wpD P md ops I R f listed a->∀ w,I w->wpAny P md ops Q f listed a w
 | 0,_,_,_,h,_,_=>h.elim
 | f+1,listed,a,hd,h,w,hw=>by
  refine ⟨fun h0=>absurd h0 h.1,fun i hi=>?_⟩
  obtain ⟨o,ho,h1⟩:=h.2 i hi
  unfold wpOp
  rw [ho]
  simp only
  rcases h1 with ⟨v,h1,h2⟩|⟨hw',h3⟩
  · have hd2:(a.put o.dst v).defers=d:=by
     rw [<- hd]
     cases o.dst <;> rfl
    obtain ⟨u,hy,hs⟩:=h1 w hw
    rcases hy with ⟨hwt,hq⟩|⟨hwt,rfl⟩
    · rw [if_pos hwt]
      refine Or.inl (Oper.wp_of_quiet (C:=fun w'=>Below w.heap.size w w') (K:=fun a'=>a'=a.put o.dst v) (Below.refl _ _) (fun a' w' hb he=>?_) ⟨u,hq,hs.put⟩)
      subst he
      exact wpD_any hI hQ f _ _ hd2 h2 w' (hI w w' hw hb)
    · rw [if_neg (by rw [hwt];exact Bool.false_ne_true),hs.put]
      exact wpD_any hI hQ f _ _ hd2 h2 w hw
  · rw [if_pos hw']
    exact Or.inl (dies_wp (h3 w hw) fun ch w' hr=>hQ a w' ch hd hr)
theorem dies_put {o:Oper} {a:Act} {x:Option Tmp} {y:Value} {w:World} {R:Ending->World->Prop} (hsel:∀ cs b,o.op ≠ .select cs b) (hl:∀ d,x=some d->d ∉ o.looksAt ops) (h:Oper.dies P o (a.put x y) w R):Oper.dies P o a w R:=by
 unfold Oper.dies at *
 rw [execOp_put o hsel a x y hl] at h
 exact h
theorem first_mildD {last:Nat} {I:World->Prop} {R:Ending->World->Prop} {i:Nat} {oi:Oper} {v:Value} (hi:ops[i]? = some oi) (hsel:∀ (j:Nat) (o:Oper) cs b,ops[j]? = some o->o.op ≠ .select cs b)
 (hs:Region.sinkB md ops last=true) (hc:Region.chainB md ops last=true) (hn:last<ops.size) (hil:i<last) (hlast:last+1=ops.size) :
 ∀ (f:Nat) (listed:Array Bool) (a:Act),HeadInv md ops last listed ->
  (∀ j oj,ops[j]? = some oj->j ≠ i->listed.getD j true=false->(∀ e ∈ oj.after,Region.binds md e=true->e.on ≠ i)->oi.apart ops oj=true) ->
  i ∈ Region.ready md ops listed->Mild P ops I oi v a ->
  wpD P md ops I R f (listed.setIfInBounds i true) (a.put oi.dst v)->wpD P md ops I R (f+1) listed a:=by
 intro f
 induction f with
 | zero=>intro listed a _ _ _ _ H;exact H.elim
 | succ f ih =>
  intro listed a inv hfree hr hy H
  have hun:=(mem_ready.1 hr).1
  refine ⟨fun h=>(by rw [h] at hr;cases hr),fun j hj=>?_⟩
  have hjn:j<last:=Nat.lt_of_not_le fun h=>absurd hj (tail_waits hs hc hn inv _ i rfl hil hun j h)
  by_cases hji:j=i
  · subst hji;exact ⟨oi,hi,.inl ⟨v,hy,H⟩⟩
  · obtain ⟨oj',hoj',h1⟩:=H.2 j (ready_mono hj hji)
    obtain ⟨hjun,oj,hoj,hall⟩:=mem_ready.1 hj
    obtain rfl:oj'=oj:=Option.some.inj (hoj'.symm.trans hoj)
    have hnot:∀ e ∈ oj'.after,Region.binds md e=true->e.on ≠ i:=fun e he hb heq=>by
     have h2:=hall e he hb
     rw [heq,getD_both hun] at h2
     cases h2
    obtain ⟨p1,p2,p3⟩:=Oper.apart_spec (hfree j oj' hoj hji hjun hnot)
    have hfree':∀ k ok,ops[k]? = some ok->k ≠ i->(listed.setIfInBounds j true).getD k true=false ->
     (∀ e ∈ ok.after,Region.binds md e=true->e.on ≠ i)->oi.apart ops ok=true:=fun k ok hk hki hku hno=>by
     refine hfree k ok hk hki ?_ hno
     by_cases hjk:j=k
     · subst hjk;exact hjun
     · rw [getD_set_ne true hjk] at hku;exact hku
    refine ⟨oj',hoj,?_⟩
    rcases h1 with ⟨u,h1,h2⟩|⟨hw',h3⟩
    · refine .inl ⟨u,h1.of_put (hsel j oj' · · hoj) p1,?_⟩
      refine ih (listed.setIfInBounds j true) _ (inv.set hj hjn) hfree' (ready_mono hr (Ne.symm hji)) (hy.of_same (hsel i oi · · hi) p3) ?_
      rw [Array.setIfInBounds_comm _ _ hji,<- Act.put_comm a v u p2]
      exact h2
    · rw [wanted_put oj' a oi.dst v p1] at hw'
      exact .inr ⟨hw',fun w hw=>dies_put (hsel j oj' · · hoj) p1 (h3 w hw)⟩
end
def lexDie (md:Region.Mode) (ops:Array Oper) (last:Nat):List Nat->Nat->Array Bool->Bool
 | [],m,listed=>Region.ready md ops listed == [m]
 | i :: r,m,listed=>(Region.ready md ops listed).contains i && Region.free md ops listed i && decide (i<last) && lexDie md ops last r m (listed.setIfInBounds i true)
def dieB (md:Region.Mode) (l:List Oper) (qs:List Nat) (m:Nat):Bool :=
 Region.noSelect l.toArray && decide (0<l.length) && Region.sinkB md l.toArray (l.length - 1) && Region.chainB md l.toArray (l.length - 1) && dstsB (pickOps l qs) && lexDie md l.toArray (l.length - 1) qs m (Array.replicate l.length false)
theorem die_chain {P:Program} {md:Region.Mode} {l:List Oper} {I:World->Prop} {R:Ending->World->Prop} {A:Act} {m:Nat} {o:Oper} (hsel:∀ (j:Nat) (o:Oper) cs b,l.toArray[j]? = some o->o.op ≠ .select cs b)
 (hs:Region.sinkB md l.toArray (l.length - 1)=true) (hc:Region.chainB md l.toArray (l.length - 1)=true) (h0:0<l.length) (hI:∃ w,I w)
 (ho:l[m]? = some o) (hwant:Region.wanted o (yielded l.toArray A.tmps)=true) (hd:∀ w,I w->Oper.dies P o A w R) :
 ∀ (qs:List Nat) (listed:Array Bool) (a:Act),HeadInv md l.toArray (l.length - 1) listed->lexDie md l.toArray (l.length - 1) qs m listed=true->dstsB (pickOps l qs)=true ->
  (∀ w0,I w0->wpQuiet P l.toArray (fun w'=>∃ x:Wld (Below w0.heap.size w0),w'=x.val) (fun a'=>a'=A) (pickOps l qs) a) ->
  wpD P md l.toArray I R (qs.length+1) listed a
 | [],listed,a,inv,hB,_,h=>by
  obtain ⟨w,hw⟩:=hI
  have e:a=A:=h w hw
  subst e
  have hr:Region.ready md l.toArray listed=[m]:=by simpa [lexDie] using hB
  refine ⟨by rw [hr];simp,fun i hi=>?_⟩
  rw [hr] at hi
  obtain rfl:=List.mem_singleton.1 hi
  exact ⟨o,by simpa using ho,.inr ⟨hwant,hd⟩⟩
 | i :: qs,listed,a,inv,hB,hdd,h=>by
  simp only [lexDie,Bool.and_eq_true,decide_eq_true_eq] at hB
  obtain ⟨⟨⟨hr,hf⟩,hil⟩,hB'⟩:=hB
  have hr':i ∈ Region.ready md l.toArray listed:=by simpa using hr
  obtain ⟨_,o',ho1,_⟩:=mem_ready.1 hr'
  have ho':l[i]? = some o':=by simpa using ho1
  simp only [pickOps,ho'] at hdd h
  obtain ⟨v,hm,hk⟩:=mild_of_quiet hdd h hI
  simp only [dstsB,Bool.and_eq_true] at hdd
  have hsz:l.toArray.size=l.length:=by simp
  exact first_mildD ho1 hsel hs hc (by omega) hil (by omega) _ listed a inv (Region.free_spec ho1 hf) hr' hm
   (die_chain hsel hs hc h0 hI ho hwant hd qs _ _ (inv.set hr' hil) hB' hdd.2 hk)
theorem wp_region_dies {P:Program} {id:Nat} {Q:Exit->Act->World->Prop} {a A:Act} {w:World} {l:List Oper} {o:Oper} (qs:List Nat) (m:Nat) (I:World->Prop) (R:Ending->World->Prop) (hm:P.follows .mixedOrders=true) (hB:dieB .any l qs m=true)
 (hl:qs.length+1<=l.length) (hI:Stable I) (hw:I w.drew)
 (hq:∀ w0,I w0->wpQuiet P l.toArray (fun w'=>∃ x:Wld (Below w0.heap.size w0),w'=x.val) (fun a'=>a'=A) (pickOps l qs) a)
 (ho:l[m]? = some o) (hwant:Region.wanted o (yielded l.toArray A.tmps)=true) (hd:∀ w,I w->Oper.dies P o A w R)
 (hQ:∀ a' w ch,a'.defers=a.defers->R (.panicked ch) w->Q (.panic ch) a' w):(Code.region id l.toArray true).wp P Q a w:=by
 simp only [dieB,Bool.and_eq_true,decide_eq_true_eq] at hB
 obtain ⟨⟨⟨⟨⟨hsel,h0⟩,hs⟩,hc⟩,hdd⟩,hlex⟩:=hB
 refine wp_region_any hm ?_
 have inv0:HeadInv .any l.toArray (l.length - 1) (Array.replicate l.length false):=⟨by simp,fun j oj _ hl=>(by rw [getD_replicate_false] at hl;cases hl),fun t _ ht=>getD_in (by simpa using ht) (getD_replicate_false _ _)⟩
 have H:=die_chain (P:=P) (Region.noSelect_spec hsel) hs hc h0 ⟨_,hw⟩ ho hwant hd qs _ a inv0 hlex hdd hq
 have H2:=wpD_any (Q:=Q) hI hQ _ _ _ rfl H w.drew hw
 rw [show l.toArray.size=l.length by simp]
 exact wpAny_le H2 hl
end
end Go.Proofs.YtjcpccadmcglgaaGreatDoor
