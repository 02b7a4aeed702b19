/- Layer 17 (lang): the parser does not look at the offsets: plain data, no program in sight. -/
import Derived.Test.YtieojjngeibnmaaGreatDoorZB10
set_option linter.unusedVariables false
set_option linter.unusedSimpArgs false
set_option maxRecDepth 100000
set_option maxHeartbeats 64000000
namespace Go.Proofs.YtieojjngeibnmaaGreatDoor
section
open Go
def bare (t:Tok):Tok:=⟨t.kind,0,t.text,t.n⟩
structure SimS (S T:PS):Prop where
 l:S.l.map bare=T.l.map bare
 s:S.s=T.s
 out:S.out=T.out
def SimR {α:Type} (R:α->α->Prop) (x y:Except PErr (α × PS)):Prop:=match x,y with
 | .error e,.error f=>e.2=f.2
 | .ok p,.ok q=>R p.1 q.1/\SimS p.2 q.2
 | _,_=>False
def Sim {α:Type} (R:α->α->Prop) (m n:PM α):Prop:=∀ S T,SimS S T->SimR R (m S) (n T)
def SimT (t u:Tok):Prop:=bare t=bare u
theorem sim_bind {α β:Type} {R:α->α->Prop} {Q:β->β->Prop} {m n:PM α} {f g:α->PM β} (h:Sim R m n) (hf:∀ a b,R a b->Sim Q (f a) (g b)):Sim Q (m >>= f) (n >>= g):=by
 intro S T hS
 have:=h S T hS
 show SimR Q (PM.bind m f S) (PM.bind n g T)
 unfold PM.bind
 cases e1:m S <;> cases e2:n T <;> rw [e1,e2] at this
 · exact this
 · exact this.elim
 · exact this.elim
 · exact hf _ _ this.1 _ _ this.2
theorem sim_pure {α:Type} {R:α->α->Prop} {a b:α} (h:R a b):Sim R (pure a) (pure b):=fun _ _ hS=>⟨h,hS⟩
theorem sim_fail {α:Type} {R:α->α->Prop} (i j:Nat) (e:Int):Sim R (failM i e:PM α) (failM j e):=fun _ _ _=>rfl
theorem sim_mod {f:Stmt->Stmt}:Sim Eq (modM f) (modM f):=fun S T h=>⟨rfl,h.l,by show f S.s=f T.s;rw [h.s],h.out⟩
theorem SimS.now {S T:PS} (h:SimS S T) (en en':Nat):SimT (nowT en S) (nowT en' T):=by
 have:=h.l
 unfold nowT SimT
 cases e1:S.l <;> cases e2:T.l <;> rw [e1,e2] at this
 · rfl
 · cases this
 · cases this
 · exact (List.cons.inj this).1
theorem SimS.tail {S T:PS} (h:SimS S T):SimS { S with l:=S.l.tail } { T with l:=T.l.tail }:=⟨by show S.l.tail.map bare=T.l.tail.map bare;rw [List.map_tail,List.map_tail,h.l],h.s,h.out⟩
theorem SimS.drop {S T:PS} (h:SimS S T) (k:Nat):SimS { S with l:=S.l.drop k } { T with l:=T.l.drop k }:=⟨by show (S.l.drop k).map bare=(T.l.drop k).map bare;rw [List.map_drop,List.map_drop,h.l],h.s,h.out⟩
theorem SimT.kind {t u:Tok} (h:SimT t u):t.kind=u.kind:=by
 have e:(bare t).kind=(bare u).kind:=by rw [show bare t=bare u from h]
 exact e
theorem SimT.text {t u:Tok} (h:SimT t u):t.text=u.text:=by
 have e:(bare t).text=(bare u).text:=by rw [show bare t=bare u from h]
 exact e
theorem SimT.n {t u:Tok} (h:SimT t u):t.n=u.n:=by
 have e:(bare t).n=(bare u).n:=by rw [show bare t=bare u from h]
 exact e
theorem sim_now (en en':Nat):Sim SimT (nowM en) (nowM en'):=fun _ _ h=>⟨h.now en en',h⟩
theorem sim_next:Sim Eq nextM nextM:=fun _ _ h=>⟨rfl,h.tail⟩
theorem is_bare:∀ (xs:List ByteArray) (l:List Tok),isB xs (l.map bare)=isB xs l
 | [],_=>rfl
 | _ :: _,[]=>rfl
 | x :: xs,t :: ts=>by
  show (wordB x (bare t) && isB xs (ts.map bare))=(wordB x t && isB xs ts)
  rw [is_bare xs ts]
  rfl
theorem SimS.is {S T:PS} (h:SimS S T) (xs:List ByteArray):isB xs S.l=isB xs T.l:=by rw [<- is_bare,h.l,is_bare]
theorem sim_may (xs:List ByteArray):Sim Eq (mayM xs) (mayM xs):=by
 intro S T h
 unfold mayM
 rw [h.is xs]
 split
 · exact ⟨rfl,h.drop _⟩
 · exact ⟨rfl,h⟩
theorem sim_must (en en':Nat):∀ xs,Sim Eq (mustM en xs) (mustM en' xs)
 | []=>sim_pure rfl
 | x :: xs=>by
  intro S T h
  unfold mustM
  rw [h.is [x]]
  split
  · exact sim_must en en' xs _ _ h.tail
  · exact rfl
theorem SimT.named {t u:Tok} (h:SimT t u):namedT t=namedT u:=by unfold namedT;rw [h.kind,h.text]
theorem SimT.valued {t u:Tok} (h:SimT t u):valuedT t=valuedT u:=by unfold valuedT;rw [h.kind,h.text]
theorem sim_name (en en':Nat):Sim Eq (nameM en) (nameM en'):=by
 intro S T h
 have:=h.now en en'
 unfold nameM
 rw [this.named,this.text]
 split
 · split
   · exact rfl
   · exact ⟨rfl,h.tail⟩
 · exact rfl
theorem sim_number (en en':Nat):Sim Eq (numberM en) (numberM en'):=by
 intro S T h
 have:=h.now en en'
 unfold numberM
 rw [this.kind,this.n]
 split
 · exact ⟨rfl,h.tail⟩
 · exact rfl
theorem sim_value (en en':Nat):Sim Eq (valueM en) (valueM en'):=by
 intro S T h
 have:=h.now en en'
 unfold valueM
 rw [h.is,this.kind,this.n,this.text]
 split
 · exact ⟨rfl,h.tail⟩
 · split
   · exact ⟨rfl,h.tail⟩
   · split
     · exact ⟨rfl,h.tail⟩
     · exact rfl
theorem sim_list (en en':Nat) (bt:ByteArray) {st:Tok->Bool} (hs:∀ t u,SimT t u->st t=st u) {one two:PM Unit} (h1:Sim Eq one two):∀ k,Sim Eq (listM en bt st one k) (listM en' bt st two k)
 | 0=>by
  intro S T h
  unfold listM
  rw [hs _ _ (h.now en en')]
  split
  · exact rfl
  · exact h1 S T h
 | k+1=>by
  intro S T h
  have:=h1 S T h
  unfold listM
  cases e1:one S <;> cases e2:two T <;> rw [e1,e2] at this
  · exact this
  · exact this.elim
  · exact this.elim
  · show SimR Eq (if _ then _ else _) (if _ then _ else _)
    rw [this.2.is]
    split
    · exact sim_list en en' bt hs h1 k _ _ this.2.tail
    · exact ⟨rfl,this.2⟩
theorem sim_cols (en en':Nat):Sim Eq (colsOne en) (colsOne en'):=by
 intro S T h
 have:=sim_name en en' S T h
 unfold colsOne
 cases e1:nameM en S <;> cases e2:nameM en' T <;> rw [e1,e2] at this
 · exact this
 · exact this.elim
 · exact this.elim
 · exact ⟨rfl,this.2.l,this.2.s,by show _ ++ _=_ ++ _;rw [this.2.out,this.1]⟩
theorem sim_columns (en en' most:Nat):Sim Eq (columnsM en most) (columnsM en' most):=by
 intro S T h
 have:=sim_list en en' w_comma (fun t u h=>SimT.named h) (sim_cols en en') most { S with out:=[] } { T with out:=[] } ⟨h.l,h.s,rfl⟩
 unfold columnsM
 generalize listM en w_comma namedT (colsOne en) most _=x at this ⊢
 generalize listM en' w_comma namedT (colsOne en') most _=y at this ⊢
 cases x <;> cases y
 · exact this
 · exact this.elim
 · exact this.elim
 · exact ⟨this.2.out,this.2.l,this.2.s,h.out⟩
theorem sim_colOne (en en':Nat):Sim Eq (colOne en) (colOne en'):=by
 unfold colOne
 repeat' (first|exact sim_mod|exact sim_must _ _ _|exact sim_name _ _|exact sim_number _ _|exact sim_value _ _|exact sim_may _|exact sim_now _ _|exact sim_next|exact sim_columns _ _ _|exact sim_fail _ _ _|exact sim_pure rfl|(refine sim_list _ _ _ (fun t u h=>SimT.named h) ?_ _)|(refine sim_list _ _ _ (fun t u h=>SimT.valued h) ?_ _)|(refine sim_bind (sim_now _ _) (fun a b e=>?_))|(refine sim_bind (R:=Eq) ?_ (fun a b e=>?_))|(subst e;split)|subst e)
theorem sim_create (en en':Nat):Sim Eq (createM en) (createM en'):=by
 unfold createM
 repeat' (first|exact sim_colOne _ _|exact sim_mod|exact sim_must _ _ _|exact sim_name _ _|exact sim_number _ _|exact sim_value _ _|exact sim_may _|exact sim_now _ _|exact sim_next|exact sim_columns _ _ _|exact sim_fail _ _ _|exact sim_pure rfl|(refine sim_list _ _ _ (fun t u h=>SimT.named h) ?_ _)|(refine sim_list _ _ _ (fun t u h=>SimT.valued h) ?_ _)|(refine sim_bind (sim_now _ _) (fun a b e=>?_))|(refine sim_bind (R:=Eq) ?_ (fun a b e=>?_))|(subst e;split)|subst e)
theorem sim_rename (en en':Nat):Sim Eq (renameM en) (renameM en'):=by
 unfold renameM
 repeat' (first|exact sim_mod|exact sim_must _ _ _|exact sim_name _ _|exact sim_number _ _|exact sim_value _ _|exact sim_may _|exact sim_now _ _|exact sim_next|exact sim_columns _ _ _|exact sim_fail _ _ _|exact sim_pure rfl|(refine sim_list _ _ _ (fun t u h=>SimT.named h) ?_ _)|(refine sim_list _ _ _ (fun t u h=>SimT.valued h) ?_ _)|(refine sim_bind (sim_now _ _) (fun a b e=>?_))|(refine sim_bind (R:=Eq) ?_ (fun a b e=>?_))|(subst e;split)|subst e)
theorem sim_rowOne (en en':Nat):Sim Eq (rowOne en) (rowOne en'):=by
 unfold rowOne
 repeat' (first|exact sim_mod|exact sim_must _ _ _|exact sim_name _ _|exact sim_number _ _|exact sim_value _ _|exact sim_may _|exact sim_now _ _|exact sim_next|exact sim_columns _ _ _|exact sim_fail _ _ _|exact sim_pure rfl|(refine sim_list _ _ _ (fun t u h=>SimT.named h) ?_ _)|(refine sim_list _ _ _ (fun t u h=>SimT.valued h) ?_ _)|(refine sim_bind (sim_now _ _) (fun a b e=>?_))|(refine sim_bind (R:=Eq) ?_ (fun a b e=>?_))|(subst e;split)|subst e)
theorem sim_insert (en en':Nat):Sim Eq (insertM en) (insertM en'):=by
 unfold insertM
 repeat' (first|exact sim_rowOne _ _|exact sim_mod|exact sim_must _ _ _|exact sim_name _ _|exact sim_number _ _|exact sim_value _ _|exact sim_may _|exact sim_now _ _|exact sim_next|exact sim_columns _ _ _|exact sim_fail _ _ _|exact sim_pure rfl|(refine sim_list _ _ _ (fun t u h=>SimT.named h) ?_ _)|(refine sim_list _ _ _ (fun t u h=>SimT.valued h) ?_ _)|(refine sim_bind (sim_now _ _) (fun a b e=>?_))|(refine sim_bind (R:=Eq) ?_ (fun a b e=>?_))|(subst e;split)|subst e)
theorem sim_condOne (en en':Nat):Sim Eq (condOne en) (condOne en'):=by
 unfold condOne
 refine sim_bind (sim_name _ _) (fun a b e=>?_)
 subst e
 refine sim_bind (sim_now _ _) (fun t u e=>?_)
 rw [show opI t=opI u by unfold opI;rw [e.kind,e.text]]
 clear e
 split
 repeat' (first|exact sim_mod|exact sim_must _ _ _|exact sim_name _ _|exact sim_number _ _|exact sim_value _ _|exact sim_may _|exact sim_now _ _|exact sim_next|exact sim_columns _ _ _|exact sim_fail _ _ _|exact sim_pure rfl|(refine sim_list _ _ _ (fun t u h=>SimT.named h) ?_ _)|(refine sim_list _ _ _ (fun t u h=>SimT.valued h) ?_ _)|(refine sim_bind (sim_now _ _) (fun a b e=>?_))|(refine sim_bind (R:=Eq) ?_ (fun a b e=>?_))|(subst e;split)|subst e)
theorem sim_where (en en':Nat):Sim Eq (whereM en) (whereM en'):=by
 unfold whereM
 repeat' (first|exact sim_condOne _ _|exact sim_mod|exact sim_must _ _ _|exact sim_name _ _|exact sim_number _ _|exact sim_value _ _|exact sim_may _|exact sim_now _ _|exact sim_next|exact sim_columns _ _ _|exact sim_fail _ _ _|exact sim_pure rfl|(refine sim_list _ _ _ (fun t u h=>SimT.named h) ?_ _)|(refine sim_list _ _ _ (fun t u h=>SimT.valued h) ?_ _)|(refine sim_bind (sim_now _ _) (fun a b e=>?_))|(refine sim_bind (R:=Eq) ?_ (fun a b e=>?_))|(subst e;split)|subst e)
theorem sim_setOne (en en':Nat):Sim Eq (setOne en) (setOne en'):=by
 unfold setOne
 refine sim_bind (sim_name _ _) (fun a b e=>?_)
 subst e
 refine sim_bind (sim_must _ _ _) (fun a b e=>?_)
 refine sim_bind (sim_now _ _) (fun t u e=>?_)
 rw [e.named]
 clear e
 split
 repeat' (first|exact sim_mod|exact sim_must _ _ _|exact sim_name _ _|exact sim_number _ _|exact sim_value _ _|exact sim_may _|exact sim_now _ _|exact sim_next|exact sim_columns _ _ _|exact sim_fail _ _ _|exact sim_pure rfl|(refine sim_list _ _ _ (fun t u h=>SimT.named h) ?_ _)|(refine sim_list _ _ _ (fun t u h=>SimT.valued h) ?_ _)|(refine sim_bind (sim_now _ _) (fun a b e=>?_))|(refine sim_bind (R:=Eq) ?_ (fun a b e=>?_))|(subst e;split)|subst e)
theorem sim_update (en en':Nat):Sim Eq (updateM en) (updateM en'):=by
 unfold updateM
 repeat' (first|exact sim_setOne _ _|exact sim_where _ _|exact sim_mod|exact sim_must _ _ _|exact sim_name _ _|exact sim_number _ _|exact sim_value _ _|exact sim_may _|exact sim_now _ _|exact sim_next|exact sim_columns _ _ _|exact sim_fail _ _ _|exact sim_pure rfl|(refine sim_list _ _ _ (fun t u h=>SimT.named h) ?_ _)|(refine sim_list _ _ _ (fun t u h=>SimT.valued h) ?_ _)|(refine sim_bind (sim_now _ _) (fun a b e=>?_))|(refine sim_bind (R:=Eq) ?_ (fun a b e=>?_))|(subst e;split)|subst e)
theorem sim_delete (en en':Nat):Sim Eq (deleteM en) (deleteM en'):=by
 unfold deleteM
 repeat' (first|exact sim_where _ _|exact sim_mod|exact sim_must _ _ _|exact sim_name _ _|exact sim_number _ _|exact sim_value _ _|exact sim_may _|exact sim_now _ _|exact sim_next|exact sim_columns _ _ _|exact sim_fail _ _ _|exact sim_pure rfl|(refine sim_list _ _ _ (fun t u h=>SimT.named h) ?_ _)|(refine sim_list _ _ _ (fun t u h=>SimT.valued h) ?_ _)|(refine sim_bind (sim_now _ _) (fun a b e=>?_))|(refine sim_bind (R:=Eq) ?_ (fun a b e=>?_))|(subst e;split)|subst e)
theorem sim_aggB (en en':Nat) (k:Int):Sim Eq (aggB en k) (aggB en' k):=by
 unfold aggB
 split
 · exact sim_must _ _ _
 · refine sim_bind (sim_name _ _) (fun a b e=>?_)
   subst e
   exact sim_mod
theorem sim_selHead (en en':Nat):Sim Eq (selHead en) (selHead en'):=by
 unfold selHead
 refine sim_bind (sim_now _ _) (fun t u e=>?_)
 rw [show aggI t=aggI u by unfold aggI;rw [e.kind,e.text]]
 clear e
 repeat' (first|exact sim_aggB _ _ _|exact sim_mod|exact sim_must _ _ _|exact sim_name _ _|exact sim_number _ _|exact sim_value _ _|exact sim_may _|exact sim_now _ _|exact sim_next|exact sim_columns _ _ _|exact sim_fail _ _ _|exact sim_pure rfl|(refine sim_list _ _ _ (fun t u h=>SimT.named h) ?_ _)|(refine sim_list _ _ _ (fun t u h=>SimT.valued h) ?_ _)|(refine sim_bind (sim_now _ _) (fun a b e=>?_))|(refine sim_bind (R:=Eq) ?_ (fun a b e=>?_))|(subst e;split)|subst e)
theorem sim_join (en en':Nat):Sim Eq (joinM en) (joinM en'):=by
 unfold joinM
 repeat' (first|exact sim_mod|exact sim_must _ _ _|exact sim_name _ _|exact sim_number _ _|exact sim_value _ _|exact sim_may _|exact sim_now _ _|exact sim_next|exact sim_columns _ _ _|exact sim_fail _ _ _|exact sim_pure rfl|(refine sim_list _ _ _ (fun t u h=>SimT.named h) ?_ _)|(refine sim_list _ _ _ (fun t u h=>SimT.valued h) ?_ _)|(refine sim_bind (sim_now _ _) (fun a b e=>?_))|(refine sim_bind (R:=Eq) ?_ (fun a b e=>?_))|(subst e;split)|subst e)
theorem sim_orderB (en en':Nat):Sim Eq (orderB en) (orderB en'):=by
 unfold orderB
 repeat' (first|exact sim_mod|exact sim_must _ _ _|exact sim_name _ _|exact sim_number _ _|exact sim_value _ _|exact sim_may _|exact sim_now _ _|exact sim_next|exact sim_columns _ _ _|exact sim_fail _ _ _|exact sim_pure rfl|(refine sim_list _ _ _ (fun t u h=>SimT.named h) ?_ _)|(refine sim_list _ _ _ (fun t u h=>SimT.valued h) ?_ _)|(refine sim_bind (sim_now _ _) (fun a b e=>?_))|(refine sim_bind (R:=Eq) ?_ (fun a b e=>?_))|(subst e;split)|subst e)
theorem sim_order (en en':Nat):Sim Eq (orderM en) (orderM en'):=by
 intro S T h
 unfold orderM
 rw [h.s]
 split
 · exact sim_orderB en en' S T h
 · exact ⟨rfl,h⟩
theorem sim_read (en en':Nat):Sim Eq (readM en) (readM en'):=by
 intro S T h
 unfold readM
 rw [h.is,h.is]
 split
 · exact sim_must en en' _ S T h
 · exact ⟨rfl,h⟩
theorem sim_sel (en en':Nat):Sim Eq (selM en) (selM en'):=by
 unfold selM
 repeat' (first|exact sim_selHead _ _|exact sim_join _ _|exact sim_where _ _|exact sim_order _ _|exact sim_mod|exact sim_must _ _ _|exact sim_name _ _|exact sim_number _ _|exact sim_value _ _|exact sim_may _|exact sim_now _ _|exact sim_next|exact sim_columns _ _ _|exact sim_fail _ _ _|exact sim_pure rfl|(refine sim_list _ _ _ (fun t u h=>SimT.named h) ?_ _)|(refine sim_list _ _ _ (fun t u h=>SimT.valued h) ?_ _)|(refine sim_bind (sim_now _ _) (fun a b e=>?_))|(refine sim_bind (R:=Eq) ?_ (fun a b e=>?_))|(subst e;split)|subst e)
theorem sim_mode (en en':Nat):Sim Eq (modeM en) (modeM en'):=by
 unfold modeM
 repeat' (first|exact sim_read _ _|exact sim_mod|exact sim_must _ _ _|exact sim_name _ _|exact sim_number _ _|exact sim_value _ _|exact sim_may _|exact sim_now _ _|exact sim_next|exact sim_columns _ _ _|exact sim_fail _ _ _|exact sim_pure rfl|(refine sim_list _ _ _ (fun t u h=>SimT.named h) ?_ _)|(refine sim_list _ _ _ (fun t u h=>SimT.valued h) ?_ _)|(refine sim_bind (sim_now _ _) (fun a b e=>?_))|(refine sim_bind (R:=Eq) ?_ (fun a b e=>?_))|(subst e;split)|subst e)
theorem sim_begin (en en':Nat):Sim Eq (beginM en) (beginM en'):=by
 unfold beginM
 repeat' (first|exact sim_mode _ _|exact sim_mod|exact sim_must _ _ _|exact sim_name _ _|exact sim_number _ _|exact sim_value _ _|exact sim_may _|exact sim_now _ _|exact sim_next|exact sim_columns _ _ _|exact sim_fail _ _ _|exact sim_pure rfl|(refine sim_list _ _ _ (fun t u h=>SimT.named h) ?_ _)|(refine sim_list _ _ _ (fun t u h=>SimT.valued h) ?_ _)|(refine sim_bind (sim_now _ _) (fun a b e=>?_))|(refine sim_bind (R:=Eq) ?_ (fun a b e=>?_))|(subst e;split)|subst e)
theorem sim_namedM (en en':Nat) (k:Int):Sim Eq (namedM en k) (namedM en' k):=by
 unfold namedM
 repeat' (first|exact sim_mod|exact sim_must _ _ _|exact sim_name _ _|exact sim_number _ _|exact sim_value _ _|exact sim_may _|exact sim_now _ _|exact sim_next|exact sim_columns _ _ _|exact sim_fail _ _ _|exact sim_pure rfl|(refine sim_list _ _ _ (fun t u h=>SimT.named h) ?_ _)|(refine sim_list _ _ _ (fun t u h=>SimT.valued h) ?_ _)|(refine sim_bind (sim_now _ _) (fun a b e=>?_))|(refine sim_bind (R:=Eq) ?_ (fun a b e=>?_))|(subst e;split)|subst e)
theorem sim_commit (en en':Nat):Sim Eq (commitM en) (commitM en'):=by
 unfold commitM
 repeat' (first|exact sim_namedM _ _ _|exact sim_mod|exact sim_must _ _ _|exact sim_name _ _|exact sim_number _ _|exact sim_value _ _|exact sim_may _|exact sim_now _ _|exact sim_next|exact sim_columns _ _ _|exact sim_fail _ _ _|exact sim_pure rfl|(refine sim_list _ _ _ (fun t u h=>SimT.named h) ?_ _)|(refine sim_list _ _ _ (fun t u h=>SimT.valued h) ?_ _)|(refine sim_bind (sim_now _ _) (fun a b e=>?_))|(refine sim_bind (R:=Eq) ?_ (fun a b e=>?_))|(subst e;split)|subst e)
theorem sim_rollback (en en':Nat):Sim Eq (rollbackM en) (rollbackM en'):=by
 unfold rollbackM
 repeat' (first|exact sim_namedM _ _ _|exact sim_mod|exact sim_must _ _ _|exact sim_name _ _|exact sim_number _ _|exact sim_value _ _|exact sim_may _|exact sim_now _ _|exact sim_next|exact sim_columns _ _ _|exact sim_fail _ _ _|exact sim_pure rfl|(refine sim_list _ _ _ (fun t u h=>SimT.named h) ?_ _)|(refine sim_list _ _ _ (fun t u h=>SimT.valued h) ?_ _)|(refine sim_bind (sim_now _ _) (fun a b e=>?_))|(refine sim_bind (R:=Eq) ?_ (fun a b e=>?_))|(subst e;split)|subst e)
theorem sim_slotN (en en':Nat):Sim Eq (slotN en) (slotN en'):=by
 unfold slotN
 refine sim_bind (sim_now _ _) (fun t u e=>?_)
 clear e
 repeat' (first|exact sim_mod|exact sim_must _ _ _|exact sim_name _ _|exact sim_number _ _|exact sim_value _ _|exact sim_may _|exact sim_now _ _|exact sim_next|exact sim_columns _ _ _|exact sim_fail _ _ _|exact sim_pure rfl|(refine sim_list _ _ _ (fun t u h=>SimT.named h) ?_ _)|(refine sim_list _ _ _ (fun t u h=>SimT.valued h) ?_ _)|(refine sim_bind (sim_now _ _) (fun a b e=>?_))|(refine sim_bind (R:=Eq) ?_ (fun a b e=>?_))|(subst e;split)|subst e)
theorem sim_slot (en en':Nat):Sim Eq (slotM en) (slotM en'):=by
 unfold slotM
 repeat' (first|exact sim_namedM _ _ _|exact sim_slotN _ _|exact sim_mod|exact sim_must _ _ _|exact sim_name _ _|exact sim_number _ _|exact sim_value _ _|exact sim_may _|exact sim_now _ _|exact sim_next|exact sim_columns _ _ _|exact sim_fail _ _ _|exact sim_pure rfl|(refine sim_list _ _ _ (fun t u h=>SimT.named h) ?_ _)|(refine sim_list _ _ _ (fun t u h=>SimT.valued h) ?_ _)|(refine sim_bind (sim_now _ _) (fun a b e=>?_))|(refine sim_bind (R:=Eq) ?_ (fun a b e=>?_))|(subst e;split)|subst e)
theorem sim_vacuum (en en':Nat):Sim Eq (vacuumM en) (vacuumM en'):=by
 unfold vacuumM
 repeat' (first|exact sim_mod|exact sim_must _ _ _|exact sim_name _ _|exact sim_number _ _|exact sim_value _ _|exact sim_may _|exact sim_now _ _|exact sim_next|exact sim_columns _ _ _|exact sim_fail _ _ _|exact sim_pure rfl|(refine sim_list _ _ _ (fun t u h=>SimT.named h) ?_ _)|(refine sim_list _ _ _ (fun t u h=>SimT.valued h) ?_ _)|(refine sim_bind (sim_now _ _) (fun a b e=>?_))|(refine sim_bind (R:=Eq) ?_ (fun a b e=>?_))|(subst e;split)|subst e)
theorem sim_check:Sim Eq checkM checkM:=sim_mod
theorem sim_firsts (en en':Nat) (x:ByteArray):(firstM en x=none/\firstM en' x=none) \/ ∃ f g,firstM en x=some f/\firstM en' x=some g/\Sim Eq f g:=by
 have go:∀ (L:List (ByteArray × PM Unit × PM Unit)),(∀ q ∈ L,Sim Eq q.2.1 q.2.2) ->
  ((((L.map fun q=>(q.1,q.2.1)).find? fun q=>decide (q.1=x)).map (·.2)=none/\((L.map fun q=>(q.1,q.2.2)).find? fun q=>decide (q.1=x)).map (·.2)=none) \/
  ∃ f g,((L.map fun q=>(q.1,q.2.1)).find? fun q=>decide (q.1=x)).map (·.2)=some f/\((L.map fun q=>(q.1,q.2.2)).find? fun q=>decide (q.1=x)).map (·.2)=some g/\Sim Eq f g):=by
  intro L
  induction L with
  | nil=>exact fun _=>.inl ⟨rfl,rfl⟩
  | cons q L ih =>
   intro h
   rw [List.map_cons,List.map_cons,List.find?_cons,List.find?_cons]
   by_cases e:q.1=x
   · rw [decide_eq_true e]
     exact .inr ⟨_,_,rfl,rfl,h q List.mem_cons_self⟩
   · rw [decide_eq_false e]
     exact ih fun p hp=>h p (List.mem_cons_of_mem _ hp)
 refine go [(w_create,createM en,createM en'),(w_rename,renameM en,renameM en'),(w_insert,insertM en,insertM en'),(w_update,updateM en,updateM en'),(w_delete,deleteM en,deleteM en'),(w_select,selM en,selM en'),(w_begin,beginM en,beginM en'),(w_commit,commitM en,commitM en'),(w_rollback,rollbackM en,rollbackM en'),(w_checkpoint,checkM,checkM),(w_savepoint,namedM en 11,namedM en' 11),(w_prepare,namedM en 13,namedM en' 13),(w_vacuum,vacuumM en,vacuumM en'),(w_slot,slotM en,slotM en')] ?_
 intro q hq
 simp only [List.mem_cons,List.not_mem_nil,or_false] at hq
 rcases hq with rfl|rfl|rfl|rfl|rfl|rfl|rfl|rfl|rfl|rfl|rfl|rfl|rfl|rfl
 · exact sim_create _ _
 · exact sim_rename _ _
 · exact sim_insert _ _
 · exact sim_update _ _
 · exact sim_delete _ _
 · exact sim_sel _ _
 · exact sim_begin _ _
 · exact sim_commit _ _
 · exact sim_rollback _ _
 · exact sim_check
 · exact sim_namedM _ _ _
 · exact sim_namedM _ _ _
 · exact sim_vacuum _ _
 · exact sim_slot _ _
def SimE (x y:Except PErr Stmt):Prop:=match x,y with
 | .error e,.error f=>e.2=f.2
 | .ok s,.ok t=>s=t
 | _,_=>False
theorem sim_stmt (en en':Nat) (l l':List Tok) (h:l.map bare=l'.map bare):SimE (stmtM en l) (stmtM en' l'):=by
 have hS:SimS ⟨l,stmt0,[]⟩ ⟨l',stmt0,[]⟩:=⟨h,rfl,rfl⟩
 have hn:=hS.now en en'
 unfold stmtM
 simp only
 rw [hn.kind,hn.text]
 by_cases hk:((nowT en' ⟨l',stmt0,[]⟩).kind == 1)=true
 · rw [if_pos hk,if_pos hk]
   rcases sim_firsts en en' (nowT en' ⟨l',stmt0,[]⟩).text with ⟨e1,e2⟩|⟨f,g,e1,e2,hs⟩
   · rw [e1,e2]
     exact rfl
   · rw [e1,e2]
     have hR:=hs _ _ hS.tail
     simp only at hR ⊢
     cases e3:f ⟨l.tail,stmt0,[]⟩ <;> cases e4:g ⟨l'.tail,stmt0,[]⟩ <;> rw [e3,e4] at hR
     · exact hR
     · exact hR.elim
     · exact hR.elim
     · rename_i p q
       have hi:p.2.l.isEmpty=q.2.l.isEmpty:=by
        have:=congrArg List.isEmpty hR.2.l
        simpa using this
       simp only
       rw [hi]
       split
       · exact hR.2.s
       · exact rfl
 · rw [if_neg hk,if_neg hk]
   exact rfl
end
section
open Go
def Stop (r:List UInt8):Prop:=∀ c q,r=c :: q->c=32 \/ c=41 \/ c=44 \/ c=40
theorem Stop.ends {r:List UInt8} (h:Stop r):EndsT r:=fun c q e=>by rcases h c q e with rfl|rfl|rfl|rfl <;> exact ⟨by decide,by decide⟩
theorem stop_nil:Stop []:=fun _ _ h=>nomatch h
theorem stop_cons {c:UInt8} {r:List UInt8} (h:c=32 \/ c=41 \/ c=44 \/ c=40):Stop (c :: r):=fun x q e=>by
 cases e
 exact h
def Chunk (A:ByteArray) (T:List Tok):Prop:=∀ r,(Stop r \/ A=w_lp)->∀ i,∃ ts,ts.map bare=T/\lexAt (A.data.toList ++ r) i=(lexAt r (i+A.size)).map (ts ++ ·)
def Word (x:ByteArray):Prop:=(match x.data.toList with|c :: _=>letB c | []=>false)=true/\x.data.toList.all inB=true
theorem chunk_piece {x:ByteArray} {t:Nat->Tok} (h:Piece x.data.toList t) (hb:∀ i,bare (t i)=t 0) (hx:x ≠ w_lp):Chunk x [t 0]:=by
 intro r hr i
 refine ⟨[t i],by rw [List.map_singleton,hb],?_⟩
 rw [h.lex r (hr.elim (·.ends) (fun e=>absurd e hx)) i,Array.length_toList]
 rfl
theorem chunk_word {x:ByteArray} (h:Word x):Chunk x [⟨1,0,x,0⟩]:=by
 refine chunk_piece (t:=fun i=>⟨1,i,x,0⟩) (word_piece x.data.toList h.1 h.2) (fun i=>rfl) ?_
 intro e
 subst e
 exact absurd h.1 (by decide)
theorem chunk_val {v:Val} (h:PrintsV v):Chunk (textV v) [tokV v 0]:=by
 refine chunk_piece (val_piece v h) (fun i=>?_) ?_
 · unfold tokV bare
   split
   · rfl
   · split <;> rfl
 · intro e
   have:=(val_piece v h).tok [] EndsT.nil 0
   rw [e] at this
   have e2:tokM (w_lp.data.toList ++ []) 0=.ok (⟨4,0,w_lp,0⟩,1):=rfl
   rw [e2] at this
   injection this with this
   injection this with this
   have:=congrArg Tok.kind this
   unfold tokV at this
   split at this
   · cases this
   · split at this <;> cases this
theorem chunk_int {n:Int} (h0:-9223372036854775808<=n) (h1:n<=9223372036854775807):Chunk ⟨⟨Lib.itoa n⟩⟩ [⟨2,0,noStr,n⟩]:=chunk_val (v:=⟨1,n,noStr⟩) ⟨.inr (.inl rfl),h0,h1,show 0<=40 by omega⟩
theorem chunk_sign (x:ByteArray) (hx:x.data.toList ∈ [[40],[41],[44],[42],[43],[61]]):Chunk x [⟨4,0,x,0⟩]:=by
 intro r _ i
 refine ⟨[⟨4,i,x,0⟩],rfl,?_⟩
 rw [lex_sign x.data.toList hx r i,Array.length_toList]
 rfl
theorem chunk_op (x:ByteArray) (hx:x ∈ [w_eq,w_ne,w_lt,w_le,w_gt,w_ge]):Chunk x [⟨4,0,x,0⟩]:=by
 intro r hr i
 have hs:Stop r:=hr.elim id fun e=>by
  subst e
  simp only [List.mem_cons,List.not_mem_nil,or_false] at hx
  rcases hx with h|h|h|h|h|h <;> exact absurd h (by decide)
 refine ⟨[⟨4,i,x,0⟩],rfl,?_⟩
 have ht:tokM (x.data.toList ++ r) i=.ok (⟨4,i,x,0⟩,x.data.toList.length):=by
  simp only [List.mem_cons,List.not_mem_nil,or_false] at hx
  cases r with
  | nil=>rcases hx with rfl|rfl|rfl|rfl|rfl|rfl <;> rfl
  | cons c q =>
   rcases hx with rfl|rfl|rfl|rfl|rfl|rfl <;> rcases hs c q rfl with rfl|rfl|rfl|rfl <;> rfl
 have hh:∀ c q,x.data.toList=c :: q->whiteB c=false:=by
  have:∀ x ∈ [w_eq,w_ne,w_lt,w_le,w_gt,w_ge],∀ c ∈ x.data.toList.head?,whiteB c=false:=by decide
  exact fun c q e=>this x hx c (by rw [e];rfl)
 have hn:x.data.toList ≠ []:=by
  have:∀ x ∈ [w_eq,w_ne,w_lt,w_le,w_gt,w_ge],x.data.toList ≠ []:=by decide
  exact this x hx
 rw [lex_tok hh hn ht,Array.length_toList]
 rfl
theorem lex_join:∀ (L:List (ByteArray × List Tok)) (x:ByteArray) (T:List Tok),Chunk x T->(∀ p ∈ L,Chunk p.1 p.2)->∀ i,∃ ts,ts.map bare=T ++ L.flatMap (·.2)/\lexAt (joinP x (L.map (·.1))) i=.ok ts
 | [],x,T,h,_,i=>by
  obtain ⟨ts,e1,e2⟩:=h [] (.inl stop_nil) i
  refine ⟨ts,by rw [e1];simp,?_⟩
  rw [List.append_nil] at e2
  show lexAt x.data.toList i=_
  rw [e2,lex_nil]
  show Except.ok (ts ++ [])=_
  rw [List.append_nil]
 | (y,U) :: L,x,T,h,hL,i=>by
  have hy:Chunk y U:=hL (y,U) List.mem_cons_self
  have ih:=lex_join L y U hy fun p hp=>hL p (List.mem_cons_of_mem _ hp)
  show ∃ ts,_/\lexAt (x.data.toList ++ ((if gapB x y then [32] else []) ++ joinP y (L.map (·.1)))) i=_
  by_cases g:gapB x y=true
  · rw [if_pos g]
    obtain ⟨ts,e1,e2⟩:=h ([32] ++ joinP y (L.map (·.1))) (.inl (stop_cons (.inl rfl))) i
    obtain ⟨us,e3,e4⟩:=ih (i+x.size+1)
    refine ⟨ts ++ us,by rw [List.map_append,e1,e3];rfl,?_⟩
    rw [e2,show [32] ++ joinP y (L.map (·.1))=32 :: joinP y (L.map (·.1)) from rfl,lex_white (by decide),e4]
    rfl
  · rw [if_neg g,List.nil_append]
    have hs:Stop (joinP y (L.map (·.1))) \/ x=w_lp:=by
     unfold gapB at g
     by_cases h1:y=w_rp
     · subst h1
       exact .inl (by cases L <;> exact stop_cons (.inr (.inl rfl)))
     · by_cases h2:y=w_comma
       · subst h2
         exact .inl (by cases L <;> exact stop_cons (.inr (.inr (.inl rfl))))
       · by_cases h3:x=w_lp
         · exact .inr h3
         · simp [h1,h2,h3] at g
    obtain ⟨ts,e1,e2⟩:=h (joinP y (L.map (·.1))) hs i
    obtain ⟨us,e3,e4⟩:=ih (i+x.size)
    refine ⟨ts ++ us,by rw [List.map_append,e1,e3];rfl,?_⟩
    rw [e2,e4]
    rfl
theorem back_of (s:Stmt) (x:ByteArray) (T:List Tok) (L:List (ByteArray × List Tok)) (hx:Chunk x T) (hL:∀ p ∈ L,Chunk p.1 p.2) (ht:tokensP s=x :: L.map (·.1)) (hp:stmtM 0 (T ++ L.flatMap (·.2))=.ok s):parseM (printedM s)=.ok s:=by
 obtain ⟨ts,e1,e2⟩:=lex_join L x T hx hL 0
 have hl:lexM (printedM s)=.ok ts:=by
  rw [lexM_at]
  unfold printedM
  rw [ht]
  exact e2
 unfold parseM
 rw [hl]
 have he:(T ++ L.flatMap (·.2)).map bare=T ++ L.flatMap (·.2):=by
  rw [<- e1,List.map_map]
  rfl
 have:=sim_stmt (printedM s).size 0 ts (T ++ L.flatMap (·.2)) (by rw [e1,he])
 rw [hp] at this
 show stmtM (printedM s).size ts=.ok s
 cases e:stmtM (printedM s).size ts <;> rw [e] at this
 · exact this.elim
 · rw [show _=s from this]
end
section
open Go
theorem list_run {E:Type} (en:Nat) (bt:ByteArray) (st:Tok) (starts:Tok->Bool) (one:PM Unit) (te:E->List Tok) (upd:E->Stmt × List ByteArray->Stmt × List ByteArray) (good:E->Prop)
 (hst:∀ L,isB [bt] (st :: L)=true)
 (hone:∀ e,good e->∀ rest s o,one ⟨te e ++ rest,s,o⟩=.ok ((),⟨rest,(upd e (s,o)).1,(upd e (s,o)).2⟩)) (rest:List Tok) (hrest:isB [bt] rest=false) :
 ∀ (r:List E) (x:E) (k:Nat) (p:Stmt × List ByteArray),(∀ e ∈ x :: r,good e)->r.length+1<=k ->
  listM en bt starts one k ⟨te x ++ ((r.flatMap fun y=>st :: te y) ++ rest),p.1,p.2⟩=.ok ((),⟨rest,((x :: r).foldl (fun p e=>upd e p) p).1,((x :: r).foldl (fun p e=>upd e p) p).2⟩)
 | r,x,0,p,_,hk=>absurd hk (by omega)
 | [],x,k+1,p,h,_=>by
  unfold listM
  rw [hone x (h x List.mem_cons_self)]
  show (if isB [bt] rest=true then _ else _)=_
  rw [if_neg (by rw [hrest];decide)]
  rfl
 | y :: r,x,k+1,p,h,hk=>by
  have ih:=list_run en bt st starts one te upd good hst hone rest hrest r y k (upd x p) (fun e he=>h e (List.mem_cons_of_mem _ he)) (by simp at hk;omega)
  unfold listM
  rw [hone x (h x List.mem_cons_self)]
  show (if isB [bt] (st :: _)=true then _ else _)=_
  rw [if_pos (hst _)]
  refine Eq.trans ?_ ih
  show listM en bt starts one k ⟨_,_,_⟩=_
  simp only [List.flatMap_cons,List.append_assoc,List.cons_append,List.tail_cons]
structure Nm (x:ByteArray):Prop where
 word:Word x
 named:namedT ⟨1,0,x,0⟩=true
 short:x.size<=12
theorem Nm.hit {x:ByteArray} (h:Nm x) (en:Nat) (L:List Tok) (s:Stmt) (o:List ByteArray):nameM en ⟨⟨1,0,x,0⟩ :: L,s,o⟩=.ok (x,⟨L,s,o⟩):=name_hit en ⟨1,0,x,0⟩ L s o h.named h.short
theorem may_hit_r (k:Int) (hk:k=1 \/ k=4) (i:Nat) (x:ByteArray) (n:Int) (L:List Tok) (s:Stmt) (o:List ByteArray):mayM [x] ⟨⟨k,i,x,n⟩ :: L,s,o⟩=.ok (true,⟨L,s,o⟩):=by
 unfold mayM
 have:isB [x] (⟨k,i,x,n⟩ :: L)=true:=by rcases hk with rfl|rfl <;> simp [isB,wordB]
 rw [if_pos this]
 rfl
theorem may_not (x:ByteArray) (S:PS) (h:isB [x] S.l=false):mayM [x] S=.ok (false,S):=by
 unfold mayM
 rw [if_neg (by rw [h];decide)]
theorem cols_one {x:ByteArray} (h:Nm x) (en:Nat) (L:List Tok) (s:Stmt) (o:List ByteArray):colsOne en ⟨⟨1,0,x,0⟩ :: L,s,o⟩=.ok ((),⟨L,s,o ++ [x]⟩):=by
 unfold colsOne
 rw [h.hit]
theorem fold_names:∀ (r:List ByteArray) (s:Stmt) (o:List ByteArray),r.foldl (fun p e=>(fun (e:ByteArray) (p:Stmt × List ByteArray)=>(p.1,p.2 ++ [e])) e p) (s,o)=(s,o ++ r)
 | [],s,o=>by simp
 | x :: r,s,o=>by
  rw [List.foldl_cons,fold_names r]
  simp
def namesT (L:List ByteArray):List Tok:=match L with
 | []=>[]
 | x :: r=>⟨1,0,x,0⟩ :: r.flatMap fun y=>[⟨4,0,w_comma,0⟩,⟨1,0,y,0⟩]
theorem comma_hit (L:List Tok):isB [w_comma] (⟨4,0,w_comma,0⟩ :: L)=true:=by simp [isB,wordB]
theorem columns_back (en most:Nat) (L:List ByteArray) (hL:∀ x ∈ L,Nm x) (h0:L ≠ []) (hm:L.length<=most) (rest:List Tok) (hrest:isB [w_comma] rest=false) (s:Stmt) (o:List ByteArray):columnsM en most ⟨namesT L ++ rest,s,o⟩=.ok (L,⟨rest,s,o⟩):=by
 obtain ⟨x,r,rfl⟩:=List.exists_cons_of_ne_nil h0
 have:=list_run en w_comma ⟨4,0,w_comma,0⟩ namedT (colsOne en) (fun x=>[⟨1,0,x,0⟩]) (fun e p=>(p.1,p.2 ++ [e])) Nm comma_hit (fun e he rest s o=>cols_one he en rest s o) rest hrest r x most (s,[]) hL (by simpa using hm)
 rw [fold_names] at this
 unfold columnsM
 have e:namesT (x :: r) ++ rest=[⟨1,0,x,0⟩] ++ ((r.flatMap fun y=>[⟨4,0,w_comma,0⟩,⟨1,0,y,0⟩]) ++ rest):=rfl
 rw [e]
 show (match listM en w_comma namedT (colsOne en) most ⟨_,s,[]⟩ with | .error e=>Except.error e | .ok q=>Except.ok (q.2.out,{ q.2 with out:=o }))=_
 rw [this]
 rfl
end
section
open Go
def condT (c:Cond):List Tok:=[⟨1,0,c.col,0⟩,⟨4,0,opS c.op,0⟩,tokV c.val 0]
structure CondOk (c:Cond):Prop where
 col:Nm c.col
 op:1<=c.op/\c.op<=6
 val:PrintsV c.val/\PlainV c.val
theorem op_back (n:Int) (h:1<=n/\n<=6):opI ⟨4,0,opS n,0⟩=n/\opS n ∈ [w_eq,w_ne,w_lt,w_le,w_gt,w_ge]:=by
 have:n=1 \/ n=2 \/ n=3 \/ n=4 \/ n=5 \/ n=6:=by omega
 rcases this with rfl|rfl|rfl|rfl|rfl|rfl <;> refine ⟨by decide +kernel,?_⟩ <;> simp [opS]
theorem cond_one {c:Cond} (h:CondOk c) (en:Nat) (L:List Tok) (s:Stmt) (o:List ByteArray):condOne en ⟨condT c ++ L,s,o⟩=.ok ((),⟨L,{ s with wher:=s.wher ++ [c] },o⟩):=by
 rw [condOne_eq]
 refine (bind_ok (h.col.hit en _ s o)).trans ?_
 refine (bind_ok (a:=⟨4,0,opS c.op,0⟩) rfl).trans ?_
 rw [(op_back c.op h.op).1,if_neg (by have:=h.op;omega)]
 refine (bind_ok rfl).trans ?_
 refine (bind_ok (value_back en c.val h.val.1 h.val.2 0 L s o)).trans ?_
 rfl
theorem fold_conds:∀ (r:List Cond) (s:Stmt) (o:List ByteArray),r.foldl (fun p e=>(fun (e:Cond) (p:Stmt × List ByteArray)=>({ p.1 with wher:=p.1.wher ++ [e] },p.2)) e p) (s,o)=({ s with wher:=s.wher ++ r },o)
 | [],s,o=>by simp
 | x :: r,s,o=>by
  rw [List.foldl_cons,fold_conds r]
  simp
def whereT (L:List Cond):List Tok:=match L with
 | []=>[]
 | x :: r=>⟨1,0,w_where,0⟩ :: (condT x ++ r.flatMap fun y=>⟨1,0,w_and,0⟩ :: condT y)
theorem and_hit (L:List Tok):isB [w_and] (⟨1,0,w_and,0⟩ :: L)=true:=by simp [isB,wordB]
theorem where_back (en:Nat) (L:List Cond) (hL:∀ x ∈ L,CondOk x) (hm:L.length<=8) (rest:List Tok) (h1:isB [w_where] rest=false) (h2:isB [w_and] rest=false) (s:Stmt) (hs:s.wher=[]) (o:List ByteArray):whereM en ⟨whereT L ++ rest,s,o⟩=.ok ((),⟨rest,{ s with wher:=L },o⟩):=by
 rw [whereM_eq]
 cases L with
 | nil =>
  refine (bind_ok (may_not w_where ⟨rest,s,o⟩ h1)).trans ?_
  show Except.ok ((),(⟨rest,s,o⟩:PS))=_
  rw [<- hs]
 | cons x r =>
  refine (bind_ok (may_hit_r 1 (.inl rfl) 0 w_where 0 _ s o)).trans ?_
  rw [if_pos rfl]
  have:=list_run en w_and ⟨1,0,w_and,0⟩ namedT (condOne en) condT (fun e p=>({ p.1 with wher:=p.1.wher ++ [e] },p.2)) CondOk and_hit (fun e he rest s o=>cond_one he en rest s o) rest h2 r x 8 (s,o) hL (by simpa using hm)
  rw [fold_conds] at this
  rw [hs] at this
  refine Eq.trans ?_ this
  show listM en w_and namedT (condOne en) 8 ⟨(condT x ++ r.flatMap fun y=>⟨1,0,w_and,0⟩ :: condT y) ++ rest,s,o⟩=_
  rw [List.append_assoc]
theorem row_one (en:Nat) (v:Val) (h:PrintsV v/\PlainV v) (L:List Tok) (s:Stmt) (o:List ByteArray):rowOne en ⟨[tokV v 0] ++ L,s,o⟩=.ok ((),⟨L,{ s with row:=s.row ++ [v] },o⟩):=by
 rw [rowOne_eq]
 refine (bind_ok (value_back en v h.1 h.2 0 L s o)).trans ?_
 rfl
theorem fold_row:∀ (r:List Val) (s:Stmt) (o:List ByteArray),r.foldl (fun p e=>(fun (e:Val) (p:Stmt × List ByteArray)=>({ p.1 with row:=p.1.row ++ [e] },p.2)) e p) (s,o)=({ s with row:=s.row ++ r },o)
 | [],s,o=>by simp
 | x :: r,s,o=>by
  rw [List.foldl_cons,fold_row r]
  simp
def colT (c:ByteArray × Int):List Tok:=[⟨1,0,c.1,0⟩,⟨1,0,if c.2=1 then w_int else w_text,0⟩]
def ColOk (c:ByteArray × Int):Prop:=Nm c.1/\(c.2=1 \/ c.2=2)
theorem col_one (en:Nat) (c:ByteArray × Int) (h:ColOk c) (L:List Tok) (s:Stmt) (o:List ByteArray):colOne en ⟨colT c ++ L,s,o⟩=.ok ((),⟨L,{ s with cols:=s.cols ++ [c] },o⟩):=by
 obtain ⟨n,k⟩:=c
 obtain ⟨h1,rfl|rfl⟩:=h
 · rw [colOne_eq]
   refine (bind_ok (h1.hit en _ s o)).trans ?_
   refine (bind_ok (may_hit_r 1 (.inl rfl) 0 w_int 0 L s o)).trans ?_
   rfl
 · rw [colOne_eq]
   refine (bind_ok (h1.hit en _ s o)).trans ?_
   refine (bind_ok (may_not w_int ⟨⟨1,0,w_text,0⟩ :: L,s,o⟩ (by simp [isB,wordB]))).trans ?_
   rw [if_neg (by decide)]
   refine (bind_ok (must_hit en 1 (.inl rfl) 0 w_text 0 [] L s o)).trans ?_
   rfl
theorem fold_cols:∀ (r:List (ByteArray × Int)) (s:Stmt) (o:List ByteArray),r.foldl (fun p e=>(fun (e:ByteArray × Int) (p:Stmt × List ByteArray)=>({ p.1 with cols:=p.1.cols ++ [e] },p.2)) e p) (s,o)=({ s with cols:=s.cols ++ r },o)
 | [],s,o=>by simp
 | x :: r,s,o=>by
  rw [List.foldl_cons,fold_cols r]
  simp
def setT (x:SetV):List Tok:=⟨1,0,x.col,0⟩ :: ⟨4,0,w_eq,0⟩ :: ((if x.col2=noStr then [] else [⟨1,0,x.col2,0⟩,⟨4,0,w_plus,0⟩]) ++ [tokV x.val 0])
structure SetOk (x:SetV):Prop where
 col:Nm x.col
 val:PrintsV x.val/\PlainV x.val
 two:x.col2=noStr \/ (Nm x.col2/\x.val.kind=1)
theorem not_named (v:Val):namedT (tokV v 0)=false:=by
 unfold tokV
 split
 · decide +kernel
 · split
   · rfl
   · rfl
theorem set_one (en:Nat) (x:SetV) (h:SetOk x) (L:List Tok) (s:Stmt) (o:List ByteArray):setOne en ⟨setT x ++ L,s,o⟩=.ok ((),⟨L,{ s with sets:=s.sets ++ [x] },o⟩):=by
 obtain ⟨c,d,v⟩:=x
 rw [setOne_eq]
 refine (bind_ok (h.col.hit en _ s o)).trans ?_
 refine (bind_ok (must_hit en 4 (.inr rfl) 0 w_eq 0 [] _ s o)).trans ?_
 by_cases hd:d=noStr
 · subst hd
   refine (bind_ok (a:=tokV v 0) (S':=⟨tokV v 0 :: L,s,o⟩) (by simp [nowM,nowT])).trans ?_
   rw [if_neg (by rw [not_named];decide)]
   refine (bind_ok (value_back en v h.val.1 h.val.2 0 L s o)).trans ?_
   rfl
 · obtain ⟨h1,h2⟩:=h.two.resolve_left hd
   refine (bind_ok (a:=⟨1,0,d,0⟩) (S':=⟨⟨1,0,d,0⟩ :: ⟨4,0,w_plus,0⟩ :: tokV v 0 :: L,s,o⟩) (by simp [nowM,nowT,hd])).trans ?_
   rw [if_pos h1.named]
   refine (bind_ok (h1.hit en _ s o)).trans ?_
   refine (bind_ok (must_hit en 4 (.inr rfl) 0 w_plus 0 [] _ s o)).trans ?_
   have ht:tokV v 0=⟨2,0,noStr,v.n⟩:=by
    simp only at h2
    simp [tokV,h2]
   rw [ht]
   refine (bind_ok (a:=v.n) (S':=⟨L,s,o⟩) rfl).trans ?_
   have hv:v=⟨1,v.n,noStr⟩:=by
    obtain ⟨k,n,t⟩:=v
    simp only at h2
    have:=h.val.2.2 (by simp [h2])
    simp only at this
    rw [h2,this]
   rw [<- hv]
   rfl
theorem fold_sets:∀ (r:List SetV) (s:Stmt) (o:List ByteArray),r.foldl (fun p e=>(fun (e:SetV) (p:Stmt × List ByteArray)=>({ p.1 with sets:=p.1.sets ++ [e] },p.2)) e p) (s,o)=({ s with sets:=s.sets ++ r },o)
 | [],s,o=>by simp
 | x :: r,s,o=>by
  rw [List.foldl_cons,fold_sets r]
  simp
end
section
open Go
theorem stmt_run (x:ByteArray) (f:PM Unit) (L:List Tok) (s:Stmt) (o:List ByteArray) (hf:firstM 0 x=some f) (h:f ⟨L,stmt0,[]⟩=.ok ((),⟨[],s,o⟩)):stmtM 0 (⟨1,0,x,0⟩ :: L)=.ok s:=by
 unfold stmtM
 have e:(if (nowT 0 ⟨⟨1,0,x,0⟩ :: L,stmt0,[]⟩).kind == 1 then firstM 0 (nowT 0 ⟨⟨1,0,x,0⟩ :: L,stmt0,[]⟩).text else none)=some f:=hf
 simp only [e,List.tail_cons,h]
 rfl
def rowT (v:Val) (r:List Val):List Tok:=[tokV v 0] ++ r.flatMap fun y=>⟨4,0,w_comma,0⟩ :: [tokV y 0]
theorem rp_not (x:ByteArray) (h:x ≠ w_rp) (L:List Tok):isB [x] (⟨4,0,w_rp,0⟩ :: L)=false:=by simp [isB,wordB,Ne.symm h]
theorem insert_back (t:ByteArray) (ht:Nm t) (v:Val) (r:List Val) (hv:∀ u ∈ v :: r,PrintsV u/\PlainV u) (hl:r.length+1<=6) :
 stmtM 0 (⟨1,0,w_insert,0⟩ :: ⟨1,0,w_into,0⟩ :: ⟨1,0,t,0⟩ :: ⟨1,0,w_values,0⟩ :: ⟨4,0,w_lp,0⟩ :: (rowT v r ++ [⟨4,0,w_rp,0⟩]))=.ok { stmt0 with kind:=4,table:=t,row:=v :: r }:=by
 refine stmt_run w_insert (insertM 0) _ _ [] (by rfl) ?_
 have:=list_run 0 w_comma ⟨4,0,w_comma,0⟩ valuedT (rowOne 0) (fun v=>[tokV v 0]) (fun e p=>({ p.1 with row:=p.1.row ++ [e] },p.2)) (fun u=>PrintsV u/\PlainV u) comma_hit (fun e he rest s o=>row_one 0 e he rest s o) [⟨4,0,w_rp,0⟩] (rp_not _ (by decide) _) r v 6 ({ stmt0 with kind:=4,table:=t },[]) hv hl
 rw [fold_row] at this
 rw [insert_eq]
 refine (bind_ok (must_hit 0 1 (.inl rfl) 0 w_into 0 [] _ _ _)).trans ?_
 refine (bind_ok (ht.hit 0 _ _ _)).trans ?_
 refine (bind_ok rfl).trans ?_
 refine (bind_ok ((must_hit 0 1 (.inl rfl) 0 w_values 0 [w_lp] _ _ []).trans (must_hit 0 4 (.inr rfl) 0 w_lp 0 [] _ _ []))).trans ?_
 have e:rowT v r ++ [⟨4,0,w_rp,0⟩]=[tokV v 0] ++ ((r.flatMap fun y=>⟨4,0,w_comma,0⟩ :: [tokV y 0]) ++ [⟨4,0,w_rp,0⟩]):=List.append_assoc _ _ _
 rw [e]
 refine (bind_ok this).trans ?_
 exact must_hit 0 4 (.inr rfl) 0 w_rp 0 [] _ _ _
def colsT (c:ByteArray × Int) (r:List (ByteArray × Int)):List Tok:=colT c ++ r.flatMap fun y=>⟨4,0,w_comma,0⟩ :: colT y
theorem table_back (t:ByteArray) (ht:Nm t) (c:ByteArray × Int) (r:List (ByteArray × Int)) (hc:∀ u ∈ c :: r,ColOk u) (hl:r.length+1<=6) :
 stmtM 0 (⟨1,0,w_create,0⟩ :: ⟨1,0,w_table,0⟩ :: ⟨1,0,t,0⟩ :: ⟨4,0,w_lp,0⟩ :: (colsT c r ++ [⟨4,0,w_rp,0⟩]))=.ok { stmt0 with kind:=1,table:=t,cols:=c :: r }:=by
 refine stmt_run w_create (createM 0) _ _ [] (by rfl) ?_
 have:=list_run 0 w_comma ⟨4,0,w_comma,0⟩ namedT (colOne 0) colT (fun e p=>({ p.1 with cols:=p.1.cols ++ [e] },p.2)) ColOk comma_hit (fun e he rest s o=>col_one 0 e he rest s o) [⟨4,0,w_rp,0⟩] (rp_not _ (by decide) _) r c 6 ({ stmt0 with kind:=1,table:=t },[]) hc hl
 rw [fold_cols] at this
 rw [create_eq]
 refine (bind_ok (may_hit_r 1 (.inl rfl) 0 w_table 0 _ _ _)).trans ?_
 rw [if_pos rfl]
 refine (bind_ok (ht.hit 0 _ _ _)).trans ?_
 refine (bind_ok rfl).trans ?_
 refine (bind_ok (must_hit 0 4 (.inr rfl) 0 w_lp 0 [] _ _ [])).trans ?_
 have e:colsT c r ++ [⟨4,0,w_rp,0⟩]=colT c ++ ((r.flatMap fun y=>⟨4,0,w_comma,0⟩ :: colT y) ++ [⟨4,0,w_rp,0⟩]):=List.append_assoc _ _ _
 rw [e]
 refine (bind_ok this).trans ?_
 exact must_hit 0 4 (.inr rfl) 0 w_rp 0 [] _ _ _
theorem index_back (n t:ByteArray) (hn:Nm n) (ht:Nm t) (l:List ByteArray) (hl:∀ x ∈ l,Nm x) (h0:l ≠ []) (hm:l.length<=6) :
 stmtM 0 (⟨1,0,w_create,0⟩ :: ⟨1,0,w_index,0⟩ :: ⟨1,0,n,0⟩ :: ⟨1,0,w_on,0⟩ :: ⟨1,0,t,0⟩ :: ⟨4,0,w_lp,0⟩ :: (namesT l ++ [⟨4,0,w_rp,0⟩]))=.ok { stmt0 with kind:=2,name:=n,table:=t,names:=l }:=by
 refine stmt_run w_create (createM 0) _ _ [] (by rfl) ?_
 rw [create_eq]
 refine (bind_ok (may_not w_table _ (by simp [isB,wordB]))).trans ?_
 rw [if_neg (by decide)]
 refine (bind_ok (must_hit 0 1 (.inl rfl) 0 w_index 0 [] _ _ _)).trans ?_
 refine (bind_ok (hn.hit 0 _ _ _)).trans ?_
 refine (bind_ok rfl).trans ?_
 refine (bind_ok (must_hit 0 1 (.inl rfl) 0 w_on 0 [] _ _ _)).trans ?_
 refine (bind_ok (ht.hit 0 _ _ _)).trans ?_
 refine (bind_ok rfl).trans ?_
 refine (bind_ok (must_hit 0 4 (.inr rfl) 0 w_lp 0 [] _ _ _)).trans ?_
 refine (bind_ok (columns_back 0 6 l hl h0 hm [⟨4,0,w_rp,0⟩] (rp_not _ (by decide) _) _ _)).trans ?_
 refine (bind_ok rfl).trans ?_
 exact must_hit 0 4 (.inr rfl) 0 w_rp 0 [] _ _ _
theorem rename_back (t n j:ByteArray) (ht:Nm t) (hn:Nm n) (hj:Nm j):stmtM 0 [⟨1,0,w_rename,0⟩,⟨1,0,t,0⟩,⟨1,0,n,0⟩,⟨1,0,w_to,0⟩,⟨1,0,j,0⟩]=.ok { stmt0 with kind:=3,table:=t,name:=n,join:=j }:=by
 refine stmt_run w_rename (renameM 0) _ _ [] (by rfl) ?_
 rw [rename_eq]
 refine (bind_ok (ht.hit 0 _ _ _)).trans ?_
 refine (bind_ok rfl).trans ?_
 refine (bind_ok (hn.hit 0 _ _ _)).trans ?_
 refine (bind_ok rfl).trans ?_
 refine (bind_ok (must_hit 0 1 (.inl rfl) 0 w_to 0 [] _ _ _)).trans ?_
 refine (bind_ok (hj.hit 0 _ _ _)).trans ?_
 rfl
theorem delete_back (t:ByteArray) (ht:Nm t) (l:List Cond) (hl:∀ x ∈ l,CondOk x) (hm:l.length<=8):stmtM 0 (⟨1,0,w_delete,0⟩ :: ⟨1,0,w_from,0⟩ :: ⟨1,0,t,0⟩ :: whereT l)=.ok { stmt0 with kind:=6,table:=t,wher:=l }:=by
 refine stmt_run w_delete (deleteM 0) _ _ [] (by rfl) ?_
 rw [delete_eq]
 refine (bind_ok (must_hit 0 1 (.inl rfl) 0 w_from 0 [] _ _ _)).trans ?_
 refine (bind_ok (ht.hit 0 _ _ _)).trans ?_
 refine (bind_ok rfl).trans ?_
 have:=where_back 0 l hl hm [] rfl rfl { stmt0 with kind:=6,table:=t } rfl []
 rw [List.append_nil] at this
 exact this
def setsT (x:SetV) (r:List SetV):List Tok:=setT x ++ r.flatMap fun y=>⟨4,0,w_comma,0⟩ :: setT y
theorem where_head (x:ByteArray) (h:x ≠ w_where) (l:List Cond):isB [x] (whereT l)=false:=by
 cases l with
 | nil=>rfl
 | cons c r=>simp [whereT,isB,wordB,Ne.symm h]
theorem update_back (t:ByteArray) (ht:Nm t) (x:SetV) (r:List SetV) (hx:∀ u ∈ x :: r,SetOk u) (hr:r.length+1<=6) (l:List Cond) (hl:∀ x ∈ l,CondOk x) (hm:l.length<=8) :
 stmtM 0 (⟨1,0,w_update,0⟩ :: ⟨1,0,t,0⟩ :: ⟨1,0,w_set,0⟩ :: (setsT x r ++ whereT l))=.ok { stmt0 with kind:=5,table:=t,sets:=x :: r,wher:=l }:=by
 refine stmt_run w_update (updateM 0) _ _ [] (by rfl) ?_
 have:=list_run 0 w_comma ⟨4,0,w_comma,0⟩ namedT (setOne 0) setT (fun e p=>({ p.1 with sets:=p.1.sets ++ [e] },p.2)) SetOk comma_hit (fun e he rest s o=>set_one 0 e he rest s o) (whereT l) (where_head _ (by decide) _) r x 6 ({ stmt0 with kind:=5,table:=t },[]) hx hr
 rw [fold_sets] at this
 rw [update_eq]
 refine (bind_ok (ht.hit 0 _ _ _)).trans ?_
 refine (bind_ok rfl).trans ?_
 refine (bind_ok (must_hit 0 1 (.inl rfl) 0 w_set 0 [] _ _ _)).trans ?_
 have e:setsT x r ++ whereT l=setT x ++ ((r.flatMap fun y=>⟨4,0,w_comma,0⟩ :: setT y) ++ whereT l):=List.append_assoc _ _ _
 rw [e]
 refine (bind_ok this).trans ?_
 have:=where_back 0 l hl hm [] rfl rfl { stmt0 with kind:=5,table:=t,sets:=x :: r } rfl []
 rw [List.append_nil] at this
 exact this
end
section
open Go
theorem Nm.ne {x:ByteArray} (h:Nm x) (y:ByteArray) (hy:namedT ⟨1,0,y,0⟩=false):x ≠ y:=fun e=>by
 subst e
 rw [h.named] at hy
 cases hy
theorem Nm.agg {x:ByteArray} (h:Nm x):aggI ⟨1,0,x,0⟩=0:=by
 have h1:=(h.ne w_count (by decide +kernel)).symm
 have h2:=(h.ne w_sum (by decide +kernel)).symm
 have h3:=(h.ne w_min (by decide +kernel)).symm
 have h4:=(h.ne w_max (by decide +kernel)).symm
 simp [aggI,List.findIdx?_cons,h1,h2,h3,h4]
def headT (agg:Int) (l:List ByteArray):List Tok:=if agg=0 then namesT l else if agg=1 then [⟨1,0,w_count,0⟩,⟨4,0,w_lp,0⟩,⟨4,0,w_star,0⟩,⟨4,0,w_rp,0⟩] else [⟨1,0,aggS agg,0⟩,⟨4,0,w_lp,0⟩,⟨1,0,l.headD noStr,0⟩,⟨4,0,w_rp,0⟩]
structure HeadOk (agg:Int) (l:List ByteArray):Prop where
 rng:0<=agg/\agg<=4
 nm:∀ x ∈ l,Nm x
 len:if agg=0 then l ≠ []/\l.length<=12 else if agg=1 then l=[] else l.length=1
theorem head_back (agg:Int) (l:List ByteArray) (h:HeadOk agg l) (rest:List Tok) (hr:isB [w_comma] rest=false):selHead 0 ⟨headT agg l ++ rest,stmt0,[]⟩=.ok ((),⟨rest,{ stmt0 with kind:=7,agg:=agg,names:=l },[]⟩):=by
 obtain ⟨ha,hn,hl⟩:=h
 rw [selHead_eq]
 by_cases h0:agg=0
 · subst h0
   rw [if_pos rfl] at hl
   obtain ⟨x,r,rfl⟩:=List.exists_cons_of_ne_nil hl.1
   refine (bind_ok (a:=⟨1,0,x,0⟩) rfl).trans ?_
   rw [(hn x List.mem_cons_self).agg,if_pos rfl]
   refine (bind_ok rfl).trans ?_
   refine (bind_ok (columns_back 0 12 (x :: r) hn hl.1 hl.2 rest hr _ _)).trans ?_
   rfl
 · rw [if_neg h0] at hl
   by_cases h1:agg=1
   · subst h1
     rw [if_pos rfl] at hl
     subst hl
     have hB:∀ L s o,aggB 0 1 ⟨⟨4,0,w_star,0⟩ :: L,s,o⟩=.ok ((),⟨L,s,o⟩):=fun L s o=>by
      unfold aggB
      rw [if_pos rfl,must_hit 0 4 (.inr rfl)]
      rfl
     refine (bind_ok (a:=⟨1,0,w_count,0⟩) rfl).trans ?_
     rw [show aggI ⟨1,0,w_count,0⟩=1 by decide +kernel,if_neg (by decide)]
     refine (bind_ok rfl).trans ?_
     refine (bind_ok rfl).trans ?_
     refine (bind_ok (must_hit 0 4 (.inr rfl) 0 w_lp 0 [] _ _ _)).trans ?_
     refine (bind_ok (hB _ _ _)).trans ?_
     exact must_hit 0 4 (.inr rfl) 0 w_rp 0 [] _ _ _
   · rw [if_neg h1] at hl
     obtain ⟨x,rfl⟩:∃ x,l=[x]:=List.length_eq_one_iff.1 hl
     have hx:=hn x List.mem_cons_self
     have hA:aggI ⟨1,0,aggS agg,0⟩=agg:=by
      have:agg=2 \/ agg=3 \/ agg=4:=by omega
      rcases this with rfl|rfl|rfl <;> decide +kernel
     have hT:headT agg [x] ++ rest=⟨1,0,aggS agg,0⟩ :: ⟨4,0,w_lp,0⟩ :: ⟨1,0,x,0⟩ :: ⟨4,0,w_rp,0⟩ :: rest:=by
      unfold headT
      rw [if_neg h0,if_neg h1]
      rfl
     rw [hT]
     refine (bind_ok (a:=⟨1,0,aggS agg,0⟩) rfl).trans ?_
     rw [hA,if_neg h0]
     refine (bind_ok rfl).trans ?_
     refine (bind_ok rfl).trans ?_
     refine (bind_ok (must_hit 0 4 (.inr rfl) 0 w_lp 0 [] _ _ _)).trans ?_
     have hB:∀ L s o,aggB 0 agg ⟨⟨1,0,x,0⟩ :: L,s,o⟩=.ok ((),⟨L,{ s with names:=[x] },o⟩):=fun L s o=>by
      unfold aggB
      rw [if_neg h1]
      exact bind_ok (hx.hit 0 _ _ _)
     refine (bind_ok (hB _ _ _)).trans ?_
     exact must_hit 0 4 (.inr rfl) 0 w_rp 0 [] _ _ _
def joinTk (j l r:ByteArray):List Tok:=if j=noStr then [] else [⟨1,0,w_join,0⟩,⟨1,0,j,0⟩,⟨1,0,w_on,0⟩,⟨1,0,l,0⟩,⟨4,0,w_eq,0⟩,⟨1,0,r,0⟩]
theorem join_back_r (j l r:ByteArray) (h:(j=noStr/\l=noStr/\r=noStr) \/ (Nm j/\Nm l/\Nm r)) (rest:List Tok) (hr:isB [w_join] rest=false) (s:Stmt) (hs:s.join=noStr/\s.left=noStr/\s.right=noStr) (o:List ByteArray):joinM 0 ⟨joinTk j l r ++ rest,s,o⟩=.ok ((),⟨rest,{ s with join:=j,left:=l,right:=r },o⟩):=by
 rw [join_eq]
 rcases h with ⟨rfl,rfl,rfl⟩|⟨h1,h2,h3⟩
 · refine (bind_ok (may_not w_join ⟨rest,s,o⟩ hr)).trans ?_
   show Except.ok ((),(⟨rest,s,o⟩:PS))=_
   obtain ⟨e1,e2,e3⟩:=hs
   cases s
   simp only at e1 e2 e3
   rw [e1,e2,e3]
 · have hj:j ≠ noStr:=fun e=>by
    subst e
    exact absurd h1.word.1 (by decide)
   have hT:joinTk j l r ++ rest=⟨1,0,w_join,0⟩ :: ⟨1,0,j,0⟩ :: ⟨1,0,w_on,0⟩ :: ⟨1,0,l,0⟩ :: ⟨4,0,w_eq,0⟩ :: ⟨1,0,r,0⟩ :: rest:=by
    unfold joinTk
    rw [if_neg hj]
    rfl
   rw [hT]
   refine (bind_ok (may_hit_r 1 (.inl rfl) 0 w_join 0 _ _ _)).trans ?_
   rw [if_pos rfl]
   refine (bind_ok (h1.hit 0 _ _ _)).trans ?_
   refine (bind_ok rfl).trans ?_
   refine (bind_ok (must_hit 0 1 (.inl rfl) 0 w_on 0 [] _ _ _)).trans ?_
   refine (bind_ok (h2.hit 0 _ _ _)).trans ?_
   refine (bind_ok rfl).trans ?_
   refine (bind_ok (must_hit 0 4 (.inr rfl) 0 w_eq 0 [] _ _ _)).trans ?_
   refine (bind_ok (h3.hit 0 _ _ _)).trans ?_
   rfl
def orderT (l:List ByteArray):List Tok:=if l=[] then [] else ⟨1,0,w_order,0⟩ :: ⟨1,0,w_by,0⟩ :: namesT l
theorem order_back (l:List ByteArray) (hl:∀ x ∈ l,Nm x) (hm:l.length<=6) (s:Stmt) (ha:s.agg=0 \/ l=[]) (hs:s.order=[]) (o:List ByteArray):orderM 0 ⟨orderT l,s,o⟩=.ok ((),⟨[],{ s with order:=l },o⟩):=by
 unfold orderM
 by_cases h0:l=[]
 · subst h0
   have e:(⟨orderT [],s,o⟩:PS)=⟨[],{ s with order:=[] },o⟩:=by
    cases s
    simp only at hs
    rw [hs]
    rfl
   rw [e]
   split
   · rfl
   · rfl
 · have hg:=ha.resolve_right h0
   rw [if_pos hg,orderB_eq]
   have hT:orderT l=⟨1,0,w_order,0⟩ :: ⟨1,0,w_by,0⟩ :: (namesT l ++ []):=by
    unfold orderT
    rw [if_neg h0,List.append_nil]
   rw [hT]
   refine (bind_ok (may_hit_r 1 (.inl rfl) 0 w_order 0 _ _ _)).trans ?_
   rw [if_pos rfl]
   refine (bind_ok (must_hit 0 1 (.inl rfl) 0 w_by 0 [] _ _ _)).trans ?_
   refine (bind_ok (columns_back 0 6 l hl h0 hm [] rfl _ _)).trans ?_
   rfl
theorem order_head (x:ByteArray) (h:x ≠ w_order) (l:List ByteArray):isB [x] (orderT l)=false:=by
 unfold orderT
 split
 · rfl
 · simp [isB,wordB,Ne.symm h]
theorem wo_head (x:ByteArray) (h:x ≠ w_where) (h2:x ≠ w_order) (l:List Cond) (q:List ByteArray):isB [x] (whereT l ++ orderT q)=false:=by
 cases l with
 | nil=>exact order_head x h2 q
 | cons c r=>simp [whereT,isB,wordB,Ne.symm h]
theorem select_back (agg:Int) (ns:List ByteArray) (hh:HeadOk agg ns) (t:ByteArray) (ht:Nm t) (j l r:ByteArray) (hj:(j=noStr/\l=noStr/\r=noStr) \/ (Nm j/\Nm l/\Nm r)) (c:List Cond) (hc:∀ x ∈ c,CondOk x) (hcm:c.length<=8) (q:List ByteArray) (hq:∀ x ∈ q,Nm x) (hqm:q.length<=6) (ha:agg=0 \/ q=[]) :
 stmtM 0 (⟨1,0,w_select,0⟩ :: (headT agg ns ++ (⟨1,0,w_from,0⟩ :: ⟨1,0,t,0⟩ :: (joinTk j l r ++ (whereT c ++ orderT q)))))=.ok { stmt0 with kind:=7,agg:=agg,names:=ns,table:=t,join:=j,left:=l,right:=r,wher:=c,order:=q }:=by
 refine stmt_run w_select (selM 0) _ _ [] (by rfl) ?_
 rw [sel_eq]
 refine (bind_ok (head_back agg ns hh _ (by simp [isB,wordB]))).trans ?_
 refine (bind_ok (must_hit 0 1 (.inl rfl) 0 w_from 0 [] _ _ _)).trans ?_
 refine (bind_ok (ht.hit 0 _ _ _)).trans ?_
 refine (bind_ok rfl).trans ?_
 refine (bind_ok (join_back_r j l r hj _ (wo_head _ (by decide) (by decide) c q) _ ⟨rfl,rfl,rfl⟩ _)).trans ?_
 refine (bind_ok (where_back 0 c hc hcm (orderT q) (order_head _ (by decide) q) (order_head _ (by decide) q) _ rfl _)).trans ?_
 exact order_back q hq hqm _ ha rfl _
end
section
open Go
theorem named_back (k:Int) (n:ByteArray) (hn:Nm n) (L:List Tok) (s:Stmt) (o:List ByteArray):namedM 0 k ⟨⟨1,0,n,0⟩ :: L,s,o⟩=.ok ((),⟨L,{ s with kind:=k,name:=n },o⟩):=by
 rw [named_eq]
 exact bind_ok (hn.hit 0 _ _ _)
theorem save_back (n:ByteArray) (hn:Nm n):stmtM 0 [⟨1,0,w_savepoint,0⟩,⟨1,0,n,0⟩]=.ok { stmt0 with kind:=11,name:=n }:=stmt_run w_savepoint (namedM 0 11) _ _ [] (by rfl) (named_back 11 n hn [] stmt0 [])
theorem prepare_back (n:ByteArray) (hn:Nm n):stmtM 0 [⟨1,0,w_prepare,0⟩,⟨1,0,n,0⟩]=.ok { stmt0 with kind:=13,name:=n }:=stmt_run w_prepare (namedM 0 13) _ _ [] (by rfl) (named_back 13 n hn [] stmt0 [])
theorem vacuum_back (t:ByteArray) (ht:Nm t):stmtM 0 [⟨1,0,w_vacuum,0⟩,⟨1,0,t,0⟩]=.ok { stmt0 with kind:=16,table:=t }:=by
 refine stmt_run w_vacuum (vacuumM 0) _ _ [] (by rfl) ?_
 rw [show vacuumM 0=PM.bind (nameM 0) fun t=>modM fun s=>{ s with kind:=16,table:=t } from rfl]
 exact bind_ok (ht.hit 0 _ _ _)
theorem back_back (n:ByteArray) (hn:Nm n):stmtM 0 [⟨1,0,w_rollback,0⟩,⟨1,0,w_to,0⟩,⟨1,0,n,0⟩]=.ok { stmt0 with kind:=12,name:=n }:=by
 refine stmt_run w_rollback (rollbackM 0) _ _ [] (by rfl) ?_
 rw [rollback_eq]
 refine (bind_ok rfl).trans ?_
 refine (bind_ok (may_hit_r 1 (.inl rfl) 0 w_to 0 _ _ _)).trans ?_
 rw [if_pos rfl]
 exact named_back 12 n hn [] _ []
theorem rollName_back (n:ByteArray) (hn:Nm n):stmtM 0 [⟨1,0,w_rollback,0⟩,⟨1,0,w_prepared,0⟩,⟨1,0,n,0⟩]=.ok { stmt0 with kind:=15,name:=n }:=by
 refine stmt_run w_rollback (rollbackM 0) _ _ [] (by rfl) ?_
 rw [rollback_eq]
 refine (bind_ok rfl).trans ?_
 refine (bind_ok (may_not w_to _ (by simp [isB,wordB]))).trans ?_
 rw [if_neg (by decide)]
 refine (bind_ok (may_hit_r 1 (.inl rfl) 0 w_prepared 0 _ _ _)).trans ?_
 rw [if_pos rfl]
 exact named_back 15 n hn [] _ []
theorem commitName_back (n:ByteArray) (hn:Nm n):stmtM 0 [⟨1,0,w_commit,0⟩,⟨1,0,w_prepared,0⟩,⟨1,0,n,0⟩]=.ok { stmt0 with kind:=14,name:=n }:=by
 refine stmt_run w_commit (commitM 0) _ _ [] (by rfl) ?_
 rw [commit_eq]
 refine (bind_ok rfl).trans ?_
 refine (bind_ok (may_hit_r 1 (.inl rfl) 0 w_prepared 0 _ _ _)).trans ?_
 rw [if_pos rfl]
 exact named_back 14 n hn [] _ []
theorem slotN_back (n:Int) (h0:0<=n) (h1:n<=1073741824) (s:Stmt) (o:List ByteArray):slotN 0 ⟨[⟨2,0,noStr,n⟩],s,o⟩=.ok ((),⟨[],{ s with n:=n },o⟩):=by
 rw [slotN_eq]
 refine (bind_ok (a:=⟨2,0,noStr,n⟩) rfl).trans ?_
 refine (bind_ok (a:=n) rfl).trans ?_
 rw [if_neg (by omega)]
 rfl
theorem slotNew_back (n:ByteArray) (hn:Nm n):stmtM 0 [⟨1,0,w_slot,0⟩,⟨1,0,n,0⟩]=.ok { stmt0 with kind:=18,name:=n }:=by
 refine stmt_run w_slot (slotM 0) _ _ [] (by rfl) ?_
 rw [slot_eq]
 refine (bind_ok (named_back 18 n hn [] stmt0 [])).trans ?_
 rfl
theorem slotGet_back (x:ByteArray) (hx:Nm x) (n:Int) (h0:0<=n) (h1:n<=1073741824):stmtM 0 [⟨1,0,w_slot,0⟩,⟨1,0,x,0⟩,⟨1,0,w_get,0⟩,⟨2,0,noStr,n⟩]=.ok { stmt0 with kind:=19,name:=x,n:=n }:=by
 refine stmt_run w_slot (slotM 0) _ _ [] (by rfl) ?_
 rw [slot_eq]
 refine (bind_ok (named_back 18 x hx _ stmt0 [])).trans ?_
 refine (bind_ok (may_hit_r 1 (.inl rfl) 0 w_get 0 _ _ _)).trans ?_
 rw [if_pos rfl]
 refine (bind_ok rfl).trans ?_
 exact slotN_back n h0 h1 _ _
theorem slotAck_back (x:ByteArray) (hx:Nm x) (n:Int) (h0:0<=n) (h1:n<=1073741824):stmtM 0 [⟨1,0,w_slot,0⟩,⟨1,0,x,0⟩,⟨1,0,w_ack,0⟩,⟨2,0,noStr,n⟩]=.ok { stmt0 with kind:=20,name:=x,n:=n }:=by
 refine stmt_run w_slot (slotM 0) _ _ [] (by rfl) ?_
 rw [slot_eq]
 refine (bind_ok (named_back 18 x hx _ stmt0 [])).trans ?_
 refine (bind_ok (may_not w_get _ (by simp [isB,wordB]))).trans ?_
 rw [if_neg (by decide)]
 refine (bind_ok (may_hit_r 1 (.inl rfl) 0 w_ack 0 _ _ _)).trans ?_
 rw [if_pos rfl]
 refine (bind_ok rfl).trans ?_
 exact slotN_back n h0 h1 _ _
end
section
open Go
abbrev Pc:=ByteArray × List Tok
def cW (x:ByteArray):Pc:=(x,[⟨1,0,x,0⟩])
def cS (x:ByteArray):Pc:=(x,[⟨4,0,x,0⟩])
def cV (v:Val):Pc:=(textV v,[tokV v 0])
def sepC {α:Type} (bt:Pc) (f:α->List Pc):List α->List Pc
 | []=>[]
 | x :: r=>f x ++ r.flatMap fun y=>bt :: f y
theorem sepC_fst {α:Type} (bt:Pc) (f:α->List Pc) (g:α->List ByteArray) (h:∀ a,(f a).map (·.1)=g a) (L:List α):(sepC bt f L).map (·.1)=sepP bt.1 g L:=by
 cases L with
 | nil=>rfl
 | cons x r=>simp [sepC,sepP,List.map_flatMap,h]
theorem sepC_ok {α:Type} (bt:Pc) (hb:Chunk bt.1 bt.2) (f:α->List Pc) (L:List α) (h:∀ a ∈ L,∀ p ∈ f a,Chunk p.1 p.2):∀ p ∈ sepC bt f L,Chunk p.1 p.2:=by
 cases L with
 | nil=>exact fun p hp=>nomatch hp
 | cons x r =>
  intro p hp
  rcases List.mem_append.1 hp with hp|hp
  · exact h x List.mem_cons_self p hp
  · obtain ⟨y,hy,hp⟩:=List.mem_flatMap.1 hp
    rcases List.mem_cons.1 hp with rfl|hp
    · exact hb
    · exact h y (List.mem_cons_of_mem _ hy) p hp
theorem sepC_snd {α:Type} (bt:ByteArray) (k:Int) (f:α->List Pc) (g:α->List Tok) (h:∀ a,(f a).flatMap (·.2)=g a) (x:α) (r:List α):(sepC (bt,[⟨k,0,bt,0⟩]) f (x :: r)).flatMap (·.2)=g x ++ r.flatMap fun y=>⟨k,0,bt,0⟩ :: g y:=by
 simp [sepC,List.flatMap_append,h,List.flatMap_assoc]
theorem insert_round (t:ByteArray) (ht:Nm t) (v:Val) (r:List Val) (hv:∀ u ∈ v :: r,PrintsV u/\PlainV u) (hl:r.length+1<=6) :
 parseM (printedM { stmt0 with kind:=4,table:=t,row:=v :: r })=.ok { stmt0 with kind:=4,table:=t,row:=v :: r }:=by
 refine back_of _ w_insert [⟨1,0,w_insert,0⟩] ([cW w_into,cW t,cW w_values,cS w_lp] ++ sepC (cS w_comma) (fun v=>[cV v]) (v :: r) ++ [cS w_rp]) (chunk_word ⟨by decide,by decide⟩) ?_ ?_ ?_
 · intro p hp
   rcases List.mem_append.1 hp with hp|hp
   · rcases List.mem_append.1 hp with hp|hp
     · simp only [List.mem_cons,List.not_mem_nil,or_false] at hp
       rcases hp with rfl|rfl|rfl|rfl
       · exact chunk_word ⟨by decide,by decide⟩
       · exact chunk_word ht.word
       · exact chunk_word ⟨by decide,by decide⟩
       · exact chunk_sign w_lp (by decide)
     · refine sepC_ok _ (chunk_sign w_comma (by decide)) _ _ ?_ p hp
       intro a ha p hp
       rw [List.mem_singleton.1 hp]
       exact chunk_val (hv a ha).1
   · rw [List.mem_singleton.1 hp]
     exact chunk_sign w_rp (by decide)
 · rw [List.map_append,List.map_append,sepC_fst (cS w_comma) _ (fun v=>[textV v]) (fun _=>rfl)]
   rfl
 · rw [List.flatMap_append,List.flatMap_append,show (cS w_comma)=(w_comma,[⟨4,0,w_comma,0⟩]) from rfl,sepC_snd w_comma 4 _ (fun v=>[tokV v 0]) (fun _=>rfl)]
   exact insert_back t ht v r hv hl
def whereC (l:List Cond):List Pc:=(if l.isEmpty then [] else [cW w_where]) ++ sepC (cW w_and) (fun c=>[cW c.col,cS (opS c.op),cV c.val]) l
theorem whereC_fst (l:List Cond):(whereC l).map (·.1)=whereP l:=by
 unfold whereC whereP
 rw [List.map_append,sepC_fst (cW w_and) _ (fun c=>[c.col,opS c.op,textV c.val]) (fun _=>rfl)]
 cases l <;> rfl
theorem whereC_ok (l:List Cond) (hl:∀ x ∈ l,CondOk x):∀ p ∈ whereC l,Chunk p.1 p.2:=by
 intro p hp
 unfold whereC at hp
 rcases List.mem_append.1 hp with hp|hp
 · cases l with
   | nil=>exact nomatch hp
   | cons c r =>
    rw [List.mem_singleton.1 hp]
    exact chunk_word ⟨by decide,by decide⟩
 · refine sepC_ok (cW w_and) (chunk_word ⟨by decide,by decide⟩) _ _ ?_ p hp
   intro a ha p hp
   simp only [List.mem_cons,List.not_mem_nil,or_false] at hp
   rcases hp with rfl|rfl|rfl
   · exact chunk_word (hl a ha).col.word
   · exact chunk_op _ (op_back a.op (hl a ha).op).2
   · exact chunk_val (hl a ha).val.1
theorem whereC_snd (l:List Cond):(whereC l).flatMap (·.2)=whereT l:=by
 unfold whereC
 cases l with
 | nil=>rfl
 | cons c r =>
  rw [List.flatMap_append,show (cW w_and)=(w_and,[⟨1,0,w_and,0⟩]) from rfl,sepC_snd w_and 1 _ condT (fun _=>rfl)]
  rfl
theorem delete_round (t:ByteArray) (ht:Nm t) (l:List Cond) (hl:∀ x ∈ l,CondOk x) (hm:l.length<=8):parseM (printedM { stmt0 with kind:=6,table:=t,wher:=l })=.ok { stmt0 with kind:=6,table:=t,wher:=l }:=by
 refine back_of _ w_delete [⟨1,0,w_delete,0⟩] ([cW w_from,cW t] ++ whereC l) (chunk_word ⟨by decide,by decide⟩) ?_ ?_ ?_
 · intro p hp
   rcases List.mem_append.1 hp with hp|hp
   · simp only [List.mem_cons,List.not_mem_nil,or_false] at hp
     rcases hp with rfl|rfl
     · exact chunk_word ⟨by decide,by decide⟩
     · exact chunk_word ht.word
   · exact whereC_ok l hl p hp
 · rw [List.map_append,whereC_fst]
   rfl
 · rw [List.flatMap_append,whereC_snd]
   exact delete_back t ht l hl hm
def setC (x:SetV):List Pc:=[cW x.col,cS w_eq] ++ (if x.col2=noStr then [] else [cW x.col2,cS w_plus]) ++ [cV x.val]
theorem setC_fst (x:SetV):(setC x).map (·.1)=setP x:=by
 unfold setC setP
 split <;> rfl
theorem setC_snd (x:SetV):(setC x).flatMap (·.2)=setT x:=by
 unfold setC setT
 split <;> rfl
theorem setC_ok (x:SetV) (h:SetOk x):∀ p ∈ setC x,Chunk p.1 p.2:=by
 intro p hp
 unfold setC at hp
 rcases List.mem_append.1 hp with hp|hp
 · rcases List.mem_append.1 hp with hp|hp
   · simp only [List.mem_cons,List.not_mem_nil,or_false] at hp
     rcases hp with rfl|rfl
     · exact chunk_word h.col.word
     · exact chunk_sign w_eq (by decide)
   · by_cases hd:x.col2=noStr
     · rw [if_pos hd] at hp
       exact nomatch hp
     · rw [if_neg hd] at hp
       simp only [List.mem_cons,List.not_mem_nil,or_false] at hp
       rcases hp with rfl|rfl
       · exact chunk_word (h.two.resolve_left hd).1.word
       · exact chunk_sign w_plus (by decide)
 · rw [List.mem_singleton.1 hp]
   exact chunk_val h.val.1
theorem update_round (t:ByteArray) (ht:Nm t) (x:SetV) (r:List SetV) (hx:∀ u ∈ x :: r,SetOk u) (hr:r.length+1<=6) (l:List Cond) (hl:∀ x ∈ l,CondOk x) (hm:l.length<=8) :
 parseM (printedM { stmt0 with kind:=5,table:=t,sets:=x :: r,wher:=l })=.ok { stmt0 with kind:=5,table:=t,sets:=x :: r,wher:=l }:=by
 refine back_of _ w_update [⟨1,0,w_update,0⟩] ([cW t,cW w_set] ++ sepC (cS w_comma) setC (x :: r) ++ whereC l) (chunk_word ⟨by decide,by decide⟩) ?_ ?_ ?_
 · intro p hp
   rcases List.mem_append.1 hp with hp|hp
   · rcases List.mem_append.1 hp with hp|hp
     · simp only [List.mem_cons,List.not_mem_nil,or_false] at hp
       rcases hp with rfl|rfl
       · exact chunk_word ht.word
       · exact chunk_word ⟨by decide,by decide⟩
     · exact sepC_ok _ (chunk_sign w_comma (by decide)) _ _ (fun a ha=>setC_ok a (hx a ha)) p hp
   · exact whereC_ok l hl p hp
 · rw [List.map_append,List.map_append,whereC_fst,sepC_fst (cS w_comma) _ setP setC_fst]
   rfl
 · rw [List.flatMap_append,List.flatMap_append,whereC_snd,show (cS w_comma)=(w_comma,[⟨4,0,w_comma,0⟩]) from rfl,sepC_snd w_comma 4 _ setT setC_snd,List.append_assoc]
   exact update_back t ht x r hx hr l hl hm
end
section
open Go
theorem namesC_fst (l:List ByteArray):(sepC (cS w_comma) (fun x=>[cW x]) l).map (·.1)=namesP l:=sepC_fst (cS w_comma) _ (fun x=>[x]) (fun _=>rfl) l
theorem namesC_ok (l:List ByteArray) (hl:∀ x ∈ l,Nm x):∀ p ∈ sepC (cS w_comma) (fun x=>[cW x]) l,Chunk p.1 p.2:=sepC_ok _ (chunk_sign w_comma (by decide)) _ _ fun a ha p hp=>by
 rw [List.mem_singleton.1 hp]
 exact chunk_word (hl a ha).word
theorem namesC_snd (l:List ByteArray):(sepC (cS w_comma) (fun x=>[cW x]) l).flatMap (·.2)=namesT l:=by
 cases l with
 | nil=>rfl
 | cons x r=>exact sepC_snd w_comma 4 _ (fun x=>[⟨1,0,x,0⟩]) (fun _=>rfl) x r
theorem all_app {α:Type} {P:α->Prop} {A B:List α} (hA:∀ p ∈ A,P p) (hB:∀ p ∈ B,P p):∀ p ∈ A ++ B,P p:=fun p hp=>(List.mem_append.1 hp).elim (hA p) (hB p)
theorem all_nil {α:Type} {P:α->Prop}:∀ p ∈ ([]:List α),P p:=fun _ h=>nomatch h
theorem all_cons {α:Type} {P:α->Prop} {a:α} {A:List α} (h:P a) (hA:∀ p ∈ A,P p):∀ p ∈ a :: A,P p:=fun p hp=>(List.mem_cons.1 hp).elim (fun e=>by rw [e];exact h) (hA p)
theorem cK {x:ByteArray} (h:((match x.data.toList with|c :: _=>letB c | []=>false) && x.data.toList.all inB)=true):Chunk (cW x).1 (cW x).2:=chunk_word (show Word x from Bool.and_eq_true_iff.1 h)
theorem cN {x:ByteArray} (h:Nm x):Chunk (cW x).1 (cW x).2:=chunk_word h.word
theorem cG {x:ByteArray} (h:x.data.toList ∈ [[40],[41],[44],[42],[43],[61]]):Chunk (cS x).1 (cS x).2:=chunk_sign x h
theorem table_round (t:ByteArray) (ht:Nm t) (c:ByteArray × Int) (r:List (ByteArray × Int)) (hc:∀ u ∈ c :: r,ColOk u) (hl:r.length+1<=6) :
 parseM (printedM { stmt0 with kind:=1,table:=t,cols:=c :: r })=.ok { stmt0 with kind:=1,table:=t,cols:=c :: r }:=by
 refine back_of _ w_create [⟨1,0,w_create,0⟩] ([cW w_table,cW t,cS w_lp] ++ sepC (cS w_comma) (fun c=>[cW c.1,cW (if c.2=1 then w_int else w_text)]) (c :: r) ++ [cS w_rp]) (cK (by decide)) ?_ ?_ ?_
 · refine all_app (all_app (all_cons (cK (by decide)) (all_cons (cN ht) (all_cons (cG (by decide)) all_nil))) (sepC_ok _ (cG (by decide)) _ _ fun a ha=>all_cons (cN (hc a ha).1) (all_cons ?_ all_nil))) (all_cons (cG (by decide)) all_nil)
   split
   · exact cK (by decide)
   · exact cK (by decide)
 · rw [List.map_append,List.map_append,sepC_fst (cS w_comma) _ (fun c=>[c.1,if c.2=1 then w_int else w_text]) (fun _=>rfl)]
   rfl
 · rw [List.flatMap_append,List.flatMap_append,show (cS w_comma)=(w_comma,[⟨4,0,w_comma,0⟩]) from rfl,sepC_snd w_comma 4 _ colT (fun _=>rfl)]
   exact table_back t ht c r hc hl
theorem index_round (n t:ByteArray) (hn:Nm n) (ht:Nm t) (l:List ByteArray) (hl:∀ x ∈ l,Nm x) (h0:l ≠ []) (hm:l.length<=6) :
 parseM (printedM { stmt0 with kind:=2,name:=n,table:=t,names:=l })=.ok { stmt0 with kind:=2,name:=n,table:=t,names:=l }:=by
 refine back_of _ w_create [⟨1,0,w_create,0⟩] ([cW w_index,cW n,cW w_on,cW t,cS w_lp] ++ sepC (cS w_comma) (fun x=>[cW x]) l ++ [cS w_rp]) (cK (by decide)) ?_ ?_ ?_
 · exact all_app (all_app (all_cons (cK (by decide)) (all_cons (cN hn) (all_cons (cK (by decide)) (all_cons (cN ht) (all_cons (cG (by decide)) all_nil))))) (namesC_ok l hl)) (all_cons (cG (by decide)) all_nil)
 · rw [List.map_append,List.map_append,namesC_fst]
   rfl
 · rw [List.flatMap_append,List.flatMap_append,namesC_snd]
   exact index_back n t hn ht l hl h0 hm
theorem rename_round (t n j:ByteArray) (ht:Nm t) (hn:Nm n) (hj:Nm j):parseM (printedM { stmt0 with kind:=3,table:=t,name:=n,join:=j })=.ok { stmt0 with kind:=3,table:=t,name:=n,join:=j } :=
 back_of _ w_rename [⟨1,0,w_rename,0⟩] [cW t,cW n,cW w_to,cW j] (cK (by decide)) (all_cons (cN ht) (all_cons (cN hn) (all_cons (cK (by decide)) (all_cons (cN hj) all_nil)))) rfl (rename_back t n j ht hn hj)
theorem save_round (n:ByteArray) (hn:Nm n):parseM (printedM { stmt0 with kind:=11,name:=n })=.ok { stmt0 with kind:=11,name:=n } :=
 back_of _ w_savepoint [⟨1,0,w_savepoint,0⟩] [cW n] (cK (by decide)) (all_cons (cN hn) all_nil) rfl (save_back n hn)
theorem back_round (n:ByteArray) (hn:Nm n):parseM (printedM { stmt0 with kind:=12,name:=n })=.ok { stmt0 with kind:=12,name:=n } :=
 back_of _ w_rollback [⟨1,0,w_rollback,0⟩] [cW w_to,cW n] (cK (by decide)) (all_cons (cK (by decide)) (all_cons (cN hn) all_nil)) rfl (back_back n hn)
theorem prepare_round (n:ByteArray) (hn:Nm n):parseM (printedM { stmt0 with kind:=13,name:=n })=.ok { stmt0 with kind:=13,name:=n } :=
 back_of _ w_prepare [⟨1,0,w_prepare,0⟩] [cW n] (cK (by decide)) (all_cons (cN hn) all_nil) rfl (prepare_back n hn)
theorem commitName_round (n:ByteArray) (hn:Nm n):parseM (printedM { stmt0 with kind:=14,name:=n })=.ok { stmt0 with kind:=14,name:=n } :=
 back_of _ w_commit [⟨1,0,w_commit,0⟩] [cW w_prepared,cW n] (cK (by decide)) (all_cons (cK (by decide)) (all_cons (cN hn) all_nil)) rfl (commitName_back n hn)
theorem rollName_round (n:ByteArray) (hn:Nm n):parseM (printedM { stmt0 with kind:=15,name:=n })=.ok { stmt0 with kind:=15,name:=n } :=
 back_of _ w_rollback [⟨1,0,w_rollback,0⟩] [cW w_prepared,cW n] (cK (by decide)) (all_cons (cK (by decide)) (all_cons (cN hn) all_nil)) rfl (rollName_back n hn)
theorem vacuum_round (n:ByteArray) (hn:Nm n):parseM (printedM { stmt0 with kind:=16,table:=n })=.ok { stmt0 with kind:=16,table:=n } :=
 back_of _ w_vacuum [⟨1,0,w_vacuum,0⟩] [cW n] (cK (by decide)) (all_cons (cN hn) all_nil) rfl (vacuum_back n hn)
theorem slotNew_round (n:ByteArray) (hn:Nm n):parseM (printedM { stmt0 with kind:=18,name:=n })=.ok { stmt0 with kind:=18,name:=n } :=
 back_of _ w_slot [⟨1,0,w_slot,0⟩] [cW n] (cK (by decide)) (all_cons (cN hn) all_nil) rfl (slotNew_back n hn)
theorem slotGet_round (x:ByteArray) (hx:Nm x) (n:Int) (h0:0<=n) (h1:n<=1073741824):parseM (printedM { stmt0 with kind:=19,name:=x,n:=n })=.ok { stmt0 with kind:=19,name:=x,n:=n } :=
 back_of _ w_slot [⟨1,0,w_slot,0⟩] [cW x,cW w_get,(⟨⟨Lib.itoa n⟩⟩,[⟨2,0,noStr,n⟩])] (cK (by decide)) (all_cons (cN hx) (all_cons (cK (by decide)) (all_cons (chunk_int (by omega) (by omega)) all_nil))) rfl (slotGet_back x hx n h0 h1)
theorem slotAck_round (x:ByteArray) (hx:Nm x) (n:Int) (h0:0<=n) (h1:n<=1073741824):parseM (printedM { stmt0 with kind:=20,name:=x,n:=n })=.ok { stmt0 with kind:=20,name:=x,n:=n } :=
 back_of _ w_slot [⟨1,0,w_slot,0⟩] [cW x,cW w_ack,(⟨⟨Lib.itoa n⟩⟩,[⟨2,0,noStr,n⟩])] (cK (by decide)) (all_cons (cN hx) (all_cons (cK (by decide)) (all_cons (chunk_int (by omega) (by omega)) all_nil))) rfl (slotAck_back x hx n h0 h1)
theorem closed_round:∀ k ∈ ([9,10,17]:List Int),parseM (printedM { stmt0 with kind:=k })=.ok { stmt0 with kind:=k }:=by decide +kernel
theorem begin_round:∀ m ∈ ([0,1,2,4,5,6,8,9,10,12,13,14]:List Int),parseM (printedM { stmt0 with kind:=8,mode:=m })=.ok { stmt0 with kind:=8,mode:=m }:=by decide +kernel
end
section
open Go
theorem chunk_call {f x:ByteArray} {T U:List Tok} (hf:Chunk f T) (hx:Chunk x U) (h:1<=f.size):Chunk (f ++ w_lp ++ x ++ w_rp) (T ++ [⟨4,0,w_lp,0⟩] ++ U ++ [⟨4,0,w_rp,0⟩]):=by
 intro r hr i
 have hs:Stop r:=hr.elim id fun e=>by
  have:=congrArg ByteArray.size e
  simp only [ByteArray.size_append] at this
  have h1:w_lp.size=1:=rfl
  have h2:w_rp.size=1:=rfl
  omega
 obtain ⟨ts,e1,e2⟩:=hf ([40] ++ (x.data.toList ++ ([41] ++ r))) (.inl (stop_cons (.inr (.inr (.inr rfl))))) i
 obtain ⟨us,e3,e4⟩:=hx ([41] ++ r) (.inl (stop_cons (.inr (.inl rfl)))) (i+f.size+1)
 refine ⟨ts ++ [⟨4,i+f.size,w_lp,0⟩] ++ us ++ [⟨4,i+f.size+1+x.size,w_rp,0⟩],?_,?_⟩
 · rw [List.map_append,List.map_append,List.map_append,e1,e3]
   rfl
 · have ed:(f ++ w_lp ++ x ++ w_rp).data.toList ++ r=f.data.toList ++ ([40] ++ (x.data.toList ++ ([41] ++ r))):=by simp
   have es:i+(f ++ w_lp ++ x ++ w_rp).size=i+f.size+1+x.size+1:=by
    simp only [ByteArray.size_append]
    have h1:w_lp.size=1:=rfl
    have h2:w_rp.size=1:=rfl
    omega
   rw [ed,es,e2,lex_sign [40] (by decide),show i+f.size + [(40:UInt8)].length=i+f.size+1 from rfl,e4,lex_sign [41] (by decide),show i+f.size+1+x.size + [(41:UInt8)].length=i+f.size+1+x.size+1 from rfl]
   cases lexAt r (i+f.size+1+x.size+1) with
   | error e=>rfl
   | ok l =>
    show Except.ok (ts ++ (_ :: (us ++ (_ :: l))))=Except.ok _
    simp
def headC (agg:Int) (l:List ByteArray):List Pc:=if agg=1 then [(w_countAll,[⟨1,0,w_count,0⟩,⟨4,0,w_lp,0⟩,⟨4,0,w_star,0⟩,⟨4,0,w_rp,0⟩])]
 else if 0<agg/\l.length=1 then [(aggS agg ++ w_lp ++ l.headD noStr ++ w_rp,[⟨1,0,aggS agg,0⟩] ++ [⟨4,0,w_lp,0⟩] ++ [⟨1,0,l.headD noStr,0⟩] ++ [⟨4,0,w_rp,0⟩])]
 else sepC (cS w_comma) (fun x=>[cW x]) l
theorem headC_ok (agg:Int) (l:List ByteArray) (h:HeadOk agg l):∀ p ∈ headC agg l,Chunk p.1 p.2:=by
 unfold headC
 split
 · exact all_cons (chunk_call (f:=w_count) (x:=w_star) (cK (by decide)) (cG (by decide)) (by decide)) all_nil
 · split
   · next h1 h2 =>
     obtain ⟨x,rfl⟩:∃ x,l=[x]:=List.length_eq_one_iff.1 h2.2
     have hr:=h.rng
     have:agg=2 \/ agg=3 \/ agg=4:=by omega
     refine all_cons ?_ all_nil
     rcases this with rfl|rfl|rfl <;> exact chunk_call (f:=aggS _) (cK (by decide)) (cN (h.nm x List.mem_cons_self)) (by decide)
   · exact namesC_ok l h.nm
theorem headC_snd (agg:Int) (l:List ByteArray) (h:HeadOk agg l):(headC agg l).flatMap (·.2)=headT agg l:=by
 have hr:=h.rng
 have hl:=h.len
 unfold headC headT
 by_cases h0:agg=0
 · rw [if_neg (by omega),if_neg (by omega),if_pos h0,namesC_snd]
 · rw [if_neg h0] at hl ⊢
   by_cases h1:agg=1
   · rw [if_pos h1,if_pos h1]
     rfl
   · rw [if_neg h1] at hl ⊢
     rw [if_pos ⟨by omega,hl⟩,if_neg h1]
     rfl
def joinC (j l r:ByteArray):List Pc:=if j=noStr then [] else [cW w_join,cW j,cW w_on,cW l,cS w_eq,cW r]
def orderC (l:List ByteArray):List Pc:=if l.isEmpty then [] else [cW w_order,cW w_by] ++ sepC (cS w_comma) (fun x=>[cW x]) l
theorem select_round (agg:Int) (ns:List ByteArray) (hh:HeadOk agg ns) (t:ByteArray) (ht:Nm t) (j l r:ByteArray) (hj:(j=noStr/\l=noStr/\r=noStr) \/ (Nm j/\Nm l/\Nm r)) (c:List Cond) (hc:∀ x ∈ c,CondOk x) (hcm:c.length<=8) (q:List ByteArray) (hq:∀ x ∈ q,Nm x) (hqm:q.length<=6) (ha:agg=0 \/ q=[]) :
 parseM (printedM { stmt0 with kind:=7,agg:=agg,names:=ns,table:=t,join:=j,left:=l,right:=r,wher:=c,order:=q })=.ok { stmt0 with kind:=7,agg:=agg,names:=ns,table:=t,join:=j,left:=l,right:=r,wher:=c,order:=q }:=by
 refine back_of _ w_select [⟨1,0,w_select,0⟩] (headC agg ns ++ ([cW w_from,cW t] ++ (joinC j l r ++ (whereC c ++ orderC q)))) (cK (by decide)) ?_ ?_ ?_
 · refine all_app (headC_ok agg ns hh) (all_app (all_cons (cK (by decide)) (all_cons (cN ht) all_nil)) (all_app ?_ (all_app (whereC_ok c hc) ?_)))
   · unfold joinC
     split
     · exact all_nil
     · next hn =>
       obtain ⟨h1,h2,h3⟩:=hj.resolve_left fun e=>hn e.1
       exact all_cons (cK (by decide)) (all_cons (cN h1) (all_cons (cK (by decide)) (all_cons (cN h2) (all_cons (cG (by decide)) (all_cons (cN h3) all_nil)))))
   · unfold orderC
     split
     · exact all_nil
     · exact all_app (all_cons (cK (by decide)) (all_cons (cK (by decide)) all_nil)) (namesC_ok q hq)
 · have e1:(headC agg ns).map (·.1)=(if agg=1 then [w_countAll] else if 0<agg/\ns.length=1 then [aggS agg ++ w_lp ++ ns.headD noStr ++ w_rp] else namesP ns):=by
    unfold headC
    split
    · rfl
    · split
      · rfl
      · exact namesC_fst ns
   have e2:(joinC j l r).map (·.1)=(if j=noStr then [] else [w_join,j,w_on,l,w_eq,r]):=by
    unfold joinC
    split <;> rfl
   have e3:(orderC q).map (·.1)=(if q.isEmpty then [] else [w_order,w_by] ++ namesP q):=by
    unfold orderC
    split
    · rfl
    · rw [List.map_append,namesC_fst]
      rfl
   rw [List.map_append,List.map_append,List.map_append,List.map_append,e1,e2,e3,whereC_fst]
   show queryP _=_
   unfold queryP
   simp only [List.append_assoc]
   rfl
 · have e1:(joinC j l r).flatMap (·.2)=joinTk j l r:=by
    unfold joinC joinTk
    split <;> rfl
   have e2:(orderC q).flatMap (·.2)=orderT q:=by
    unfold orderC orderT
    cases q with
    | nil=>rfl
    | cons x q =>
     rw [if_neg (by simp),if_neg (by simp),List.flatMap_append,namesC_snd]
     rfl
   rw [List.flatMap_append,List.flatMap_append,List.flatMap_append,List.flatMap_append,headC_snd agg ns hh,e1,e2,whereC_snd]
   exact select_back agg ns hh t ht j l r hj c hc hcm q hq hqm ha
end
end Go.Proofs.YtieojjngeibnmaaGreatDoor
