/- An index more in a table of a catalogue; a column's name in it: what the writes make of th. -/
import Derived.Test.YtjcpccadmcglgaaGreatDoorZK21
import Derived.Laws.OwnMore
set_option linter.unusedVariables false
set_option linter.unusedSimpArgs false
set_option maxRecDepth 100000
set_option maxHeartbeats 64000000
namespace Go.Proofs.YtjcpccadmcglgaaGreatDoor
section
open Go.RowKit
theorem flat_set {α:Type} {enc:α->List Value} {sz:Nat} (hl:∀ x,(enc x).length=sz):∀ (M:List α) (t:Nat) (y:α) (j:Nat) (u:Value),(ht:t<M.length)->j<sz->enc y=(enc M[t]).set j u->(M.set t y).flatMap enc=(M.flatMap enc).set (t * sz+j) u
 | [],t,_,_,_,ht,_,_=>by cases ht
 | x :: M,0,y,j,u,_,hj,h=>by
  simp only [List.set_cons_zero,List.flatMap_cons,Nat.zero_mul,Nat.zero_add]
  rw [List.set_append_left _ _ (by rw [hl];exact hj)]
  simp only [List.getElem_cons_zero] at h
  rw [h]
 | x :: M,t+1,y,j,u,ht,hj,h=>by
  simp only [List.set_cons_succ,List.flatMap_cons]
  have e:(t+1) * sz+j=(enc x).length+(t * sz+j):=by rw [Nat.add_mul,Nat.one_mul,hl];omega
  rw [e,List.set_append_right _ _ (by omega),Nat.add_sub_cancel_left]
  rw [flat_set hl M t y j u (by simpa using ht) hj (by simpa using h)]
theorem modify_eq_set {α:Type} {C:List α} {k:Nat} (f:α->α) (hk:k<C.length):C.modify k f=C.set k (f C[k]):=by
 induction C generalizing k with
 | nil=>cases hk
 | cons x C ih =>
  cases k with
  | zero=>rfl
  | succ k=>simpa using ih (by simpa using hk)
theorem owns_other {w w':World} {B:Nat} {e:TypeId} {sz:Nat} {v:Value} {n:Nat} {xs:List Value} {r:Option Nat} (h:w.ownsRow B e sz v n xs) (hg:w.grownBy w' r) (hr:∀ g,v.ownBlock=some g->r ≠ some g):w'.ownsRow B e sz v n xs:=by
 refine h.kept hg ?_
 cases hv:v.ownBlock with
 | none=>left;rfl
 | some g=>right;exact fun e=>hr g hv e.symm
theorem ixOwn_other {B B':Nat} {L:List Ix} {v u:Value} {w w':World} {m:Nat} {ys:List Value} (h:IxOwn B L v w) (hu:w.ownsRow B' 93 3 u m ys) (hg:w.grownBy w' u.ownBlock) (hr:∀ g,v.ownBlock=some g->u.ownBlock ≠ some g):IxOwn B L v w':=by
 obtain ⟨vs,h1,h2,h3⟩:=h
 exact ⟨vs,h1,owns_other h2 hg hr,ixParts_keeps B B' L vs 93 (by decide) w w' _ h3 (own_tag hu) hg⟩
theorem catAt_ix {B b k g c:Nat} {X:Nat->Prop} {C:List Tab} {x:Ix} {v' xv:Value} {vs:List (Value × Value)} {us:List Value} {w w1:World} (hB:B<=b) (hl:vs.length=C.length) (hb:w.heap[b]? = some (.cells #[.slice (some ⟨g,0,none⟩) C.length c] 60 (0,0)))
 (ho:w.ownsRow B 90 4 (.slice (some ⟨g,0,none⟩) C.length c) C.length ((C.zip vs).flatMap tabCells)) (hp:TabParts B C vs w) (ha:Apart vs) (hF:Free X b (.slice (some ⟨g,0,none⟩) C.length c) vs) (hF1:∀ k,v'.ownBlock=some k->¬ X k) (hk:k<C.length) (hk':k<vs.length)
 (hul:us.length=C[k].idx.length) (hu:w.ownsRow B 93 3 vs[k].2 C[k].idx.length ((C[k].idx.zip us).flatMap ixCells)) (hup:IxParts B C[k].idx us w)
 (hx:w.ownsRow B 3 1 xv x.cols.length (x.cols.map (.int .i64)))
 (o1:w1.ownsRow B 93 3 v' (C[k].idx.length+1) ((C[k].idx.zip us).flatMap ixCells ++ ixCells (x,xv))) (g1:w.grownBy w1 (vs[k].2).ownBlock) (at1:v'.ownBlock=(vs[k].2).ownBlock \/ v'.ownBlock=some w.heap.size) :
 CatAt B X b (C.modify k fun t=>{ t with idx:=t.idx ++ [x] }) (w1.setCell ⟨g,k * 4+3,none⟩ v')/\B<=g:=by
 have hgB:B<=g:=(ho.lt g rfl).1
 refine ⟨?_,hgB⟩
 have htag:=own_tag hu
 have ho1:w1.ownsRow B 90 4 (.slice (some ⟨g,0,none⟩) C.length c) C.length ((C.zip vs).flatMap tabCells):=keeps_owns (B':=B) (T:=93) (by decide) w w1 _ ho htag g1
 have hb1:w1.heap[b]? = some (.cells #[.slice (some ⟨g,0,none⟩) C.length c] 60 (0,0)):=(g1.block _ (jB hb) (row_not hb hu (by decide))).trans hb
 have hbg:b ≠ g:=by
  intro e
  have:=row_not hb1 ho1 (by decide)
  exact this (by rw [e];rfl)
 have hg2:=grown_cell w1 ⟨g,k * 4+3,none⟩ v'
 have ht2:=own_tag ho1
 have kp:∀ {e:TypeId} {sz:Nat} {v:Value} {n:Nat} {xs:List Value},e ≠ 90->w1.ownsRow B e sz v n xs->(w1.setCell ⟨g,k * 4+3,none⟩ v').ownsRow B e sz v n xs:=fun he h=>keeps_owns (B':=B) (T:=90) he w1 _ (some g) h ht2 hg2
 have hst:(w1.setCell ⟨g,k * 4+3,none⟩ v').ownsRow B 90 4 (.slice (some ⟨g,0,none⟩) C.length c) C.length (((C.zip vs).flatMap tabCells).set (k * 4+3) v'):=(World.ownsRow.stored ho1 (k * 4+3) v').1
 have hz:(C.zip vs).length=C.length:=zip_flat hl
 rw [modify_eq_set _ hk]
 refine ⟨hB,.slice (some ⟨g,0,none⟩) C.length c,vs.set k (vs[k].1,v'),by simp [hl],(heap_setCell_other _ _ _ _ (by exact hbg)).trans hb1,?_,fun t h1 h2=>?_,fun s t h1 h2 hst g'=>?_,hF.blk,hF.tab,fun t ht i hi=>?_,fun t ht i hi=>?_⟩
 · have e:(C.set k { C[k] with idx:=C[k].idx ++ [x] }).zip (vs.set k (vs[k].1,v'))=(C.zip vs).set k ({ C[k] with idx:=C[k].idx ++ [x] },vs[k].1,v'):=by
    apply List.ext_getElem
    · simp
    · intro i h1 h2
      simp only [List.getElem_zip,List.getElem_set]
      by_cases hik:k=i
      · simp [hik]
      · simp [hik]
   rw [e,List.length_set,flat_set (enc:=tabCells) (sz:=4) (fun _=>rfl) (C.zip vs) k _ 3 v' (by omega) (by decide) (by rw [List.getElem_zip];rfl)]
   exact hst
 · have hlen:t<C.length:=by simpa using h1
   have hlen':t<vs.length:=by omega
   simp only [List.getElem_set]
   by_cases hkt:k=t
   · subst hkt
     simp only [if_true]
     obtain ⟨p1,p2⟩:=hp k hlen hlen'
     refine ⟨kp (by decide) (keeps_owns (B':=B) (T:=93) (by decide) w w1 _ p1 htag g1),us ++ [xv],by simp [hul],kp (by decide) ?_,fun i i1 i2=>?_⟩
     · rw [List.zip_append hul.symm,List.flatMap_append,List.length_append]
       simpa using o1
     · by_cases hi:i<C[k].idx.length
       · simp only [List.getElem_append_left hi,List.getElem_append_left (show i<us.length by omega)]
         exact kp (by decide) (keeps_owns (B':=B) (T:=93) (by decide) w w1 _ (hup i hi (by omega)) htag g1)
       · obtain rfl:i=C[k].idx.length:=by simp at i1;omega
         have e1:(C[k].idx ++ [x])[C[k].idx.length]=x:=by simp
         have e2:(us ++ [xv])[C[k].idx.length]=xv:=by simp [<- hul]
         rw [e1,e2]
         exact kp (by decide) (keeps_owns (B':=B) (T:=93) (by decide) w w1 _ hx htag g1)
   · simp only [hkt,if_false]
     obtain ⟨p1,p2⟩:=hp t hlen hlen'
     refine ⟨kp (by decide) (keeps_owns (B':=B) (T:=93) (by decide) w w1 _ p1 htag g1),?_⟩
     have:=ixOwn_other p2 hu g1 (fun g' h3 h4=>((ha k t hk' hlen' hkt g').2 h4) h3)
     exact ixOwn_keeps B B _ _ 90 (by decide) (by decide) w1 _ (some g) this ht2 hg2
 · have hs':s<vs.length:=by simpa using h1
   have ht':t<vs.length:=by simpa using h2
   have old:∀ i (hi:i<vs.length),k ≠ i->∀ g',vs[i].2.ownBlock=some g'->v'.ownBlock ≠ some g':=by
    intro i hi hki g' h3 h4
    rcases at1 with e|e
    · rw [e] at h4
      exact (ha k i hk' hi hki g').2 h4 h3
    · rw [e] at h4
      obtain ⟨_,p2⟩:=hp i (by omega) hi
      obtain ⟨_,_,q2,_⟩:=p2
      have:=(q2.lt g' h3).2
      simp only [Option.some.injEq] at h4
      omega
   simp only [List.getElem_set]
   by_cases hks:k=s
   · subst hks
     have hkt:¬ k=t:=hst
     simp only [if_true,hkt,if_false]
     exact ⟨(ha k t hs' ht' hst g').1,fun h3 h4=>old t ht' hkt g' h4 h3⟩
   · by_cases hkt:k=t
     · subst hkt
       simp only [if_true,hks,if_false]
       exact ⟨(ha s k hs' ht' hst g').1,fun h3=>old s hs' hks g' h3⟩
     · simp only [hks,hkt,if_false]
       exact ha s t hs' ht' hst g'
 · have ht':t<vs.length:=by simpa using ht
   simp only [List.getElem_set] at hi
   by_cases hkt:k=t
   · subst hkt
     simp only [if_true] at hi
     exact hF.col k ht' i hi
   · simp only [hkt,if_false] at hi
     exact hF.col t ht' i hi
 · have ht':t<vs.length:=by simpa using ht
   simp only [List.getElem_set] at hi
   by_cases hkt:k=t
   · subst hkt
     simp only [if_true] at hi
     exact hF1 i hi
   · simp only [hkt,if_false] at hi
     exact hF.ix t ht' i hi
theorem catAt_col {B b k n g gc c cc:Nat} {X:Nat->Prop} {C:List Tab} {nm:ByteArray} {vs:List (Value × Value)} {w:World} (hB:B<=b) (hl:vs.length=C.length) (hb:w.heap[b]? = some (.cells #[.slice (some ⟨g,0,none⟩) C.length c] 60 (0,0)))
 (ho:w.ownsRow B 90 4 (.slice (some ⟨g,0,none⟩) C.length c) C.length ((C.zip vs).flatMap tabCells)) (hp:TabParts B C vs w) (ha:Apart vs) (hF:Free X b (.slice (some ⟨g,0,none⟩) C.length c) vs) (hk:k<C.length) (hk':k<vs.length)
 (hv:vs[k].1=.slice (some ⟨gc,0,none⟩) C[k].cols.length cc) (hn:n<C[k].cols.length) :
 CatAt B X b (C.modify k fun t=>{ t with cols:=t.cols.modify n fun c=>(nm,c.2) }) (w.setCell ⟨gc,n * 2,none⟩ (.string nm))/\B<=gc:=by
 have p1:=(hp k hk hk').1
 rw [hv] at p1
 have hgB:B<=gc:=(World.ownsRow.lt p1 gc rfl).1
 refine ⟨?_,hgB⟩
 have htag:=own_tag p1
 have hg2:=grown_cell w ⟨gc,n * 2,none⟩ (.string nm)
 have hbg:b ≠ gc:=by
  intro e
  have:=row_not hb p1 (by decide)
  exact this (by rw [e];rfl)
 have kp:∀ {e:TypeId} {sz:Nat} {v:Value} {m:Nat} {xs:List Value},e ≠ 62->w.ownsRow B e sz v m xs->(w.setCell ⟨gc,n * 2,none⟩ (.string nm)).ownsRow B e sz v m xs:=fun he h=>keeps_owns (B':=B) (T:=62) he w _ (some gc) h htag hg2
 have hkz:k<(C.zip vs).length:=by rw [zip_flat hl];exact hk
 rw [modify_eq_set _ hk]
 refine ⟨hB,.slice (some ⟨g,0,none⟩) C.length c,vs,by simp [hl],(heap_setCell_other _ _ _ _ (by exact hbg)).trans hb,?_,fun t h1 h2=>?_,ha,hF⟩
 · have e:(C.set k { C[k] with cols:=C[k].cols.modify n fun c=>(nm,c.2) }).zip vs=(C.zip vs).set k ({ C[k] with cols:=C[k].cols.modify n fun c=>(nm,c.2) },vs[k]):=by
    apply List.ext_getElem
    · simp
    · intro i h1 h2
      simp only [List.getElem_zip,List.getElem_set]
      by_cases hik:k=i
      · subst hik;simp
      · simp [hik]
   have e2:((C.zip vs).set k ({ C[k] with cols:=C[k].cols.modify n fun c=>(nm,c.2) },vs[k])).flatMap tabCells=(C.zip vs).flatMap tabCells:=by
    have h3:((C.zip vs).flatMap tabCells).set (k * 4+0) (.int .i64 C[k].id)=(C.zip vs).flatMap tabCells:=by
     have:=flat_set (enc:=tabCells) (sz:=4) (fun _=>rfl) (C.zip vs) k (C.zip vs)[k] 0 (.int .i64 C[k].id) (by rw [zip_flat hl];exact hk) (by decide) (by rw [List.getElem_zip];rfl)
     rw [<- this,List.set_getElem_self]
    rw [flat_set (enc:=tabCells) (sz:=4) (fun _=>rfl) (C.zip vs) k _ 0 (.int .i64 C[k].id) (by rw [zip_flat hl];exact hk) (by decide) (by rw [List.getElem_zip];rfl)]
    exact h3
   rw [e,e2,List.length_set]
   exact kp (by decide) ho
 · have hlen:t<C.length:=by simpa using h1
   simp only [List.getElem_set]
   by_cases hkt:k=t
   · subst hkt
     simp only [if_true]
     obtain ⟨_,p2⟩:=hp k hlen h2
     refine ⟨?_,ixOwn_keeps B B _ _ 62 (by decide) (by decide) w _ (some gc) p2 htag hg2⟩
     show World.ownsRow _ B 62 2 vs[k].1 _ _
     rw [hv,List.length_modify,modify_eq_set _ hn,flat_set (enc:=colEnc) (sz:=2) (fun _=>rfl) C[k].cols n _ 0 (.string nm) hn (by decide) rfl]
     exact (World.ownsRow.stored p1 (n * 2) (.string nm)).1
   · simp only [hkt,if_false]
     obtain ⟨q1,q2⟩:=hp t hlen h2
     refine ⟨owns_other q1 hg2 (fun g' h3 h4=>?_),ixOwn_keeps B B _ _ 62 (by decide) (by decide) w _ (some gc) q2 htag hg2⟩
     simp only [Option.some.injEq] at h4
     subst h4
     exact (ha k t hk' h2 hkt gc).1 (by rw [hv];rfl) h3
end
end Go.Proofs.YtjcpccadmcglgaaGreatDoor
