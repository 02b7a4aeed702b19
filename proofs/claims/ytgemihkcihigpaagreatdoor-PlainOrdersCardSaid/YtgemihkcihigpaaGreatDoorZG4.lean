/- PlainOrders, plain: the order of a table's rows does not show in a select's answer. -/
import Derived.Test.YtgemihkcihigpaaGreatDoorZD37
import Derived.Test.YtgemihkcihigpaaGreatDoorZD39
import Derived.Test.YtgemihkcihigpaaGreatDoorZG2
import Derived.Test.YtgemihkcihigpaaGreatDoorZG3
set_option linter.unusedVariables false
set_option linter.unusedSimpArgs false
set_option maxRecDepth 100000
set_option maxHeartbeats 64000000
namespace Go.Proofs.YtgemihkcihigpaaGreatDoor
section
open Go Go.RowKit
def CanV (v:Val):Prop:=v=val0 \/ (∃ n,v=⟨1,n,noStr⟩) \/ ∃ s,v=⟨2,0,s⟩
theorem cmpL_eq:∀ a b:List UInt8,cmpL a b=0->a=b
 | [],[],_=>rfl
 | [],_ :: _,h=>by simp [cmpL] at h
 | _ :: _,[],h=>by simp [cmpL] at h
 | a :: x,b :: y,h=>by
  rw [cmpL] at h
  by_cases e:a=b
  · subst e
    rw [if_pos rfl] at h
    rw [cmpL_eq x y h]
  · rw [if_neg e] at h
    split at h <;> simp at h
theorem can_anti {a b:Val} (ha:CanV a) (hb:CanV b) (h:cmpV a b=0):a=b:=by
 rcases ha with rfl|⟨n,rfl⟩|⟨s,rfl⟩ <;> rcases hb with rfl|⟨m,rfl⟩|⟨t,rfl⟩
 · rfl
 · simp [cmpV,placeV,val0,ordI] at h
 · simp [cmpV,placeV,val0,ordI] at h
 · simp [cmpV,placeV,val0,ordI] at h
 · have h':ordI (decide (n<m)) (decide (m<n))=0:=h
   have:n=m:=by
    unfold ordI at h'
    by_cases h1:n<m
    · simp [h1] at h'
    · by_cases h2:m<n
      · simp [h1,h2] at h'
      · omega
   rw [this]
 · simp [cmpV,placeV,ordI] at h
 · simp [cmpV,placeV,val0,ordI] at h
 · simp [cmpV,placeV,ordI] at h
 · have h':cmpL s.data.toList t.data.toList=0:=h
   have e:=cmpL_eq _ _ h'
   have:s=t:=by
    obtain ⟨⟨s⟩⟩:=s
    obtain ⟨⟨t⟩⟩:=t
    simp at e
    rw [e]
   rw [this]
theorem can_row {x y:List Val} (hx:∀ v ∈ x,CanV v) (hy:∀ v ∈ y,CanV v) (h:cmpR x y=0):x=y:=by
 induction x generalizing y with
 | nil=>cases y with
  | nil=>rfl
  | cons b y=>simp [cmpR] at h
 | cons a x ih =>
  cases y with
  | nil=>simp [cmpR] at h
  | cons b y =>
   rw [cmpR] at h
   by_cases e:cmpV a b=0
   · rw [if_pos e] at h
     rw [can_anti (hx a List.mem_cons_self) (hy b List.mem_cons_self) e,ih (fun v hv=>hx v (List.mem_cons_of_mem _ hv)) (fun v hv=>hy v (List.mem_cons_of_mem _ hv)) h]
   · rw [if_neg e] at h
     exact absurd h e
theorem sorted_eq {α:Type} {f:α->α->Int} (hf:Tot f):∀ {L M:List α},L.Perm M->(∀ x ∈ L,∀ y ∈ L,f x y=0->x=y)->L.Pairwise (fun a b=>f a b<=0)->M.Pairwise (fun a b=>f a b<=0)->L=M
 | [],M,hp,_,_,_=>(List.nil_perm.1 hp).symm
 | a :: L,[],hp,_,_,_=>absurd hp.symm (by simp)
 | a :: L,b :: M,hp,ha,hL,hM=>by
  obtain ⟨l1,l2⟩:=List.pairwise_cons.1 hL
  obtain ⟨m1,m2⟩:=List.pairwise_cons.1 hM
  have e:a=b:=by
   have hb:b ∈ a :: L:=hp.mem_iff.2 List.mem_cons_self
   have haM:a ∈ b :: M:=hp.mem_iff.1 List.mem_cons_self
   rcases List.mem_cons.1 hb with rfl|hb'
   · rfl
   · rcases List.mem_cons.1 haM with h|ha'
     · exact h
     · have h1:=l1 b hb'
       have h2:=m1 a ha'
       have h3:=hf.anti b a
       exact ha a List.mem_cons_self b hb (by have:=hf.anti a b;omega)
  subst e
  rw [sorted_eq hf (List.Perm.cons_inv hp) (fun x hx y hy=>ha x (List.mem_cons_of_mem _ hx) y (List.mem_cons_of_mem _ hy)) l2 m2]
theorem sort_perm {α:Type} {f:α->α->Int} (hf:Tot f) {L M:List α} (hp:L.Perm M) (ha:∀ x ∈ L,∀ y ∈ L,f x y=0->x=y):sortBy f L=sortBy f M:=by
 refine sorted_eq hf ((List.mergeSort_perm _ _).trans (hp.trans (List.mergeSort_perm _ _).symm)) (fun x hx y hy=>?_) (sort_pair hf L) (sort_pair hf M)
 exact ha x (sort_mem.1 hx) y (sort_mem.1 hy)
theorem fold_perm {α β:Type} {f:β->α->β} {P:β->Prop} {Q:α->Prop} (hc:∀ z x,P z->Q x->P (f z x)) (hm:∀ z x y,P z->Q x->Q y->f (f z x) y=f (f z y) x) {L M:List α} (hp:L.Perm M) :
 (∀ x ∈ L,Q x)->∀ z,P z->L.foldl f z=M.foldl f z:=by
 induction hp with
 | nil=>intro _ z _;rfl
 | cons x _ ih=>intro hq z hz;exact ih (fun y hy=>hq y (List.mem_cons_of_mem _ hy)) _ (hc z x hz (hq x List.mem_cons_self))
 | swap x y l =>
  intro hq z hz
  rw [List.foldl_cons,List.foldl_cons,List.foldl_cons,List.foldl_cons,hm z y x hz (hq y List.mem_cons_self) (hq x (List.mem_cons_of_mem _ List.mem_cons_self))]
 | trans p1 _ ih1 ih2=>intro hq z hz;exact (ih1 hq z hz).trans (ih2 (fun x hx=>hq x (p1.mem_iff.2 hx)) z hz)
theorem tot_min {z x y:Val} (hz:CanV z) (hx:CanV x) (hy:CanV y) {g:Int} (hg:g=3 \/ g=4) (kz:z.kind ≠ 0) (kx:x.kind ≠ 0) (ky:y.kind ≠ 0) :
 (let m:=fun o v=>if (g=3/\cmpV v o<0) \/ (g=4/\0<cmpV v o) then v else o;m (m z x) y=m (m z y) x/\m x y=m y x):=by
 have T:=tot_cmpV
 have a1:=T.anti x z
 have a2:=T.anti z x
 have a3:=T.anti y z
 have a4:=T.anti z y
 have a5:=T.anti x y
 have a6:=T.anti y x
 have t1:=T.trans x y z
 have t2:=T.trans x z y
 have t3:=T.trans y x z
 have t4:=T.trans y z x
 have t5:=T.trans z x y
 have t6:=T.trans z y x
 have e1:=can_anti hx hy
 have e2:=can_anti hx hz
 have e3:=can_anti hy hz
 intro m
 have hm:m=fun o v=>if (g=3/\cmpV v o<0) \/ (g=4/\0<cmpV v o) then v else o:=rfl
 rw [hm]
 clear hm m
 dsimp only
 rcases hg with rfl|rfl
 · simp only [true_and,show ¬ ((3:Int)=4) by decide,false_and,or_false]
   constructor
   · by_cases h1:cmpV x z<0 <;> by_cases h2:cmpV y z<0
     · rw [if_pos h1,if_pos h2]
       by_cases h3:cmpV y x<0
       · rw [if_pos h3,if_neg (by omega)]
       · rw [if_neg h3]
         by_cases h4:cmpV x y<0
         · rw [if_pos h4]
         · rw [if_neg h4];exact e1 (by omega)
     · rw [if_pos h1,if_neg h2,if_neg (by omega),if_pos h1]
     · rw [if_neg h1,if_pos h2,if_neg (by omega)]
     · rw [if_neg h1,if_neg h2,if_neg h1]
   · by_cases h3:cmpV y x<0
     · rw [if_pos h3,if_neg (by omega)]
     · rw [if_neg h3]
       by_cases h4:cmpV x y<0
       · rw [if_pos h4]
       · rw [if_neg h4];exact e1 (by omega)
 · simp only [true_and,show ¬ ((4:Int)=3) by decide,false_and,false_or]
   constructor
   · by_cases h1:0<cmpV x z <;> by_cases h2:0<cmpV y z
     · rw [if_pos h1,if_pos h2]
       by_cases h3:0<cmpV y x
       · rw [if_pos h3,if_neg (by omega)]
       · rw [if_neg h3]
         by_cases h4:0<cmpV x y
         · rw [if_pos h4]
         · rw [if_neg h4];exact e1 (by omega)
     · rw [if_pos h1,if_neg h2,if_neg (by omega),if_pos h1]
     · rw [if_neg h1,if_pos h2,if_neg (by omega)]
     · rw [if_neg h1,if_neg h2,if_neg h1]
   · by_cases h3:0<cmpV y x
     · rw [if_pos h3,if_neg (by omega)]
     · rw [if_neg h3]
       by_cases h4:0<cmpV x y
       · rw [if_pos h4]
       · rw [if_neg h4];exact e1 (by omega)
def AggQ (g:Int) (v:Val):Prop:=CanV v/\(g=2->v.kind ≠ 2)
theorem aggQ_num {v:Val} (h:AggQ 2 v) (h0:v.kind ≠ 0):∃ n,v=⟨1,n,noStr⟩:=by
 rcases h.1 with rfl|h1|⟨s,rfl⟩
 · exact absurd rfl h0
 · exact h1
 · exact absurd rfl (h.2 rfl)
theorem agg_keep {g:Int} {z x:Val} (hz:AggQ g z) (hx:AggQ g x):AggQ g (aggStep g z x):=by
 unfold aggStep
 split
 · exact hz
 · split
   · exact hx
   · split
     · rename_i h1 h2 h3
       subst h3
       obtain ⟨n,rfl⟩:=aggQ_num hz h2
       exact ⟨Or.inr (Or.inl ⟨_,rfl⟩),fun _=>by show (1:Int) ≠ 2;decide⟩
     · split
       · exact hx
       · exact hz
theorem agg_swap {g:Int} (hg:g=2 \/ g=3 \/ g=4) {z x y:Val} (hz:AggQ g z) (hx:AggQ g x) (hy:AggQ g y):aggStep g (aggStep g z x) y=aggStep g (aggStep g z y) x:=by
 by_cases kx:x.kind=0
 · have e:∀ o,aggStep g o x=o:=fun o=>by unfold aggStep;rw [if_pos kx]
   rw [e,e]
 by_cases ky:y.kind=0
 · have e:∀ o,aggStep g o y=o:=fun o=>by unfold aggStep;rw [if_pos ky]
   rw [e,e]
 rcases hg with rfl|hg
 · obtain ⟨n,rfl⟩:=aggQ_num hx kx
   obtain ⟨m,rfl⟩:=aggQ_num hy ky
   by_cases kz:z.kind=0
   · have e:∀ v:Val,v.kind ≠ 0->aggStep 2 z v=v:=fun v hv=>by unfold aggStep;rw [if_neg hv,if_pos kz]
     rw [e _ kx,e _ ky]
     show (⟨1,wrap64 (n+m),noStr⟩:Val)=⟨1,wrap64 (m+n),noStr⟩
     rw [Int.add_comm]
   · obtain ⟨k,rfl⟩:=aggQ_num hz kz
     show (⟨1,wrap64 (wrap64 (k+n)+m),noStr⟩:Val)=⟨1,wrap64 (wrap64 (k+m)+n),noStr⟩
     have:wrap64 (wrap64 (k+n)+m)=wrap64 (wrap64 (k+m)+n):=by unfold wrap64;omega
     rw [this]
 · have hs:∀ o v:Val,v.kind ≠ 0->o.kind ≠ 0->aggStep g o v=if (g=3/\cmpV v o<0) \/ (g=4/\0<cmpV v o) then v else o:=fun o v h1 h2=>by
    unfold aggStep
    rw [if_neg h1,if_neg h2,if_neg (by omega)]
   have hk:∀ o v:Val,v.kind ≠ 0->o.kind ≠ 0->(aggStep g o v).kind ≠ 0:=fun o v h1 h2=>by
    rw [hs o v h1 h2]
    split
    · exact h1
    · exact h2
   by_cases kz:z.kind=0
   · have e:∀ v:Val,v.kind ≠ 0->aggStep g z v=v:=fun v hv=>by unfold aggStep;rw [if_neg hv,if_pos kz]
     rw [e _ kx,e _ ky,hs _ _ ky kx,hs _ _ kx ky]
     exact (tot_min hx.1 hx.1 hy.1 hg kx kx ky).2
   · rw [hs _ _ ky (hk _ _ kx kz),hs _ _ kx (hk _ _ ky kz),hs _ _ kx kz,hs _ _ ky kz]
     exact (tot_min hz.1 hx.1 hy.1 hg kz kx ky).1
def CanR (r:List Val):Prop:=∀ v ∈ r,CanV v
theorem can_at {r:List Val} (h:CanR r) (i:Int):CanV (valAt r i):=by
 unfold valAt
 rw [List.getD_eq_getElem?_getD]
 cases e:r[i.toNat]? with
 | none=>exact Or.inl rfl
 | some v=>exact h v (List.mem_of_getElem? e)
theorem query_rows_perm {T:Tab} {st:Stmt} {L M:List (List Val)} (hp:L.Perm M) (hc:∀ r ∈ L,CanR r):queryRows T st L=queryRows T st M:=by
 unfold queryRows
 rw [sort_perm tot_cmpR (hp.map _) (fun x hx y hy h=>?_)]
 obtain ⟨r,hr,rfl⟩:=List.mem_map.1 hx
 obtain ⟨r',hr',rfl⟩:=List.mem_map.1 hy
 refine can_row (fun v hv=>?_) (fun v hv=>?_) h
 · obtain ⟨i,_,rfl⟩:=List.mem_map.1 hv
   exact can_at (hc r hr) i
 · obtain ⟨i,_,rfl⟩:=List.mem_map.1 hv
   exact can_at (hc r' hr') i
theorem join_right {A B B':List (List Val)} (hB:B.Perm B') (l r:Int):(joinR A B l r).Perm (joinR A B' l r):=by
 unfold joinR
 induction A with
 | nil=>exact List.Perm.refl _
 | cons x L ih =>
  rw [List.flatMap_cons,List.flatMap_cons]
  exact ((hB.filter _).map _).append ih
theorem join_perm {A A' B B':List (List Val)} (hA:A.Perm A') (hB:B.Perm B') (l r:Int):(joinR A B l r).Perm (joinR A' B' l r) :=
 (hA.flatMap_right _).trans (join_right hB l r)
def typR:List (ByteArray × Int)->List Val->Prop
 | [],[]=>True
 | c :: C,v :: r=>(c.2=1->v.kind ≠ 2)/\typR C r
 | _,_=>False
theorem typ_append:∀ {C D:List (ByteArray × Int)} {r q:List Val},typR C r->typR D q->typR (C ++ D) (r ++ q)
 | [],_,[],_,_,h=>h
 | _ :: _,_,[],_,h,_=>h.elim
 | [],_,_ :: _,_,h,_=>h.elim
 | _ :: _,_,_ :: _,_,h,h'=>⟨h.1,typ_append h.2 h'⟩
theorem typ_get:∀ {C:List (ByteArray × Int)} {r:List Val} (n:Nat),typR C r->(C.getD n (noStr,0)).2=1->(r.getD n val0).kind ≠ 2
 | [],[],_,_,h=>by simp at h
 | [],_ :: _,_,h,_=>h.elim
 | _ :: _,[],_,h,_=>h.elim
 | _ :: _,_ :: _,0,h,h'=>h.1 h'
 | _ :: C,_ :: r,n+1,h,h'=>typ_get (C:=C) (r:=r) n h.2 h'
def GoodR (C:List (ByteArray × Int)) (r:List Val):Prop:=CanR r/\typR C r
theorem good_append {C D:List (ByteArray × Int)} {r q:List Val} (h:GoodR C r) (h':GoodR D q):GoodR (C ++ D) (r ++ q) :=
 ⟨fun v hv=>(List.mem_append.1 hv).elim (h.1 v) (h'.1 v),typ_append h.2 h'.2⟩
structure Ords (A B A' B':List (List Val)):Prop where
 a:A.Perm A'
 b:B.Perm B'
 ga:∀ r ∈ A,GoodR tT.cols r
 gb:∀ r ∈ B,GoodR tU.cols r
theorem Ords.rows {A B A' B':List (List Val)} (h:Ords A B A' B') (i:Int):(rowsAt (twoS A B).rows i).Perm (rowsAt (twoS A' B').rows i):=by
 unfold rowsAt
 show ([A,B].getD i.toNat []).Perm ([A',B'].getD i.toNat [])
 match i.toNat with
 | 0=>exact h.a
 | 1=>exact h.b
 | n+2=>exact List.Perm.refl _
theorem Ords.good {A B A' B':List (List Val)} (h:Ords A B A' B') (i:Int):∀ r ∈ rowsAt (twoS A B).rows i,GoodR (tabAt (twoS A B).tabs i).cols r:=by
 unfold rowsAt tabAt
 show ∀ r ∈ [A,B].getD i.toNat [],GoodR ([tT,tU].getD i.toNat default).cols r
 match i.toNat with
 | 0=>exact h.ga
 | 1=>exact h.gb
 | n+2=>exact fun r hr=>absurd hr List.not_mem_nil
theorem Ords.froms {A B A' B':List (List Val)} (h:Ords A B A' B') (st:Stmt):(fromR (twoS A B) st).Perm (fromR (twoS A' B') st)/\∀ r ∈ fromR (twoS A B) st,GoodR (fromT (twoS A B) st).cols r:=by
 unfold fromR fromT
 by_cases hj:strNil st.join=true
 · rw [if_pos hj,if_pos hj,if_pos hj]
   exact ⟨h.rows _,h.good _⟩
 · rw [if_neg hj,if_neg hj,if_neg hj]
   refine ⟨join_perm (h.rows _) (h.rows _) _ _,fun r hr=>?_⟩
   unfold joinR at hr
   obtain ⟨x,hx,hr⟩:=List.mem_flatMap.1 hr
   obtain ⟨y,hy,rfl⟩:=List.mem_map.1 hr
   exact good_append (h.good _ x hx) (h.good _ y (List.mem_filter.1 hy).1)
theorem ord_law {A B A' B':List (List Val)} (h:Ords A B A' B') {st:Stmt} (h7:st.kind=7):stepA (twoS A B) st=stepA (twoS A' B') st/\stepS (twoS A B) st=twoS A B/\stepS (twoS A' B') st=twoS A' B':=by
 refine ⟨?_,stepS_qry h7,stepS_qry h7⟩
 obtain ⟨hp,hg⟩:=h.froms st
 have eT:fromT (twoS A' B') st=fromT (twoS A B) st:=rfl
 have eE:fromE (twoS A' B') st=fromE (twoS A B) st:=rfl
 have hf:=hp.filter (fitsW (fromT (twoS A B) st) st.wher)
 have hgf:∀ r ∈ (fromR (twoS A B) st).filter (fitsW (fromT (twoS A B) st) st.wher),GoodR (fromT (twoS A B) st).cols r:=fun r hr=>hg r (List.mem_filter.1 hr).1
 have e:queryE (twoS A' B') st=queryE (twoS A B) st:=by
  unfold queryE
  rw [eT,eE,hf.length_eq]
 by_cases he:queryE (twoS A B) st=0
 · rw [stepA_qry h7 (by rw [stepE_qry h7];exact he),stepA_qry h7 (by rw [stepE_qry h7,e];exact he)]
   unfold queryA
   rw [eT,hf.length_eq]
   by_cases ha:0<st.agg
   · rw [if_pos ha,if_pos ha]
     have hv:aggV st.agg ((fromR (twoS A B) st).filter (fitsW (fromT (twoS A B) st) st.wher)) (st.names.map (colOf (fromT (twoS A B) st)))=aggV st.agg ((fromR (twoS A' B') st).filter (fitsW (fromT (twoS A B) st) st.wher)) (st.names.map (colOf (fromT (twoS A B) st))):=by
      unfold aggV
      rw [hf.length_eq]
      by_cases h1:st.agg=1
      · rw [if_pos h1,if_pos h1]
      · rw [if_neg h1,if_neg h1]
        have hb:¬ (st.agg<0 \/ 4<st.agg \/ (0<st.agg/\(st.names.length:Int) ≠ if 1<st.agg then 1 else 0)):=fun hn=>by
         unfold queryE at he
         rw [if_pos hn] at he
         exact absurd he (by decide)
        have hk:st.agg=2->kindAt (fromT (twoS A B) st).cols ((st.names.map (colOf (fromT (twoS A B) st))).headD 0)=1:=fun h2=>by
         by_cases hc:kindAt (fromT (twoS A B) st).cols ((st.names.map (colOf (fromT (twoS A B) st))).headD 0)=1
         · exact hc
         · exfalso
           unfold queryE at he
           rw [if_neg hb] at he
           split at he
           · rename_i hh;exact hh he
           · split at he
             · exact absurd he (by decide)
             · rw [if_pos ⟨h2,hc⟩] at he
               exact absurd he (by decide)
        refine fold_perm (P:=AggQ st.agg) (Q:=fun r=>AggQ st.agg (valAt r ((st.names.map (colOf (fromT (twoS A B) st))).headD 0))) (fun z x hz hx=>agg_keep hz hx) (fun z x y hz hx hy=>agg_swap (by omega) hz hx hy) hf (fun r hr=>?_) val0 ⟨Or.inl rfl,fun _=>by show (0:Int) ≠ 2;decide⟩
        have hr':=hgf r hr
        exact ⟨can_at hr'.1 _,fun h2=>typ_get _ hr'.2 (hk h2)⟩
     rw [hv]
   · rw [if_neg ha,if_neg ha,query_rows_perm hf fun r hr=>(hgf r hr).1]
 · rw [stepA_err (by rw [stepE_qry h7];exact he),stepA_err (by rw [stepE_qry h7,e];exact he),stepE_qry h7,stepE_qry h7,e]
theorem canV_a (x:Int):CanV (fillV x)/\(fillV x).kind ≠ 2:=by
 unfold fillV
 split
 · exact ⟨Or.inl rfl,by decide⟩
 · exact ⟨Or.inr (Or.inl ⟨_,rfl⟩),by show (1:Int) ≠ 2;decide⟩
theorem canV_b (x:Int):CanV (fillT x):=by
 unfold fillT
 split
 · exact Or.inl rfl
 · exact Or.inr (Or.inr ⟨_,rfl⟩)
theorem good_t (x:Int):GoodR tT.cols [fillV x,fillT x] :=
 ⟨fun v hv=>by
  rcases List.mem_cons.1 hv with rfl|hv
  · exact (canV_a x).1
  · rw [List.mem_singleton.1 hv];exact canV_b x,fun _=>(canV_a x).2,fun h=>absurd h (by decide),trivial⟩
theorem good_u (x:Int):GoodR tU.cols [fillT x,fillV x] :=
 ⟨fun v hv=>by
  rcases List.mem_cons.1 hv with rfl|hv
  · exact canV_b x
  · rw [List.mem_singleton.1 hv];exact (canV_a x).1,fun h=>absurd h (by decide),fun _=>(canV_a x).2,trivial⟩
theorem fillA_good (l:List Int):∀ k,∀ r ∈ fillA l k,GoodR tT.cols r
 | 0=>fun r h=>absurd h List.not_mem_nil
 | k+1=>by
  intro r hr
  unfold fillA at hr
  split at hr
  · rcases List.mem_append.1 hr with hr|hr
    · exact fillA_good l k r hr
    · rw [List.mem_singleton.1 hr];exact good_t _
  · exact fillA_good l k r hr
theorem fillB_good (l:List Int):∀ k,∀ r ∈ fillB l k,GoodR tU.cols r
 | 0=>fun r h=>absurd h List.not_mem_nil
 | k+1=>by
  intro r hr
  unfold fillB at hr
  split at hr
  · exact fillB_good l k r hr
  · rcases List.mem_append.1 hr with hr|hr
    · exact fillB_good l k r hr
    · rw [List.mem_singleton.1 hr];exact good_u _
def turnR {α:Type} (L:List α):Nat->List α
 | 0=>[]
 | k+1=>match L[k]? with
  | none=>turnR L k
  | some x=>if k % 2=0 then turnR L k ++ [x] else x :: turnR L k
theorem turn_perm {α:Type} (L:List α):∀ k,(turnR L k).Perm (L.take k)
 | 0=>by rw [List.take_zero];exact List.Perm.refl _
 | k+1=>by
  have ih:=turn_perm L k
  unfold turnR
  cases e:L[k]? with
  | none =>
   have:L.length<=k:=List.getElem?_eq_none_iff.1 e
   rw [List.take_of_length_le (by omega)]
   rw [List.take_of_length_le this] at ih
   exact ih
  | some x =>
   have hk:k<L.length:=by
    rcases Nat.lt_or_ge k L.length with h|h
    · exact h
    · rw [List.getElem?_eq_none_iff.2 h] at e;cases e
   have ex:L[k]=x:=by rw [List.getElem?_eq_getElem hk] at e;exact jI e
   rw [List.take_succ_eq_append_getElem hk,ex]
   dsimp only
   split
   · exact ih.append_right _
   · exact (ih.cons x).trans (List.perm_append_singleton x _).symm
theorem turn_all {α:Type} (L:List α):(turnR L L.length).Perm L:=by
 have:=turn_perm L L.length
 rwa [List.take_length] at this
theorem turn_len {α:Type} (L:List α) {k:Nat} (hk:k<=L.length):(turnR L k).length=k:=by
 rw [(turn_perm L k).length_eq,List.length_take]
 omega
theorem turn_succ {α:Type} (L:List α) {k:Nat} (hk:k<L.length):turnR L (k+1)=if k % 2=0 then turnR L k ++ [L[k]] else L[k] :: turnR L k:=by
 rw [turnR,List.getElem?_eq_getElem hk]
end
open Go.Lib (hid)
section
open Go.RowKit
def Hds {α:Type} (R:Rep α) (p:Nat->Prop) (w:World) (hs:List Value) (M:List (List α)):Prop:=hs.length=M.length/\∀ j (h:j<hs.length) (h':j<M.length),(sliceR R).ok p w [hs[j]] M[j]
theorem Hds.keep {α:Type} {R:Rep α} {p:Nat->Prop} {w w':World} {hs:List Value} {M:List (List α)} (h:Hds R p w hs M) (hk:∀ k,p k->k<w.heap.size->w'.heap[k]? = w.heap[k]?):Hds R p w' hs M :=
 ⟨h.1,fun j h1 h2=>(sliceR R).keep (h.2 j h1 h2) hk⟩
theorem Hds.weaken {α:Type} {R:Rep α} {p q:Nat->Prop} {w:World} {hs:List Value} {M:List (List α)} (h:Hds R p w hs M) (hq:∀ k,p k->q k):Hds R q w hs M :=
 ⟨h.1,fun j h1 h2=>(sliceR R).weaken (h.2 j h1 h2) hq⟩
theorem Hds.below {α:Type} {R:Rep α} {p:Nat->Prop} {w w':World} {hs:List Value} {M:List (List α)} (h:Hds R p w hs M) (hb:Below w.heap.size w w'):Hds R p w' hs M:=h.keep fun k _ hl=>hb.block k hl
theorem Hds.nil {α:Type} {R:Rep α} {p:Nat->Prop} {w:World}:Hds R p w [] []:=⟨rfl,fun j h=>absurd h (Nat.not_lt_zero _)⟩
theorem Hds.one {α:Type} {R:Rep α} {p:Nat->Prop} {w:World} {u:Value} {L:List α} (h:SlV R p w u L):Hds R p w [u] [L]:=by
 refine ⟨rfl,fun j h1 h2=>?_⟩
 have:j=0:=by simpa using h1
 subst this
 obtain ⟨a,c,e,h3,h4,h5⟩:=h
 exact ⟨a,c,by rw [List.getElem_cons_zero,e];rfl,h3,h4,h5⟩
theorem Hds.append {α:Type} {R:Rep α} {p:Nat->Prop} {w:World} {hs hs':List Value} {M M':List (List α)} (h:Hds R p w hs M) (h':Hds R p w hs' M'):Hds R p w (hs ++ hs') (M ++ M'):=by
 refine ⟨by rw [List.length_append,List.length_append,h.1,h'.1],fun j h1 h2=>?_⟩
 have e:=h.1
 by_cases hj:j<hs.length
 · rw [List.getElem_append_left hj,List.getElem_append_left (by omega)]
   exact h.2 j hj (by omega)
 · have:=h'.2 (j - hs.length) (by rw [List.length_append] at h1;omega) (by rw [List.length_append] at h2;omega)
   rw [List.getElem_append_right (by omega),List.getElem_append_right (by omega)]
   simp only [e] at this ⊢
   exact this
theorem Hds.sl {α:Type} {R:Rep α} {p:Nat->Prop} {w:World} {B:Nat} {T:TypeId} {a:Option Addr} {n c:Nat} {hs:List Value} {M:List (List α)} (h:Hds R p w hs M) (ho:w.ownsRow B T 1 (.slice a n c) n hs) (hn:M.length=n) (hp:∀ k,B<=k->p k) (hs':n<=1000000):SlV (sliceR R) p w (.slice a M.length c) M:=by
 subst hn
 have hl:=ho.1
 obtain ⟨a',c',e,h1,h2,_⟩:=RowAt.of_owns (R:=sliceR R) (p:=p) ho hp (fun t ht=>by
  have hx:t<hs.length:=by rw [h.1];exact ht
  have e:List.take 1 (List.drop (t * 1) hs)=[hs[t]]:=by
   rw [Nat.mul_one,List.drop_eq_getElem_cons hx];rfl
  show (sliceR R).ok p w (List.take 1 (List.drop (t * 1) hs)) M[t]
  rw [e]
  exact h.2 t hx ht)
 exact ⟨a',c',e,h1,by omega,h2⟩
theorem Hds.one_cells {α:Type} {R:Rep α} {p:Nat->Prop} {w:World} {hs:List Value} {M:List (List α)} (h:Hds R p w hs M):∀ u ∈ hs,u.oneCell'=true:=by
 intro u hu
 obtain ⟨j,hj,rfl⟩:=List.getElem_of_mem hu
 obtain ⟨a,c,e,_⟩:=h.2 j hj (by rw [<- h.1];exact hj)
 simp only [List.cons.injEq,and_true] at e
 rw [e]
 rfl
theorem Hds.bound {α:Type} {R:Rep α} {p:Nat->Prop} {w:World} {hs:List Value} {M:List (List α)} (h:Hds R p w hs M):Hds R (fun k=>p k/\k<w.heap.size) w hs M :=
 ⟨h.1,fun j h1 h2=>(sliceR R).bound (h.2 j h1 h2)⟩
structure TurnI (Q B:Nat) (W:World) (L:List (List Val)) (k:Nat) (v:Value) (hs:List Value) (w:World):Prop where
 o:w.ownsRow B 35 1 v k hs
 f:∃ g c,v=.slice (some ⟨g,0,none⟩) k c
 h:Hds valR (fun b=>b<Q) w hs (turnR L k)
 b:Below B W w
theorem owns_one {w:World} {B:Nat} {e:TypeId} {u:Value} (hB:B<=w.heap.size):(w.alloc (.cells #[u] e)).ownsRow B e 1 (.slice (some ⟨w.heap.size,0,none⟩) 1 1) 1 [u] :=
 ⟨by simp,Or.inr ⟨w.heap.size,1,#[u],rfl,hB,heap_alloc_new _ _,jR _,by unfold maxLen;omega,by simp,by simp⟩⟩
theorem TurnI.even {Q B:Nat} {W:World} {L:List (List Val)} {k:Nat} {v:Value} {hs:List Value} {w w':World} {u v':Value} (h:TurnI Q B W L k v hs w) (hk:k<L.length) (he:k % 2=0) (hQ:Q<=B) (hB:B<=w.heap.size)
 (hu:SlV valR (fun b=>b<Q) w u L[k]) (o1:w'.ownsRow B 35 1 v' (k+1) (hs ++ [u])) (g1:(w.alloc (.cells #[u] 35)).grownBy w' v.ownBlock):TurnI Q B W L (k+1) v' (hs ++ [u]) w':=by
 have ba:Below w.heap.size w (w.alloc (.cells #[u] 35)):=(b0R).alloc (jR _) _
 have bb:Below B w w':=(ba.mono hB).grown g1 (Nat.le_trans hB ba.size) (fun b hb=>(h.o.lt b hb).1)
 refine ⟨o1,own_form o1,?_,h.b.trans bb⟩
 rw [turn_succ L hk,if_pos he]
 exact (h.h.append (Hds.one hu)).keep fun b hb _=>bb.block b (jL hb hQ)
theorem TurnI.odd {Q B:Nat} {W:World} {L:List (List Val)} {k:Nat} {v:Value} {hs:List Value} {w w':World} {u v':Value} (h:TurnI Q B W L k v hs w) (hk:k<L.length) (he:¬ k % 2=0) (hQ:Q<=B) (hB:B<=w.heap.size)
 (hu:SlV valR (fun b=>b<Q) w u L[k]) (o1:w'.ownsRow B 35 1 v' (k+1) ([u] ++ hs)) (g1:(w.alloc (.cells #[u] 35)).grownBy w' (some w.heap.size)):TurnI Q B W L (k+1) v' ([u] ++ hs) w':=by
 have ba:Below w.heap.size w (w.alloc (.cells #[u] 35)):=(b0R).alloc (jR _) _
 have bb:Below B w w':=(ba.mono hB).grown g1 (Nat.le_trans hB ba.size) (fun b hb=>by cases hb;exact hB)
 refine ⟨o1,own_form o1,?_,h.b.trans bb⟩
 rw [turn_succ L hk,if_neg he]
 exact ((Hds.one hu).append h.h).keep fun b hb _=>bb.block b (jL hb hQ)
theorem kd_sel (n:Nat):kd12 ((7+(n:Int) % 3) % 65536 % 12)=7:=by
 have h:(n:Int) % 3=0 \/ (n:Int) % 3=1 \/ (n:Int) % 3=2:=by omega
 rcases h with e|e|e <;> rw [e] <;> rfl
theorem two_lst {p:Nat->Prop} {w:World} {a1 a2:Option Addr} {c1 c2:Nat} {A B:List (List Val)} (h:TwoAt p w a1 c1 a2 c2 A B):∃ b o,a2=some ⟨b,o,none⟩/\SlV tabR p w (.slice a1 2 c1) [tT,tU]/\RowAt rowsR p w (some ⟨b,o,none⟩) [A,B]/\2<=c2:=by
 obtain ⟨z1,z2,z3,z4,e,h3,h4⟩:=h
 simp only [Value.agg.injEq,Array.mk.injEq,List.cons.injEq,Value.slice.injEq,and_true] at e
 obtain ⟨⟨rfl,_,rfl⟩,rfl,_,rfl⟩:=e
 obtain ⟨b,o,rfl,_,_⟩:=h4.row.2.2.2.addr (by simp [twoS])
 exact ⟨b,o,rfl,h3,h4.row.2.2.2,h4.row.2.1⟩
def turnS (A B:List (List Val)) (i:Nat):List (List (List Val)):=([turnR A A.length,turnR B B.length]:List (List (List Val))).take i
theorem two_row {p:Nat->Prop} {w:World} {a1:Option Addr} {b o:Nat} {c1 c2:Nat} {A B:List (List Val)} (h:TwoAt p w a1 c1 (some ⟨b,o,none⟩) c2 A B):RowAt rowsR p w (some ⟨b,o,none⟩) [A,B]:=by
 obtain ⟨b',o',e,_,h3,_⟩:=two_lst h
 simp only [Option.some.injEq,Addr.mk.injEq,and_true] at e
 obtain ⟨rfl,rfl⟩:=e
 exact h3
theorem info_o1:(Tryz.prog.info? 35).map (fun i=>(i.zero,i.size,i.bytes))=some (some (.slice none 0 0),1,24):=by kernel_rfl
theorem info_o2:(Tryz.prog.info? 41).map (fun i=>(i.zero,i.size,i.bytes))=some (some (.slice none 0 0),1,24):=by kernel_rfl
theorem turnS_succ {A B:List (List Val)} {i:Nat} (hi:i<2):turnS A B (i+1)=turnS A B i ++ [turnR (([A,B]:List (List (List Val)))[i]'hi) (([A,B]:List (List (List Val)))[i]'hi).length]:=by
 rcases (show i=0 \/ i=1 by omega) with rfl|rfl <;> rfl
structure OrdI (S q:Nat) (W:World) (a1:Option Addr) (c1:Nat) (A C:List (List Val)) (i:Nat) (v:Value) (hs:List Value) (w:World):Prop where
 o:w.ownsRow S 41 1 v i hs
 f:∃ g c,v=.slice (some ⟨g,0,none⟩) i c
 h:Hds rowR (fun k=>k ≠ q/\some k ≠ v.ownBlock) w hs (turnS A C i)
 b:W.grownBy w (some q)
 z:w.heap[q]? = some (.cells #[.slice a1 2 c1,v] 27 (0,0))
theorem OrdI.below {S q:Nat} {W:World} {a1:Option Addr} {c1:Nat} {A C:List (List Val)} {i:Nat} {v:Value} {hs:List Value} {w w':World} (h:OrdI S q W a1 c1 A C i v hs w) (hb:Below w.heap.size w w'):OrdI S q W a1 c1 A C i v hs w' :=
 ⟨owns_below h.o hb,h.f,h.h.below hb,grown_tra h.b (grownBy_of_below _ hb),(hb.block _ (jB h.z)).trans h.z⟩
theorem OrdI.push {S q:Nat} {W:World} {a1:Option Addr} {c1:Nat} {A C:List (List Val)} {i:Nat} {v:Value} {hs:List Value} {w w':World} {u v':Value} {M:List (List Val)} (h:OrdI S q W a1 c1 A C i v hs w) (hM:turnS A C (i+1)=turnS A C i ++ [M]) (hq:q<S) (hS:W.heap.size<=S)
 (hu:SlV rowR (fun k=>k ≠ q/\some k ≠ v.ownBlock) w u M) (o1:w'.ownsRow S 41 1 v' (i+1) (hs ++ [u])) (g1:w.grownBy w' v.ownBlock) (a1':v'.ownBlock=v.ownBlock \/ v'.ownBlock=some w.heap.size) :
 OrdI S q W a1 c1 A C (i+1) v' (hs ++ [u]) (w'.setCell ⟨q,1,none⟩ v'):=by
 have hqv:some q ≠ v.ownBlock:=fun e=>absurd (h.o.lt q e.symm).1 (Nat.not_le.2 hq)
 have hz:=(g1.block _ (jB h.z) hqv).trans h.z
 refine ⟨owns_set o1 hq,own_form o1,?_,?_,(heap_setCell_same _ _ _ _ _ _ hz).trans rfl⟩
 · rw [hM]
   have h1:=(h.h.append (Hds.one hu)).bound
   have h2:Hds rowR (fun k=>(k ≠ q/\some k ≠ v.ownBlock)/\k<w.heap.size) (w'.setCell ⟨q,1,none⟩ v') (hs ++ [u]) (turnS A C i ++ [M]) :=
    h1.keep fun k hk hl=>((grown_cell w' ⟨q,1,none⟩ v').block k (jL hl g1.size) (fun e=>hk.1.1 (jI e))).trans (g1.block k hl hk.1.2)
   refine h2.weaken fun k hk=>⟨hk.1.1,?_⟩
   rcases a1' with e|e
   · rw [e];exact hk.1.2
   · rw [e]
     intro e'
     have:=jI e'
     omega
 · refine grown_tra ⟨g1.os.trans h.b.os,g1.tape.trans h.b.tape,g1.output.trans h.b.output,Nat.le_trans h.b.size g1.size,fun k hk hn=>?_⟩ (grown_cell w' ⟨q,1,none⟩ v')
   exact (g1.block k (jL hk h.b.size) (fun e=>absurd (h.o.lt k e.symm).1 (Nat.not_le.2 (jL hk hS)))).trans (h.b.block k hk hn)
theorem info_o3:(Tryz.prog.info? 3).map (fun i=>(i.zero,i.size,i.bytes))=some (some (.int .i64 0),1,8):=by kernel_rfl
def intE (x:Int):List Value:=[.int .i64 x]
theorem intE_len (x:Int):(intE x).length=1:=rfl
theorem intE_cells (L:List Int):∀ u ∈ L.flatMap intE,u.oneCell'=true:=by
 intro u hu
 obtain ⟨x,_,h⟩:=List.mem_flatMap.1 hu
 rw [List.mem_singleton.1 h]
 rfl
theorem int_owned {w:World} {B n:Nat} {v:Value} {x:Int} {M:List Int} (h:w.ownsRow B 3 1 v (1+M.length) ([.int .i64 x] ++ M.flatMap intE)) (hn:(x :: M).length=n) (hL:M.length<=1000000):∃ a c,v=.slice a n c/\SlV intR (fun k=>B<=k) w (.slice a n c) (x :: M):=by
 subst hn
 have h':w.ownsRow B 3 1 v (x :: M).length ((x :: M).flatMap intE):=by rw [List.length_cons,Nat.add_comm];exact h
 have h2:SlV (flatR 1 intE intE_len) (fun k=>B<=k) w v (x :: M):=sl_owned h' (by rw [List.length_cons];omega)
 obtain ⟨a,c,e,h3,h4,h5⟩:=h2
 exact ⟨a,c,e,a,c,rfl,h3,h4,h5⟩
theorem inv_rows {A B:List (List Val)} (h:Inv (twoS A B) 48):∀ L ∈ (twoS A B).rows,L.length<=1000000/\∀ r ∈ L,r.length<=1000000:=fun L hL=>⟨(h.small (by decide)).2.1 L hL,(h.small (by decide)).2.2 L hL⟩
theorem made_len {p:Nat->Prop} {al:Option Addr} {cl n:Nat} {x:Int} {M:List Int} {w:World} (hs:SlV intR p w (.slice al n cl) (x :: M)) (hn:(x :: M).length=n) :
 Calls Tryz.prog 36 #[.slice al n cl] w fun e w'=>∃ v st,e=.returned v/\Below w.heap.size w w'/\StmtV (fun k=>w.heap.size<=k) w' v st/\OkSt st/\st.kind=kd12 (x % 65536 % 12):=by
 subst hn
 exact made_any hs
theorem ord_walk {p pq:Nat->Prop} {al aq:Option Addr} {cl cq:Nat} {l q:List Int} {w:World} (hl:SlV intR p w (.slice al l.length cl) l) (hq:SlV intR pq w (.slice aq q.length cq) q) (hK:KindsAt w) :
 Calls Tryz.prog 11 #[.slice al l.length cl,.slice aq q.length cq] w fun e w'=>e=.returned (.bool true)/\Below w.heap.size w w':=by
 have HK:=hid hK
 have HL:=hid hl
 have HQL:=hid hq
 have con:=sanity_any w hK
 clear hK hl hq
 go_enter Tryz.func11,Tryz.ntmps11
 go_wp2_with fail
 refine con.mono ?_
 rintro e w1 ⟨rfl,b1⟩
 have B1:=hid b1
 have con:=filled_any (HL.out.below b1) (HK.out.below b1)
 clear b1
 go_wp2_with fail
 refine con.mono ?_
 rintro e w2 ⟨a1,c1,a2,c2,rfl,b2,t2⟩
 have B2:=hid (B1.out.trans (b2.mono B1.out.size))
 obtain ⟨A,hA⟩:∃ A,fillA l (fillM l)=A:=⟨_,rfl⟩
 obtain ⟨B,hB⟩:∃ B,fillB l (fillM l)=B:=⟨_,rfl⟩
 have hM:fillM l<=48:=by unfold fillM;split <;> omega
 have HAB:=hid (show (∀ r ∈ A,GoodR tT.cols r)/\(∀ r ∈ B,GoodR tU.cols r)/\A.length<=48/\B.length<=48/\(∀ r ∈ A,r.length=2)/\(∀ r ∈ B,r.length=2) by
  rw [<- hA,<- hB]
  exact ⟨fillA_good l _,fillB_good l _,Nat.le_trans (fillA_row l _).2 hM,Nat.le_trans (fillB_row l _).2 hM,fun r hr=>rowT_len ((fillA_row l _).1 r hr),fun r hr=>rowU_len ((fillB_row l _).1 r hr)⟩)
 rw [hA,hB] at t2
 have T2:=hid t2
 clear con b2 t2 hA hB hM
 go_upto_region 3 with (fail)
 generalize hX:World.alloc _ _=W3
 have b3:Below w2.heap.size w2 W3:=by rw [<- hX];exact (b0R).alloc (jR _) _
 have G6:=hid (show W3.heap[w2.heap.size]? = some (.cells #[.slice a1 2 c1,.slice a2 2 c2] 27 (0,0)) by rw [<- hX];exact heap_alloc_new _ _)
 have T3:=hid (T2.out.below b3).bound
 have B3:=hid (B2.out.trans (b3.mono B2.out.size))
 have L6:=hid (show w2.heap.size<W3.heap.size from jB G6.out)
 obtain ⟨q6,hq6⟩:∃ q,w2.heap.size=q:=⟨_,rfl⟩
 rw [hq6] at G6 L6 ⊢
 clear hX b3 T2 B2 hq6
 have x0:=jC G6.out 0
 have x1:=jC G6.out 1
 simp only [gT,gZ,gS] at x0 x1
 go_upto_region 4 with (fail)
 generalize hX:World.alloc _ _=W4
 have b4:Below W3.heap.size W3 W4:=by rw [<- hX];exact (b0R).alloc (jR _) _
 have G7:=hid (show W4.heap[W3.heap.size]? = some (.cells #[.slice a1 2 c1,.slice a2 2 c2] 27 (0,0)) by rw [<- hX];exact heap_alloc_new _ _)
 replace G6:=cy b4 G6
 have T4:=hid (T3.out.below b4)
 have B4:=hid (B3.out.trans (b4.mono B3.out.size))
 have T5:=hid (T4.out.weaken (q:=fun k=>k<W3.heap.size) (fun k h=>h.2))
 have HS7:=hid (show w.heap.size<=W3.heap.size from B3.out.size)
 obtain ⟨q7,hq7⟩:∃ q,W3.heap.size=q:=⟨_,rfl⟩
 rw [hq7] at G7 T5 HS7 L6 ⊢
 clear hX b4 T4 T3 B3 hq7 x0 x1
 have m1:=jC G7.out 1
 have n1:=free_of G7.out 1
 have hl7:=jB G7.out
 simp only [gT,gZ,gS] at m1
 go_upto_block 0 with (fail)
 generalize hX:World.alloc _ _=W5
 have b5:W4.grownBy W5 (some q7):=by
  rw [<- hX]
  exact grown_tra (grown_cell W4 ⟨q7,1,none⟩ _) (grownBy_of_below _ ((b0R).alloc (jR _) _))
 have O5:=hid (show OrdI W4.heap.size q7 W4 a1 c1 A B 0 (.slice (some ⟨W4.heap.size,0,none⟩) 0 0) [] W5 from by
  have hs:(W4.setCell ⟨q7,1,none⟩ (.slice (some ⟨W4.heap.size,0,none⟩) 0 0)).heap.size=W4.heap.size:=by simp
  have o:=owns_new (W4.setCell ⟨q7,1,none⟩ (.slice (some ⟨W4.heap.size,0,none⟩) 0 0)) 41 1
  rw [hs,hX] at o
  have ba:=(Below.refl _ _:Below (W4.setCell ⟨q7,1,none⟩ (.slice (some ⟨W4.heap.size,0,none⟩) 0 0)).heap.size (W4.setCell ⟨q7,1,none⟩ (.slice (some ⟨W4.heap.size,0,none⟩) 0 0)) _).alloc (jR _) (.cells #[] 41)
  have z:=(heap_setCell_same W4 q7 1 _ _ (.slice (some ⟨W4.heap.size,0,none⟩) 0 0) G7.out).trans rfl
  rw [hX] at ba
  exact ⟨o,⟨_,_,rfl⟩,Hds.nil,b5,(ba.block _ (jB z)).trans z⟩)
 obtain ⟨b,o,rfl,_,_,_⟩:=two_lst T5.out
 obtain ⟨S4,hS4⟩:∃ n,W4.heap.size=n:=⟨_,rfl⟩
 have HS4:=hid (show q7<S4/\W4.heap.size=S4 by rw [<- hS4];exact ⟨hl7,rfl⟩)
 rw [hS4] at O5 ⊢
 obtain ⟨i1,h1,hz0,hz1,hz2⟩:=info_parts info_o1
 obtain ⟨i2,h2,hy0,hy1,hy2⟩:=info_parts info_o2
 clear hX b5 hS4 m1 n1 hl7
 go_cut [] from 22 to 70 (fun wx=>∃ (v:Value) (hs:List Value),Hid (OrdI S4 q7 W4 a1 c1 A B 2 v hs wx))
 case first =>
  go_wp2_with fail
  go_loopw [8] (fun x8 wr=>∃ (i:Nat) (v:Value) (hs:List Value),i<=2/\x8=.int .i64 i/\Hid (OrdI S4 q7 W4 a1 c1 A B i v hs wr)) (fun x8 _=>3 - (intOf x8).toNat)
  case atStart=>exact ⟨0,_,_,by omega,rfl,O5.out⟩
  case round =>
   obtain ⟨i,v,hs,hi,rfl,HI⟩:=hrel
   obtain ⟨Wr,hWr⟩:∃ W,W=wr:=⟨_,rfl⟩
   subst hWr
   have R6:=hid ((HI.out.b.block _ (jB G6.out) (fun e=>Nat.ne_of_lt L6.out (jI e))).trans G6.out)
   have RT:=hid (show TwoAt (fun k=>k<q7) Wr a1 c1 (some ⟨b,o,none⟩) c2 A B from T5.out.keep fun k hk hl=>HI.out.b.block k hl (fun e=>Nat.ne_of_lt hk (jI e)))
   have x0:=jC R6.out 0
   have x1:=jC R6.out 1
   simp only [gT,gZ,gS] at x0 x1
   by_cases hlt:i<2
   · obtain ⟨L,hL⟩:∃ L,([A,B]:List (List (List Val)))[i]'hlt=L:=⟨_,rfl⟩
     have HM:=hid (show turnS A B (i+1)=turnS A B i ++ [turnR L L.length] by rw [turnS_succ hlt,hL])
     obtain ⟨la,lc,h0,hrow⟩:=(two_row RT.out).lst i hlt
     rw [hL] at h0 hrow
     have hlti:(i:Int)<2:=by omega
     have HL48:=hid (show L.length<=48/\∀ r ∈ L,r.length=2 by
      rcases (show i=0 \/ i=1 by omega) with rfl|rfl
      · subst hL;exact ⟨HAB.out.2.2.1,HAB.out.2.2.2.2.1⟩
      · subst hL;exact ⟨HAB.out.2.2.2.1,HAB.out.2.2.2.2.2⟩)
     have H0:=hid h0
     have HROW:=hid hrow
     clear h0 hrow hL
     go_upto_block 2 with (fail)
     generalize hX:World.alloc _ _=Wi
     have HT:=hid (show TurnI q7 Wr.heap.size Wr L 0 (.slice (some ⟨Wr.heap.size,0,none⟩) 0 0) [] Wi from by
      rw [<- hX]
      exact ⟨owns_new Wr 35 1,⟨_,_,rfl⟩,Hds.nil,(b0R).alloc (jR _) _⟩)
     have HB5:=hid (show S4<=Wr.heap.size by rw [<- HS4.out.2];exact HI.out.b.size)
     obtain ⟨Sr,hSr⟩:∃ n,Wr.heap.size=n:=⟨_,rfl⟩
     rw [hSr] at HT HB5 ⊢
     have HSr:=hid hSr
     clear hX x0 x1 hSr
     go_cut [9] from 22 to 70 (fun x9 wx=>∃ (us:List Value),Hid (TurnI q7 Sr Wr L L.length x9 us wx))
     case first =>
      go_wp2_with fail
      go_loopw [9,10] (fun x9 x10 wr=>∃ (k:Nat) (g c:Nat) (us:List Value),k<=L.length/\x9=.slice (some ⟨g,0,none⟩) k c/\x10=.int .i64 k/\Hid (TurnI q7 Sr Wr L k (.slice (some ⟨g,0,none⟩) k c) us wr)) (fun _ x10 _=>L.length+1 - (intOf x10).toNat)
      case atStart=>exact ⟨0,Sr,0,[],by omega,rfl,rfl,HT.out⟩
      case round =>
       obtain ⟨k,g,c,us,hk,rfl,rfl,HI2⟩:=hrel
       have hsr:=HSr.out
       have hbw:=hid (show Below Wr.heap.size Wr wr by rw [hsr];exact HI2.out.b)
       have R6i:=cy hbw.out R6
       have x0:=jC R6i.out 0
       have x1:=jC R6i.out 1
       simp only [gT,gZ,gS] at x0 x1
       have y0:=(hbw.out.cell (p:=⟨b,o+i,none⟩) (World.block_lt_of_cell? Wr _ H0.out)).trans H0.out
       by_cases hkl:k<L.length
       · have hrow:=HROW.out.below hbw.out
         obtain ⟨lb,lo,rfl,_,_⟩:=hrow.row.2.2.2.addr (by intro e;rw [e] at hkl;cases hkl)
         obtain ⟨xa,xc,hc,hr⟩:=hrow.row.2.2.2.lst k hkl
         have HR:=hid hr
         obtain ⟨n,hn⟩:∃ n,L[k].length=n:=⟨_,rfl⟩
         rw [hn] at hc HR
         have hSi:Sr<=wr.heap.size:=by have:=hbw.out.size;omega
         have h48:=HL48.out.1
         clear hrow hr hn
         by_cases he:k % 2=0
         · have hcase:((k:Int) % 2=0):=by omega
           go_wp2_with (at_builtin;go_loud (refine wpList_append_own_at _ rfl _ _ 41 rfl Sr 35 i1 _ 1 24 Tryz.underlying41 h1 hz0 hz1 hz2 rfl (by decide) (.slice (some ⟨g,0,none⟩) k c) k _ rfl (HI2.out.o.alloc _) ⟨wr.heap.size,0,none⟩ 1 1 [.slice xa n xc] rfl rfl (fun j u hj=>by rw [addr_add,jC (heap_alloc_new _ _)];simpa using hj) (fun u hu=>by rw [List.mem_singleton.1 hu];rfl) (by unfold maxLen;omega) (by omega) (by simp;omega) ?_;intro v' w7 o1 g1 hx1 at1;clear hx1 at1;have N7:=hid (HI2.out.even hkl he (Nat.le_trans (Nat.le_of_lt HS4.out.1) HB5.out) hSi HR.out o1 g1);clear o1 g1))
           go_roundw
           case rel =>
            obtain ⟨g2,c2',e2⟩:=N7.out.f
            subst e2
            exact ⟨k+1,g2,c2',_,by omega,rfl,by go_num,N7.out⟩
           case measure=>simp [intOf];omega
         · have hcase:¬ ((k:Int) % 2=0):=by omega
           go_wp2_with (at_builtin;go_loud (refine wpList_append_own_at _ rfl _ _ 41 rfl Sr 35 i1 _ 1 24 Tryz.underlying41 h1 hz0 hz1 hz2 rfl (by decide) (.slice (some ⟨wr.heap.size,0,none⟩) 1 1) 1 _ rfl (owns_one hSi) ⟨g,0,none⟩ k c us rfl (by rw [HI2.out.o.1]) (fun j u hj=>by rw [addr_add,(HI2.out.o.alloc _).cellAt _ (by have:=(List.getElem?_eq_some_iff.1 hj).1;rw [HI2.out.o.1] at this;omega)];simpa using hj) HI2.out.h.one_cells (by unfold maxLen;omega) (by omega) (by simp;omega) ?_;intro v' w7 o1 g1 hx1 at1;clear hx1 at1;rw [Nat.add_comm 1 k] at o1;have N7:=hid (HI2.out.odd hkl he (Nat.le_trans (Nat.le_of_lt HS4.out.1) HB5.out) hSi HR.out o1 g1);clear o1 g1))
           go_roundw
           case rel =>
            obtain ⟨g2,c2',e2⟩:=N7.out.f
            subst e2
            exact ⟨k+1,g2,c2',_,by omega,rfl,by go_num,N7.out⟩
           case measure=>simp [intOf];omega
       · have hk2:k=L.length:=by omega
         subst hk2
         go_wp2_with fail
         go_meet
         exact ⟨us,HI2⟩
     case rest =>
      obtain ⟨us,HI2⟩:=hcut
      obtain ⟨rg,rc,rfl⟩:=HI2.out.f
      have hbw:Below Wr.heap.size Wr wc:=by rw [HSr.out];exact HI2.out.b
      have HO:=hid (HI.out.below hbw)
      have HU:=hid (show SlV rowR (fun k=>k ≠ q7/\some k ≠ v.ownBlock) wc (.slice (some ⟨rg,0,none⟩) L.length rc) (turnR L L.length) by
       have hl:=turn_len L (jR L.length)
       have h2:=(HI2.out.h.weaken (q:=fun k=>k<q7 \/ Sr<=k) (fun k hk=>Or.inl hk)).sl HI2.out.o hl (fun k hk=>Or.inr hk) (by have:=HL48.out.1;omega)
       rw [hl] at h2
       refine h2.weaken fun k hk=>?_
       have:=HS4.out.1
       have:=HB5.out
       rcases hk with hk|hk
       · exact ⟨by omega,fun e=>absurd (HI.out.o.lt k e.symm).1 (by omega)⟩
       · exact ⟨by omega,fun e=>absurd (HI.out.o.lt k e.symm).2 (by have:=HSr.out;omega)⟩)
      obtain ⟨g,c,rfl⟩:=HO.out.f
      have z0:=jC HO.out.z 0
      have z1:=jC HO.out.z 1
      have hS9:S4<=wc.heap.size:=by have:=HB5.out;have:=hbw.size;have:=HSr.out;omega
      simp only [gT,gZ,gS] at z0 z1
      clear hbw
      go_wp2_with (at_builtin;go_loud (refine wpList_append_own_at _ rfl _ _ 25 rfl S4 41 i2 _ 1 24 Tryz.underlying25 h2 hy0 hy1 hy2 rfl (by decide) (.slice (some ⟨g,0,none⟩) i c) i _ rfl (HO.out.o.alloc _) ⟨wc.heap.size,0,none⟩ 1 1 [.slice (some ⟨rg,0,none⟩) L.length rc] rfl rfl (fun j u hj=>by rw [addr_add,jC (heap_alloc_new _ _)];simpa using hj) (fun u hu=>by rw [List.mem_singleton.1 hu];rfl) (by unfold maxLen;omega) (by omega) (by simp;omega) ?_;intro v' w7 o1 g1 hx1 at1;obtain ⟨vg2,vc2,rfl⟩:=own_form o1;clear hx1;have ba:=(Below.refl wc.heap.size wc).alloc (jR _) (.cells #[.slice (some ⟨rg,0,none⟩) L.length rc] 41);have HP:=HO.out.below ba;have hqv:some q7 ≠ (Value.slice (some ⟨g,0,none⟩) i c).ownBlock:=fun e=>absurd (HO.out.o.lt q7 e.symm).1 (Nat.not_le.2 HS4.out.1);have hz8:=hid ((g1.block _ (jB HP.z) hqv).trans HP.z);have m7:=jC hz8.out 1;have n7:=free_of hz8.out 1;simp only [gT,gZ,gS] at m7;have N7:=hid (HP.push HM.out HS4.out.1 (Nat.le_of_eq HS4.out.2) (HU.out.below ba) o1 g1 at1);clear o1 g1 at1 ba HP hqv))
      go_roundw
      case rel=>exact ⟨i+1,_,_,by omega,by go_num,N7.out⟩
      case measure=>simp [intOf];omega
   · have hi2:i=2:=by omega
     subst hi2
     go_wp2_with fail
     go_meet
     exact ⟨v,hs,HI⟩
 case rest =>
  obtain ⟨v,hs,HI⟩:=hcut
  obtain ⟨vg,vc,rfl⟩:=HI.out.f
  obtain ⟨W,hW⟩:∃ W,W=wc:=⟨_,rfl⟩
  subst hW
  obtain ⟨TA,hTA⟩:∃ T,turnR A A.length=T:=⟨_,rfl⟩
  obtain ⟨TB,hTB⟩:∃ T,turnR B B.length=T:=⟨_,rfl⟩
  have HTS:=hid (show turnS A B 2=[TA,TB] by rw [<- hTA,<- hTB];rfl)
  have HORD:=hid (show Ords A B TA TB from ⟨by rw [<- hTA];exact (turn_all A).symm,by rw [<- hTB];exact (turn_all B).symm,HAB.out.1,HAB.out.2.1⟩)
  have HIN:=hid (show Inv (twoS A B) 48/\Inv (twoS TA TB) 48 from ⟨inv_two HAB.out.2.2.2.2.1 HAB.out.2.2.2.2.2 HAB.out.2.2.1 HAB.out.2.2.2.1,inv_two (by rw [<- hTA];exact fun r hr=>HAB.out.2.2.2.2.1 r ((turn_all A).mem_iff.1 hr)) (by rw [<- hTB];exact fun r hr=>HAB.out.2.2.2.2.2 r ((turn_all B).mem_iff.1 hr)) (by rw [<- hTA,(turn_all A).length_eq];exact HAB.out.2.2.1) (by rw [<- hTB,(turn_all B).length_eq];exact HAB.out.2.2.2.1)⟩)
  clear hTA hTB
  have RS:=hid (show TwoAt (fun k=>k<q7) W a1 c1 (some ⟨b,o,none⟩) c2 A B from T5.out.keep fun k hk hl=>HI.out.b.block k hl (fun e=>Nat.ne_of_lt hk (jI e)))
  have RT:=hid (show TwoAt (fun k=>k ≠ q7) W a1 c1 (some ⟨vg,0,none⟩) vc TA TB by
   obtain ⟨b',o',_,h1,_,_⟩:=two_lst RS.out
   have hh:=HI.out.h
   rw [HTS.out] at hh
   have h2:=(hh.weaken (q:=fun k=>k ≠ q7) (fun k hk=>hk.1)).sl HI.out.o rfl (fun k hk=>Nat.ne_of_gt (jL HS4.out.1 hk)) (by omega)
   exact ⟨a1,c1,some ⟨vg,0,none⟩,vc,rfl,h1.weaken (fun k hk=>Nat.ne_of_lt hk),h2⟩)
  have G6':=hid ((HI.out.b.block _ (jB G6.out) (fun e=>Nat.ne_of_lt L6.out (jI e))).trans G6.out)
  have G7':=hid HI.out.z
  have BW:=hid (show Below w.heap.size w W from B4.out.grown HI.out.b B4.out.size (fun b hb=>by cases hb;exact HS7.out))
  obtain ⟨M,hM⟩:∃ M,q.take 15=M:=⟨_,rfl⟩
  have hmN:M.length<=q.length:=by rw [<- hM,List.length_take];omega
  have hmi:min (q.length:Int) 15=(M.length:Int):=by rw [<- hM,List.length_take];omega
  have hmc:M.length<=cq:=Nat.le_trans hmN HQL.out.row.2.1
  have HM15:=hid (show M.length<=15 by rw [<- hM,List.length_take];omega)
  have SM:=hid (show SlV intR pq W (.slice aq M.length cq) M from (show SlV intR pq w (.slice aq M.length cq) M from ⟨aq,cq,rfl,hmc,Nat.le_trans hmN HQL.out.row.2.2.1,by rw [<- hM];exact row_takeI 15 HQL.out.row.2.2.2⟩).below BW.out)
  have HKW:=hid (HK.out.below BW.out)
  clear HI HTS O5 T5 B4 G6 G7 L6 HS7 HS4 hM hmN HL HQL HAB HK h1 hz0 hz1 hz2 h2 hy0 hy1 hy2
  obtain ⟨i3,h3,hx0,hx1,hx2⟩:=info_parts info_o3
  have x0:=jC G6'.out 0
  have x1:=jC G6'.out 1
  have y0:=jC G7'.out 0
  have y1:=jC G7'.out 1
  simp only [gT,gZ,gS] at x0 x1 y0 y1
  obtain ⟨nM,hnM⟩:∃ n,((7+(q.length:Int) % 3) :: M).length=n:=⟨_,rfl⟩
  have HNM:=hid hnM
  clear hnM
  go_wp2_with (at_builtin;go_loud (refine wpList_append_flat' rfl _ _ 22 rfl W.heap.size 3 i3 _ 1 8 Tryz.underlying22 h3 hx0 hx1 hx2 rfl (by decide) _ 1 _ rfl (owns_one (jR _)) (enc:=intE) (hl:=intE_len) M _ _ rfl (SM.out.below ((b0R).alloc (jR _) _)).row.2.2.2 (intE_cells M) (by have:=HM15.out;unfold maxLen;omega) (by have:=HM15.out;omega) (by simp) ?_;intro v' w7 o1 g1;have b7:Below W.heap.size W w7:=((b0R).alloc (jR _) _).grown g1 (by simp) (fun b hb=>by cases hb;exact jR _);obtain ⟨ma,mc,rfl,sm⟩:=int_owned o1 HNM.out (by have:=HM15.out;omega);have B7:=hid b7;have S7:=hid sm;clear o1 g1 b7 sm))
  have con:=made_len S7.out HNM.out
  refine con.mono ?_
  rintro e w8 ⟨sv,st,rfl,b8,sm,ok,hk⟩
  rw [kd_sel] at hk
  have SM8:=hid sm
  have OK:=hid (show OkSt st/\st.kind=7 from ⟨ok,hk⟩)
  have B8:=hid (B7.out.trans (b8.mono B7.out.size))
  obtain ⟨a3,c3,a4,c4,a5,c5,a6,c6,a7,c7,a12,c12,rfl,_⟩:=sm
  clear con b8 ok hk S7 SM HM15 B7 h3 hx0 hx1 hx2 HNM hmi hmc x0 x1 y0 y1
  go_upto_region 17 with (fail)
  generalize hX:World.alloc _ _=W9
  have b9:Below w8.heap.size w8 W9:=by rw [<- hX];exact (b0R).alloc (jR _) _
  have G11:=hid (show W9.heap[w8.heap.size]? = some (.cells #[.int .i64 st.kind,.string st.table,.string st.name,.slice a3 st.cols.length c3,.slice a4 st.names.length c4,.slice a5 st.row.length c5,.slice a6 st.sets.length c6,.slice a7 st.wher.length c7,.string st.join,.string st.left,.string st.right,.int .i64 st.agg,.slice a12 st.order.length c12,.int .i64 st.mode,.int .i64 st.n] 39 (0,0)) by rw [<- hX];exact heap_alloc_new _ _)
  have B9:=hid (B8.out.trans (b9.mono B8.out.size))
  have SM9:=hid (SM8.out.below b9)
  obtain ⟨q11,hq11⟩:∃ q,w8.heap.size=q:=⟨_,rfl⟩
  rw [hq11] at G11 ⊢
  clear hX b9 B8 SM8 hq11
  obtain ⟨er,R,nn,hA1⟩:∃ er R nn,stepA (twoS A B) st=⟨er,R,nn⟩:=⟨_,_,_,rfl⟩
  obtain ⟨na,hna⟩:∃ n,R.length=n:=⟨_,rfl⟩
  have HLW:=hid (show stepA (twoS A B) st=⟨er,R,nn⟩/\stepA (twoS TA TB) st=⟨er,R,nn⟩/\R.length=na/\stepS (twoS A B) st=twoS A B/\stepS (twoS TA TB) st=twoS TA TB from ⟨hA1,(ord_law HORD.out OK.out.2).1.symm.trans hA1,hna,(ord_law HORD.out OK.out.2).2⟩)
  clear hA1 hna
  have x0:=jC ((B9.out.block _ (jB G6'.out)).trans G6'.out) 0
  have x1:=jC ((B9.out.block _ (jB G6'.out)).trans G6'.out) 1
  have z0:=jC G11.out 0
  have z1:=jC G11.out 1
  have z2:=jC G11.out 2
  have z3:=jC G11.out 3
  have z4:=jC G11.out 4
  have z5:=jC G11.out 5
  have z6:=jC G11.out 6
  have z7:=jC G11.out 7
  have z8:=jC G11.out 8
  have z9:=jC G11.out 9
  have z10:=jC G11.out 10
  have z11:=jC G11.out 11
  have z12:=jC G11.out 12
  have z13:=jC G11.out 13
  have z14:=jC G11.out 14
  simp only [gT,gZ,gS] at x0 x1 z0 z1 z2 z3 z4 z5 z6 z7 z8 z9 z10 z11 z12 z13 z14
  have con:=do_two (RS.out.below B9.out) SM9.out HIN.out.1 (by decide) OK.out.1.small (HKW.out.below B9.out) HLW.out.2.2.2.1 HLW.out.1 HLW.out.2.2.1
  go_wp2_with fail
  refine con.mono ?_
  rintro e w10 ⟨e1,f1,e2,f2,e3,f3,rfl,b10,t10,s10⟩
  clear con x0 x1 z0 z1 z2 z3 z4 z5 z6 z7 z8 z9 z10 z11 z12 z13 z14
  go_upto_region 18 with (fail)
  generalize hX:World.alloc _ _=Z
  have hZ:allocs w10 [_,_]=Z:=hX
  have G12:=hid (show Z.heap[w10.heap.size]? = some (.cells #[.slice e1 2 f1,.slice e2 2 f2] 27 (0,0)) from allocs_get hZ 0 rfl)
  have G13:=hid (show Z.heap[w10.heap.size+1]? = some (.cells #[.int .i64 er,.slice e3 na f3,.int .i64 nn] 43 (0,0)) from allocs_get hZ 1 rfl)
  have bz:=allocs_self hZ
  have T12:=hid (t10.below bz)
  have S13:=hid (s10.below bz)
  have BZ9:=hid (b10.trans (bz.mono b10.size))
  have BZ:=hid (B9.out.trans (BZ9.out.mono B9.out.size))
  have G11':=cy BZ9.out G11
  have SM10:=hid (SM9.out.below BZ9.out)
  obtain ⟨q12,hq12⟩:∃ q,w10.heap.size=q:=⟨_,rfl⟩
  rw [hq12] at G12 G13 ⊢
  clear hX hZ bz b10 t10 s10 B9 G11 SM9 BZ9 hq12
  have x0:=jC ((BZ.out.block _ (jB G7'.out)).trans G7'.out) 0
  have x1:=jC ((BZ.out.block _ (jB G7'.out)).trans G7'.out) 1
  have z0:=jC G11'.out 0
  have z1:=jC G11'.out 1
  have z2:=jC G11'.out 2
  have z3:=jC G11'.out 3
  have z4:=jC G11'.out 4
  have z5:=jC G11'.out 5
  have z6:=jC G11'.out 6
  have z7:=jC G11'.out 7
  have z8:=jC G11'.out 8
  have z9:=jC G11'.out 9
  have z10:=jC G11'.out 10
  have z11:=jC G11'.out 11
  have z12:=jC G11'.out 12
  have z13:=jC G11'.out 13
  have z14:=jC G11'.out 14
  simp only [gT,gZ,gS] at x0 x1 z0 z1 z2 z3 z4 z5 z6 z7 z8 z9 z10 z11 z12 z13 z14
  have con:=do_two (RT.out.below BZ.out) SM10.out HIN.out.2 (by decide) OK.out.1.small (HKW.out.below BZ.out) HLW.out.2.2.2.2 HLW.out.2.1 HLW.out.2.2.1
  go_wp2_with fail
  refine con.mono ?_
  rintro e w11 ⟨g1,h1,g2,h2,g3,h3,rfl,b11,t11,s11⟩
  clear con x0 x1 z0 z1 z2 z3 z4 z5 z6 z7 z8 z9 z10 z11 z12 z13 z14
  go_upto_region 19 with (fail)
  generalize hX:World.alloc _ _=Y
  have hY:allocs w11 [_,_]=Y:=hX
  have G14:=hid (show Y.heap[w11.heap.size]? = some (.cells #[.slice g1 2 h1,.slice g2 2 h2] 27 (0,0)) from allocs_get hY 0 rfl)
  have G15:=hid (show Y.heap[w11.heap.size+1]? = some (.cells #[.int .i64 er,.slice g3 na h3,.int .i64 nn] 43 (0,0)) from allocs_get hY 1 rfl)
  have bz:=allocs_self hY
  have T14:=hid (t11.below bz)
  have S15:=hid (s11.below bz)
  have BYZ:=hid (b11.trans (bz.mono b11.size))
  have BY:=hid (BZ.out.trans (BYZ.out.mono BZ.out.size))
  obtain ⟨q14,hq14⟩:∃ q,w11.heap.size=q:=⟨_,rfl⟩
  rw [hq14] at G14 G15 ⊢
  clear hX hY bz b11 t11 s11 hq14 SM10
  have x0:=jC ((BYZ.out.block _ (jB G13.out)).trans G13.out) 0
  have x1:=jC ((BYZ.out.block _ (jB G13.out)).trans G13.out) 1
  have x2:=jC ((BYZ.out.block _ (jB G13.out)).trans G13.out) 2
  have y0:=jC G15.out 0
  have y1:=jC G15.out 1
  have y2:=jC G15.out 2
  simp only [gT,gZ,gS] at x0 x1 x2 y0 y1 y2
  have con:Calls Tryz.prog 29 #[.agg #[.int .i64 er,.slice e3 na f3,.int .i64 nn],.agg #[.int .i64 er,.slice g3 na h3,.int .i64 nn]] Y fun e w'=>e=.returned (.bool true)/\Below Y.heap.size Y w':=by
   have hl:=HLW.out.2.2.1
   subst hl
   have h:=sameA_any (ex:=er) (ey:=er) (nx:=nn) (ny:=nn) (S13.out.below BYZ.out) S15.out (HKW.out.below BY.out)
   rw [sameA_refl] at h
   exact h
  go_wp2_with fail
  refine con.mono ?_
  rintro e V1 ⟨rfl,v1⟩
  have V1B:=hid v1
  clear con v1 x0 x1 x2 y0 y1 y2
  have BV1:=hid (BY.out.trans (V1B.out.mono BY.out.size))
  have x0:=jC ((V1B.out.block _ (jL (jB G12.out) BYZ.out.size)).trans ((BYZ.out.block _ (jB G12.out)).trans G12.out)) 0
  have x1:=jC ((V1B.out.block _ (jL (jB G12.out) BYZ.out.size)).trans ((BYZ.out.block _ (jB G12.out)).trans G12.out)) 1
  have y0:=jC ((BV1.out.block _ (jB G6'.out)).trans G6'.out) 0
  have y1:=jC ((BV1.out.block _ (jB G6'.out)).trans G6'.out) 1
  simp only [gT,gZ,gS] at x0 x1 y0 y1
  have con:=alike_any ((T12.out.below BYZ.out).below V1B.out) (RS.out.below BV1.out) (inv_rows HIN.out.1) (inv_rows HIN.out.1) (HKW.out.below BV1.out)
  rw [alike_refl] at con
  go_wp2_with fail
  refine con.mono ?_
  rintro e V2 ⟨rfl,v2⟩
  have V2B:=hid v2
  clear con v2 x0 x1 y0 y1
  have BV2:=hid (BV1.out.trans (V2B.out.mono BV1.out.size))
  have x0:=jC ((V2B.out.block _ (jL (jB G14.out) V1B.out.size)).trans ((V1B.out.block _ (jB G14.out)).trans G14.out)) 0
  have x1:=jC ((V2B.out.block _ (jL (jB G14.out) V1B.out.size)).trans ((V1B.out.block _ (jB G14.out)).trans G14.out)) 1
  have y0:=jC ((BV2.out.block _ (jB G7'.out)).trans G7'.out) 0
  have y1:=jC ((BV2.out.block _ (jB G7'.out)).trans G7'.out) 1
  simp only [gT,gZ,gS] at x0 x1 y0 y1
  have con:=alike_any ((T14.out.below V1B.out).below V2B.out) (RT.out.below BV2.out) (inv_rows HIN.out.2) (inv_rows HIN.out.2) (HKW.out.below BV2.out)
  rw [alike_refl] at con
  go_wp2_with fail
  refine con.mono ?_
  rintro e V3 ⟨rfl,v3⟩
  have V3B:=hid v3
  clear con v3 x0 x1 y0 y1
  have BV3:=hid (BV2.out.trans (V3B.out.mono BV2.out.size))
  have G113:=hid ((V3B.out.block _ (jL (jL (jB G11'.out) (Nat.le_trans BYZ.out.size V1B.out.size)) V2B.out.size)).trans ((V2B.out.block _ (jL (jB G11'.out) (Nat.le_trans BYZ.out.size V1B.out.size))).trans ((V1B.out.block _ (jL (jB G11'.out) BYZ.out.size)).trans ((BYZ.out.block _ (jB G11'.out)).trans G11'.out))))
  have z0:=jC G113.out 0
  simp only [gT,gZ,gS] at z0
  rw [OK.out.2] at z0
  have BE:=hid (BW.out.trans (BV3.out.mono BW.out.size))
  go_wp2_with fail
  go_ret
  exact ⟨rfl,BE.out⟩
end
end Go.Proofs.YtgemihkcihigpaaGreatDoor
