/- The orders of values and rows are total preorders: plain, no program in sight. -/
import Derived.Sort.LotA
import Derived.Test.YtgemihkcihigpaaGreatDoorZD10
set_option linter.unusedVariables false
set_option linter.unusedSimpArgs false
set_option maxRecDepth 100000
set_option maxHeartbeats 64000000
namespace Go.Proofs.YtgemihkcihigpaaGreatDoor
section
open Go
structure Tot {α:Type} (f:α->α->Int):Prop where
 anti:∀ x y,f x y<0 ↔ 0<f y x
 trans:∀ x y z,f x y<=0->f y z<=0->f x z<=0
theorem Tot.zero {α:Type} {f:α->α->Int} (h:Tot f) (x y:α):f x y=0 ↔ f y x=0:=by
 have h1:=h.anti x y
 have h2:=h.anti y x
 omega
theorem Tot.refl {α:Type} {f:α->α->Int} (h:Tot f) (x:α):f x x=0:=by
 have:=h.anti x x
 omega
theorem Tot.swo {α:Type} [Inhabited α] {f:α->α->Int} (h:Tot f):Sort.SWO (fun x y=>decide (f x y<0)) where
 irrefl x:=by have:=h.refl x;simp;omega
 trans x y z h1 h2:=by
  simp only [decide_eq_true_eq] at *
  have a1:=h.anti x y
  have a2:=h.anti y z
  have a3:=h.anti z x
  have a4:=h.anti x z
  have t:=h.trans z x y
  omega
 ntrans x y z h1 h2:=by
  simp only [decide_eq_false_iff_not] at *
  have a1:=h.anti x y
  have a2:=h.anti y z
  have a3:=h.anti x z
  have t:=h.trans z y x
  omega
theorem Tot.lex {α:Type} {f g:α->α->Int} (h:Tot f) (ga:∀ x y,f x y=0->(g x y<0 ↔ 0<g y x)) (gt:∀ x y z,f x y=0->f y z=0->g x y<=0->g y z<=0->g x z<=0):Tot (fun x y=>if f x y=0 then g x y else f x y) where
 anti x y:=by
  have a1:=h.anti x y
  have a2:=h.anti y x
  by_cases h0:f x y=0
  · rw [if_pos h0,if_pos ((h.zero x y).1 h0)];exact ga x y h0
  · rw [if_neg h0,if_neg (fun e=>h0 ((h.zero x y).2 e))];exact a1
 trans x y z h1 h2:=by
  have a1:=h.anti x y
  have a2:=h.anti y z
  have a3:=h.anti x z
  have a4:=h.anti z x
  have a5:=h.anti y x
  have a6:=h.anti z y
  have t:=h.trans x y z
  have t1:=h.trans z x y
  have t2:=h.trans y z x
  have t3:=h.trans z y x
  by_cases h3:f x y=0
  · rw [if_pos h3] at h1
    by_cases h4:f y z=0
    · rw [if_pos h4] at h2
      rw [if_pos (by omega)]
      exact gt x y z h3 h4 h1 h2
    · rw [if_neg h4] at h2
      rw [if_neg (by omega)];omega
  · rw [if_neg h3] at h1
    by_cases h4:f y z=0
    · rw [if_neg (by omega)];omega
    · rw [if_neg h4] at h2
      rw [if_neg (by omega)];omega
theorem Tot.pull {α β:Type} {f:β->β->Int} (h:Tot f) (k:α->β):Tot (fun x y=>f (k x) (k y)):=⟨fun x y=>h.anti _ _,fun x y z=>h.trans _ _ _⟩
def intC (a b:Int):Int:=ordI (decide (a<b)) (decide (b<a))
theorem intC_cases (a b:Int):(a<b/\intC a b=-1) \/ (a=b/\intC a b=0) \/ (b<a/\intC a b=1):=by
 unfold intC
 rcases (show a<b \/ a=b \/ b<a by omega) with h|rfl|h
 · left;exact ⟨h,by simp [ordI,h]⟩
 · right;left;exact ⟨rfl,by simp [ordI]⟩
 · right;right
   have:¬ a<b:=by omega
   exact ⟨h,by simp [ordI,h,this]⟩
theorem tot_int:Tot intC where
 anti x y:=by have h1:=intC_cases x y;have h2:=intC_cases y x;omega
 trans x y z:=by have h1:=intC_cases x y;have h2:=intC_cases y z;have h3:=intC_cases x z;omega
theorem cmpL_cons (a b:UInt8) (x y:List UInt8):cmpL (a :: x) (b :: y)=if intC a.toNat b.toNat=0 then cmpL x y else intC a.toNat b.toNat:=by
 rw [cmpL]
 have h:=intC_cases a.toNat b.toNat
 by_cases e:a=b
 · subst e
   rw [if_pos rfl,if_pos (by omega)]
 · have hne:a.toNat ≠ b.toNat:=fun e'=>e (UInt8.toNat.inj e')
   by_cases l:a.toNat<b.toNat
   · rw [if_neg e,if_pos l,if_neg (by omega)];omega
   · rw [if_neg e,if_neg l,if_neg (by omega)];omega
def lexL {α:Type} (f:α->α->Int):List α->List α->Int
 | [],[]=>0
 | [],_ :: _=>-1
 | _ :: _,[]=>1
 | a :: x,b :: y=>if f a b=0 then lexL f x y else f a b
theorem tot_lexL {α:Type} {f:α->α->Int} (h:Tot f):Tot (lexL f):=by
 have anti:∀ x y:List α,lexL f x y<0 ↔ 0<lexL f y x:=by
  intro x
  induction x with
  | nil=>intro y;cases y <;> simp [lexL]
  | cons a x ih =>
   intro y
   cases y with
   | nil=>simp [lexL]
   | cons b y =>
    simp only [lexL]
    have a1:=h.anti a b
    have a2:=h.zero a b
    by_cases h0:f a b=0
    · rw [if_pos h0,if_pos (a2.1 h0)];exact ih y
    · rw [if_neg h0,if_neg (fun e=>h0 (a2.2 e))];exact a1
 refine ⟨anti,?_⟩
 intro x
 induction x with
 | nil=>intro y z _ h2;cases z with
  | nil=>simp [lexL]
  | cons c z=>simp [lexL]
 | cons a x ih =>
  intro y z h1 h2
  cases y with
  | nil=>simp [lexL] at h1
  | cons b y =>
   cases z with
   | nil=>simp [lexL] at h2
   | cons c z =>
    simp only [lexL] at h1 h2 ⊢
    have a1:=h.anti a b
    have a2:=h.anti b c
    have a3:=h.anti a c
    have a4:=h.anti c a
    have a5:=h.anti b a
    have a6:=h.anti c b
    have t:=h.trans a b c
    have t1:=h.trans c a b
    have t2:=h.trans b c a
    have t3:=h.trans c b a
    by_cases h3:f a b=0
    · rw [if_pos h3] at h1
      by_cases h4:f b c=0
      · rw [if_pos h4] at h2
        rw [if_pos (by omega)]
        exact ih y z h1 h2
      · rw [if_neg h4] at h2
        rw [if_neg (by omega)];omega
    · rw [if_neg h3] at h1
      by_cases h4:f b c=0
      · rw [if_neg (by omega)];omega
      · rw [if_neg h4] at h2
        rw [if_neg (by omega)];omega
theorem cmpL_lex:∀ a b:List UInt8,cmpL a b=lexL (fun x y:UInt8=>intC x.toNat y.toNat) a b
 | [],[]=>rfl
 | [],_ :: _=>rfl
 | _ :: _,[]=>rfl
 | a :: x,b :: y=>by rw [cmpL_cons,lexL,cmpL_lex x y]
theorem tot_cmpL:Tot cmpL:=by
 have h:cmpL=lexL (fun x y:UInt8=>intC x.toNat y.toNat):=by funext a b;exact cmpL_lex a b
 rw [h]
 exact tot_lexL (tot_int.pull fun x:UInt8=>(x.toNat:Int))
def restV (a b:Val):Int:=if placeV a.kind=1 then intC a.n b.n else if placeV a.kind=2 then cmpL a.s.data.toList b.s.data.toList else 0
theorem cmpV_lex (a b:Val):cmpV a b=if intC (placeV a.kind) (placeV b.kind)=0 then restV a b else intC (placeV a.kind) (placeV b.kind):=by
 unfold cmpV restV
 have h:=intC_cases (placeV a.kind) (placeV b.kind)
 by_cases e:placeV a.kind=placeV b.kind
 · have h0:intC (placeV a.kind) (placeV b.kind)=0:=by omega
   rw [if_neg (by simpa using e),if_pos h0]
   rfl
 · have h0:¬ intC (placeV a.kind) (placeV b.kind)=0:=by omega
   rw [if_pos e,if_neg h0]
   rfl
theorem tot_cmpV:Tot cmpV:=by
 have h:cmpV=fun a b=>if intC (placeV a.kind) (placeV b.kind)=0 then restV a b else intC (placeV a.kind) (placeV b.kind):=by funext a b;exact cmpV_lex a b
 rw [h]
 have hp:∀ x y:Val,intC (placeV x.kind) (placeV y.kind)=0->placeV x.kind=placeV y.kind:=fun x y e=>by have:=intC_cases (placeV x.kind) (placeV y.kind);omega
 refine (tot_int.pull fun v:Val=>placeV v.kind).lex (g:=restV) (fun x y e=>?_) (fun x y z e1 e2=>?_)
 · unfold restV
   rw [<- hp x y e]
   split
   · exact tot_int.anti _ _
   · split
     · exact tot_cmpL.anti _ _
     · simp
 · unfold restV
   rw [<- hp x y e1]
   split
   · exact tot_int.trans _ _ _
   · split
     · exact tot_cmpL.trans _ _ _
     · simp
theorem cmpR_lex:∀ a b:List Val,cmpR a b=lexL cmpV a b
 | [],[]=>rfl
 | [],_ :: _=>rfl
 | _ :: _,[]=>rfl
 | a :: x,b :: y=>by rw [cmpR,lexL,cmpR_lex x y]
theorem tot_cmpR:Tot cmpR:=by
 have h:cmpR=lexL cmpV:=by funext a b;exact cmpR_lex a b
 rw [h]
 exact tot_lexL tot_cmpV
end
section
open Go Go.RowKit
def namedB (s:ByteArray):Bool:=decide (s.size ≠ 0) && decide (s.size<=12)
def twiceB:List ByteArray->Bool
 | []=>false
 | x :: l=>l.any (sEq x) || twiceB l
def findT (C:List Tab) (name:ByteArray):Int:=idxOf (fun t=>sEq t.name name) C
theorem findV_T (s:StV) (name:ByteArray):findV s name=findT s.tabs name:=rfl
def tabAt (C:List Tab) (i:Int):Tab:=C.getD i.toNat default
def rowsAt (R:List (List (List Val))) (i:Int):List (List Val):=R.getD i.toNat []
def valAt (r:List Val) (i:Int):Val:=r.getD i.toNat val0
def kindAt (C:List (ByteArray × Int)) (i:Int):Int:=(C.getD i.toNat (noStr,0)).2
def strNil (s:ByteArray):Bool:=decide (s.size=0)
def createE (C:List Tab) (st:Stmt):Int :=
 if !namedB st.table || decide (st.cols.length<1) || decide (6<st.cols.length) || st.cols.any (fun c=>!namedB c.1) then 1
 else if st.cols.any (fun c=>decide (c.2 ≠ 1) && decide (c.2 ≠ 2)) then 52
 else if twiceB (st.cols.map (·.1)) || decide (0<=findT C st.table) then 51
 else if C.length=8 then 2 else 0
def createT (C:List Tab) (st:Stmt):List Tab:=C ++ [⟨C.length+1,st.table,st.cols,[]⟩]
def ixCols (T:Tab) (st:Stmt):List Int:=st.names.map (colOf T)
def indexE (C:List Tab) (st:Stmt):Int :=
 if !namedB st.name || decide (st.names.length<1) || decide (6<st.names.length) then 1
 else if findT C st.table<0 then 50
 else if (ixCols (tabAt C (findT C st.table)) st).any (fun n=>decide (n=-1)) then 50
 else if twiceB st.names || C.any (fun t=>t.idx.any (fun i=>sEq i.name st.name)) then 51
 else if (tabAt C (findT C st.table)).idx.length=4 then 2 else 0
def indexT (C:List Tab) (st:Stmt):List Tab:=C.modify (findT C st.table).toNat fun t=>{ t with idx:=t.idx ++ [⟨st.name,ixCols t st,0⟩] }
def renameE (C:List Tab) (st:Stmt):Int :=
 if !namedB st.join then 1
 else if findT C st.table<0 then 50
 else if colOf (tabAt C (findT C st.table)) st.name<0 then 50
 else if 0<=colOf (tabAt C (findT C st.table)) st.join then 51 else 0
def renameT (C:List Tab) (st:Stmt):List Tab:=C.modify (findT C st.table).toNat fun t=>{ t with cols:=t.cols.modify (colOf t st.name).toNat fun c=>(st.join,c.2) }
def catV (C:List Tab) (st:Stmt):Int × List Tab :=
 if st.kind=1 then (createE C st,if createE C st=0 then createT C st else C)
 else if st.kind=2 then (indexE C st,if indexE C st=0 then indexT C st else C)
 else if st.kind=3 then (renameE C st,if renameE C st=0 then renameT C st else C)
 else (1,C)
def setE (T:Tab) (P:List SetV) (x:SetV):Int :=
 if colOf T x.col<0 then 50
 else if P.any (fun y=>sEq y.col x.col) then 51
 else if !strNil x.col2 && decide (colOf T x.col2<0) then 50
 else if !strNil x.col2 && (decide (kindAt T.cols (colOf T x.col) ≠ 1) || decide (kindAt T.cols (colOf T x.col2) ≠ 1) || decide (x.val.kind ≠ 1)) then 52
 else if !rightB x.val || (decide (x.val.kind ≠ 0) && decide (x.val.kind ≠ kindAt T.cols (colOf T x.col))) then 52 else 0
def setsFrom (T:Tab):List SetV->List SetV->Int
 | _,[]=>0
 | P,x :: L=>if setE T P x ≠ 0 then setE T P x else setsFrom T (P ++ [x]) L
def setsE (T:Tab) (L:List SetV):Int:=setsFrom T [] L
def newV (T:Tab) (r:List Val) (x:SetV):Val :=
 if strNil x.col2 then x.val
 else if (valAt r (colOf T x.col2)).kind=1 then { valAt r (colOf T x.col2) with n:=wrap64 ((valAt r (colOf T x.col2)).n+x.val.n) }
 else valAt r (colOf T x.col2)
def changedV (T:Tab) (r:List Val) (L:List SetV):List Val:=L.foldl (fun out x=>out.set (colOf T x.col).toNat (newV T r x)) r
def lacksB (T:Tab) (L:List Cond):Bool:=L.any fun c=>decide (colOf T c.col<0)
def changeE (s:StV) (st:Stmt):Int :=
 if findV s st.table<0 then 50
 else if st.kind=5/\setsE (tabAt s.tabs (findV s st.table)) st.sets ≠ 0 then setsE (tabAt s.tabs (findV s st.table)) st.sets
 else if lacksB (tabAt s.tabs (findV s st.table)) st.wher then 50 else 0
def changeR (T:Tab) (st:Stmt) (r:List Val):Option (List Val) :=
 if !fitsW T st.wher r then some r else if st.kind=5 then some (changedV T r st.sets) else none
def changeRows (s:StV) (st:Stmt):List (List Val):=(rowsAt s.rows (findV s st.table)).filterMap (changeR (tabAt s.tabs (findV s st.table)) st)
def changeN (s:StV) (st:Stmt):Nat:=(rowsAt s.rows (findV s st.table)).countP (fitsW (tabAt s.tabs (findV s st.table)) st.wher)
def joinR (L R:List (List Val)) (l r:Int):List (List Val):=L.flatMap fun x=>(R.filter fun y=>fitsV (valAt x l) 1 (valAt y r)).map (x ++ ·)
def fromE (s:StV) (st:Stmt):Int :=
 if findV s st.table<0 then 50
 else if strNil st.join then 0
 else if findV s st.join=findV s st.table then 51
 else if findV s st.join<0 \/ colOf (tabAt s.tabs (findV s st.table)) st.left<0 \/ colOf (tabAt s.tabs (findV s st.join)) st.right<0 then 50 else 0
def fromT (s:StV) (st:Stmt):Tab :=
 if strNil st.join then tabAt s.tabs (findV s st.table)
 else { tabAt s.tabs (findV s st.table) with cols:=(tabAt s.tabs (findV s st.table)).cols ++ (tabAt s.tabs (findV s st.join)).cols }
def fromR (s:StV) (st:Stmt):List (List Val) :=
 if strNil st.join then rowsAt s.rows (findV s st.table)
 else joinR (rowsAt s.rows (findV s st.table)) (rowsAt s.rows (findV s st.join)) (colOf (tabAt s.tabs (findV s st.table)) st.left) (colOf (tabAt s.tabs (findV s st.join)) st.right)
def aggStep (agg:Int) (out v:Val):Val :=
 if v.kind=0 then out else if out.kind=0 then v
 else if agg=2 then { out with n:=wrap64 (out.n+v.n) }
 else if (agg=3/\cmpV v out<0) \/ (agg=4/\0<cmpV v out) then v else out
def aggV (agg:Int) (rows:List (List Val)) (told:List Int):Val :=
 if agg=1 then ⟨1,rows.length,noStr⟩ else rows.foldl (fun out r=>aggStep agg out (valAt r (told.headD 0))) val0
def sortBy {α:Type} (f:α->α->Int) (L:List α):List α:=L.mergeSort fun a b=>decide (f a b<=0)
def anyNeg (L:List Int):Bool:=L.any fun n=>decide (n=-1)
def queryE (s:StV) (st:Stmt):Int :=
 if st.agg<0 \/ 4<st.agg \/ (0<st.agg/\(st.names.length:Int) ≠ if 1<st.agg then 1 else 0) then 1
 else if fromE s st ≠ 0 then fromE s st
 else if anyNeg (st.names.map (colOf (fromT s st))) then 50
 else if st.agg=2/\kindAt (fromT s st).cols ((st.names.map (colOf (fromT s st))).headD 0) ≠ 1 then 52
 else if lacksB (fromT s st) st.wher then 50
 else if 0<st.agg then 0
 else if anyNeg (st.order.map (colOf (fromT s st))) then 50
 else if 400<((fromR s st).filter (fitsW (fromT s st) st.wher)).length then 2 else 0
def queryRows (T:Tab) (st:Stmt) (L:List (List Val)):List (List Val) :=
 (sortBy cmpR (L.map fun r=>(st.order.map (colOf T) ++ st.names.map (colOf T)).map (valAt r))).map (·.drop st.order.length)
def queryA (s:StV) (st:Stmt):AnsV :=
 if 0<st.agg then ⟨0,[[aggV st.agg ((fromR s st).filter (fitsW (fromT s st) st.wher)) (st.names.map (colOf (fromT s st)))]],1⟩
 else ⟨0,queryRows (fromT s st) st ((fromR s st).filter (fitsW (fromT s st) st.wher)),((fromR s st).filter (fitsW (fromT s st) st.wher)).length⟩
def defineS (s:StV) (st:Stmt):StV:=⟨(catV s.tabs st).2,s.rows ++ List.replicate ((catV s.tabs st).2.length - s.rows.length) []⟩
def insertE (s:StV) (st:Stmt):Int:=if findV s st.table<0 then 50 else checkV (tabAt s.tabs (findV s st.table)) st.row
def insertS (s:StV) (st:Stmt):StV:=⟨s.tabs,s.rows.modify (findV s st.table).toNat (· ++ [st.row])⟩
def changeS (s:StV) (st:Stmt):StV:=⟨s.tabs,s.rows.set (findV s st.table).toNat (changeRows s st)⟩
def stepE (s:StV) (st:Stmt):Int :=
 if st.kind=1 \/ st.kind=2 \/ st.kind=3 then (catV s.tabs st).1
 else if st.kind=4 then insertE s st
 else if st.kind=5 \/ st.kind=6 then changeE s st
 else if st.kind=7 then queryE s st else 0
def stepS (s:StV) (st:Stmt):StV :=
 if stepE s st ≠ 0 then s
 else if st.kind=1 \/ st.kind=2 \/ st.kind=3 then defineS s st
 else if st.kind=4 then insertS s st
 else if st.kind=5 \/ st.kind=6 then changeS s st else s
def stepA (s:StV) (st:Stmt):AnsV :=
 if stepE s st ≠ 0 then ansE (stepE s st)
 else if st.kind=4 then ⟨0,[],1⟩
 else if st.kind=5 \/ st.kind=6 then ⟨0,[],changeN s st⟩
 else if st.kind=7 then queryA s st else ans0
end
section
open Go Go.RowKit
theorem sEq_self (a:ByteArray):sEq a a=true:=(sEq_iff a a).2 rfl
theorem sEq_ne {a b:ByteArray} (h:a ≠ b):sEq a b=false:=by
 cases hc:sEq a b
 · rfl
 · exact absurd ((sEq_iff a b).1 hc) h
theorem twiceB_iff:∀ l:List ByteArray,twiceB l=false ↔ l.Nodup
 | []=>by simp [twiceB]
 | x :: l=>by
  rw [twiceB,List.nodup_cons,Bool.or_eq_false_iff,twiceB_iff l,List.any_eq_false]
  constructor
  · rintro ⟨h1,h2⟩
    exact ⟨fun hx=>absurd (sEq_self x) (by simpa using h1 x hx),h2⟩
  · rintro ⟨h1,h2⟩
    exact ⟨fun y hy=>by
     have:x ≠ y:=fun e=>h1 (e ▸ hy)
     simp [sEq_ne this],h2⟩
theorem nodup_get {α:Type} {l:List α} (h:l.Nodup) {i j:Nat} (hi:i<l.length) (hj:j<l.length) (e:l[i]=l[j]):i=j:=(List.getElem_inj h).1 e
theorem colOf_at {T:Tab} (h:(T.cols.map (·.1)).Nodup) {i:Nat} (hi:i<T.cols.length):colOf T T.cols[i].1=i:=by
 refine idxOf_hit hi (sEq_self _) fun t ht=>sEq_ne fun e=>?_
 have:=nodup_get h (i:=t) (j:=i) (by simpa using (by omega:t<T.cols.length)) (by simpa using hi) (by simpa using e)
 omega
theorem colOf_lt (T:Tab) (s:ByteArray):-1<=colOf T s/\colOf T s<T.cols.length:=idxOf_bd _ _
theorem findT_lt (C:List Tab) (s:ByteArray):-1<=findT C s/\findT C s<C.length:=idxOf_bd _ _
theorem findT_none {C:List Tab} {s:ByteArray} (h:∀ t ∈ C,t.name ≠ s):findT C s=-1:=idxOf_miss fun t ht=>sEq_ne (h _ (List.getElem_mem ht))
structure IxOk (n:Nat) (x:Ix):Prop where
 name:namedB x.name=true
 len:1<=x.cols.length/\x.cols.length<=6
 root:x.root=0
 once:x.cols.Nodup
 rng:∀ c ∈ x.cols,0<=c/\c<(n:Int)
structure TabOk (t:Tab):Prop where
 name:namedB t.name=true
 len:1<=t.cols.length/\t.cols.length<=6
 names:∀ c ∈ t.cols,namedB c.1=true
 kinds:∀ c ∈ t.cols,c.2=1 \/ c.2=2
 once:(t.cols.map (·.1)).Nodup
 ixs:t.idx.length<=4
 ix:∀ x ∈ t.idx,IxOk t.cols.length x
def ixNames (C:List Tab):List ByteArray:=C.flatMap fun t=>t.idx.map (·.name)
structure CatOk (C:List Tab):Prop where
 len:C.length<=8
 tab:∀ t ∈ C,TabOk t
 id:∀ i (h:i<C.length),C[i].id=i+1
 once:(C.map (·.name)).Nodup
 ix:(ixNames C).Nodup
def tabS (T:Tab):Stmt:={ stmt0 with kind:=1,table:=T.name,cols:=T.cols }
def ixS (T:Tab) (x:Ix):Stmt:={ stmt0 with kind:=2,table:=T.name,name:=x.name,names:=x.cols.map fun n=>(T.cols.getD n.toNat (noStr,0)).1 }
def partC (C:List Tab) (k j:Nat) (T:Tab):List Tab:=C.take k ++ [{ T with idx:=T.idx.take j }]
theorem any_false {α:Type} {p:α->Bool} {l:List α} (h:∀ x ∈ l,p x=false):l.any p=false:=by
 rw [List.any_eq_false]
 intro x hx
 rw [h x hx];decide
theorem create_again {C:List Tab} (h:CatOk C) {k:Nat} (hk:k<C.length):createE (C.take k) (tabS C[k])=0/\createT (C.take k) (tabS C[k])=partC C k 0 C[k]:=by
 have ht:=h.tab _ (List.getElem_mem hk)
 have h1:=ht.len
 have h2:=h.len
 constructor
 · unfold createE tabS
   simp only
   rw [if_neg,if_neg,if_neg,if_neg]
   · rw [List.length_take];omega
   · rw [Bool.or_eq_true,not_or,(twiceB_iff _).2 ht.once,findT_none]
     · simp
     · intro t htm e
       obtain ⟨i,hi,rfl⟩:=List.getElem_of_mem htm
       rw [List.length_take] at hi
       rw [List.getElem_take] at e
       have:=nodup_get h.once (i:=i) (j:=k) (by simp;omega) (by simpa using hk) (by simpa using e)
       omega
   · rw [any_false]
     · simp
     · intro c hc
       rcases ht.kinds c hc with e|e <;> rw [e] <;> rfl
   · rw [ht.name,any_false]
     · simp only [Bool.not_true,Bool.false_or,Bool.or_false,Bool.or_eq_true,decide_eq_true_eq];omega
     · intro c hc
       rw [ht.names c hc];rfl
 · unfold createT tabS partC
   have e:=h.id k hk
   simp only [List.length_take,Nat.min_eq_left (Nat.le_of_lt hk),List.take_zero]
   rw [<- e]
theorem names_at {T:Tab} {x:Ix} (hx:IxOk T.cols.length x) (ht:(T.cols.map (·.1)).Nodup):(x.cols.map fun n=>(T.cols.getD n.toNat (noStr,0)).1).map (colOf T)=x.cols:=by
 rw [List.map_map]
 conv=>rhs;rw [<- List.map_id x.cols]
 refine List.map_congr_left fun n hn=>?_
 obtain ⟨h0,h1⟩:=hx.rng n hn
 have hl:n.toNat<T.cols.length:=by omega
 show colOf T (T.cols.getD n.toNat (noStr,0)).1=n
 rw [List.getD_eq_getElem?_getD,List.getElem?_eq_getElem hl,Option.getD_some,colOf_at ht hl]
 omega
theorem names_once {T:Tab} {x:Ix} (hx:IxOk T.cols.length x) (ht:(T.cols.map (·.1)).Nodup):(x.cols.map fun n=>(T.cols.getD n.toNat (noStr,0)).1).Nodup:=by
 have h:=hx.once
 rw [<- names_at hx ht] at h
 exact List.Pairwise.of_map (S:=fun a b=>a ≠ b) (colOf T) (fun a b hab e=>hab (by rw [e])) h
theorem tabAt_last {C:List Tab} {T:Tab}:tabAt (C ++ [T]) (C.length:Int)=T:=by
 unfold tabAt
 rw [Int.toNat_natCast,List.getD_eq_getElem?_getD,List.getElem?_append_right (jR _)]
 simp
theorem find_last {C:List Tab} {T:Tab} (h:∀ t ∈ C,t.name ≠ T.name):findT (C ++ [T]) T.name=C.length:=by
 refine idxOf_hit (k:=C.length) (by simp) (by simp [sEq_self]) fun t ht=>?_
 rw [List.getElem_append_left ht]
 exact sEq_ne (h _ (List.getElem_mem ht))
theorem modify_last {α:Type} {C:List α} {x:α} (f:α->α):(C ++ [x]).modify C.length f=C ++ [f x]:=by
 induction C with
 | nil=>rfl
 | cons y C ih=>simpa using ih
theorem index_again {C:List Tab} (h:CatOk C) {k:Nat} (hk:k<C.length) {j:Nat} (hj:j<C[k].idx.length) :
 indexE (partC C k j C[k]) (ixS C[k] C[k].idx[j])=0/\indexT (partC C k j C[k]) (ixS C[k] C[k].idx[j])=partC C k (j+1) C[k]:=by
 have ht:=h.tab _ (List.getElem_mem hk)
 have hx:=ht.ix _ (List.getElem_mem hj)
 have h1:=hx.len
 have h2:=ht.ixs
 have hkl:(C.take k).length=k:=by rw [List.length_take];omega
 have hbef:∀ t ∈ C.take k,t.name ≠ C[k].name:=by
  intro t htm e
  obtain ⟨i,hi,rfl⟩:=List.getElem_of_mem htm
  rw [hkl] at hi
  rw [List.getElem_take] at e
  have:=nodup_get h.once (i:=i) (j:=k) (by simp;omega) (by simpa using hk) (by simpa using e)
  omega
 have hf:findT (partC C k j C[k]) C[k].name=(C.take k).length:=find_last (T:={ C[k] with idx:=C[k].idx.take j }) hbef
 have hta:tabAt (partC C k j C[k]) ((C.take k).length:Int)={ C[k] with idx:=C[k].idx.take j }:=tabAt_last
 have hcols:ixCols { C[k] with idx:=C[k].idx.take j } (ixS C[k] C[k].idx[j])=C[k].idx[j].cols:=by
  unfold ixCols ixS
  exact names_at hx ht.once
 constructor
 · unfold indexE
   have e1:(ixS C[k] C[k].idx[j]).name=C[k].idx[j].name:=rfl
   have e2:(ixS C[k] C[k].idx[j]).names.length=C[k].idx[j].cols.length:=by simp [ixS]
   have e3:(ixS C[k] C[k].idx[j]).table=C[k].name:=rfl
   have e4:(ixS C[k] C[k].idx[j]).names=C[k].idx[j].cols.map fun n=>(C[k].cols.getD n.toNat (noStr,0)).1:=rfl
   rw [e1,e2,e3,hf,hta,hcols,if_neg,if_neg,if_neg,if_neg,if_neg]
   · simp [List.length_take];omega
   · rw [Bool.or_eq_true,not_or,e4,(twiceB_iff _).2 (names_once hx ht.once)]
     refine ⟨by simp,?_⟩
     rw [any_false]
     · simp
     · intro t htm
       refine any_false fun i hi=>sEq_ne fun e=>?_
       unfold partC at htm
       rcases List.mem_append.1 htm with hm|hm
       · obtain ⟨i',hi',rfl⟩:=List.getElem_of_mem hm
         have hi'k:i'<k:=by rw [hkl] at hi';exact hi'
         rw [List.getElem_take] at hi
         have hnd:=h.ix
         unfold ixNames List.Nodup at hnd
         rw [List.pairwise_flatMap] at hnd
         have:=(List.pairwise_iff_getElem.1 hnd.2) i' k (by omega) hk hi'k
         exact this _ (List.mem_map.2 ⟨i,hi,e⟩) _ (List.mem_map.2 ⟨_,List.getElem_mem hj,rfl⟩) rfl
       · rw [List.mem_singleton.1 hm] at hi
         obtain ⟨q,hq,rfl⟩:=List.getElem_of_mem hi
         simp only [List.length_take] at hq
         simp only [List.getElem_take] at e
         have hnd:=h.ix
         unfold ixNames List.Nodup at hnd
         rw [List.pairwise_flatMap] at hnd
         have:=nodup_get (hnd.1 _ (List.getElem_mem hk)) (i:=q) (j:=j) (by simp;omega) (by simpa using hj) (by simpa using e)
         omega
   · rw [any_false]
     · simp
     · intro n hn
       have:=(hx.rng n hn).1
       simp;omega
   · rw [hkl];omega
   · rw [hx.name];simp only [Bool.not_true,Bool.false_or,Bool.or_eq_true,decide_eq_true_eq];omega
 · unfold indexT
   have e3:(ixS C[k] C[k].idx[j]).table=C[k].name:=rfl
   rw [e3,hf,Int.toNat_natCast]
   unfold partC
   rw [modify_last,hcols]
   have e5:(⟨(ixS C[k] C[k].idx[j]).name,C[k].idx[j].cols,0⟩:Ix)=C[k].idx[j]:=by
    have:=hx.root
    cases hc:C[k].idx[j]
    rw [hc] at this
    simp only at this
    subst this
    rfl
   simp only [e5]
   rw [List.take_succ_eq_append_getElem hj]
end
section
open Go Go.RowKit
theorem or4_false {a b c d:Bool} (h:(a || b || c || d)=false):a=false/\b=false/\c=false/\d=false:=by
 cases a <;> cases b <;> cases c <;> cases d <;> simp_all
theorem create_ok {C:List Tab} {s:Stmt} (h:CatOk C) (he:createE C s=0):CatOk (createT C s):=by
 unfold createE at he
 split at he
 · cases he
 · rename_i h1
   split at he
   · cases he
   · rename_i h2
     split at he
     · cases he
     · rename_i h3
       split at he
       · cases he
       · rename_i h4
         simp only [Bool.not_eq_true] at h1 h2 h3
         obtain ⟨e1,e2,e3,e4⟩:=or4_false h1
         rw [Bool.or_eq_false_iff] at h3
         obtain ⟨f1,f2⟩:=h3
         have f2:=of_decide_eq_false f2
         have hT:TabOk ⟨C.length+1,s.table,s.cols,[]⟩:=by
          refine ⟨by simpa using e1,?_,fun c hc=>?_,fun c hc=>?_,(twiceB_iff _).1 f1,Nat.zero_le _,fun x hx=>by cases hx⟩
          · have:=of_decide_eq_false e2;have:=of_decide_eq_false e3;simp only;omega
          · simpa using (List.any_eq_false.1 e4) c hc
          · have:=(List.any_eq_false.1 h2) c hc
            simp at this
            by_cases hk:c.2=1
            · exact Or.inl hk
            · exact Or.inr (this hk)
         unfold createT
         refine ⟨?_,fun t ht=>?_,fun i hi=>?_,?_,?_⟩
         · have:=h.len;simp;omega
         · rcases List.mem_append.1 ht with ht|ht
           · exact h.tab t ht
           · rw [List.mem_singleton.1 ht];exact hT
         · by_cases hc:i<C.length
           · rw [List.getElem_append_left hc];exact h.id i hc
           · obtain rfl:i=C.length:=by simp at hi;omega
             simp
         · rw [List.map_append,List.nodup_append]
           refine ⟨h.once,by simp,fun a ha b hb e=>?_⟩
           simp at hb
           obtain ⟨t,ht,rfl⟩:=List.mem_map.1 ha
           have:=idxOf_neg (fun t:Tab=>sEq t.name s.table) C (by unfold findT at f2;omega) t ht
           rw [e,hb,sEq_self] at this
           cases this
         · have:ixNames (C ++ [⟨C.length+1,s.table,s.cols,[]⟩])=ixNames C:=by unfold ixNames;simp
           rw [this];exact h.ix
theorem colOf_name {T:Tab} {s:ByteArray} (h:0<=colOf T s):∃ (i:Nat) (hi:i<T.cols.length),colOf T s=i/\T.cols[i].1=s:=by
 obtain ⟨i,hi,h1,h2,_⟩:=idxOf_spec (fun c:ByteArray × Int=>sEq c.1 s) T.cols h
 exact ⟨i,hi,h1,(sEq_iff _ _).1 h2⟩
theorem cols_once {T:Tab} {l:List ByteArray} (hl:l.Nodup) (h:∀ s ∈ l,0<=colOf T s):(l.map (colOf T)).Nodup:=by
 induction l with
 | nil=>simp
 | cons a l ih =>
  rw [List.nodup_cons] at hl
  rw [List.map_cons,List.nodup_cons]
  refine ⟨fun hm=>?_,ih hl.2 (fun s hs=>h s (List.mem_cons_of_mem _ hs))⟩
  obtain ⟨b,hb,e⟩:=List.mem_map.1 hm
  obtain ⟨i,hi,h1,h2⟩:=colOf_name (h a List.mem_cons_self)
  obtain ⟨j,hj,h3,h4⟩:=colOf_name (h b (List.mem_cons_of_mem _ hb))
  have:i=j:=by omega
  subst this
  exact hl.1 (by rw [<- h2,h4];exact hb)
theorem tab_found {C:List Tab} {s:ByteArray} (h:¬ findT C s<0):∃ (k:Nat) (hk:k<C.length),findT C s=k/\tabAt C (findT C s)=C[k]:=by
 have hb:=findT_lt C s
 refine ⟨(findT C s).toNat,by omega,by omega,?_⟩
 unfold tabAt
 rw [List.getD_eq_getElem?_getD,List.getElem?_eq_getElem (by omega)]
 rfl
theorem set_map_same {α β:Type} {C:List α} {k:Nat} {y:α} (f:α->β) (hk:k<C.length) (h:f y=f C[k]):(C.set k y).map f=C.map f:=by
 rw [List.map_set,h]
 apply List.ext_getElem
 · simp
 · intro i h1 h2
   rw [List.getElem_set]
   by_cases e:k=i
   · subst e;simp
   · simp [e]
theorem modify_set {α:Type} {C:List α} {k:Nat} (f:α->α) (hk:k<C.length):C.modify k f=C.set k (f C[k]):=by
 induction C generalizing k with
 | nil=>cases hk
 | cons x C ih =>
  cases k with
  | zero=>rfl
  | succ k=>simpa using ih (by simpa using hk)
theorem mem_set_cases {α:Type} {C:List α} {k:Nat} {y t:α} (h:t ∈ C.set k y):t=y \/ t ∈ C:=by
 obtain ⟨i,hi,rfl⟩:=List.getElem_of_mem h
 rw [List.getElem_set]
 split
 · exact Or.inl rfl
 · exact Or.inr (List.getElem_mem _)
theorem set_id {C:List Tab} (h:CatOk C) {k:Nat} {y:Tab} (hk:k<C.length) (hy:y.id=C[k].id):∀ i (hi:i<(C.set k y).length),(C.set k y)[i].id=i+1:=by
 intro i hi
 rw [List.getElem_set]
 by_cases e:k=i
 · subst e;simp only [if_true];rw [hy];exact h.id k hk
 · simp only [e,if_false];exact h.id i (by simpa using hi)
theorem flat_split {α β:Type} {C:List α} {k:Nat} (f:α->List β) (hk:k<C.length):C.flatMap f=(C.take k).flatMap f ++ (f C[k] ++ (C.drop (k+1)).flatMap f):=by
 conv=>lhs;rw [<- List.take_append_drop k C,List.drop_eq_getElem_cons hk]
 rw [List.flatMap_append,List.flatMap_cons]
theorem flat_split_set {α β:Type} {C:List α} {k:Nat} {y:α} (f:α->List β) (hk:k<C.length):(C.set k y).flatMap f=(C.take k).flatMap f ++ (f y ++ (C.drop (k+1)).flatMap f):=by
 have hk':k<(C.set k y).length:=by simpa using hk
 rw [flat_split f hk',List.take_set_of_le (jR _),List.drop_set_of_lt (Nat.lt_succ_self _),List.getElem_set_self]
theorem index_ok {C:List Tab} {s:Stmt} (h:CatOk C) (he:indexE C s=0):CatOk (indexT C s):=by
 unfold indexE at he
 split at he
 · cases he
 · rename_i h1
   split at he
   · cases he
   · rename_i h2
     obtain ⟨k,hk,e1,e2⟩:=tab_found h2
     rw [e2] at he
     split at he
     · cases he
     · rename_i h3
       split at he
       · cases he
       · rename_i h4
         split at he
         · cases he
         · rename_i h5
           simp only [Bool.not_eq_true] at h1 h3 h4
           rw [Bool.or_eq_false_iff,Bool.or_eq_false_iff] at h1
           rw [Bool.or_eq_false_iff] at h4
           obtain ⟨⟨f1,f2⟩,f3⟩:=h1
           have hT:=h.tab _ (List.getElem_mem hk)
           have hpos:∀ x ∈ s.names,0<=colOf C[k] x:=fun x hx=>by
            have:=(List.any_eq_false.1 h3) (colOf C[k] x) (List.mem_map.2 ⟨x,hx,rfl⟩)
            have h7:=colOf_lt C[k] x
            simp at this
            omega
           have hx:IxOk C[k].cols.length ⟨s.name,ixCols C[k] s,0⟩:=by
            refine ⟨by simpa using f1,?_,rfl,cols_once ((twiceB_iff _).1 h4.1) hpos,fun c hc=>?_⟩
            · have:=of_decide_eq_false f2;have:=of_decide_eq_false f3
              unfold ixCols
              rw [List.length_map];omega
            · obtain ⟨x,hx,rfl⟩:=List.mem_map.1 hc
              exact ⟨hpos x hx,(colOf_lt _ _).2⟩
           have hNew:TabOk { C[k] with idx:=C[k].idx ++ [⟨s.name,ixCols C[k] s,0⟩] }:=by
            refine ⟨hT.name,hT.len,hT.names,hT.kinds,hT.once,?_,fun x hx'=>?_⟩
            · have:=hT.ixs
              simp only [List.length_append,List.length_singleton];omega
            · rcases List.mem_append.1 hx' with hx'|hx'
              · exact hT.ix x hx'
              · rw [List.mem_singleton.1 hx'];exact hx
           unfold indexT
           rw [e1,Int.toNat_natCast,modify_set _ hk]
           refine ⟨by simpa using h.len,fun t ht=>?_,set_id h hk rfl,?_,?_⟩
           · rcases mem_set_cases ht with rfl|ht
             · exact hNew
             · exact h.tab t ht
           · refine (set_map_same (fun t:Tab=>t.name) hk ?_).symm ▸ h.once;rfl
           · have hn:=h.ix
             unfold ixNames at hn ⊢
             rw [flat_split _ hk] at hn
             rw [flat_split_set _ hk]
             have hnew:s.name ∉ ixNames C:=by
              intro hm
              obtain ⟨t,ht,hm⟩:=List.mem_flatMap.1 hm
              obtain ⟨x,hx,e⟩:=List.mem_map.1 hm
              have:=(List.any_eq_false.1 h4.2) t ht
              rw [Bool.not_eq_true,List.any_eq_false] at this
              have:=this x hx
              rw [e,sEq_self] at this
              exact this rfl
             unfold ixNames at hnew
             rw [flat_split _ hk] at hnew
             simp only [List.map_append,List.map_cons,List.map_nil]
             have hp:(((C.take k).flatMap fun t=>t.idx.map fun x=>x.name) ++ ((C[k].idx.map (fun x=>x.name) ++ [s.name]) ++ (C.drop (k+1)).flatMap fun t=>t.idx.map fun x=>x.name)).Perm (s.name :: (((C.take k).flatMap fun t=>t.idx.map fun x=>x.name) ++ (C[k].idx.map (fun x=>x.name) ++ (C.drop (k+1)).flatMap fun t=>t.idx.map fun x=>x.name))):=by
              rw [<- List.append_assoc,<- List.append_assoc,<- List.append_assoc]
              rw [List.append_assoc _ [s.name] _]
              exact List.perm_middle
             rw [hp.nodup_iff,List.nodup_cons]
             exact ⟨hnew,hn⟩
theorem rename_ok {C:List Tab} {s:Stmt} (h:CatOk C) (he:renameE C s=0):CatOk (renameT C s):=by
 unfold renameE at he
 split at he
 · cases he
 · rename_i h1
   split at he
   · cases he
   · rename_i h2
     obtain ⟨k,hk,e1,e2⟩:=tab_found h2
     rw [e2] at he
     split at he
     · cases he
     · rename_i h3
       split at he
       · cases he
       · rename_i h4
         simp only [Bool.not_eq_true,Bool.not_eq_false'] at h1
         have hT:=h.tab _ (List.getElem_mem hk)
         obtain ⟨n,hn,f1,f2⟩:=colOf_name (T:=C[k]) (s:=s.name) (by omega)
         have hcols:C[k].cols.modify (colOf C[k] s.name).toNat (fun c=>(s.join,c.2))=C[k].cols.set n (s.join,C[k].cols[n].2):=by rw [f1,Int.toNat_natCast,modify_set _ hn]
         have hno:∀ c ∈ C[k].cols,c.1 ≠ s.join:=fun c hc e=>by
          have:=idxOf_neg (fun c:ByteArray × Int=>sEq c.1 s.join) C[k].cols (by unfold colOf at h4;omega) c hc
          rw [e,sEq_self] at this
          cases this
         have hNew:TabOk { C[k] with cols:=C[k].cols.modify (colOf C[k] s.name).toNat (fun c=>(s.join,c.2)) }:=by
          rw [hcols]
          refine ⟨hT.name,by simpa using hT.len,fun c hc=>?_,fun c hc=>?_,?_,hT.ixs,fun x hx=>?_⟩
          · rcases mem_set_cases hc with rfl|hc
            · simpa using h1
            · exact hT.names c hc
          · rcases mem_set_cases hc with rfl|hc
            · exact hT.kinds C[k].cols[n] (List.getElem_mem hn)
            · exact hT.kinds c hc
          · simp only
            rw [List.map_set]
            refine List.pairwise_iff_getElem.2 fun i j hi hj hij e=>?_
            have hi':i<C[k].cols.length:=by simpa using hi
            have hj':j<C[k].cols.length:=by simpa using hj
            simp only [List.getElem_set,List.getElem_map] at e
            by_cases a:n=i
            · rw [if_pos a,if_neg (by omega)] at e
              exact hno _ (List.getElem_mem hj') e.symm
            · rw [if_neg a] at e
              by_cases b:n=j
              · rw [if_pos b] at e
                exact hno _ (List.getElem_mem hi') e
              · rw [if_neg b] at e
                have:=nodup_get hT.once (i:=i) (j:=j) (by simpa using hi') (by simpa using hj') (by simpa using e)
                omega
          · have:=hT.ix x hx
            exact ⟨this.name,this.len,this.root,this.once,by simpa using this.rng⟩
         unfold renameT
         rw [e1,Int.toNat_natCast,modify_set _ hk]
         refine ⟨by simpa using h.len,fun t ht=>?_,set_id h hk rfl,?_,?_⟩
         · rcases mem_set_cases ht with rfl|ht
           · exact hNew
           · exact h.tab t ht
         · refine (set_map_same (fun t:Tab=>t.name) hk ?_).symm ▸ h.once;rfl
         · have hn:=h.ix
           unfold ixNames at hn ⊢
           rw [flat_split _ hk] at hn
           rw [flat_split_set _ hk]
           exact hn
theorem catV_ok {C:List Tab} {s:Stmt} (h:CatOk C):CatOk (catV C s).2:=by
 unfold catV
 split
 · simp only
   split
   · rename_i h1;exact create_ok h h1
   · exact h
 · split
   · simp only
     split
     · rename_i h1;exact index_ok h h1
     · exact h
   · split
     · simp only
       split
       · rename_i h1;exact rename_ok h h1
       · exact h
     · exact h
end
section
open Go Go.RowKit
theorem sEq_fun:sEq=fun a b=>decide (a.data.toList=b.data.toList):=by
 funext a b
 unfold sEq
 rw [toList_data,toList_data]
 by_cases h:a.data.toList=b.data.toList
 · rw [h];simp
 · rw [decide_eq_false h];simpa using h
def sT:ByteArray:=⟨#[116]⟩
def sU:ByteArray:=⟨#[117]⟩
def sA:ByteArray:=⟨#[97]⟩
def sB:ByteArray:=⟨#[98]⟩
def sC:ByteArray:=⟨#[99]⟩
def colsT:List (ByteArray × Int):=[(sA,1),(sB,2)]
def colsU:List (ByteArray × Int):=[(sB,2),(sC,1)]
def tT:Tab:=⟨1,sT,colsT,[]⟩
def tU:Tab:=⟨2,sU,colsU,[]⟩
def twoS (A B:List (List Val)):StV:=⟨[tT,tU],[A,B]⟩
theorem stepE_cat {s:StV} {st:Stmt} (h:st.kind=1 \/ st.kind=2 \/ st.kind=3):stepE s st=(catV s.tabs st).1:=by unfold stepE;rw [if_pos h]
theorem stepE_ins {s:StV} {st:Stmt} (h:st.kind=4):stepE s st=insertE s st:=by unfold stepE;rw [if_neg (by omega),if_pos h]
theorem stepE_chg {s:StV} {st:Stmt} (h:st.kind=5 \/ st.kind=6):stepE s st=changeE s st:=by unfold stepE;rw [if_neg (by omega),if_neg (by omega),if_pos h]
theorem stepE_qry {s:StV} {st:Stmt} (h:st.kind=7):stepE s st=queryE s st:=by unfold stepE;rw [if_neg (by omega),if_neg (by omega),if_neg (by omega),if_pos h]
theorem stepS_cat {s:StV} {st:Stmt} (h:st.kind=1 \/ st.kind=2 \/ st.kind=3) (e:stepE s st=0):stepS s st=defineS s st:=by unfold stepS;rw [if_neg (by omega),if_pos h]
theorem stepS_ins {s:StV} {st:Stmt} (h:st.kind=4) (e:stepE s st=0):stepS s st=insertS s st:=by unfold stepS;rw [if_neg (by omega),if_neg (by omega),if_pos h]
theorem stepS_chg {s:StV} {st:Stmt} (h:st.kind=5 \/ st.kind=6) (e:stepE s st=0):stepS s st=changeS s st:=by unfold stepS;rw [if_neg (by omega),if_neg (by omega),if_neg (by omega),if_pos h]
theorem stepS_qry {s:StV} {st:Stmt} (h:st.kind=7):stepS s st=s:=by
 unfold stepS
 split
 · rfl
 · rw [if_neg (by omega),if_neg (by omega),if_neg (by omega)]
theorem stepS_err {s:StV} {st:Stmt} (e:stepE s st ≠ 0):stepS s st=s:=by unfold stepS;rw [if_pos e]
theorem stepA_err {s:StV} {st:Stmt} (e:stepE s st ≠ 0):stepA s st=ansE (stepE s st):=by unfold stepA;rw [if_pos e]
theorem stepA_cat {s:StV} {st:Stmt} (h:st.kind=1 \/ st.kind=2 \/ st.kind=3) (e:stepE s st=0):stepA s st=ans0:=by unfold stepA;rw [if_neg (by omega),if_neg (by omega),if_neg (by omega),if_neg (by omega)]
theorem stepA_ins {s:StV} {st:Stmt} (h:st.kind=4) (e:stepE s st=0):stepA s st=⟨0,[],1⟩:=by unfold stepA;rw [if_neg (by omega),if_pos h]
theorem stepA_chg {s:StV} {st:Stmt} (h:st.kind=5 \/ st.kind=6) (e:stepE s st=0):stepA s st=⟨0,[],changeN s st⟩:=by unfold stepA;rw [if_neg (by omega),if_neg (by omega),if_pos h]
theorem stepA_qry {s:StV} {st:Stmt} (h:st.kind=7) (e:stepE s st=0):stepA s st=queryA s st:=by unfold stepA;rw [if_neg (by omega),if_neg (by omega),if_neg (by omega),if_pos h]
def mkS (name:ByteArray) (cols:List (ByteArray × Int)):Stmt:={ stmt0 with kind:=1,table:=name,cols:=cols }
def insS (name:ByteArray) (r:List Val):Stmt:={ stmt0 with kind:=4,table:=name,row:=r }
theorem begun_one:stepE ⟨[],[]⟩ (mkS sT colsT)=0/\stepS ⟨[],[]⟩ (mkS sT colsT)=⟨[tT],[[]]⟩:=by
 have h:createE [] (mkS sT colsT)=0:=by
  unfold createE findT twiceB twiceB twiceB
  rw [sEq_fun]
  decide
 have e:stepE ⟨[],[]⟩ (mkS sT colsT)=0:=by
  rw [stepE_cat (Or.inl rfl)]
  unfold catV
  rw [if_pos (show (mkS sT colsT).kind=1 from rfl)]
  exact h
 refine ⟨e,?_⟩
 rw [stepS_cat (Or.inl rfl) e]
 unfold defineS catV
 rw [if_pos (show (mkS sT colsT).kind=1 from rfl),if_pos h]
 rfl
theorem begun_two:stepE ⟨[tT],[[]]⟩ (mkS sU colsU)=0/\stepS ⟨[tT],[[]]⟩ (mkS sU colsU)=twoS [] []:=by
 have h:createE [tT] (mkS sU colsU)=0:=by
  unfold createE findT twiceB twiceB twiceB
  rw [sEq_fun]
  decide
 have e:stepE ⟨[tT],[[]]⟩ (mkS sU colsU)=0:=by
  rw [stepE_cat (Or.inl rfl)]
  unfold catV
  rw [if_pos (show (mkS sU colsU).kind=1 from rfl)]
  exact h
 refine ⟨e,?_⟩
 rw [stepS_cat (Or.inl rfl) e]
 unfold defineS catV
 rw [if_pos (show (mkS sU colsU).kind=1 from rfl),if_pos h]
 rfl
theorem findT_t (A B:List (List Val)):findV (twoS A B) sT=0:=by
 unfold findV
 rw [sEq_fun]
 rfl
theorem findT_u (A B:List (List Val)):findV (twoS A B) sU=1:=by
 unfold findV
 rw [sEq_fun]
 rfl
theorem colOf_f (T:Tab) (s:ByteArray):colOf T s=idxOf (fun c=>decide (c.1.data.toList=s.data.toList)) T.cols:=by
 unfold colOf
 rw [sEq_fun]
theorem col_ta:colOf tT sA=0:=by rw [colOf_f];rfl
theorem col_tb:colOf tT sB=1:=by rw [colOf_f];rfl
theorem cat_nil:CatOk [] where
 len:=by decide
 tab:=fun t h=>absurd h List.not_mem_nil
 id:=fun i h=>absurd h (Nat.not_lt_zero _)
 once:=List.nodup_nil
 ix:=List.nodup_nil
theorem cat_two:CatOk [tT,tU]:=by
 have h1:CatOk (catV [] (mkS sT colsT)).2:=catV_ok cat_nil
 have h2:=catV_ok (s:=mkS sU colsU) h1
 have e1:=begun_one.2
 have e2:=begun_two.2
 have f1:(catV [] (mkS sT colsT)).2=[tT]:=by
  rw [stepS_cat (Or.inl rfl) begun_one.1] at e1
  exact congrArg StV.tabs e1
 have f2:(catV [tT] (mkS sU colsU)).2=[tT,tU]:=by
  rw [stepS_cat (Or.inl rfl) begun_two.1] at e2
  exact congrArg StV.tabs e2
 rw [f1,f2] at h2
 exact h2
def IntV (v:Val):Prop:=v.kind=0 \/ v.kind=1
def TextV (v:Val):Prop:=v.kind=0 \/ (v.kind=2/\v.s.size<=40)
theorem ins_t {A B:List (List Val)} {a b:Val} (ha:IntV a) (hb:TextV b):stepE (twoS A B) (insS sT [a,b])=0/\stepS (twoS A B) (insS sT [a,b])=twoS (A ++ [[a,b]]) B:=by
 have e:stepE (twoS A B) (insS sT [a,b])=0:=by
  rw [stepE_ins rfl]
  unfold insertE
  rw [show (insS sT [a,b]).table=sT from rfl,findT_t,if_neg (by decide)]
  show checkV tT [a,b]=0
  unfold checkV
  rw [if_neg (by show ¬ (2:Nat) ≠ 2;decide),if_pos]
  simp only [tT,colsT,List.zip_cons_cons,List.zip_nil_right,List.all_cons,List.all_nil,Bool.and_true,rightB,knownB]
  rcases ha with ha|ha <;> rcases hb with hb|⟨hb,hs⟩ <;> simp [ha,hb] <;> omega
 refine ⟨e,?_⟩
 rw [stepS_ins rfl e]
 unfold insertS
 rw [show (insS sT [a,b]).table=sT from rfl,findT_t]
 rfl
theorem ins_u {A B:List (List Val)} {a b:Val} (ha:IntV a) (hb:TextV b):stepE (twoS A B) (insS sU [b,a])=0/\stepS (twoS A B) (insS sU [b,a])=twoS A (B ++ [[b,a]]):=by
 have e:stepE (twoS A B) (insS sU [b,a])=0:=by
  rw [stepE_ins rfl]
  unfold insertE
  rw [show (insS sU [b,a]).table=sU from rfl,findT_u,if_neg (by decide)]
  show checkV tU [b,a]=0
  unfold checkV
  rw [if_neg (by show ¬ (2:Nat) ≠ 2;decide),if_pos]
  simp only [tU,colsU,List.zip_cons_cons,List.zip_nil_right,List.all_cons,List.all_nil,Bool.and_true,rightB,knownB]
  rcases ha with ha|ha <;> rcases hb with hb|⟨hb,hs⟩ <;> simp [ha,hb] <;> omega
 refine ⟨e,?_⟩
 rw [stepS_ins rfl e]
 unfold insertS
 rw [show (insS sU [b,a]).table=sU from rfl,findT_u]
 rfl
end
section
open Go Go.RowKit
def cntS (table join left right:ByteArray) (W:List Cond):Stmt:={ stmt0 with kind:=7,table:=table,wher:=W,join:=join,left:=left,right:=right,agg:=1 }
structure One (A B:List (List Val)) (name:ByteArray) (T:Tab) (R:List (List Val)):Prop where
 f:0<=findV (twoS A B) name
 t:tabAt [tT,tU] (findV (twoS A B) name)=T
 r:rowsAt [A,B] (findV (twoS A B) name)=R
theorem lacks_nil (T:Tab):lacksB T []=false:=rfl
theorem lacks_cons {T:Tab} {c:Cond} {W:List Cond} (h:0<=colOf T c.col) (hW:lacksB T W=false):lacksB T (c :: W)=false:=by
 unfold lacksB at *
 rw [List.any_cons,hW,Bool.or_false]
 exact decide_eq_false (by omega)
theorem fitsC_0 {T:Tab} {c:Cond} (h:colOf T c.col=0) (a:Val) (r:List Val):fitsC T (a :: r) c=fitsV a c.op c.val:=by
 unfold fitsC
 rw [h]
 simp
theorem fitsC_1 {T:Tab} {c:Cond} (h:colOf T c.col=1) (a b:Val) (r:List Val):fitsC T (a :: b :: r) c=fitsV b c.op c.val:=by
 unfold fitsC
 rw [h]
 simp
 intro _
 omega
def RowT (r:List Val):Prop:=∃ a b,r=[a,b]/\IntV a/\TextV b
def RowU (r:List Val):Prop:=∃ a b,r=[b,a]/\IntV a/\TextV b
def condA (op:Int) (v:Val):Cond:=⟨sA,op,v⟩
def condB (op:Int) (v:Val):Cond:=⟨sB,op,v⟩
def nullA (r:List Val):Bool:=decide ((valAt r 0).kind=0)
end
section
open Go Go.RowKit
theorem and_mask (x:Int) (m:Nat) (hm:m<=62):bits .and .i64 x ((2 ^ m - 1:Nat):Int)=x % ((2 ^ m:Nat):Int):=by
 have hp:2 ^ m<=2 ^ 62:=Nat.pow_le_pow_right (by omega) hm
 have hp0:0<2 ^ m:=Nat.pos_of_ne_zero (by simp)
 have hd:(18446744073709551616:Int)=((2 ^ m:Nat):Int) * ((2 ^ (64 - m):Nat):Int):=by
  rw [<- Int.natCast_mul,<- Nat.pow_add]
  have:m+(64 - m)=64:=by omega
  rw [this]
  rfl
 have e:(BitVec.ofInt 64 x &&& BitVec.ofInt 64 ((2 ^ m - 1:Nat):Int)).toNat=((x % 18446744073709551616).toNat) % 2 ^ m:=by
  rw [BitVec.toNat_and,BitVec.toNat_ofInt,BitVec.toNat_ofInt]
  have h1:(((2 ^ m - 1:Nat):Int) % ((2 ^ 64:Nat):Int)).toNat=2 ^ m - 1:=by
   have:((2 ^ m - 1:Nat):Int) % ((2 ^ 64:Nat):Int)=((2 ^ m - 1:Nat):Int):=Int.emod_eq_of_lt (by omega) (by omega)
   rw [this]
   omega
  rw [h1,Nat.and_two_pow_sub_one_eq_mod]
  rfl
 show IntKind.i64.wrap ((BitVec.ofInt 64 x &&& BitVec.ofInt 64 ((2 ^ m - 1:Nat):Int)).toNat:Int)=_
 rw [e,IntKind.wrap_i64]
 have h0:=Int.emod_nonneg x (show (18446744073709551616:Int) ≠ 0 by omega)
 have h2:((((x % 18446744073709551616).toNat % 2 ^ m:Nat)):Int)=x % ((2 ^ m:Nat):Int):=by
  rw [Int.natCast_emod,Int.toNat_of_nonneg h0,hd,Int.emod_emod_of_dvd _ ⟨_,rfl⟩]
 rw [h2]
 have h3:=Int.emod_nonneg x (show ((2 ^ m:Nat):Int) ≠ 0 by omega)
 have h4:=Int.emod_lt_of_pos x (show (0:Int)<((2 ^ m:Nat):Int) by omega)
 generalize x % ((2 ^ m:Nat):Int)=y at *
 omega
theorem mask16 (x:Int):bits .and .i64 x 65535=x % 65536:=and_mask x 16 (by omega)
def xyzB (j:Int):ByteArray:=if j=0 then ⟨#[120]⟩ else if j=1 then ⟨#[121]⟩ else ⟨#[122]⟩
theorem xyz_size (j:Int):(xyzB j).size=1:=by
 unfold xyzB
 split
 · rfl
 · split <;> rfl
def fillX (l:List Int) (k:Nat):Int:=l.getD k 0 % 65536
def fillV (x:Int):Val:=if x % 11=4 then val0 else ⟨1,x % 5,noStr⟩
def fillT (x:Int):Val:=if x % 13=6 then val0 else ⟨2,0,xyzB (x / 5 % 3)⟩
theorem fillV_int (x:Int):IntV (fillV x):=by
 unfold fillV
 split
 · exact Or.inl rfl
 · exact Or.inr rfl
theorem fillT_text (x:Int):TextV (fillT x):=by
 unfold fillT
 split
 · exact Or.inl rfl
 · exact Or.inr ⟨rfl,by rw [xyz_size];omega⟩
def fillA (l:List Int):Nat->List (List Val)
 | 0=>[]
 | k+1=>if k % 2=0 then fillA l k ++ [[fillV (fillX l k),fillT (fillX l k)]] else fillA l k
def fillB (l:List Int):Nat->List (List Val)
 | 0=>[]
 | k+1=>if k % 2=0 then fillB l k else fillB l k ++ [[fillT (fillX l k),fillV (fillX l k)]]
theorem fillA_row (l:List Int):∀ k,(∀ r ∈ fillA l k,RowT r)/\(fillA l k).length<=k
 | 0=>⟨fun r h=>absurd h List.not_mem_nil,jR _⟩
 | k+1=>by
  obtain ⟨h1,h2⟩:=fillA_row l k
  unfold fillA
  split
  · refine ⟨fun r hr=>?_,by rw [List.length_append];simp;omega⟩
    rcases List.mem_append.1 hr with hr|hr
    · exact h1 r hr
    · rw [List.mem_singleton.1 hr]
      exact ⟨_,_,rfl,fillV_int _,fillT_text _⟩
  · exact ⟨h1,by omega⟩
theorem fillB_row (l:List Int):∀ k,(∀ r ∈ fillB l k,RowU r)/\(fillB l k).length<=k
 | 0=>⟨fun r h=>absurd h List.not_mem_nil,jR _⟩
 | k+1=>by
  obtain ⟨h1,h2⟩:=fillB_row l k
  unfold fillB
  split
  · exact ⟨h1,by omega⟩
  · refine ⟨fun r hr=>?_,by rw [List.length_append];simp;omega⟩
    rcases List.mem_append.1 hr with hr|hr
    · exact h1 r hr
    · rw [List.mem_singleton.1 hr]
      exact ⟨_,_,rfl,fillV_int _,fillT_text _⟩
theorem rowT_len {r:List Val} (h:RowT r):r.length=2:=by obtain ⟨a,b,rfl,_⟩:=h;rfl
theorem rowU_len {r:List Val} (h:RowU r):r.length=2:=by obtain ⟨a,b,rfl,_⟩:=h;rfl
end
section
open Go Go.RowKit
def sX:ByteArray:=⟨#[120]⟩
def sY:ByteArray:=⟨#[121]⟩
def wh (n:Int):Val:=⟨1,n,noStr⟩
def tx (s:ByteArray):Val:=⟨2,0,s⟩
def san1:List (List Val):=[[wh 2,tx sX]]
def san2:List (List Val):=[[wh 2,tx sX],[wh 1,val0]]
def selS:Stmt:={ stmt0 with kind:=7,table:=sT,names:=[sB],order:=[sA] }
def sumS:Stmt:={ stmt0 with kind:=7,table:=sT,agg:=2,names:=[sA],wher:=[⟨sB,1,tx sY⟩] }
def updS:Stmt:={ stmt0 with kind:=5,table:=sT,sets:=[⟨sA,sA,wh 5⟩],wher:=[⟨sA,5,wh 1⟩] }
theorem sort_two {α:Type} (le:α->α->Bool) (x y:α):[x,y].mergeSort le=if le x y then [x,y] else [y,x]:=by
 simp [List.mergeSort,List.MergeSort.Internal.splitInTwo,List.splitAt,List.splitAt.go,List.merge]
theorem san_from {st:Stmt} (ht:st.table=sT) (hj:strNil st.join=true) (A B:List (List Val)):fromE (twoS A B) st=0/\fromT (twoS A B) st=tT/\fromR (twoS A B) st=A:=by
 unfold fromE fromT fromR
 rw [ht,findT_t,if_neg (by decide),if_pos hj,if_pos hj,if_pos hj]
 exact ⟨rfl,rfl,rfl⟩
theorem san_sel:stepA (twoS san2 []) selS=⟨0,[[val0],[tx sX]],2⟩:=by
 obtain ⟨h1,h2,h3⟩:=san_from (st:=selS) rfl rfl san2 []
 have hn:selS.names.map (colOf tT)=[1]:=by show [colOf tT sB]=[1];rw [col_tb]
 have ho:selS.order.map (colOf tT)=[0]:=by show [colOf tT sA]=[0];rw [col_ta]
 have hf:san2.filter (fitsW tT selS.wher)=san2:=rfl
 have e:stepE (twoS san2 []) selS=0:=by
  rw [stepE_qry rfl]
  unfold queryE
  rw [if_neg (by show ¬ ((0:Int)<0 \/ (4:Int)<0 \/ ((0:Int)<0/\_));omega),h1,h2,h3,hn,ho,hf]
  rfl
 rw [stepA_qry rfl e]
 unfold queryA
 rw [if_neg (by show ¬ (0:Int)<0;decide),h2,h3,hf]
 unfold queryRows sortBy
 rw [hn,ho]
 have hm:(san2.map fun r=>([0] ++ [1]:List Int).map (valAt r))=[[wh 2,tx sX],[wh 1,val0]]:=rfl
 rw [hm,sort_two,if_neg (by decide)]
 rfl
theorem san_sum:stepA (twoS san2 []) sumS=⟨0,[[val0]],1⟩:=by
 obtain ⟨h1,h2,h3⟩:=san_from (st:=sumS) rfl rfl san2 []
 have hn:sumS.names.map (colOf tT)=[0]:=by show [colOf tT sA]=[0];rw [col_ta]
 have hf:san2.filter (fitsW tT sumS.wher)=[]:=by
  have f:∀ a b:Val,fitsW tT sumS.wher [a,b]=fitsV b 1 (tx sY):=fun a b=>by
   show (fitsC tT [a,b] ⟨sB,1,tx sY⟩ && true)=_
   rw [Bool.and_true,fitsC_1 (c:=⟨sB,1,tx sY⟩) col_tb]
  show [[wh 2,tx sX],[wh 1,val0]].filter _=[]
  rw [List.filter_cons,f,List.filter_cons,f]
  rfl
 have hl:lacksB tT sumS.wher=false:=lacks_cons (by show 0<=colOf tT sB;rw [col_tb];decide) (lacks_nil _)
 have e:stepE (twoS san2 []) sumS=0:=by
  rw [stepE_qry rfl]
  unfold queryE
  rw [if_neg (by show ¬ ((2:Int)<0 \/ (4:Int)<2 \/ ((0:Int)<2/\(1:Int) ≠ if (1:Int)<2 then 1 else 0));decide),h1,h2,h3,hn,hl]
  rfl
 rw [stepA_qry rfl e]
 unfold queryA
 rw [if_pos (by show (0:Int)<2;decide),h2,h3,hf]
 rfl
theorem san_upd:stepE (twoS san2 []) updS=0/\stepA (twoS san2 []) updS=⟨0,[],1⟩:=by
 have hl:lacksB tT updS.wher=false:=lacks_cons (by show 0<=colOf tT sA;rw [col_ta];decide) (lacks_nil _)
 have hs:setsE tT updS.sets=0:=by
  show setsFrom tT [] [⟨sA,sA,wh 5⟩]=0
  unfold setsFrom setE
  simp only [col_ta]
  rfl
 have e:stepE (twoS san2 []) updS=0:=by
  rw [stepE_chg (Or.inl rfl)]
  unfold changeE
  rw [show updS.table=sT from rfl,findT_t,if_neg (by decide)]
  show (if updS.kind=5/\setsE tT updS.sets ≠ 0 then setsE tT updS.sets else if lacksB tT updS.wher then 50 else 0)=0
  rw [hs,hl,if_neg (by simp)]
  rfl
 refine ⟨e,?_⟩
 rw [stepA_chg (Or.inl rfl) e]
 have hc:changeN (twoS san2 []) updS=1:=by
  unfold changeN
  rw [show updS.table=sT from rfl,findT_t]
  show san2.countP (fitsW tT updS.wher)=1
  have f:∀ a b:Val,fitsW tT updS.wher [a,b]=fitsV a 5 (wh 1):=fun a b=>by
   show (fitsC tT [a,b] ⟨sA,5,wh 1⟩ && true)=_
   rw [Bool.and_true,fitsC_0 (c:=⟨sA,5,wh 1⟩) col_ta]
  show [[wh 2,tx sX],[wh 1,val0]].countP _=1
  rw [List.countP_cons,List.countP_cons,f,f]
  rfl
 rw [hc]
 rfl
end
end Go.Proofs.YtgemihkcihigpaaGreatDoor
