/- Layer 17 (lang): what the lexer and the parser do: plain data, no program in sight. -/
import Derived.Test.YtjcpccadmcglgaaGreatDoorZK9
import Derived.Lib.ItoaNum
set_option linter.unusedVariables false
set_option linter.unusedSimpArgs false
set_option maxRecDepth 100000
set_option maxHeartbeats 64000000
namespace Go.Proofs.YtjcpccadmcglgaaGreatDoor
section
open Go
structure Tok where
 kind:Int
 pos:Nat
 text:ByteArray
 n:Int
 deriving DecidableEq
abbrev PErr:=Nat × Int
abbrev w_null:ByteArray:=⟨#[110,117,108,108]⟩
abbrev w_comma:ByteArray:=⟨#[44]⟩
abbrev w_int:ByteArray:=⟨#[105,110,116]⟩
abbrev w_text:ByteArray:=⟨#[116,101,120,116]⟩
abbrev w_table:ByteArray:=⟨#[116,97,98,108,101]⟩
abbrev w_lp:ByteArray:=⟨#[40]⟩
abbrev w_rp:ByteArray:=⟨#[41]⟩
abbrev w_index:ByteArray:=⟨#[105,110,100,101,120]⟩
abbrev w_on:ByteArray:=⟨#[111,110]⟩
abbrev w_to:ByteArray:=⟨#[116,111]⟩
abbrev w_into:ByteArray:=⟨#[105,110,116,111]⟩
abbrev w_values:ByteArray:=⟨#[118,97,108,117,101,115]⟩
abbrev w_eq:ByteArray:=⟨#[61]⟩
abbrev w_ne:ByteArray:=⟨#[60,62]⟩
abbrev w_lt:ByteArray:=⟨#[60]⟩
abbrev w_le:ByteArray:=⟨#[60,61]⟩
abbrev w_gt:ByteArray:=⟨#[62]⟩
abbrev w_ge:ByteArray:=⟨#[62,61]⟩
abbrev w_where:ByteArray:=⟨#[119,104,101,114,101]⟩
abbrev w_and:ByteArray:=⟨#[97,110,100]⟩
abbrev w_plus:ByteArray:=⟨#[43]⟩
abbrev w_set:ByteArray:=⟨#[115,101,116]⟩
abbrev w_from:ByteArray:=⟨#[102,114,111,109]⟩
abbrev w_count:ByteArray:=⟨#[99,111,117,110,116]⟩
abbrev w_sum:ByteArray:=⟨#[115,117,109]⟩
abbrev w_min:ByteArray:=⟨#[109,105,110]⟩
abbrev w_max:ByteArray:=⟨#[109,97,120]⟩
abbrev w_star:ByteArray:=⟨#[42]⟩
abbrev w_join:ByteArray:=⟨#[106,111,105,110]⟩
abbrev w_order:ByteArray:=⟨#[111,114,100,101,114]⟩
abbrev w_by:ByteArray:=⟨#[98,121]⟩
abbrev w_read:ByteArray:=⟨#[114,101,97,100]⟩
abbrev w_committed:ByteArray:=⟨#[99,111,109,109,105,116,116,101,100]⟩
abbrev w_snapshot:ByteArray:=⟨#[115,110,97,112,115,104,111,116]⟩
abbrev w_serialisable:ByteArray:=⟨#[115,101,114,105,97,108,105,115,97,98,108,101]⟩
abbrev w_only:ByteArray:=⟨#[111,110,108,121]⟩
abbrev w_deferrable:ByteArray:=⟨#[100,101,102,101,114,114,97,98,108,101]⟩
abbrev w_prepared:ByteArray:=⟨#[112,114,101,112,97,114,101,100]⟩
abbrev w_get:ByteArray:=⟨#[103,101,116]⟩
abbrev w_ack:ByteArray:=⟨#[97,99,107]⟩
abbrev w_ask:ByteArray:=⟨#[63]⟩
abbrev w_create:ByteArray:=⟨#[99,114,101,97,116,101]⟩
abbrev w_rename:ByteArray:=⟨#[114,101,110,97,109,101]⟩
abbrev w_insert:ByteArray:=⟨#[105,110,115,101,114,116]⟩
abbrev w_update:ByteArray:=⟨#[117,112,100,97,116,101]⟩
abbrev w_delete:ByteArray:=⟨#[100,101,108,101,116,101]⟩
abbrev w_select:ByteArray:=⟨#[115,101,108,101,99,116]⟩
abbrev w_begin:ByteArray:=⟨#[98,101,103,105,110]⟩
abbrev w_commit:ByteArray:=⟨#[99,111,109,109,105,116]⟩
abbrev w_rollback:ByteArray:=⟨#[114,111,108,108,98,97,99,107]⟩
abbrev w_checkpoint:ByteArray:=⟨#[99,104,101,99,107,112,111,105,110,116]⟩
abbrev w_savepoint:ByteArray:=⟨#[115,97,118,101,112,111,105,110,116]⟩
abbrev w_prepare:ByteArray:=⟨#[112,114,101,112,97,114,101]⟩
abbrev w_vacuum:ByteArray:=⟨#[118,97,99,117,117,109]⟩
abbrev w_slot:ByteArray:=⟨#[115,108,111,116]⟩
abbrev w_countAll:ByteArray:=⟨#[99,111,117,110,116,40,42,41]⟩
def letB (c:UInt8):Bool:=decide (97<=c) && decide (c<=122)
def digB (c:UInt8):Bool:=decide (48<=c) && decide (c<=57)
def inB (c:UInt8):Bool:=letB c || digB c || c == 95
def whiteB (c:UInt8):Bool:=c == 32 || c == 9 || c == 10 || c == 13
def spanN (p:UInt8->Bool) (L:List UInt8):Nat:=(L.takeWhile p).length
def decN (L:List UInt8):Nat:=L.foldl (fun a c=>a * 10+(c.toNat - 48)) 0
def numM (L:List UInt8):Option Int :=
 let v:Int:=match L with
  | 45 :: D=>-(decN D:Int)
  | D=>(decN D:Int)
 if -9223372036854775808<=v/\v<=9223372036854775807 then some v else none
theorem numM_pos {c:UInt8} {D:List UInt8} (c2:c ≠ 45):numM (c :: D)=if -9223372036854775808<=(decN (c :: D):Int)/\(decN (c :: D):Int)<=9223372036854775807 then some (decN (c :: D):Int) else none:=by
 unfold numM
 have:(match c :: D with|45 :: D=>(-(decN D:Int))|D=>(decN D:Int))=(decN (c :: D):Int):=by
  split
  · next q h=>exact absurd (by injection h) c2
  · rfl
 rw [this]
def quoteM:List UInt8->Option (List UInt8 × Nat)
 | []=>none
 | 39 :: 39 :: r=>(quoteM r).map fun q=>(39 :: q.1,q.2+2)
 | 39 :: _=>some ([],1)
 | c :: r=>(quoteM r).map fun q=>(c :: q.1,q.2+1)
def signsL:List (List UInt8):=[[60,62],[60,61],[62,61],[40],[41],[44],[42],[43],[61],[60],[62]]
def headDig:List UInt8->Bool
 | d :: _=>digB d
 | []=>false
def tokM (L:List UInt8) (i:Nat):Except PErr (Tok × Nat) :=
 match L with
 | []=>.error (i,60)
 | c :: r =>
  if letB c then .ok (⟨1,i,⟨⟨L.take (spanN inB L)⟩⟩,0⟩,spanN inB L)
  else if digB c || (c == 45 && headDig r) then
   match numM (L.take (1+spanN digB r)) with
   | some v=>.ok (⟨2,i,noStr,v⟩,1+spanN digB r)
   | none=>.error (i,61)
  else if c == 39 then
   match quoteM r with
   | some q=>if q.1.length<=40 then .ok (⟨3,i,⟨⟨q.1⟩⟩,0⟩,q.2+1) else .error (i,62)
   | none=>.error (i,62)
  else match signsL.find? (fun x=>x.isPrefixOf L) with
   | some x=>.ok (⟨4,i,⟨⟨x⟩⟩,0⟩,x.length)
   | none=>.error (i,60)
def lexGo:Nat->List UInt8->Nat->Except PErr (List Tok)
 | 0,_,_=>.ok []
 | _+1,[],_=>.ok []
 | f+1,c :: r,i =>
  if whiteB c then lexGo f r (i+1)
  else match tokM (c :: r) i with
   | .error e=>.error e
   | .ok q=>(lexGo f ((c :: r).drop q.2) (i+q.2)).map (q.1 :: ·)
def lexM (s:ByteArray):Except PErr (List Tok):=lexGo s.size s.data.toList 0
instance {α β:Type} [DecidableEq α] [DecidableEq β]:DecidableEq (Except α β)
 | .ok a,.ok b=>if h:a=b then .isTrue (by rw [h]) else .isFalse (fun e=>h (by injection e))
 | .error a,.error b=>if h:a=b then .isTrue (by rw [h]) else .isFalse (fun e=>h (by injection e))
 | .ok _,.error _=>.isFalse (fun e=>nomatch e)
 | .error _,.ok _=>.isFalse (fun e=>nomatch e)
structure PS where
 l:List Tok
 s:Stmt
 out:List ByteArray
 deriving DecidableEq
abbrev PM (α:Type):=PS->Except PErr (α × PS)
def failM {α:Type} (i:Nat) (e:Int):PM α:=fun _=>.error (i,e)
def PM.bind {α β:Type} (m:PM α) (f:α->PM β):PM β:=fun S=>match m S with
 | .error e=>.error e
 | .ok q=>f q.1 q.2
theorem bind_ok {α β:Type} {m:PM α} {f:α->PM β} {S S':PS} {a:α} (h:m S=.ok (a,S')):PM.bind m f S=f a S':=by
 unfold PM.bind
 rw [h]
theorem bind_error {α β:Type} {m:PM α} {f:α->PM β} {S:PS} {e:PErr} (h:m S=.error e):PM.bind m f S=.error e:=by
 unfold PM.bind
 rw [h]
instance:Monad PM where
 pure a:=fun S=>.ok (a,S)
 bind:=PM.bind
def modM (f:Stmt->Stmt):PM Unit:=fun S=>.ok ((),{ S with s:=f S.s })
def nowT (en:Nat) (S:PS):Tok:=S.l.headD ⟨0,en,noStr,0⟩
def nowM (en:Nat):PM Tok:=fun S=>.ok (nowT en S,S)
def nextM:PM Unit:=fun S=>.ok ((),{ S with l:=S.l.tail })
def wordB (x:ByteArray) (t:Tok):Bool:=(t.kind == 1 || t.kind == 4) && decide (t.text=x)
def isB:List ByteArray->List Tok->Bool
 | [],_=>true
 | _ :: _,[]=>false
 | x :: xs,t :: ts=>wordB x t && isB xs ts
def mayM (xs:List ByteArray):PM Bool:=fun S=>if isB xs S.l then .ok (true,{ S with l:=S.l.drop xs.length }) else .ok (false,S)
def mustM (en:Nat):List ByteArray->PM Unit
 | []=>pure ()
 | x :: xs=>fun S=>if isB [x] S.l then mustM en xs { S with l:=S.l.tail } else .error ((nowT en S).pos,60)
def infixB (x:List UInt8):List UInt8->Bool
 | []=>x.isEmpty
 | c :: r=>x.isPrefixOf (c :: r) || infixB x r
def keysS:List UInt8:=[32,99,114,101,97,116,101,32,116,97,98,108,101,32,105,110,116,32,116,101,120,116,32,105,110,100,101,120,32,111,110,32,114,101,110,97,109,101,32,116,111,32,105,110,115,101,114,116,32,105,110,116,111,32,118,97,108,117,101,115,32,110,117,108,108,32,117,112,100,97,116,101,32,115,101,116,32,119,104,101,114,101,32,97,110,100,32,100,101,108,101,116,101,32,102,114,111,109,32,115,101,108,101,99,116,32,106,111,105,110,32,111,114,100,101,114,32,98,121,32,99,111,117,110,116,32,115,117,109,32,109,105,110,32,109,97,120,32,98,101,103,105,110,32,114,101,97,100,32,99,111,109,109,105,116,116,101,100,32,115,110,97,112,115,104,111,116,32,115,101,114,105,97,108,105,115,97,98,108,101,32,111,110,108,121,32,100,101,102,101,114,114,97,98,108,101,32,99,111,109,109,105,116,32,114,111,108,108,98,97,99,107,32,99,104,101,99,107,112,111,105,110,116,32,115,97,118,101,112,111,105,110,116,32,112,114,101,112,97,114,101,32,112,114,101,112,97,114,101,100,32,118,97,99,117,117,109,32,115,108,111,116,32,103,101,116,32,97,99,107,32]
def namedT (t:Tok):Bool:=t.kind == 1 && !infixB (32 :: (t.text.data.toList ++ [32])) keysS
def nameM (en:Nat):PM ByteArray:=fun S =>
 if namedT (nowT en S) then
  if 12<(nowT en S).text.size then .error ((nowT en S).pos,50) else .ok ((nowT en S).text,{ S with l:=S.l.tail })
 else .error ((nowT en S).pos,60)
def numberM (en:Nat):PM Int:=fun S =>
 if (nowT en S).kind == 2 then .ok ((nowT en S).n,{ S with l:=S.l.tail }) else .error ((nowT en S).pos,60)
def valueM (en:Nat):PM Val:=fun S =>
 if isB [w_null] S.l then .ok (⟨0,0,noStr⟩,{ S with l:=S.l.tail })
 else if (nowT en S).kind == 2 then .ok (⟨1,(nowT en S).n,noStr⟩,{ S with l:=S.l.tail })
 else if (nowT en S).kind == 3 then .ok (⟨2,0,(nowT en S).text⟩,{ S with l:=S.l.tail })
 else .error ((nowT en S).pos,60)
def valuedT (t:Tok):Bool:=t.kind == 2 || t.kind == 3 || (t.kind == 1 && decide (t.text=w_null))
def listM (en:Nat) (bt:ByteArray) (starts:Tok->Bool) (one:PM Unit):Nat->PM Unit
 | 0=>fun S=>if starts (nowT en S) then .error ((nowT en S).pos,2) else one S
 | k+1=>fun S=>match one S with
  | .error e=>.error e
  | .ok q=>if isB [bt] q.2.l then listM en bt starts one k { q.2 with l:=q.2.l.tail } else .ok ((),q.2)
def colsOne (en:Nat):PM Unit:=fun S=>match nameM en S with
 | .error e=>.error e
 | .ok q=>.ok ((),{ q.2 with out:=q.2.out ++ [q.1] })
def columnsM (en most:Nat):PM (List ByteArray):=fun S =>
 match listM en w_comma namedT (colsOne en) most { S with out:=[] } with
 | .error e=>.error e
 | .ok q=>.ok (q.2.out,{ q.2 with out:=S.out })
def colOne (en:Nat):PM Unit:=do
 let n <- nameM en
 if <- mayM [w_int] then modM fun s=>{ s with cols:=s.cols ++ [(n,1)] }
 else do
  mustM en [w_text]
  modM fun s=>{ s with cols:=s.cols ++ [(n,2)] }
def createM (en:Nat):PM Unit:=do
 if <- mayM [w_table] then
  let t <- nameM en
  modM fun s=>{ s with kind:=1,table:=t }
  mustM en [w_lp]
  listM en (w_comma) namedT (colOne en) 6
  mustM en [w_rp]
 else
  mustM en [w_index]
  let n <- nameM en
  modM fun s=>{ s with kind:=2,name:=n }
  mustM en [w_on]
  let t <- nameM en
  modM fun s=>{ s with table:=t }
  mustM en [w_lp]
  let l <- columnsM en 6
  modM fun s=>{ s with names:=l }
  mustM en [w_rp]
def renameM (en:Nat):PM Unit:=do
 let t <- nameM en
 modM fun s=>{ s with kind:=3,table:=t }
 let n <- nameM en
 modM fun s=>{ s with name:=n }
 mustM en [w_to]
 let j <- nameM en
 modM fun s=>{ s with join:=j }
def rowOne (en:Nat):PM Unit:=do
 let v <- valueM en
 modM fun s=>{ s with row:=s.row ++ [v] }
def insertM (en:Nat):PM Unit:=do
 mustM en [w_into]
 let t <- nameM en
 modM fun s=>{ s with kind:=4,table:=t }
 mustM en [w_values,w_lp]
 listM en (w_comma) valuedT (rowOne en) 6
 mustM en [w_rp]
def opI (t:Tok):Int:=if t.kind == 4 then (match [w_eq,w_ne,w_lt,w_le,w_gt,w_ge].findIdx? (decide <| ·=t.text) with|some i=>(i:Int)+1|none=>0) else 0
def condOne (en:Nat):PM Unit:=do
 let c <- nameM en
 let t <- nowM en
 if opI t=0 then failM t.pos 60
 else
  nextM
  let v <- valueM en
  modM fun s=>{ s with wher:=s.wher ++ [⟨c,opI t,v⟩] }
def whereM (en:Nat):PM Unit:=do
 if <- mayM [w_where] then listM en (w_and) namedT (condOne en) 8
def setOne (en:Nat):PM Unit:=do
 let c <- nameM en
 mustM en [w_eq]
 let t <- nowM en
 if namedT t then
  let d <- nameM en
  mustM en [w_plus]
  let n <- numberM en
  modM fun s=>{ s with sets:=s.sets ++ [⟨c,d,⟨1,n,noStr⟩⟩] }
 else
  let v <- valueM en
  modM fun s=>{ s with sets:=s.sets ++ [⟨c,noStr,v⟩] }
def updateM (en:Nat):PM Unit:=do
 let t <- nameM en
 modM fun s=>{ s with kind:=5,table:=t }
 mustM en [w_set]
 listM en (w_comma) namedT (setOne en) 6
 whereM en
def deleteM (en:Nat):PM Unit:=do
 mustM en [w_from]
 let t <- nameM en
 modM fun s=>{ s with kind:=6,table:=t }
 whereM en
def aggI (t:Tok):Int:=if t.kind == 1 then (match [w_count,w_sum,w_min,w_max].findIdx? (decide <| ·=t.text) with|some i=>(i:Int)+1|none=>0) else 0
def aggB (en:Nat) (k:Int):PM Unit :=
 if k=1 then mustM en [w_star]
 else do
  let n <- nameM en
  modM fun s=>{ s with names:=[n] }
def selHead (en:Nat):PM Unit:=do
 let t <- nowM en
 modM fun s=>{ s with kind:=7,agg:=aggI t }
 if aggI t=0 then
  let l <- columnsM en 12
  modM fun s=>{ s with names:=l }
 else
  nextM
  mustM en [w_lp]
  aggB en (aggI t)
  mustM en [w_rp]
def joinM (en:Nat):PM Unit:=do
 if <- mayM [w_join] then
  let j <- nameM en
  modM fun s=>{ s with join:=j }
  mustM en [w_on]
  let l <- nameM en
  modM fun s=>{ s with left:=l }
  mustM en [w_eq]
  let r <- nameM en
  modM fun s=>{ s with right:=r }
def orderB (en:Nat):PM Unit:=do
 if <- mayM [w_order] then
  mustM en [w_by]
  let l <- columnsM en 6
  modM fun s=>{ s with order:=l }
def orderM (en:Nat):PM Unit:=fun S=>if S.s.agg=0 then orderB en S else .ok ((),S)
def selM (en:Nat):PM Unit:=do
 selHead en
 mustM en [w_from]
 let t <- nameM en
 modM fun s=>{ s with table:=t }
 joinM en
 whereM en
 orderM en
def readM (en:Nat):PM Unit:=fun S=>if isB [w_read] S.l && !isB [w_read,w_only] S.l then mustM en [w_read,w_only] S else .ok ((),S)
def modeM (en:Nat):PM Unit:=do
 if <- mayM [w_read,w_committed] then pure ()
 else if <- mayM [w_snapshot] then modM fun s=>{ s with mode:=1 }
 else if <- mayM [w_serialisable] then modM fun s=>{ s with mode:=2 }
 else readM en
def beginM (en:Nat):PM Unit:=do
 modM fun s=>{ s with kind:=8 }
 modeM en
 if <- mayM [w_read] then
  mustM en [w_only]
  modM fun s=>{ s with mode:=s.mode+4 }
 if <- mayM [w_deferrable] then modM fun s=>{ s with mode:=s.mode+8 }
def namedM (en:Nat) (k:Int):PM Unit:=do
 let n <- nameM en
 modM fun s=>{ s with kind:=k,name:=n }
def commitM (en:Nat):PM Unit:=do
 modM fun s=>{ s with kind:=9 }
 if <- mayM [w_prepared] then namedM en 14
def rollbackM (en:Nat):PM Unit:=do
 modM fun s=>{ s with kind:=10 }
 if <- mayM [w_to] then namedM en 12
 else if <- mayM [w_prepared] then namedM en 15
def slotN (en:Nat):PM Unit:=do
 let t <- nowM en
 let n <- numberM en
 if n<0 \/ 1073741824<n then failM t.pos 61
 else modM fun s=>{ s with n:=n }
def slotM (en:Nat):PM Unit:=do
 namedM en 18
 if <- mayM [w_get] then
  modM fun s=>{ s with kind:=19 }
  slotN en
 else if <- mayM [w_ack] then
  modM fun s=>{ s with kind:=20 }
  slotN en
def vacuumM (en:Nat):PM Unit:=do
 let t <- nameM en
 modM fun s=>{ s with kind:=16,table:=t }
def checkM:PM Unit:=modM fun s=>{ s with kind:=17 }
def firstM (en:Nat) (x:ByteArray):Option (PM Unit) :=
 (([(w_create,createM en),(w_rename,renameM en),(w_insert,insertM en),(w_update,updateM en),(w_delete,deleteM en),(w_select,selM en),(w_begin,beginM en),(w_commit,commitM en),(w_rollback,rollbackM en),(w_checkpoint,checkM),(w_savepoint,namedM en 11),(w_prepare,namedM en 13),(w_vacuum,vacuumM en),(w_slot,slotM en)]:List (ByteArray × PM Unit)).find? fun q=>decide (q.1=x)).map (·.2)
def stmtM (en:Nat) (l:List Tok):Except PErr Stmt :=
 let S:PS:=⟨l,stmt0,[]⟩
 match (if (nowT en S).kind == 1 then firstM en (nowT en S).text else none) with
 | none=>.error ((nowT en S).pos,60)
 | some f=>match f { S with l:=l.tail } with
  | .error e=>.error e
  | .ok q=>if q.2.l.isEmpty then .ok q.2.s else .error ((nowT en q.2).pos,60)
def parseM (s:ByteArray):Except PErr Stmt:=match lexM s with
 | .error e=>.error e
 | .ok l=>stmtM s.size l
def escQ (L:List UInt8):List UInt8:=L.flatMap fun c=>if c == 39 then [39,39] else [c]
def textV (v:Val):ByteArray :=
 if v.kind=0 then w_null
 else if v.kind=1 then ⟨⟨Lib.itoa v.n⟩⟩
 else if v.kind=2 then ⟨⟨39 :: (escQ v.s.data.toList ++ [39])⟩⟩
 else noStr
def sepP {α:Type} (bt:ByteArray) (f:α->List ByteArray):List α->List ByteArray
 | []=>[]
 | x :: r=>f x ++ r.flatMap fun y=>bt :: f y
def opS (n:Int):ByteArray:=match n with
 | 1=>w_eq|2=>w_ne|3=>w_lt|4=>w_le|5=>w_gt|6=>w_ge|_=>w_ask
def namesP (l:List ByteArray):List ByteArray:=sepP w_comma (fun x=>[x]) l
def whereP (l:List Cond):List ByteArray:=(if l.isEmpty then [] else [w_where]) ++ sepP w_and (fun c=>[c.col,opS c.op,textV c.val]) l
def setP (x:SetV):List ByteArray:=[x.col,w_eq] ++ (if x.col2=noStr then [] else [x.col2,w_plus]) ++ [textV x.val]
def aggS (n:Int):ByteArray:=match n with
 | 1=>w_count|2=>w_sum|3=>w_min|4=>w_max|_=>w_ask
def queryP (s:Stmt):List ByteArray :=
 [w_select] ++ (if s.agg=1 then [w_countAll]
  else if 0<s.agg/\s.names.length=1 then [aggS s.agg ++ w_lp ++ s.names.headD noStr ++ w_rp]
  else namesP s.names) ++ [w_from,s.table] ++
 (if s.join=noStr then [] else [w_join,s.join,w_on,s.left,w_eq,s.right]) ++ whereP s.wher ++
 (if s.order.isEmpty then [] else [w_order,w_by] ++ namesP s.order)
def modeP (m:Int):List ByteArray :=
 (match m % 4 with|0=>[]|1=>[w_snapshot]|2=>[w_serialisable]|_=>[w_ask]) ++
 (if m / 4 % 2=0 then [] else [w_read,w_only]) ++ (if m / 8 % 2=0 then [] else [w_deferrable])
def tokensP (s:Stmt):List ByteArray:=match s.kind with
 | 1=>[w_create,w_table,s.table,w_lp] ++ sepP w_comma (fun c=>[c.1,if c.2=1 then w_int else w_text]) s.cols ++ [w_rp]
 | 2=>[w_create,w_index,s.name,w_on,s.table,w_lp] ++ namesP s.names ++ [w_rp]
 | 3=>[w_rename,s.table,s.name,w_to,s.join]
 | 4=>[w_insert,w_into,s.table,w_values,w_lp] ++ sepP w_comma (fun v=>[textV v]) s.row ++ [w_rp]
 | 5=>[w_update,s.table,w_set] ++ sepP w_comma setP s.sets ++ whereP s.wher
 | 6=>[w_delete,w_from,s.table] ++ whereP s.wher
 | 7=>queryP s
 | 8=>[w_begin] ++ modeP s.mode
 | 9=>[w_commit]
 | 10=>[w_rollback]
 | 11=>[w_savepoint,s.name]
 | 12=>[w_rollback,w_to,s.name]
 | 13=>[w_prepare,s.name]
 | 14=>[w_commit,w_prepared,s.name]
 | 15=>[w_rollback,w_prepared,s.name]
 | 16=>[w_vacuum,s.table]
 | 17=>[w_checkpoint]
 | 18=>[w_slot,s.name]
 | 19=>[w_slot,s.name,w_get,⟨⟨Lib.itoa s.n⟩⟩]
 | 20=>[w_slot,s.name,w_ack,⟨⟨Lib.itoa s.n⟩⟩]
 | _=>[]
def gapB (x y:ByteArray):Bool:=decide (y ≠ w_rp) && decide (y ≠ w_comma) && decide (x ≠ w_lp)
def joinP (x:ByteArray):List ByteArray->List UInt8
 | []=>x.data.toList
 | y :: r=>x.data.toList ++ ((if gapB x y then [32] else []) ++ joinP y r)
def printedM (s:Stmt):ByteArray:=match tokensP s with
 | []=>noStr
 | x :: r=>⟨⟨joinP x r⟩⟩
def rightM (s:Stmt):Bool:=match parseM (printedM s) with
 | .ok q=>decide (s=q)
 | .error _=>false
def printM (s:Stmt):ByteArray:=if rightM s then printedM s else noStr
end
section
open Go
theorem rowOne_eq (en:Nat):rowOne en=PM.bind (valueM en) fun v=>modM fun s=>{ s with row:=s.row ++ [v] }:=rfl
theorem insert_eq (en:Nat):insertM en=PM.bind (mustM en [w_into]) fun _=>PM.bind (nameM en) fun t=>PM.bind (modM fun s=>{ s with kind:=4,table:=t }) fun _=>PM.bind (mustM en [w_values,w_lp]) fun _=>PM.bind (listM en w_comma valuedT (rowOne en) 6) fun _=>mustM en [w_rp]:=rfl
theorem condOne_eq (en:Nat):condOne en=PM.bind (nameM en) fun c=>PM.bind (nowM en) fun t=>if opI t=0 then failM t.pos 60 else PM.bind nextM fun _=>PM.bind (valueM en) fun v=>modM fun s=>{ s with wher:=s.wher ++ [⟨c,opI t,v⟩] }:=rfl
theorem whereM_eq (en:Nat):whereM en=PM.bind (mayM [w_where]) fun b=>if b=true then listM en w_and namedT (condOne en) 8 else pure ():=rfl
theorem colOne_eq (en:Nat):colOne en=PM.bind (nameM en) fun n=>PM.bind (mayM [w_int]) fun b=>if b=true then modM fun s=>{ s with cols:=s.cols ++ [(n,1)] } else PM.bind (mustM en [w_text]) fun _=>modM fun s=>{ s with cols:=s.cols ++ [(n,2)] }:=rfl
theorem setOne_eq (en:Nat):setOne en=PM.bind (nameM en) fun c=>PM.bind (mustM en [w_eq]) fun _=>PM.bind (nowM en) fun t=>if namedT t=true then PM.bind (nameM en) fun d=>PM.bind (mustM en [w_plus]) fun _=>PM.bind (numberM en) fun n=>modM fun s=>{ s with sets:=s.sets ++ [⟨c,d,⟨1,n,noStr⟩⟩] } else PM.bind (valueM en) fun v=>modM fun s=>{ s with sets:=s.sets ++ [⟨c,noStr,v⟩] }:=rfl
theorem create_eq (en:Nat):createM en=PM.bind (mayM [w_table]) fun b=>if b=true then PM.bind (nameM en) fun t=>PM.bind (modM fun s=>{ s with kind:=1,table:=t }) fun _=>PM.bind (mustM en [w_lp]) fun _=>PM.bind (listM en w_comma namedT (colOne en) 6) fun _=>mustM en [w_rp]
 else PM.bind (mustM en [w_index]) fun _=>PM.bind (nameM en) fun n=>PM.bind (modM fun s=>{ s with kind:=2,name:=n }) fun _=>PM.bind (mustM en [w_on]) fun _=>PM.bind (nameM en) fun t=>PM.bind (modM fun s=>{ s with table:=t }) fun _=>PM.bind (mustM en [w_lp]) fun _=>PM.bind (columnsM en 6) fun l=>PM.bind (modM fun s=>{ s with names:=l }) fun _=>mustM en [w_rp]:=rfl
theorem rename_eq (en:Nat):renameM en=PM.bind (nameM en) fun t=>PM.bind (modM fun s=>{ s with kind:=3,table:=t }) fun _=>PM.bind (nameM en) fun n=>PM.bind (modM fun s=>{ s with name:=n }) fun _=>PM.bind (mustM en [w_to]) fun _=>PM.bind (nameM en) fun j=>modM fun s=>{ s with join:=j }:=rfl
theorem delete_eq (en:Nat):deleteM en=PM.bind (mustM en [w_from]) fun _=>PM.bind (nameM en) fun t=>PM.bind (modM fun s=>{ s with kind:=6,table:=t }) fun _=>whereM en:=rfl
theorem update_eq (en:Nat):updateM en=PM.bind (nameM en) fun t=>PM.bind (modM fun s=>{ s with kind:=5,table:=t }) fun _=>PM.bind (mustM en [w_set]) fun _=>PM.bind (listM en w_comma namedT (setOne en) 6) fun _=>whereM en:=rfl
theorem selHead_eq (en:Nat):selHead en=PM.bind (nowM en) fun t=>PM.bind (modM fun s=>{ s with kind:=7,agg:=aggI t }) fun _=>if aggI t=0 then PM.bind (columnsM en 12) fun l=>modM fun s=>{ s with names:=l }
 else PM.bind nextM fun _=>PM.bind (mustM en [w_lp]) fun _=>PM.bind (aggB en (aggI t)) fun _=>mustM en [w_rp]:=rfl
theorem join_eq (en:Nat):joinM en=PM.bind (mayM [w_join]) fun b=>if b=true then PM.bind (nameM en) fun j=>PM.bind (modM fun s=>{ s with join:=j }) fun _=>PM.bind (mustM en [w_on]) fun _=>PM.bind (nameM en) fun l=>PM.bind (modM fun s=>{ s with left:=l }) fun _=>PM.bind (mustM en [w_eq]) fun _=>PM.bind (nameM en) fun r=>modM fun s=>{ s with right:=r } else pure ():=rfl
theorem orderB_eq (en:Nat):orderB en=PM.bind (mayM [w_order]) fun b=>if b=true then PM.bind (mustM en [w_by]) fun _=>PM.bind (columnsM en 6) fun l=>modM fun s=>{ s with order:=l } else pure ():=rfl
theorem sel_eq (en:Nat):selM en=PM.bind (selHead en) fun _=>PM.bind (mustM en [w_from]) fun _=>PM.bind (nameM en) fun t=>PM.bind (modM fun s=>{ s with table:=t }) fun _=>PM.bind (joinM en) fun _=>PM.bind (whereM en) fun _=>orderM en:=rfl
theorem named_eq (en:Nat) (k:Int):namedM en k=PM.bind (nameM en) fun n=>modM fun s=>{ s with kind:=k,name:=n }:=rfl
theorem rollback_eq (en:Nat):rollbackM en=PM.bind (modM fun s=>{ s with kind:=10 }) fun _=>PM.bind (mayM [w_to]) fun b=>if b=true then namedM en 12 else PM.bind (mayM [w_prepared]) fun b=>if b=true then namedM en 15 else pure ():=rfl
theorem commit_eq (en:Nat):commitM en=PM.bind (modM fun s=>{ s with kind:=9 }) fun _=>PM.bind (mayM [w_prepared]) fun b=>if b=true then namedM en 14 else pure ():=rfl
theorem slotN_eq (en:Nat):slotN en=PM.bind (nowM en) fun t=>PM.bind (numberM en) fun n=>if n<0 \/ 1073741824<n then failM t.pos 61 else modM fun s=>{ s with n:=n }:=rfl
theorem slot_eq (en:Nat):slotM en=PM.bind (namedM en 18) fun _=>PM.bind (mayM [w_get]) fun b=>if b=true then PM.bind (modM fun s=>{ s with kind:=19 }) fun _=>slotN en else PM.bind (mayM [w_ack]) fun b=>if b=true then PM.bind (modM fun s=>{ s with kind:=20 }) fun _=>slotN en else pure ():=rfl
end
section
open Go
def EndsT (r:List UInt8):Prop:=∀ c q,r=c :: q->inB c=false/\c ≠ 39
theorem EndsT.nil:EndsT []:=fun _ _ h=>nomatch h
theorem span_append (p:UInt8->Bool) (A r:List UInt8) (hA:∀ c ∈ A,p c=true) (hr:∀ c q,r=c :: q->p c=false):spanN p (A ++ r)=A.length:=by
 unfold spanN
 induction A with
 | nil =>
  cases r with
  | nil=>rfl
  | cons c q=>simp [hr c q rfl]
 | cons a A ih =>
  rw [List.cons_append,List.takeWhile_cons,if_pos (hA a List.mem_cons_self),List.length_cons,List.length_cons,ih fun c hc=>hA c (List.mem_cons_of_mem _ hc)]
theorem quote_esc (L r:List UInt8) (hr:∀ c q,r=c :: q->c ≠ 39):quoteM (escQ L ++ 39 :: r)=some (L,(escQ L).length+1):=by
 induction L with
 | nil =>
  unfold escQ
  cases r with
  | nil=>rfl
  | cons c q =>
   have:=hr c q rfl
   simp only [List.flatMap_nil,List.nil_append,List.length_nil]
   rw [quoteM.eq_3 _ fun r' h=>this (by injection h)]
 | cons c L ih =>
  by_cases h:c=39
  · subst h
    have e:escQ (39 :: L)=39 :: 39 :: escQ L:=rfl
    rw [e,List.cons_append,List.cons_append,quoteM,ih]
    rfl
  · have e:escQ (c :: L)=c :: escQ L:=by simp [escQ,h]
    rw [e,List.cons_append]
    rw [quoteM.eq_4 _ _ (fun r' h1 h2=>h h1) (fun h1=>h h1),ih]
    rfl
theorem foldl_dec (L:List UInt8) (d:UInt8):decN (L ++ [d])=decN L * 10+(d.toNat - 48):=by
 unfold decN
 rw [List.foldl_append]
 rfl
theorem digit_of (k:Nat) (h:k<10):digB (UInt8.ofNat (48+k))=true/\(UInt8.ofNat (48+k)).toNat - 48=k:=by
 have:∀ k<10,digB (UInt8.ofNat (48+k))=true/\(UInt8.ofNat (48+k)).toNat - 48=k:=by decide
 exact this k h
theorem dec_digits (u:Nat):decN (Lib.decDigits u)=u/\(∀ c ∈ Lib.decDigits u,digB c=true)/\Lib.decDigits u ≠ []:=by
 induction u using Nat.strongRecOn with
 | _ u ih =>
  by_cases h:u<10
  · rw [Lib.decDigits,dif_pos h]
    obtain ⟨h1,h2⟩:=digit_of u h
    refine ⟨?_,?_,by simp⟩
    · show 0 * 10+((UInt8.ofNat (48+u)).toNat - 48)=u
      rw [h2]
      omega
    · intro c hc
      rw [List.mem_singleton.1 hc]
      exact h1
  · rw [Lib.decDigits,dif_neg h]
    obtain ⟨i1,i2,i3⟩:=ih (u / 10) (by omega)
    obtain ⟨h1,h2⟩:=digit_of (u % 10) (by omega)
    refine ⟨?_,?_,by simp⟩
    · rw [foldl_dec,i1,h2]
      omega
    · intro c hc
      rcases List.mem_append.1 hc with hc|hc
      · exact i2 c hc
      · rw [List.mem_singleton.1 hc]
        exact h1
def tokV (v:Val) (i:Nat):Tok:=if v.kind=0 then ⟨1,i,w_null,0⟩ else if v.kind=1 then ⟨2,i,noStr,v.n⟩ else ⟨3,i,v.s,0⟩
def PrintsV (v:Val):Prop:=(v.kind=0 \/ v.kind=1 \/ v.kind=2)/\-9223372036854775808<=v.n/\v.n<=9223372036854775807/\v.s.size<=40
theorem dig_in {c:UInt8} (h:digB c=true):inB c=true:=by simp [inB,h]
theorem dig_not (c:UInt8) (h:digB c=true):letB c=false/\c ≠ 45/\c ≠ 39:=by
 have h2:∀ n<256,digB (UInt8.ofNat n)=true->letB (UInt8.ofNat n)=false/\UInt8.ofNat n ≠ 45/\UInt8.ofNat n ≠ 39:=by decide +kernel
 have:=h2 c.toNat c.toNat_lt
 rw [UInt8.ofNat_toNat] at this
 exact this h
theorem num_tok (n:Int) (h0:-9223372036854775808<=n) (h1:n<=9223372036854775807) (r:List UInt8) (hr:EndsT r) (i:Nat):tokM (Lib.itoa n ++ r) i=.ok (⟨2,i,noStr,n⟩,(Lib.itoa n).length):=by
 have hd:∀ c q,r=c :: q->digB c=false:=fun c q e=>by
  have:=(hr c q e).1
  unfold inB at this
  simp only [Bool.or_eq_false_iff] at this
  exact this.1.2
 unfold Lib.itoa
 split
 · next hn =>
   obtain ⟨d1,d2,d3⟩:=dec_digits n.natAbs
   obtain ⟨c,D,e⟩:∃ c D,Lib.decDigits n.natAbs=c :: D:=List.exists_cons_of_ne_nil d3
   rw [e] at d1 d2 ⊢
   have hc:=d2 c List.mem_cons_self
   have hs:spanN digB (c :: (D ++ r))=D.length+1:=span_append digB (c :: D) r d2 hd
   have ht:List.take (1+(D.length+1)) (45 :: c :: (D ++ r))=45 :: c :: D:=by
    rw [Nat.add_comm 1,List.take_succ_cons,List.take_succ_cons,List.take_left]
   have hm:numM (45 :: c :: D)=some n:=by
    unfold numM
    simp only [d1]
    rw [show (-((n.natAbs:Nat):Int))=n by omega,if_pos ⟨h0,h1⟩]
   unfold tokM
   simp only [List.cons_append]
   rw [if_neg (by decide),if_pos (by simp [headDig,hc]),hs,ht,hm]
   simp only [List.length_cons]
   rw [Nat.add_comm 1]
 · next hn =>
   obtain ⟨d1,d2,d3⟩:=dec_digits n.toNat
   obtain ⟨c,D,e⟩:∃ c D,Lib.decDigits n.toNat=c :: D:=List.exists_cons_of_ne_nil d3
   rw [e] at d1 d2 ⊢
   have hc:=d2 c List.mem_cons_self
   obtain ⟨c1,c2,c3⟩:=dig_not c hc
   have hs:spanN digB (D ++ r)=D.length:=span_append digB D r (fun x hx=>d2 x (List.mem_cons_of_mem _ hx)) hd
   have ht:List.take (1+D.length) (c :: (D ++ r))=c :: D:=by
    rw [Nat.add_comm 1,List.take_succ_cons,List.take_left]
   have hm:numM (c :: D)=some n:=by
    rw [numM_pos c2,d1,show ((n.toNat:Nat):Int)=n by omega,if_pos ⟨h0,h1⟩]
   unfold tokM
   simp only [List.cons_append]
   rw [if_neg (by simp [c1]),if_pos (by simp [hc]),hs,ht,hm]
   simp only [List.length_cons]
   rw [Nat.add_comm 1]
theorem word_tok (A:List UInt8) (c:UInt8) (D:List UInt8) (e:A=c :: D) (hc:letB c=true) (hA:∀ x ∈ A,inB x=true) (r:List UInt8) (hr:EndsT r) (i:Nat):tokM (A ++ r) i=.ok (⟨1,i,⟨⟨A⟩⟩,0⟩,A.length):=by
 have hs:=span_append inB A r hA fun c q e=>(hr c q e).1
 subst e
 unfold tokM
 rw [List.cons_append] at hs ⊢
 simp only
 rw [if_pos hc,hs]
 rw [show List.take (c :: D).length (c :: (D ++ r))=c :: D from List.take_left' rfl]
theorem val_tok (v:Val) (hv:PrintsV v) (r:List UInt8) (hr:EndsT r) (i:Nat):tokM ((textV v).data.toList ++ r) i=.ok (tokV v i,(textV v).size):=by
 obtain ⟨k,h0,h1,h2⟩:=hv
 unfold textV tokV
 rcases k with k|k|k
 · rw [if_pos k,if_pos k]
   exact word_tok [110,117,108,108] 110 [117,108,108] rfl (by decide) (by decide) r hr i
 · simp only [k,show ¬ (1:Int)=0 by decide,if_true,if_false]
   exact num_tok v.n h0 h1 r hr i
 · simp only [k,show ¬ (2:Int)=0 by decide,show ¬ (2:Int)=1 by decide,if_true,if_false]
   have hq:=quote_esc v.s.data.toList r fun c q e=>(hr c q e).2
   simp only [List.cons_append,List.append_assoc,List.nil_append]
   unfold tokM
   simp only
   rw [if_neg (by decide),if_neg (by simp [show digB 39=false by decide]),if_pos (by decide),hq]
   have hl:v.s.data.toList.length<=40:=by simpa using h2
   simp only
   rw [if_pos hl]
   simp [ByteArray.size]
end
section
open Go
theorem tok_pos {c:UInt8} {r:List UInt8} {i:Nat} {q:Tok × Nat} (h:tokM (c :: r) i=.ok q):1<=q.2:=by
 unfold tokM at h
 simp only at h
 split at h
 · next hc =>
   cases h
   show 1<=spanN inB (c :: r)
   unfold spanN
   rw [List.takeWhile_cons,if_pos (by unfold inB;rw [hc];rfl)]
   simp
 · split at h
   · split at h
     · cases h
       show 1<=1+_
       omega
     · cases h
   · split at h
     · split at h
       · split at h
         · cases h
           show 1<=_+1
           omega
         · cases h
       · cases h
     · split at h
       · next x hx =>
         cases h
         show 1<=x.length
         have:∀ y ∈ signsL,1<=y.length:=by decide
         exact this x (List.mem_of_find?_eq_some hx)
       · cases h
theorem lex_fuel:∀ (n:Nat) (L:List UInt8),L.length<=n->∀ (f g:Nat),L.length<=f->L.length<=g->∀ i,lexGo f L i=lexGo g L i
 | n,[],_,f,g,_,_,i=>by cases f <;> cases g <;> rfl
 | 0,c :: r,h,_,_,_,_,_=>absurd h (by simp)
 | n+1,c :: r,h,0,_,hf,_,_=>absurd hf (by simp)
 | n+1,c :: r,h,f+1,0,_,hg,_=>absurd hg (by simp)
 | n+1,c :: r,h,f+1,g+1,hf,hg,i=>by
  rw [List.length_cons] at h hf hg
  unfold lexGo
  split
  · exact lex_fuel n r (by omega) f g (by omega) (by omega) (i+1)
  · cases e:tokM (c :: r) i with
    | error e=>rfl
    | ok q =>
     have hp:=tok_pos e
     have hl:((c :: r).drop q.2).length<=r.length:=by simp;omega
     simp only
     rw [lex_fuel n _ (by omega) f g (by omega) (by omega)]
def lexAt (L:List UInt8) (i:Nat):Except PErr (List Tok):=lexGo L.length L i
theorem lexM_at (s:ByteArray):lexM s=lexAt s.data.toList 0:=lex_fuel _ _ (jR _) _ _ (by rw [Array.length_toList];exact jR _) (jR _) 0
theorem lex_nil (i:Nat):lexAt [] i=.ok []:=rfl
theorem lex_white {c:UInt8} (hc:whiteB c=true) (r:List UInt8) (i:Nat):lexAt (c :: r) i=lexAt r (i+1):=by
 unfold lexAt
 rw [List.length_cons]
 conv=>lhs;unfold lexGo
 rw [if_pos hc]
theorem lex_tok {A r:List UInt8} {t:Tok} {i:Nat} (hA:∀ c q,A=c :: q->whiteB c=false) (hn:A ≠ []) (h:tokM (A ++ r) i=.ok (t,A.length)):lexAt (A ++ r) i=(lexAt r (i+A.length)).map (t :: ·):=by
 obtain ⟨c,q,rfl⟩:=List.exists_cons_of_ne_nil hn
 unfold lexAt
 rw [List.cons_append] at h ⊢
 rw [List.length_cons]
 conv=>lhs;unfold lexGo
 rw [if_neg (by rw [hA c q rfl];decide),h]
 simp only
 have e:List.drop (c :: q).length (c :: (q ++ r))=r:=by simp
 rw [e,lex_fuel r.length r (jR _) _ r.length (by simp) (jR _)]
theorem sign_tok (A:List UInt8) (hA:A ∈ [[40],[41],[44],[42],[43],[61]]) (r:List UInt8) (i:Nat):tokM (A ++ r) i=.ok (⟨4,i,⟨⟨A⟩⟩,0⟩,A.length):=by
 simp only [List.mem_cons,List.not_mem_nil,or_false] at hA
 rcases hA with rfl|rfl|rfl|rfl|rfl|rfl <;> rfl
structure Piece (A:List UInt8) (t:Nat->Tok):Prop where
 ne:A ≠ []
 head:∀ c q,A=c :: q->whiteB c=false
 tok:∀ r,EndsT r->∀ i,tokM (A ++ r) i=.ok (t i,A.length)
theorem Piece.lex {A:List UInt8} {t:Nat->Tok} (h:Piece A t) (r:List UInt8) (hr:EndsT r) (i:Nat):lexAt (A ++ r) i=(lexAt r (i+A.length)).map (t i :: ·):=lex_tok h.head h.ne (h.tok r hr i)
theorem lex_sign (A:List UInt8) (hA:A ∈ [[40],[41],[44],[42],[43],[61]]) (r:List UInt8) (i:Nat):lexAt (A ++ r) i=(lexAt r (i+A.length)).map (⟨4,i,⟨⟨A⟩⟩,0⟩ :: ·):=by
 refine lex_tok ?_ ?_ (sign_tok A hA r i)
 · have:∀ A ∈ [[40],[41],[44],[42],[43],[61]],∀ c ∈ A.head?,whiteB c=false:=by decide
   intro c q e
   exact this A hA c (by rw [e];rfl)
 · intro e
   rw [e] at hA
   revert hA
   decide
theorem ends_cons {c:UInt8} {r:List UInt8} (h:inB c=false) (h2:c ≠ 39):EndsT (c :: r):=fun x q e=>by
 cases e
 exact ⟨h,h2⟩
theorem word_piece (A:List UInt8) (hA:(match A with|c :: _=>letB c | []=>false)=true) (hB:A.all inB=true):Piece A fun i=>⟨1,i,⟨⟨A⟩⟩,0⟩:=by
 cases A with
 | nil=>cases hA
 | cons c D =>
  simp only at hA
  refine ⟨by simp,?_,fun r hr i=>word_tok (c :: D) c D rfl hA (fun x hx=>List.all_eq_true.1 hB x hx) r hr i⟩
  intro x q e
  cases e
  have h2:∀ n<256,letB (UInt8.ofNat n)=true->whiteB (UInt8.ofNat n)=false:=by decide +kernel
  have:=h2 c.toNat c.toNat_lt
  rw [UInt8.ofNat_toNat] at this
  exact this hA
theorem val_piece (v:Val) (hv:PrintsV v):Piece (textV v).data.toList (tokV v):=by
 refine ⟨?_,?_,fun r hr i=>?_⟩
 · unfold textV
   obtain ⟨k,-⟩:=hv
   rcases k with k|k|k
   · simp [k]
   · simp only [k,show ¬ (1:Int)=0 by decide,if_true,if_false]
     unfold Lib.itoa
     split
     · simp
     · exact (dec_digits _).2.2
   · simp [k]
 · intro c q e
   unfold textV at e
   obtain ⟨k,-⟩:=hv
   rcases k with k|k|k
   · simp only [k,if_true] at e
     cases e
     decide
   · simp only [k,show ¬ (1:Int)=0 by decide,if_true,if_false] at e
     have hm:c ∈ Lib.itoa v.n:=by rw [e];exact List.mem_cons_self
     have h2:∀ n<256,digB (UInt8.ofNat n)=true->whiteB (UInt8.ofNat n)=false:=by decide +kernel
     have h3:digB c=true->whiteB c=false:=by
      have:=h2 c.toNat c.toNat_lt
      rw [UInt8.ofNat_toNat] at this
      exact this
     unfold Lib.itoa at hm
     split at hm
     · rcases List.mem_cons.1 hm with rfl|hm
       · decide
       · exact h3 ((dec_digits _).2.1 c hm)
     · exact h3 ((dec_digits _).2.1 c hm)
   · simp only [k,show ¬ (2:Int)=0 by decide,show ¬ (2:Int)=1 by decide,if_true,if_false] at e
     cases e
     decide
 · rw [val_tok v hv r hr i]
   rfl
end
section
structure Stmt.short (s:Stmt) (m:Nat):Prop where
 cols:s.cols.length<=m
 names:s.names.length<=m
 row:s.row.length<=m
 sets:s.sets.length<=m
 wher:s.wher.length<=m
 order:s.order.length<=m
theorem Stmt.short.mono {s:Stmt} {m n:Nat} (h:s.short m) (k:m<=n):s.short n :=
 ⟨Nat.le_trans h.cols k,Nat.le_trans h.names k,Nat.le_trans h.row k,Nat.le_trans h.sets k,Nat.le_trans h.wher k,Nat.le_trans h.order k⟩
def Sh (n:Nat) (S:PS):Prop:=S.s.short n/\S.out.length<=n
theorem Sh.mono {m n:Nat} {S:PS} (h:Sh m S) (k:m<=n):Sh n S:=⟨h.1.mono k,Nat.le_trans h.2 k⟩
def Cost {α:Type} (c:Nat) (m:PM α):Prop:=∀ n S,Sh n S->(∀ er,m S=.error er->er.2 ≠ 0)/\∀ a S',m S=.ok (a,S')->Sh (n+c) S'
theorem Cost.mono {α:Type} {c d:Nat} {m:PM α} (h:Cost c m) (k:c<=d):Cost d m:=fun n S hS=>⟨(h n S hS).1,fun a S' e=>((h n S hS).2 a S' e).mono (by omega)⟩
theorem cost_bind {α β:Type} {c d e:Nat} {m:PM α} {f:α->PM β} (h:Cost c m) (k:∀ a,Cost d (f a)) (hc:c+d<=e):Cost e (PM.bind m f):=by
 intro n S hS
 unfold PM.bind
 cases hm:m S with
 | error er=>exact ⟨fun er' e=>by cases e;exact (h n S hS).1 er hm,fun a S' e=>by cases e⟩
 | ok q =>
  have h1:=(h n S hS).2 q.1 q.2 hm
  have h2:=k q.1 (n+c) q.2 h1
  exact ⟨h2.1,fun a S' e=>(h2.2 a S' e).mono (by omega)⟩
theorem cost_if {α:Type} {c:Nat} {p:Prop} [Decidable p] {m m':PM α} (h:Cost c m) (k:Cost c m'):Cost c (if p then m else m'):=by
 split
 · exact h
 · exact k
def Calm {α:Type} (m:PM α):Prop:=∀ S,(∀ er,m S=.error er->er.2 ≠ 0)/\∀ a S',m S=.ok (a,S')->(∀ n,S.s.short n->S'.s.short n)/\S'.out=S.out
theorem Calm.cost {α:Type} {m:PM α} (h:Calm m) (c:Nat):Cost c m:=fun n S hS=>⟨(h S).1,fun a S' e=>by
 obtain ⟨h1,h2⟩:=(h S).2 a S' e
 exact ⟨(h1 n hS.1).mono (Nat.le_add_right _ _),by rw [h2];exact Nat.le_trans hS.2 (Nat.le_add_right _ _)⟩⟩
theorem cost_calm {α β:Type} {c:Nat} {m:PM α} {f:α->PM β} (h:Calm m) (k:∀ a,Cost c (f a)):Cost c (PM.bind m f):=cost_bind (h.cost 0) k (by omega)
theorem calm_bind {α β:Type} {m:PM α} {f:α->PM β} (h:Calm m) (k:∀ a,Calm (f a)):Calm (PM.bind m f):=by
 intro S
 unfold PM.bind
 cases hm:m S with
 | error er=>exact ⟨fun er' e=>by cases e;exact (h S).1 er hm,nofun⟩
 | ok q =>
  obtain ⟨h1,h2⟩:=(h S).2 q.1 q.2 hm
  have h3:=k q.1 q.2
  exact ⟨h3.1,fun a S' e=>⟨fun n hn=>(h3.2 a S' e).1 n (h1 n hn),(h3.2 a S' e).2.trans h2⟩⟩
theorem calm_if {α:Type} {p:Prop} [Decidable p] {m m':PM α} (h:Calm m) (k:Calm m'):Calm (if p then m else m'):=by
 split
 · exact h
 · exact k
theorem calm_fld {f:Stmt->Stmt} (h:∀ s,(f s).cols=s.cols/\(f s).names=s.names/\(f s).row=s.row/\(f s).sets=s.sets/\(f s).wher=s.wher/\(f s).order=s.order:=by intro s;exact ⟨rfl,rfl,rfl,rfl,rfl,rfl⟩):Calm (modM f):=fun S=>⟨nofun,fun a S' e=>by
 cases e
 obtain ⟨h1,h2,h3,h4,h5,h6⟩:=h S.s
 exact ⟨fun n hs=>⟨by show (f S.s).cols.length<=n;rw [h1];exact hs.cols,by show (f S.s).names.length<=n;rw [h2];exact hs.names,by show (f S.s).row.length<=n;rw [h3];exact hs.row,by show (f S.s).sets.length<=n;rw [h4];exact hs.sets,by show (f S.s).wher.length<=n;rw [h5];exact hs.wher,by show (f S.s).order.length<=n;rw [h6];exact hs.order⟩,rfl⟩⟩
theorem calm_pure {α:Type} (a:α):Calm (pure a:PM α):=fun S=>⟨nofun,fun b S' e=>by cases e;exact ⟨fun _ h=>h,rfl⟩⟩
theorem calm_fail {α:Type} {i:Nat} {e:Int} (h:e ≠ 0):Calm (failM i e:PM α):=fun S=>⟨fun er e'=>by cases e';exact h,fun b S' e=>by cases e⟩
theorem calm_now (en:Nat):Calm (nowM en):=fun S=>⟨nofun,fun b S' e=>by cases e;exact ⟨fun _ h=>h,rfl⟩⟩
theorem calm_next:Calm nextM:=fun S=>⟨nofun,fun b S' e=>by cases e;exact ⟨fun _ h=>h,rfl⟩⟩
theorem calm_may (xs:List ByteArray):Calm (mayM xs):=by
 intro S
 unfold mayM
 split
 · exact ⟨nofun,fun b S' e=>by cases e;exact ⟨fun _ h=>h,rfl⟩⟩
 · exact ⟨nofun,fun b S' e=>by cases e;exact ⟨fun _ h=>h,rfl⟩⟩
theorem calm_must (en:Nat):∀ xs:List ByteArray,Calm (mustM en xs)
 | []=>calm_pure ()
 | x :: xs=>fun S=>by
  unfold mustM
  split
  · exact calm_must en xs _
  · exact ⟨fun er e=>by cases e;simp,fun b S' e=>by cases e⟩
theorem calm_name (en:Nat):Calm (nameM en):=by
 intro S
 unfold nameM
 split
 · split
   · exact ⟨fun er e=>by cases e;simp,fun b S' e=>by cases e⟩
   · exact ⟨nofun,fun b S' e=>by cases e;exact ⟨fun _ h=>h,rfl⟩⟩
 · exact ⟨fun er e=>by cases e;simp,fun b S' e=>by cases e⟩
theorem calm_number (en:Nat):Calm (numberM en):=by
 intro S
 unfold numberM
 split
 · exact ⟨nofun,fun b S' e=>by cases e;exact ⟨fun _ h=>h,rfl⟩⟩
 · exact ⟨fun er e=>by cases e;simp,fun b S' e=>by cases e⟩
theorem calm_value (en:Nat):Calm (valueM en):=by
 intro S
 unfold valueM
 split
 · exact ⟨nofun,fun b S' e=>by cases e;exact ⟨fun _ h=>h,rfl⟩⟩
 · split
   · exact ⟨nofun,fun b S' e=>by cases e;exact ⟨fun _ h=>h,rfl⟩⟩
   · split
     · exact ⟨nofun,fun b S' e=>by cases e;exact ⟨fun _ h=>h,rfl⟩⟩
     · exact ⟨fun er e=>by cases e;simp,fun b S' e=>by cases e⟩
theorem cost_mod {c:Nat} {f:Stmt->Stmt} (h:∀ s n,s.short n->(f s).short (n+c)):Cost c (modM f):=fun n S hS=>⟨nofun,fun a S' e=>by
 cases e
 exact ⟨h _ _ hS.1,Nat.le_trans hS.2 (Nat.le_add_right _ _)⟩⟩
theorem cost_list {en:Nat} {bt:ByteArray} {st:Tok->Bool} {one:PM Unit} (h:Cost 1 one):∀ k,Cost (k+1) (listM en bt st one k)
 | 0=>fun n S hS=>by
  unfold listM
  split
  · exact ⟨fun er e=>by cases e;simp,fun b S' e=>by cases e⟩
  · exact h n S hS
 | k+1=>fun n S hS=>by
  unfold listM
  cases ho:one S with
  | error er=>exact ⟨fun er' e=>by cases e;exact (h n S hS).1 er ho,fun a S' e=>by cases e⟩
  | ok q =>
   have h1:=(h n S hS).2 q.1 q.2 ho
   simp only
   split
   · have h2:=cost_list (en:=en) (bt:=bt) (st:=st) h k (n+1) { q.2 with l:=q.2.l.tail } h1
     exact ⟨h2.1,fun a S' e=>(h2.2 a S' e).mono (by omega)⟩
   · exact ⟨nofun,fun b S' e=>by cases e;exact h1.mono (by omega)⟩
theorem cost_cols1 (en:Nat):Cost 1 (colsOne en):=by
 intro n S hS
 unfold colsOne
 cases hm:nameM en S with
 | error er=>exact ⟨fun er' e=>by cases e;exact (calm_name en S).1 er hm,fun a S' e=>by cases e⟩
 | ok q =>
  obtain ⟨h1,h2⟩:=(calm_name en S).2 q.1 q.2 hm
  refine ⟨fun er e=>(by cases e),fun b S' e=>?_⟩
  cases e
  refine ⟨?_,?_⟩
  · show q.2.s.short (n+1)
    exact (h1 n hS.1).mono (by omega)
  · show (q.2.out ++ [q.1]).length<=n+1
    rw [h2,List.length_append]
    exact Nat.succ_le_succ hS.2
theorem cost_columns {β:Type} {en k d e:Nat} {f:List ByteArray->PM β} (h:∀ l,(∀ n S,Sh n S->l.length<=n->(∀ er,f l S=.error er->er.2 ≠ 0)/\∀ a S',f l S=.ok (a,S')->Sh (n+d) S')) (he:k+1+d<=e):Cost e (PM.bind (columnsM en k) f):=by
 intro n S hS
 unfold PM.bind columnsM
 have h1:=cost_list (cost_cols1 en) (en:=en) (bt:=w_comma) (st:=namedT) k n { S with out:=[] } ⟨hS.1,Nat.zero_le _⟩
 cases hm:listM en w_comma namedT (colsOne en) k { S with out:=[] } with
 | error er=>exact ⟨fun er' e=>by cases e;exact h1.1 er hm,fun a S' e=>by cases e⟩
 | ok q =>
  have h2:=h1.2 q.1 q.2 hm
  have h3:=h q.2.out (n+(k+1)) { q.2 with out:=S.out } ⟨h2.1,Nat.le_trans hS.2 (by omega)⟩ h2.2
  exact ⟨h3.1,fun a S' e=>(h3.2 a S' e).mono (by omega)⟩
theorem short_app {α:Type} {l:List α} {x:α} {n:Nat} (h:l.length<=n):(l ++ [x]).length<=n+1:=by
 rw [List.length_append];exact Nat.succ_le_succ h
theorem cost_row1 (en:Nat):Cost 1 (rowOne en):=by
 rw [rowOne_eq]
 refine cost_calm (calm_value en) (fun v=>cost_mod (c:=1) fun s n h=>?_)
 exact ⟨Nat.le_succ_of_le h.cols,Nat.le_succ_of_le h.names,short_app h.row,Nat.le_succ_of_le h.sets,Nat.le_succ_of_le h.wher,Nat.le_succ_of_le h.order⟩
theorem cost_cond1 (en:Nat):Cost 1 (condOne en):=by
 rw [condOne_eq]
 refine cost_calm (calm_name en) (fun c=>cost_calm (calm_now en) (fun t=>cost_if ((calm_fail (by decide)).cost 1) (cost_calm calm_next (fun _=>cost_calm (calm_value en) (fun v=>cost_mod (c:=1) fun s n h=>?_)))))
 exact ⟨Nat.le_succ_of_le h.cols,Nat.le_succ_of_le h.names,Nat.le_succ_of_le h.row,Nat.le_succ_of_le h.sets,short_app h.wher,Nat.le_succ_of_le h.order⟩
theorem cost_col1 (en:Nat):Cost 1 (colOne en):=by
 rw [colOne_eq]
 have key:∀ (n:ByteArray) (k:Int),Cost 1 (modM fun s=>{ s with cols:=s.cols ++ [(n,k)] }):=fun n k=>cost_mod (c:=1) fun s n h =>
  ⟨short_app h.cols,Nat.le_succ_of_le h.names,Nat.le_succ_of_le h.row,Nat.le_succ_of_le h.sets,Nat.le_succ_of_le h.wher,Nat.le_succ_of_le h.order⟩
 exact cost_calm (calm_name en) (fun c=>cost_calm (calm_may _) (fun b=>cost_if (key c 1) (cost_calm (calm_must en _) (fun _=>key c 2))))
theorem cost_set1 (en:Nat):Cost 1 (setOne en):=by
 rw [setOne_eq]
 have key:∀ x:SetV,Cost 1 (modM fun s=>{ s with sets:=s.sets ++ [x] }):=fun x=>cost_mod (c:=1) fun s n h =>
  ⟨Nat.le_succ_of_le h.cols,Nat.le_succ_of_le h.names,Nat.le_succ_of_le h.row,short_app h.sets,Nat.le_succ_of_le h.wher,Nat.le_succ_of_le h.order⟩
 exact cost_calm (calm_name en) (fun c=>cost_calm (calm_must en _) (fun _=>cost_calm (calm_now en) (fun t=>cost_if
  (cost_calm (calm_name en) (fun d=>cost_calm (calm_must en _) (fun _=>cost_calm (calm_number en) (fun n=>key _))))
  (cost_calm (calm_value en) (fun v=>key _)))))
theorem cost_where (en:Nat):Cost 9 (whereM en):=by
 rw [whereM_eq]
 exact cost_calm (calm_may _) (fun b=>cost_if (cost_list (cost_cond1 en) 8) ((calm_pure ()).cost 9))
theorem cost_names {f:List ByteArray->Stmt->Stmt} (h:∀ l s n,s.short n->l.length<=n->(f l s).short n) {en k e:Nat} (he:k+1<=e):Cost e (PM.bind (columnsM en k) fun l=>modM (f l)) :=
 cost_columns (d:=0) (fun l n S hS hl=>⟨nofun,fun a S' e=>by cases e;exact ⟨h l _ _ hS.1 hl,hS.2⟩⟩) (by omega)
theorem cost_create (en:Nat):Cost 40 (createM en):=by
 rw [create_eq]
 refine cost_calm (calm_may _) (fun b=>cost_if ?_ ?_)
 · exact cost_calm (calm_name en) (fun t=>cost_calm (calm_fld) (fun _=>cost_calm (calm_must en _) (fun _=>cost_bind (cost_list (cost_col1 en) 6) (fun _=>(calm_must en _).cost 0) (by decide))))
 · refine cost_calm (calm_must en _) (fun _=>cost_calm (calm_name en) (fun n=>cost_calm (calm_fld) (fun _=>cost_calm (calm_must en _) (fun _=>cost_calm (calm_name en) (fun t=>cost_calm (calm_fld) (fun _=>cost_calm (calm_must en _) (fun _=>?_)))))))
   refine cost_columns (d:=0) (fun l n S hS hl=>?_) (by decide)
   exact ⟨fun er e=>(calm_must en [w_rp] _).1 er e,fun a S' e=>by
    obtain ⟨h3,h4⟩:=(calm_must en [w_rp] _).2 a S' e
    exact ⟨h3 _ ⟨hS.1.cols,hl,hS.1.row,hS.1.sets,hS.1.wher,hS.1.order⟩,by rw [h4];exact hS.2⟩⟩
theorem cost_insert (en:Nat):Cost 40 (insertM en):=by
 rw [insert_eq]
 exact cost_calm (calm_must en _) (fun _=>cost_calm (calm_name en) (fun t=>cost_calm (calm_fld) (fun _=>cost_calm (calm_must en _) (fun _=>cost_bind (cost_list (cost_row1 en) 6) (fun _=>(calm_must en _).cost 0) (by decide)))))
theorem cost_rename (en:Nat):Cost 40 (renameM en):=by
 rw [rename_eq]
 exact cost_calm (calm_name en) (fun t=>cost_calm (calm_fld) (fun _=>cost_calm (calm_name en) (fun n=>cost_calm (calm_fld) (fun _=>cost_calm (calm_must en _) (fun _=>cost_calm (calm_name en) (fun j=>(Calm.cost calm_fld _)))))))
theorem cost_delete (en:Nat):Cost 40 (deleteM en):=by
 rw [delete_eq]
 exact cost_calm (calm_must en _) (fun _=>cost_calm (calm_name en) (fun t=>cost_calm (calm_fld) (fun _=>(cost_where en).mono (by decide))))
theorem cost_update (en:Nat):Cost 40 (updateM en):=by
 rw [update_eq]
 exact cost_calm (calm_name en) (fun t=>cost_calm (calm_fld) (fun _=>cost_calm (calm_must en _) (fun _=>cost_bind (cost_list (cost_set1 en) 6) (fun _=>cost_where en) (by decide))))
theorem cost_aggB (en:Nat) (k:Int):Cost 1 (aggB en k):=by
 unfold aggB
 refine cost_if ((calm_must en _).cost 1) ?_
 show Cost 1 (PM.bind (nameM en) fun n=>modM fun s=>{ s with names:=[n] })
 refine cost_calm (calm_name en) (fun n=>cost_mod (c:=1) fun s m h=>?_)
 exact ⟨Nat.le_succ_of_le h.cols,by show 1<=m+1;omega,Nat.le_succ_of_le h.row,Nat.le_succ_of_le h.sets,Nat.le_succ_of_le h.wher,Nat.le_succ_of_le h.order⟩
theorem cost_head (en:Nat):Cost 14 (selHead en):=by
 rw [selHead_eq]
 refine cost_calm (calm_now en) (fun t=>cost_calm (calm_fld) (fun _=>cost_if ?_ ?_))
 · exact cost_names (f:=fun l s=>{ s with names:=l }) (fun l s n hs hl=>⟨hs.cols,hl,hs.row,hs.sets,hs.wher,hs.order⟩) (by decide)
 · exact cost_calm calm_next (fun _=>cost_calm (calm_must en _) (fun _=>cost_bind (cost_aggB en _) (fun _=>(calm_must en _).cost 0) (by decide)))
theorem cost_join (en:Nat):Cost 0 (joinM en):=by
 rw [join_eq]
 exact cost_calm (calm_may _) (fun b=>cost_if (cost_calm (calm_name en) (fun j=>cost_calm (calm_fld) (fun _=>cost_calm (calm_must en _) (fun _=>cost_calm (calm_name en) (fun l=>cost_calm (calm_fld) (fun _=>cost_calm (calm_must en _) (fun _=>cost_calm (calm_name en) (fun r=>(Calm.cost calm_fld _))))))))) ((calm_pure ()).cost 0))
theorem cost_order (en:Nat):Cost 7 (orderM en):=by
 have h:Cost 7 (orderB en):=by
  rw [orderB_eq]
  exact cost_calm (calm_may _) (fun b=>cost_if (cost_calm (calm_must en _) (fun _=>cost_names (f:=fun l s=>{ s with order:=l }) (fun l s n hs hl=>⟨hs.cols,hs.names,hs.row,hs.sets,hs.wher,hl⟩) (by decide))) ((calm_pure ()).cost 7))
 intro n S hS
 unfold orderM
 split
 · exact h n S hS
 · exact ⟨nofun,fun b S' e=>by cases e;exact hS.mono (by omega)⟩
theorem cost_sel (en:Nat):Cost 40 (selM en):=by
 rw [sel_eq]
 exact cost_bind (d:=16) (cost_head en) (fun _=>cost_calm (calm_must en _) (fun _=>cost_calm (calm_name en) (fun t=>cost_calm (calm_fld) (fun _=>cost_bind (c:=0) (d:=16) (cost_join en) (fun _=>cost_bind (cost_where en) (fun _=>cost_order en) (by decide)) (by decide))))) (by decide)
theorem cost_named (en:Nat) (k:Int):Cost 0 (namedM en k):=by
 rw [named_eq]
 exact cost_calm (calm_name en) (fun n=>(Calm.cost calm_fld _))
theorem cost_commit (en:Nat):Cost 40 (commitM en):=by
 rw [commit_eq]
 exact cost_calm (calm_fld) (fun _=>cost_calm (calm_may _) (fun b=>cost_if ((cost_named en 14).mono (Nat.zero_le 40)) ((calm_pure ()).cost 40)))
theorem cost_rollback (en:Nat):Cost 40 (rollbackM en):=by
 rw [rollback_eq]
 exact cost_calm (calm_fld) (fun _=>cost_calm (calm_may _) (fun b=>cost_if ((cost_named en 12).mono (Nat.zero_le 40)) (cost_calm (calm_may _) (fun b=>cost_if ((cost_named en 15).mono (Nat.zero_le 40)) ((calm_pure ()).cost 40)))))
theorem cost_slotN (en:Nat):Cost 0 (slotN en):=by
 rw [slotN_eq]
 exact cost_calm (calm_now en) (fun t=>cost_calm (calm_number en) (fun n=>cost_if ((calm_fail (by decide)).cost 0) ((Calm.cost calm_fld _))))
theorem cost_slot (en:Nat):Cost 40 (slotM en):=by
 rw [slot_eq]
 have key:∀ k:Int,Cost 0 (PM.bind (modM fun s=>{ s with kind:=k }) fun _=>slotN en):=fun k=>cost_calm (calm_fld) (fun _=>cost_slotN en)
 exact cost_bind (d:=0) (cost_named en 18) (fun _=>cost_calm (calm_may _) (fun b=>cost_if (key 19) (cost_calm (calm_may _) (fun b=>cost_if (key 20) ((calm_pure ()).cost 0))))) (by decide)
theorem cost_vacuum (en:Nat):Cost 40 (vacuumM en) :=
 cost_calm (m:=nameM en) (f:=fun t=>modM fun s=>{ s with kind:=16,table:=t }) (calm_name en) (fun n=>(Calm.cost calm_fld _))
theorem cost_begin (en:Nat):Cost 40 (beginM en):=by
 have hread:Cost 0 (readM en):=by
  intro n S hS
  unfold readM
  split
  · exact (calm_must en _).cost 0 n S hS
  · exact ⟨nofun,fun b S' e=>by cases e;exact hS⟩
 have hmode:Cost 0 (modeM en):=by
  show Cost 0 (PM.bind (mayM [w_read,w_committed]) fun b=>if b=true then pure () else PM.bind (mayM [w_snapshot]) fun b=>if b=true then modM fun s=>{ s with mode:=1 } else PM.bind (mayM [w_serialisable]) fun b=>if b=true then modM fun s=>{ s with mode:=2 } else readM en)
  exact cost_calm (calm_may _) (fun b=>cost_if ((calm_pure ()).cost 0) (cost_calm (calm_may _) (fun b=>cost_if ((Calm.cost calm_fld _)) (cost_calm (calm_may _) (fun b=>cost_if ((Calm.cost calm_fld _)) hread)))))
 have hdef:Cost 0 (PM.bind (mayM [w_deferrable]) fun b=>if b=true then modM fun s=>{ s with mode:=s.mode+8 } else pure ()) :=
  cost_calm (calm_may _) (fun b=>cost_if ((Calm.cost calm_fld _)) ((calm_pure ()).cost 0))
 have honly:Cost 0 (PM.bind (mayM [w_read]) fun b=>if b=true then PM.bind (mustM en [w_only]) fun _=>PM.bind (modM fun s=>{ s with mode:=s.mode+4 }) fun _=>PM.bind (mayM [w_deferrable]) fun b=>if b=true then modM fun s=>{ s with mode:=s.mode+8 } else pure () else PM.bind (mayM [w_deferrable]) fun b=>if b=true then modM fun s=>{ s with mode:=s.mode+8 } else pure ()) :=
  cost_calm (calm_may _) (fun b=>cost_if (cost_calm (calm_must en _) (fun _=>cost_calm (calm_fld) (fun _=>hdef))) hdef)
 exact cost_bind (m:=modM fun s=>{ s with kind:=8 }) (c:=0) (d:=0) ((Calm.cost calm_fld _)) (fun _=>cost_bind hmode (fun _=>honly) (by decide)) (by decide)
theorem cost_first {en:Nat} {x:ByteArray} {f:PM Unit} (h:firstM en x=some f):Cost 40 f:=by
 unfold firstM at h
 rw [Option.map_eq_some_iff] at h
 obtain ⟨q,hq,rfl⟩:=h
 have hm:=List.mem_of_find?_eq_some hq
 simp only [List.mem_cons,List.not_mem_nil,or_false] at hm
 have hn:∀ k,Cost 40 (namedM en k):=fun k=>(cost_named en k).mono (Nat.zero_le 40)
 rcases hm with rfl|rfl|rfl|rfl|rfl|rfl|rfl|rfl|rfl|rfl|rfl|rfl|rfl|rfl
 · exact cost_create en
 · exact cost_rename en
 · exact cost_insert en
 · exact cost_update en
 · exact cost_delete en
 · exact cost_sel en
 · exact cost_begin en
 · exact cost_commit en
 · exact cost_rollback en
 · exact Calm.cost (m:=modM fun s=>{ s with kind:=17 }) calm_fld 40
 · exact hn 11
 · exact hn 13
 · exact cost_vacuum en
 · exact cost_slot en
theorem stmt_code {en:Nat} {l:List Tok}:(∀ er,stmtM en l=.error er->er.2 ≠ 0)/\∀ q,stmtM en l=.ok q->q.short 40:=by
 unfold stmtM
 simp only
 split
 · exact ⟨fun er e=>by cases e;simp,fun q e=>by cases e⟩
 · rename_i f hf
   have hc:Cost 40 f:=by
    split at hf
    · exact cost_first hf
    · cases hf
   have h0:Sh 0 ⟨l.tail,stmt0,[]⟩:=⟨⟨jR _,jR _,jR _,jR _,jR _,jR _⟩,jR _⟩
   have h1:=hc 0 _ h0
   cases hm:f ⟨l.tail,stmt0,[]⟩ with
   | error er=>exact ⟨fun er' e=>by cases e;exact h1.1 er hm,fun q e=>by cases e⟩
   | ok q =>
    simp only
    split
    · exact ⟨nofun,fun q' e=>by cases e;exact (by simpa using (h1.2 q.1 q.2 hm).1)⟩
    · exact ⟨fun er e=>by cases e;simp,fun q e=>by cases e⟩
theorem tok_code {L:List UInt8} {i:Nat} {er:PErr} (h:tokM L i=.error er):er.2 ≠ 0:=by
 unfold tokM at h
 split at h
 · cases h;simp
 · split at h
   · cases h
   · split at h
     · split at h
       · cases h
       · cases h;simp
     · split at h
       · split at h
         · split at h
           · cases h
           · cases h;simp
         · cases h;simp
       · split at h
         · cases h
         · cases h;simp
theorem lexGo_code:∀ (f:Nat) (L:List UInt8) (i:Nat) (er:PErr),lexGo f L i=.error er->er.2 ≠ 0
 | 0,_,_,_,h=>by cases h
 | _+1,[],_,_,h=>by cases h
 | f+1,c :: r,i,er,h=>by
  unfold lexGo at h
  split at h
  · exact lexGo_code f _ _ _ h
  · cases ht:tokM (c :: r) i with
    | error e =>
     rw [ht] at h
     cases h
     exact tok_code ht
    | ok q =>
     rw [ht] at h
     simp only at h
     cases hg:lexGo f ((c :: r).drop q.2) (i+q.2) with
     | error e =>
      rw [hg] at h
      cases h
      exact lexGo_code f _ _ _ hg
     | ok ts =>
      rw [hg] at h
      cases h
theorem lex_code {s:ByteArray} {er:PErr} (h:lexM s=.error er):er.2 ≠ 0:=lexGo_code _ _ _ _ h
theorem parse_code {s:ByteArray}:(∀ er,parseM s=.error er->er.2 ≠ 0)/\∀ q,parseM s=.ok q->q.short 40:=by
 unfold parseM
 split
 · rename_i e he
   exact ⟨fun er h=>by cases h;exact lex_code he,fun q h=>by cases h⟩
 · exact stmt_code
end
section
def xT1:ByteArray:=⟨#[115,101,108,101,99,116,32,97,32,102,114,111,109,32,116,32,119,104,101,114,101,32,98,32,62,61,32,45,49]⟩
def xT2:ByteArray:=⟨#[117,112,100,97,116,101,32,116,32,115,101,116,32,97,32,61,32,97,32,43,32,49]⟩
def xT3:ByteArray:=⟨#[115,101,108,101,99,116,32,97,32,98]⟩
def xT4:ByteArray:=⟨#[97,32,60,61,39,105,116,39,39,115,39,45,53]⟩
def xT5:ByteArray:=⟨#[97,32,45,32,53]⟩
def xQ1:Stmt:=⟨7,⟨#[116]⟩,noStr,[],[⟨#[97]⟩],[],[],[⟨⟨#[98]⟩,6,⟨1,-1,noStr⟩⟩],noStr,noStr,noStr,0,[],0,0⟩
def xQ2:Stmt:=⟨5,⟨#[116]⟩,noStr,[],[],[],[⟨⟨#[97]⟩,⟨#[97]⟩,⟨1,1,noStr⟩⟩],[],noStr,noStr,noStr,0,[],0,0⟩
def xL4:List Tok:=[⟨1,0,⟨#[97]⟩,0⟩,⟨4,2,⟨#[60,61]⟩,0⟩,⟨3,4,⟨#[105,116,39,115]⟩,0⟩,⟨2,11,noStr,-5⟩]
theorem xP1:parseM xT1=.ok xQ1:=by decide +kernel
theorem xP2:parseM xT2=.ok xQ2:=by decide +kernel
theorem xP3:parseM xT3=.error (9,60):=by decide +kernel
theorem xP4:lexM xT4=.ok xL4:=by decide +kernel
theorem xP5:lexM xT5=.error (2,60):=by decide +kernel
theorem xR1:rightM xQ1=true:=by decide +kernel
theorem xR0:rightM stmt0=false:=by decide +kernel
theorem xR2:printM xQ2=xT2:=by decide +kernel
theorem xS1:(printedM xQ1).size<=4294967000:=by decide +kernel
theorem xS2:(printedM xQ2).size<=4294967000:=by decide +kernel
theorem xS0:(printedM stmt0).size<=4294967000:=by decide +kernel
theorem xN:¬ xQ1=xQ2:=by decide
end
end Go.Proofs.YtjcpccadmcglgaaGreatDoor
