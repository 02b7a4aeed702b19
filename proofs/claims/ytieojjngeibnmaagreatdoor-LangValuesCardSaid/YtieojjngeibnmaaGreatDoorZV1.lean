/- Layer 17 (lang): an insert of printed values is read back: plain data, no program in sight. -/
import Derived.Test.YtieojjngeibnmaaGreatDoorZD9
set_option linter.unusedVariables false
set_option linter.unusedSimpArgs false
set_option maxRecDepth 100000
set_option maxHeartbeats 64000000
namespace Go.Proofs.YtieojjngeibnmaaGreatDoor
section
open Go
def tailL:List Val->List UInt8
 | []=>[41]
 | v :: r=>44 :: ((textV v).data.toList ++ tailL r)
def insL:List UInt8:=[105,110,115,101,114,116,32,105,110,116,111,32,116,32,118,97,108,117,101,115,32,40]
def tailT:List Val->Nat->List Tok
 | [],i=>[⟨4,i,w_rp,0⟩]
 | v :: r,i=>⟨4,i,w_comma,0⟩ :: tokV v (i+1) :: tailT r (i+1+(textV v).size)
def insT:List Tok:=[⟨1,0,w_insert,0⟩,⟨1,7,w_into,0⟩,⟨1,12,⟨#[116]⟩,0⟩,⟨1,14,w_values,0⟩,⟨4,21,w_lp,0⟩]
theorem tail_ends (r:List Val):EndsT (tailL r):=by cases r <;> exact ends_cons (by decide) (by decide)
theorem lex_tail:∀ (r:List Val) (_:∀ v ∈ r,PrintsV v) (i:Nat),lexAt (tailL r) i=.ok (tailT r i)
 | [],_,i=>by
  have:=lex_sign [41] (by decide) [] i
  rw [List.append_nil,lex_nil] at this
  exact this
 | v :: r,h,i=>by
  have e1:=lex_sign [44] (by decide) ((textV v).data.toList ++ tailL r) i
  have e2:=(val_piece v (h v List.mem_cons_self)).lex (tailL r) (tail_ends r) (i+1)
  have e3:=lex_tail r (fun u hu=>h u (List.mem_cons_of_mem _ hu)) (i+1+(textV v).size)
  unfold tailL tailT
  rw [show (44 :: ((textV v).data.toList ++ tailL r))=[44] ++ ((textV v).data.toList ++ tailL r) from rfl,e1]
  rw [show i + [(44:UInt8)].length=i+1 from rfl,e2,Array.length_toList,show (textV v).data.size=(textV v).size from rfl,e3]
  rfl
theorem lex_word (A:List UInt8) (hA:(match A with|c :: _=>letB c | []=>false)=true) (hB:A.all inB=true) (r:List UInt8) (i:Nat):lexAt (A ++ 32 :: r) i=(lexAt r (i+A.length+1)).map (⟨1,i,⟨⟨A⟩⟩,0⟩ :: ·):=by
 rw [(word_piece A hA hB).lex (32 :: r) (ends_cons (by decide) (by decide)) i,lex_white (by decide)]
theorem lex_ins (X:List UInt8):lexAt (insL ++ X) 0=(lexAt X 22).map (insT ++ ·):=by
 have e1:lexAt (insL ++ X) 0=(lexAt ([105,110,116,111,32,116,32,118,97,108,117,101,115,32,40] ++ X) 7).map (⟨1,0,w_insert,0⟩ :: ·):=lex_word [105,110,115,101,114,116] (by decide) (by decide) _ 0
 have e2:lexAt ([105,110,116,111,32,116,32,118,97,108,117,101,115,32,40] ++ X) 7=(lexAt ([116,32,118,97,108,117,101,115,32,40] ++ X) 12).map (⟨1,7,w_into,0⟩ :: ·):=lex_word [105,110,116,111] (by decide) (by decide) _ 7
 have e3:lexAt ([116,32,118,97,108,117,101,115,32,40] ++ X) 12=(lexAt ([118,97,108,117,101,115,32,40] ++ X) 14).map (⟨1,12,⟨#[116]⟩,0⟩ :: ·):=lex_word [116] (by decide) (by decide) _ 12
 have e4:lexAt ([118,97,108,117,101,115,32,40] ++ X) 14=(lexAt ([40] ++ X) 21).map (⟨1,14,w_values,0⟩ :: ·):=lex_word [118,97,108,117,101,115] (by decide) (by decide) _ 14
 have e5:lexAt ([40] ++ X) 21=(lexAt X 22).map (⟨4,21,w_lp,0⟩ :: ·):=lex_sign [40] (by decide) X 21
 rw [e1,e2,e3,e4,e5]
 cases lexAt X 22 <;> rfl
def PlainV (v:Val):Prop:=(v.kind ≠ 1->v.n=0)/\(v.kind ≠ 2->v.s=noStr)
theorem value_back (en:Nat) (v:Val) (hv:PrintsV v) (hp:PlainV v) (i:Nat) (L:List Tok) (s:Stmt) (o:List ByteArray):valueM en ⟨tokV v i :: L,s,o⟩=.ok (v,⟨L,s,o⟩):=by
 obtain ⟨k,n,t⟩:=v
 obtain ⟨k,-⟩:=hv
 obtain ⟨p1,p2⟩:=hp
 simp only at k p1 p2
 rcases k with rfl|rfl|rfl
 · rw [p1 (by decide),p2 (by decide)]
   rfl
 · rw [p2 (by decide)]
   rfl
 · rw [p1 (by decide)]
   rfl
theorem must_hit (en:Nat) (k:Int) (hk:k=1 \/ k=4) (i:Nat) (x:ByteArray) (n:Int) (xs:List ByteArray) (L:List Tok) (s:Stmt) (o:List ByteArray):mustM en (x :: xs) ⟨⟨k,i,x,n⟩ :: L,s,o⟩=mustM en xs ⟨L,s,o⟩:=by
 conv=>lhs;unfold mustM
 have:isB [x] (⟨k,i,x,n⟩ :: L)=true:=by rcases hk with rfl|rfl <;> simp [isB,wordB]
 rw [if_pos this]
 rfl
theorem name_hit (en:Nat) (t:Tok) (L:List Tok) (s:Stmt) (o:List ByteArray) (h:namedT t=true) (h2:t.text.size<=12):nameM en ⟨t :: L,s,o⟩=.ok (t.text,⟨L,s,o⟩):=by
 unfold nameM
 have e:nowT en ⟨t :: L,s,o⟩=t:=rfl
 rw [e,if_pos h,if_neg (by omega)]
 rfl
theorem starts_back (v:Val) (i:Nat):valuedT (tokV v i)=true:=by
 unfold tokV
 split
 · rfl
 · split <;> rfl
theorem list_back (en:Nat):∀ (r:List Val) (v:Val) (k i j:Nat) (s:Stmt) (o:List ByteArray),(∀ u ∈ v :: r,PrintsV u/\PlainV u)->r.length+1<=k ->
 ∃ e,listM en w_comma valuedT (rowOne en) k ⟨tokV v i :: tailT r j,s,o⟩=.ok ((),⟨[⟨4,e,w_rp,0⟩],{ s with row:=s.row ++ v :: r },o⟩)
 | r,v,0,i,j,s,o,h,hk=>absurd hk (by omega)
 | [],v,k+1,i,j,s,o,h,_=>by
  obtain ⟨h1,h2⟩:=h v List.mem_cons_self
  refine ⟨j,?_⟩
  have e:rowOne en ⟨tokV v i :: tailT [] j,s,o⟩=.ok ((),⟨tailT [] j,{ s with row:=s.row ++ [v] },o⟩):=by
   rw [rowOne_eq]
   unfold PM.bind
   rw [value_back en v h1 h2]
   rfl
  unfold listM
  rw [e]
  rfl
 | u :: r,v,k+1,i,j,s,o,h,hk=>by
  obtain ⟨h1,h2⟩:=h v List.mem_cons_self
  have e:rowOne en ⟨tokV v i :: tailT (u :: r) j,s,o⟩=.ok ((),⟨tailT (u :: r) j,{ s with row:=s.row ++ [v] },o⟩):=by
   rw [rowOne_eq]
   unfold PM.bind
   rw [value_back en v h1 h2]
   rfl
  obtain ⟨p,hp⟩:=list_back en r u k (j+1) (j+1+(textV u).size) { s with row:=s.row ++ [v] } o (fun x hx=>h x (List.mem_cons_of_mem _ hx)) (by simp at hk;omega)
  refine ⟨p,?_⟩
  unfold listM
  rw [e]
  refine Eq.trans ?_ (hp.trans ?_)
  · rfl
  · simp
theorem values_back (v:Val) (r:List Val) (h:∀ u ∈ v :: r,PrintsV u/\PlainV u) (hl:r.length+1<=6) (t:ByteArray) (ht:t.data.toList=insL ++ ((textV v).data.toList ++ tailL r)) :
 parseM t=.ok { stmt0 with kind:=4,table:=⟨#[116]⟩,row:=v :: r }:=by
 have hlex:lexM t=.ok (insT ++ (tokV v 22 :: tailT r (22+(textV v).size))):=by
  rw [lexM_at,ht,lex_ins,(val_piece v (h v List.mem_cons_self).1).lex (tailL r) (tail_ends r),lex_tail r (fun u hu=>(h u (List.mem_cons_of_mem _ hu)).1)]
  rfl
 unfold parseM
 rw [hlex]
 obtain ⟨p,hp⟩:=list_back t.size r v 6 22 (22+(textV v).size) { stmt0 with kind:=4,table:=⟨#[116]⟩ } [] h hl
 have hi:insertM t.size ⟨(insT ++ (tokV v 22 :: tailT r (22+(textV v).size))).tail,stmt0,[]⟩=.ok ((),⟨[],{ stmt0 with kind:=4,table:=⟨#[116]⟩,row:=v :: r },[]⟩):=by
  rw [insert_eq]
  refine (bind_ok (must_hit t.size 1 (.inl rfl) 7 w_into 0 [] _ stmt0 [])).trans ?_
  refine (bind_ok (name_hit t.size ⟨1,12,⟨#[116]⟩,0⟩ _ stmt0 [] (by decide +kernel) (by decide))).trans ?_
  refine (bind_ok rfl).trans ?_
  refine (bind_ok ((must_hit t.size 1 (.inl rfl) 14 w_values 0 [w_lp] _ _ []).trans (must_hit t.size 4 (.inr rfl) 21 w_lp 0 [] _ _ []))).trans ?_
  refine (bind_ok hp).trans ?_
  exact must_hit t.size 4 (.inr rfl) p w_rp 0 [] _ _ []
 show stmtM t.size _=_
 unfold stmtM
 have hf:(if (nowT t.size ⟨insT ++ (tokV v 22 :: tailT r (22+(textV v).size)),stmt0,[]⟩).kind == 1 then firstM t.size (nowT t.size ⟨insT ++ (tokV v 22 :: tailT r (22+(textV v).size)),stmt0,[]⟩).text else none)=some (insertM t.size):=rfl
 simp only [hf,hi]
 rfl
theorem values_none:parseM ⟨⟨insL ++ [41]⟩⟩=.error (22,60):=by decide +kernel
theorem value_lex (v:Val) (hv:PrintsV v):lexM (textV v)=.ok [tokV v 0]:=by
 have:=(val_piece v hv).lex [] EndsT.nil 0
 rw [List.append_nil,lex_nil] at this
 rw [lexM_at,this]
 rfl
end
end Go.Proofs.YtieojjngeibnmaaGreatDoor
