/- A statement of short strings and lists has a short printed form. -/
import Derived.Test.YtieojjngeibnmaaGreatDoorZB10
import Derived.Test.YtieojjngeibnmaaGreatDoorZB12
import Derived.Lib.ItoaLen
set_option linter.unusedVariables false
set_option linter.unusedSimpArgs false
set_option maxRecDepth 100000
set_option maxHeartbeats 64000000
namespace Go.Proofs.YtieojjngeibnmaaGreatDoor
section
open Go
def SmallV (M:Nat) (v:Val):Prop:=-9223372036854775808<=v.n/\v.n<=9223372036854775807/\v.s.size<=M
structure SmallS (M:Nat) (s:Stmt):Prop where
 table:s.table.size<=M
 name:s.name.size<=M
 join:s.join.size<=M
 left:s.left.size<=M
 right:s.right.size<=M
 cols:∀ c ∈ s.cols,c.1.size<=M
 names:∀ x ∈ s.names,x.size<=M
 row:∀ v ∈ s.row,SmallV M v
 sets:∀ x ∈ s.sets,x.col.size<=M/\x.col2.size<=M/\SmallV M x.val
 wher:∀ c ∈ s.wher,c.col.size<=M/\SmallV M c.val
 order:∀ x ∈ s.order,x.size<=M
 n:-9223372036854775808<=s.n/\s.n<=9223372036854775807
 short:s.short 14
def AllS (B:Nat) (T:List ByteArray):Prop:=∀ x ∈ T,x.size<=B
theorem AllS.nil {B:Nat}:AllS B []:=fun x h=>by cases h
theorem AllS.cons {B:Nat} {x:ByteArray} {T:List ByteArray} (h:x.size<=B) (k:AllS B T):AllS B (x :: T):=fun y hy=>by
 rcases List.mem_cons.1 hy with rfl|hy
 · exact h
 · exact k y hy
theorem AllS.app {B:Nat} {T U:List ByteArray} (h:AllS B T) (k:AllS B U):AllS B (T ++ U):=fun y hy=>(List.mem_append.1 hy).elim (h y) (k y)
theorem AllS.sep {α:Type} {B:Nat} {bt:ByteArray} {f:α->List ByteArray}:∀ {l:List α},bt.size<=B->(∀ x ∈ l,AllS B (f x))->AllS B (sepP bt f l)
 | [],_,_=>AllS.nil
 | x :: r,hb,h=>(h x List.mem_cons_self).app fun y hy=>by
  obtain ⟨z,hz,hy⟩:=List.mem_flatMap.1 hy
  rcases List.mem_cons.1 hy with rfl|hy
  · exact hb
  · exact h z (List.mem_cons_of_mem _ hz) y hy
theorem flat_le {α:Type} {bt:ByteArray} {f:α->List ByteArray} {c:Nat}:∀ {l:List α},(∀ x,(f x).length<=c)->(l.flatMap fun y=>bt :: f y).length<=(c+1) * l.length
 | [],_=>Nat.zero_le _
 | x :: r,h=>by
  have h1:=flat_le (bt:=bt) (l:=r) h
  have h2:=h x
  have h3:(c+1) * (r.length+1)=(c+1) * r.length+(c+1):=Nat.mul_succ _ _
  simp only [List.flatMap_cons,List.length_append,List.length_cons]
  omega
theorem sep_le {α:Type} {bt:ByteArray} {f:α->List ByteArray} {c:Nat} {l:List α} (h:∀ x,(f x).length<=c):(sepP bt f l).length<=(c+1) * l.length:=by
 cases l with
 | nil=>exact Nat.zero_le _
 | cons x r =>
  have h1:=flat_le (bt:=bt) (l:=r) h
  have h2:=h x
  have h3:(c+1) * (r.length+1)=(c+1) * r.length+(c+1):=Nat.mul_succ _ _
  simp only [sepP,List.length_append,List.length_cons]
  omega
theorem esc_len (L:List UInt8):(escQ L).length<=2 * L.length:=by
 induction L with
 | nil=>exact jR _
 | cons c r ih =>
  unfold escQ at ih ⊢
  simp only [List.flatMap_cons,List.length_append,List.length_cons]
  split <;> simp only [List.length_cons,List.length_nil] <;> omega
theorem text_le {M:Nat} {v:Val} (h:SmallV M v):(textV v).size<=2 * M+25:=by
 obtain ⟨h1,h2,h3⟩:=h
 unfold textV
 split
 · exact Nat.le_trans (by decide:_<=25) (Nat.le_add_left _ _)
 · split
   · have:=Lib.itoa_length_le _ h1 h2
     show (Lib.itoa v.n).length<=_
     omega
   · split
     · have h4:=esc_len v.s.data.toList
       have h5:v.s.data.toList.length=v.s.size:=by simp
       show (39 :: (escQ v.s.data.toList ++ [39])).length<=_
       simp only [List.length_cons,List.length_append,List.length_nil]
       omega
     · exact Nat.zero_le _
theorem itoa_le {n:Int} {B:Nat} (h:-9223372036854775808<=n/\n<=9223372036854775807):(⟨⟨Lib.itoa n⟩⟩:ByteArray).size<=B+25:=by
 have:=Lib.itoa_length_le _ h.1 h.2
 show (Lib.itoa n).length<=_
 omega
theorem op_size (n:Int):(opS n).size<=2:=by unfold opS;split <;> decide
theorem mode_all {B:Nat} (m:Int):AllS (B+25) (modeP m):=by
 have w:∀ {x:ByteArray},x.size<=25->x.size<=B+25:=fun h=>by omega
 unfold modeP
 refine AllS.app (AllS.app ?_ ?_) ?_
 · split <;> first|exact AllS.nil|exact AllS.cons (w (by decide)) AllS.nil
 · split
   · exact AllS.nil
   · exact AllS.cons (w (by decide)) (AllS.cons (w (by decide)) AllS.nil)
 · split
   · exact AllS.nil
   · exact AllS.cons (w (by decide)) AllS.nil
theorem tok_small {M:Nat} {s:Stmt} (h:SmallS M s):AllS (2 * M+25) (tokensP s):=by
 have w:∀ {x:ByteArray},x.size<=25->x.size<=2 * M+25:=fun h=>by omega
 have m:∀ {x:ByteArray},x.size<=M->x.size<=2 * M+25:=fun h=>by omega
 have hn:∀ {l:List ByteArray},(∀ x ∈ l,x.size<=M)->AllS (2 * M+25) (namesP l):=fun h=>AllS.sep (w (by decide)) fun x hx=>AllS.cons (m (h x hx)) AllS.nil
 have hw:AllS (2 * M+25) (whereP s.wher):=by
  unfold whereP
  refine AllS.app ?_ (AllS.sep (w (by decide)) fun c hc=>AllS.cons (m (h.wher c hc).1) (AllS.cons (w (Nat.le_trans (op_size _) (by decide))) (AllS.cons (text_le (h.wher c hc).2) AllS.nil)))
  split
  · exact AllS.nil
  · exact AllS.cons (w (by decide)) AllS.nil
 unfold tokensP
 split
 · refine AllS.app (AllS.app (AllS.cons (w (by decide)) (AllS.cons (w (by decide)) (AllS.cons (m h.table) (AllS.cons (w (by decide)) AllS.nil)))) (AllS.sep (w (by decide)) fun c hc=>AllS.cons (m (h.cols c hc)) (AllS.cons ?_ AllS.nil))) (AllS.cons (w (by decide)) AllS.nil)
   split <;> exact w (by decide)
 · exact AllS.app (AllS.app (AllS.cons (w (by decide)) (AllS.cons (w (by decide)) (AllS.cons (m h.name) (AllS.cons (w (by decide)) (AllS.cons (m h.table) (AllS.cons (w (by decide)) AllS.nil)))))) (hn h.names)) (AllS.cons (w (by decide)) AllS.nil)
 · exact AllS.cons (w (by decide)) (AllS.cons (m h.table) (AllS.cons (m h.name) (AllS.cons (w (by decide)) (AllS.cons (m h.join) AllS.nil))))
 · exact AllS.app (AllS.app (AllS.cons (w (by decide)) (AllS.cons (w (by decide)) (AllS.cons (m h.table) (AllS.cons (w (by decide)) (AllS.cons (w (by decide)) AllS.nil))))) (AllS.sep (w (by decide)) fun v hv=>AllS.cons (text_le (h.row v hv)) AllS.nil)) (AllS.cons (w (by decide)) AllS.nil)
 · refine AllS.app (AllS.app (AllS.cons (w (by decide)) (AllS.cons (m h.table) (AllS.cons (w (by decide)) AllS.nil))) (AllS.sep (w (by decide)) fun x hx=>?_)) hw
   obtain ⟨h1,h2,h3⟩:=h.sets x hx
   unfold setP
   refine AllS.app (AllS.app (AllS.cons (m h1) (AllS.cons (w (by decide)) AllS.nil)) ?_) (AllS.cons (text_le h3) AllS.nil)
   split
   · exact AllS.nil
   · exact AllS.cons (m h2) (AllS.cons (w (by decide)) AllS.nil)
 · exact AllS.app (AllS.cons (w (by decide)) (AllS.cons (w (by decide)) (AllS.cons (m h.table) AllS.nil))) hw
 · unfold queryP
   refine AllS.app (AllS.app (AllS.app (AllS.app (AllS.app (AllS.cons (w (by decide)) AllS.nil) ?_) (AllS.cons (w (by decide)) (AllS.cons (m h.table) AllS.nil))) ?_) hw) ?_
   · split
     · exact AllS.cons (w (by decide)) AllS.nil
     · split
       · next hq =>
         refine AllS.cons ?_ AllS.nil
         have h1:(aggS s.agg).size<=5:=by unfold aggS;split <;> decide
         have h2:(s.names.headD noStr).size<=M:=by
          match e:s.names with
          | []=>exact Nat.zero_le _
          | x :: r=>exact h.names x (by rw [e];exact List.mem_cons_self)
         simp only [ByteArray.size_append]
         have h3:w_lp.size=1:=rfl
         have h4:w_rp.size=1:=rfl
         omega
       · exact hn h.names
   · split
     · exact AllS.nil
     · exact AllS.cons (w (by decide)) (AllS.cons (m h.join) (AllS.cons (w (by decide)) (AllS.cons (m h.left) (AllS.cons (w (by decide)) (AllS.cons (m h.right) AllS.nil)))))
   · split
     · exact AllS.nil
     · exact AllS.app (AllS.cons (w (by decide)) (AllS.cons (w (by decide)) AllS.nil)) (hn h.order)
 · exact AllS.app (AllS.cons (w (by decide)) AllS.nil) (mode_all s.mode)
 · exact AllS.cons (w (by decide)) AllS.nil
 · exact AllS.cons (w (by decide)) AllS.nil
 · exact AllS.cons (w (by decide)) (AllS.cons (m h.name) AllS.nil)
 · exact AllS.cons (w (by decide)) (AllS.cons (w (by decide)) (AllS.cons (m h.name) AllS.nil))
 · exact AllS.cons (w (by decide)) (AllS.cons (m h.name) AllS.nil)
 · exact AllS.cons (w (by decide)) (AllS.cons (w (by decide)) (AllS.cons (m h.name) AllS.nil))
 · exact AllS.cons (w (by decide)) (AllS.cons (w (by decide)) (AllS.cons (m h.name) AllS.nil))
 · exact AllS.cons (w (by decide)) (AllS.cons (m h.table) AllS.nil)
 · exact AllS.cons (w (by decide)) AllS.nil
 · exact AllS.cons (w (by decide)) (AllS.cons (m h.name) AllS.nil)
 · exact AllS.cons (w (by decide)) (AllS.cons (m h.name) (AllS.cons (w (by decide)) (AllS.cons (itoa_le h.n) AllS.nil)))
 · exact AllS.cons (w (by decide)) (AllS.cons (m h.name) (AllS.cons (w (by decide)) (AllS.cons (itoa_le h.n) AllS.nil)))
 · exact AllS.nil
theorem names_le (l:List ByteArray):(namesP l).length<=2 * l.length:=sep_le (c:=1) fun _=>jR _
theorem where_le (l:List Cond):(whereP l).length<=4 * l.length+1:=by
 unfold whereP
 rw [List.length_append]
 have h1:=sep_le (bt:=w_and) (f:=fun c:Cond=>[c.col,opS c.op,textV c.val]) (l:=l) (c:=3) fun _=>jR _
 have h2:(if l.isEmpty=true then ([]:List ByteArray) else [w_where]).length<=1:=by split <;> simp
 omega
theorem mode_len2 (m:Int):(modeP m).length<=4:=by
 unfold modeP
 simp only [List.length_append]
 refine Nat.add_le_add (b:=3) (d:=1) (Nat.add_le_add (b:=1) (d:=2) ?_ ?_) ?_
 · split <;> simp
 · split <;> simp
 · split <;> simp
theorem tok_few {s:Stmt} (h:s.short 14):(tokensP s).length<=200:=by
 have h1:=h.cols
 have h2:=h.names
 have h3:=h.row
 have h4:=h.sets
 have h5:=h.wher
 have h6:=h.order
 have hw:=where_le s.wher
 unfold tokensP
 split
 · have:=sep_le (bt:=w_comma) (f:=fun c:ByteArray × Int=>[c.1,if c.2=1 then w_int else w_text]) (l:=s.cols) (c:=2) fun _=>jR _
   simp only [List.length_append,List.length_cons,List.length_nil];omega
 · have:=names_le s.names
   simp only [List.length_append,List.length_cons,List.length_nil];omega
 · simp
 · have:=sep_le (bt:=w_comma) (f:=fun v:Val=>[textV v]) (l:=s.row) (c:=1) fun _=>jR _
   simp only [List.length_append,List.length_cons,List.length_nil];omega
 · have:=sep_le (bt:=w_comma) (f:=setP) (l:=s.sets) (c:=5) fun x=>by
    unfold setP
    simp only [List.length_append,List.length_cons,List.length_nil]
    split <;> simp
   simp only [List.length_append,List.length_cons,List.length_nil];omega
 · simp only [List.length_append,List.length_cons,List.length_nil];omega
 · have e1:=names_le s.names
   have e2:=names_le s.order
   unfold queryP
   simp only [List.length_append,List.length_cons,List.length_nil]
   have e3:(if s.agg=1 then [w_countAll] else if 0<s.agg/\s.names.length=1 then [aggS s.agg ++ w_lp ++ s.names.headD noStr ++ w_rp] else namesP s.names).length<=28:=by
    split
    · simp
    · split
      · simp
      · omega
   have e4:(if s.join=noStr then [] else [w_join,s.join,w_on,s.left,w_eq,s.right]).length<=6:=by split <;> simp
   have e5:(if s.order.isEmpty=true then [] else [w_order,w_by] ++ namesP s.order).length<=30:=by
    split
    · simp
    · simp only [List.length_append,List.length_cons,List.length_nil];omega
   omega
 · have:=mode_len2 s.mode
   simp only [List.length_append,List.length_cons,List.length_nil];omega
 all_goals simp
theorem join_le {B:Nat}:∀ {T:List ByteArray} {x:ByteArray},x.size<=B->AllS B T->(joinP x T).length<=(T.length+1) * (B+1)
 | [],x,hx,_=>by
  show x.data.toList.length<=_
  have:x.data.toList.length=x.size:=by simp
  simp only [List.length_nil]
  omega
 | y :: T,x,hx,h=>by
  have h1:=join_le (h y List.mem_cons_self) (fun z hz=>h z (List.mem_cons_of_mem _ hz):AllS B T)
  have h2:x.data.toList.length=x.size:=by simp
  have h3:(if gapB x y then [32] else ([]:List UInt8)).length<=1:=by split <;> simp
  have h4:(T.length+1+1) * (B+1)=(T.length+1) * (B+1)+(B+1):=Nat.succ_mul _ _
  simp only [joinP,List.length_append,List.length_cons]
  omega
theorem printed_small {M:Nat} {s:Stmt} (h:SmallS M s):(printedM s).size<=200 * (2 * M+26):=by
 have h1:=tok_small h
 have h2:=tok_few h.short
 unfold printedM
 split
 · exact Nat.zero_le _
 · next x r e =>
   rw [e] at h1 h2
   have h3:=join_le (h1 x List.mem_cons_self) (fun z hz=>h1 z (List.mem_cons_of_mem _ hz):AllS (2 * M+25) r)
   refine Nat.le_trans h3 (Nat.mul_le_mul_right _ ?_)
   simpa using h2
end
section
open Go
def nm4:List ByteArray:=[⟨#[97]⟩,⟨#[98]⟩,⟨#[99]⟩,⟨#[100,95,49]⟩]
def tb3:List ByteArray:=[⟨#[116]⟩,⟨#[117]⟩,⟨#[97,99,99,111,117,110,116,115]⟩]
def ValS (v:Val):Prop:=PrintsV v/\PlainV v
def ColS (c:ByteArray × Int):Prop:=c.1 ∈ nm4/\(c.2=1 \/ c.2=2)
def CondS (c:Cond):Prop:=c.col ∈ nm4/\(1<=c.op/\c.op<=6)/\ValS c.val
def SetS (x:SetV):Prop:=x.col ∈ nm4/\ValS x.val/\(x.col2=noStr \/ (x.col2 ∈ nm4/\x.val.kind=1))
def HeadS (agg:Int) (ns:List ByteArray):Prop:=(agg=0/\ns ≠ []/\ns.length<=4) \/ (agg=1/\ns=[]) \/ (2<=agg/\agg<=4/\ns.length=1)
inductive Made17:Stmt->Prop
 | table (t:ByteArray) (l:List (ByteArray × Int)):t ∈ tb3->l ≠ []->l.length<=3->(∀ u ∈ l,ColS u)->Made17 { stmt0 with kind:=1,table:=t,cols:=l }
 | index (t n:ByteArray) (l:List ByteArray):t ∈ tb3->n ∈ nm4->l ≠ []->l.length<=3->(∀ u ∈ l,u ∈ nm4)->Made17 { stmt0 with kind:=2,table:=t,name:=n,names:=l }
 | rename (t n j:ByteArray):t ∈ tb3->n ∈ nm4->j ∈ nm4->Made17 { stmt0 with kind:=3,table:=t,name:=n,join:=j }
 | insert (t:ByteArray) (l:List Val):t ∈ tb3->l ≠ []->l.length<=3->(∀ u ∈ l,ValS u)->Made17 { stmt0 with kind:=4,table:=t,row:=l }
 | update (t:ByteArray) (l:List SetV) (c:List Cond):t ∈ tb3->l ≠ []->l.length<=3->(∀ u ∈ l,SetS u)->c.length<=3->(∀ u ∈ c,CondS u)->Made17 { stmt0 with kind:=5,table:=t,sets:=l,wher:=c }
 | delete (t:ByteArray) (c:List Cond):t ∈ tb3->c.length<=3->(∀ u ∈ c,CondS u)->Made17 { stmt0 with kind:=6,table:=t,wher:=c }
 | select (t:ByteArray) (agg:Int) (ns:List ByteArray) (j l r:ByteArray) (c:List Cond) (q:List ByteArray):t ∈ tb3->HeadS agg ns->(∀ u ∈ ns,u ∈ nm4)->((j=noStr/\l=noStr/\r=noStr) \/ (j=⟨#[118]⟩/\l ∈ nm4/\r ∈ nm4))->c.length<=3->(∀ u ∈ c,CondS u)->q.length<=4->(∀ u ∈ q,u ∈ nm4)->(agg=0 \/ q=[])->Made17 { stmt0 with kind:=7,agg:=agg,names:=ns,table:=t,join:=j,left:=l,right:=r,wher:=c,order:=q }
 | begin (a b c:Int):0<=a->a<=2->0<=b->b<=1->0<=c->c<=1->Made17 { stmt0 with kind:=8,mode:=a+4 * b+8 * c }
 | closed (k:Int):k=9 \/ k=10 \/ k=17->Made17 { stmt0 with kind:=k }
 | named (k:Int) (n:ByteArray):k=11 \/ k=12 \/ k=13 \/ k=14 \/ k=15 \/ k=18->n ∈ nm4->Made17 { stmt0 with kind:=k,name:=n }
 | vacuum (t:ByteArray):t ∈ tb3->Made17 { stmt0 with kind:=16,table:=t }
 | slot (k:Int) (n:ByteArray) (m:Int):k=19 \/ k=20->n ∈ nm4->0<=m->m<=49->Made17 { stmt0 with kind:=k,name:=n,n:=m }
theorem nm4_nm:∀ x ∈ nm4,Nm x:=by
 intro x hx
 simp only [nm4,List.mem_cons,List.not_mem_nil,or_false] at hx
 rcases hx with rfl|rfl|rfl|rfl <;> exact ⟨⟨by decide,by decide⟩,by decide +kernel,by decide⟩
theorem tb3_nm:∀ x ∈ tb3,Nm x:=by
 intro x hx
 simp only [tb3,List.mem_cons,List.not_mem_nil,or_false] at hx
 rcases hx with rfl|rfl|rfl <;> exact ⟨⟨by decide,by decide⟩,by decide +kernel,by decide⟩
theorem v_nm:Nm ⟨#[118]⟩:=⟨⟨by decide,by decide⟩,by decide +kernel,by decide⟩
theorem cond_s {c:Cond} (h:CondS c):CondOk c:=⟨nm4_nm _ h.1,h.2.1,h.2.2⟩
theorem set_s {x:SetV} (h:SetS x):SetOk x:=⟨nm4_nm _ h.1,h.2.1,h.2.2.imp id fun k=>⟨nm4_nm _ k.1,k.2⟩⟩
theorem head_s {agg:Int} {ns:List ByteArray} (h:HeadS agg ns) (k:∀ u ∈ ns,u ∈ nm4):HeadOk agg ns:=by
 refine ⟨?_,fun x hx=>nm4_nm x (k x hx),?_⟩
 · rcases h with ⟨h,-,-⟩|⟨h,-⟩|⟨h,h2,-⟩ <;> omega
 · rcases h with ⟨rfl,h1,h2⟩|⟨rfl,h1⟩|⟨h,h2,h3⟩
   · rw [if_pos rfl];exact ⟨h1,by omega⟩
   · rw [if_neg (by decide),if_pos rfl];exact h1
   · rw [if_neg (by omega),if_neg (by omega)];exact h3
theorem made_back {s:Stmt} (h:Made17 s):parseM (printedM s)=.ok s:=by
 cases h with
 | table t l ht h0 hl hc =>
  match l,h0 with
  | c :: r,_=>exact table_round t (tb3_nm t ht) c r (fun u hu=>⟨nm4_nm _ (hc u hu).1,(hc u hu).2⟩) (by simp only [List.length_cons] at hl;omega)
 | index t n l ht hn h0 hl hc=>exact index_round n t (nm4_nm n hn) (tb3_nm t ht) l (fun x hx=>nm4_nm x (hc x hx)) h0 (by omega)
 | rename t n j ht hn hj=>exact rename_round t n j (tb3_nm t ht) (nm4_nm n hn) (nm4_nm j hj)
 | insert t l ht h0 hl hc =>
  match l,h0 with
  | c :: r,_=>exact insert_round t (tb3_nm t ht) c r hc (by simp only [List.length_cons] at hl;omega)
 | update t l c ht h0 hl hx hcl hc =>
  match l,h0 with
  | x :: r,_=>exact update_round t (tb3_nm t ht) x r (fun u hu=>set_s (hx u hu)) (by simp only [List.length_cons] at hl;omega) c (fun u hu=>cond_s (hc u hu)) (by omega)
 | delete t c ht hcl hc=>exact delete_round t (tb3_nm t ht) c (fun u hu=>cond_s (hc u hu)) (by omega)
 | select t agg ns j l r c q ht hh hn hj hcl hc hq hqn ha =>
  exact select_round agg ns (head_s hh hn) t (tb3_nm t ht) j l r (hj.imp id fun k=>⟨by rw [k.1];exact v_nm,nm4_nm _ k.2.1,nm4_nm _ k.2.2⟩) c (fun u hu=>cond_s (hc u hu)) (by omega) q (fun x hx=>nm4_nm x (hqn x hx)) (by omega) ha
 | begin a b c ha ha2 hb hb2 hc hc2 =>
  refine begin_round _ ?_
  have e1:a=0 \/ a=1 \/ a=2:=by omega
  have e2:b=0 \/ b=1:=by omega
  have e3:c=0 \/ c=1:=by omega
  rcases e1 with rfl|rfl|rfl <;> rcases e2 with rfl|rfl <;> rcases e3 with rfl|rfl <;> decide
 | closed k hk=>exact closed_round k (by simpa using hk)
 | named k n hk hn =>
  have:=nm4_nm n hn
  rcases hk with rfl|rfl|rfl|rfl|rfl|rfl
  · exact save_round n this
  · exact back_round n this
  · exact prepare_round n this
  · exact commitName_round n this
  · exact rollName_round n this
  · exact slotNew_round n this
 | vacuum t ht=>exact vacuum_round t (tb3_nm t ht)
 | slot k n m hk hn h0 h1 =>
  have:=nm4_nm n hn
  rcases hk with rfl|rfl
  · exact slotGet_round n this m h0 (by omega)
  · exact slotAck_round n this m h0 (by omega)
theorem made_right {s:Stmt} (h:Made17 s):rightM s=true:=by
 unfold rightM
 rw [made_back h]
 exact decide_eq_true rfl
theorem nm4_size {x:ByteArray} (h:x ∈ nm4):x.size<=40:=Nat.le_trans (nm4_nm x h).short (by decide)
theorem tb3_size {x:ByteArray} (h:x ∈ tb3):x.size<=40:=Nat.le_trans (tb3_nm x h).short (by decide)
theorem val_s {v:Val} (h:ValS v):SmallV 40 v:=⟨h.1.2.1,h.1.2.2.1,h.1.2.2.2⟩
theorem small0:SmallS 40 stmt0:=⟨by decide,by decide,by decide,by decide,by decide,nofun,nofun,nofun,nofun,nofun,nofun,by decide,⟨by decide,by decide,by decide,by decide,by decide,by decide⟩⟩
theorem made_small {s:Stmt} (h:Made17 s):SmallS 40 s:=by
 have z:=small0
 have y:=z.short
 have cs:∀ {c:Cond},CondS c->c.col.size<=40/\SmallV 40 c.val:=fun h=>⟨nm4_size h.1,val_s h.2.2⟩
 cases h with
 | table t l ht h0 hl hc=>exact { z with table:=tb3_size ht,cols:=fun c hx=>nm4_size (hc c hx).1,short:={ y with cols:=Nat.le_trans hl (by decide) } }
 | index t n l ht hn h0 hl hc=>exact { z with table:=tb3_size ht,name:=nm4_size hn,names:=fun x hx=>nm4_size (hc x hx),short:={ y with names:=Nat.le_trans hl (by decide) } }
 | rename t n j ht hn hj=>exact { z with table:=tb3_size ht,name:=nm4_size hn,join:=nm4_size hj,short:=⟨y.cols,y.names,y.row,y.sets,y.wher,y.order⟩ }
 | insert t l ht h0 hl hc=>exact { z with table:=tb3_size ht,row:=fun v hv=>val_s (hc v hv),short:={ y with row:=Nat.le_trans hl (by decide) } }
 | update t l c ht h0 hl hx hcl hc=>exact { z with table:=tb3_size ht,sets:=fun x h=>⟨nm4_size (hx x h).1,(hx x h).2.2.elim (fun e=>by rw [e];exact Nat.zero_le _) fun k=>nm4_size k.1,val_s (hx x h).2.1⟩,wher:=fun c h=>cs (hc c h),short:={ y with sets:=Nat.le_trans hl (by decide),wher:=Nat.le_trans hcl (by decide) } }
 | delete t c ht hcl hc=>exact { z with table:=tb3_size ht,wher:=fun c h=>cs (hc c h),short:={ y with wher:=Nat.le_trans hcl (by decide) } }
 | select t agg ns j l r c q ht hh hn hj hcl hc hq hqn ha =>
  have e0:(noStr:ByteArray).size<=40:=by decide
  have e1:j.size<=40/\l.size<=40/\r.size<=40:=by
   rcases hj with ⟨rfl,rfl,rfl⟩|⟨rfl,h1,h2⟩
   · exact ⟨e0,e0,e0⟩
   · exact ⟨by decide,nm4_size h1,nm4_size h2⟩
  have e2:ns.length<=14:=by
   rcases hh with ⟨-,-,h⟩|⟨-,h⟩|⟨-,-,h⟩
   · omega
   · rw [h];decide
   · omega
  exact { z with table:=tb3_size ht,join:=e1.1,left:=e1.2.1,right:=e1.2.2,names:=fun x hx=>nm4_size (hn x hx),wher:=fun c h=>cs (hc c h),order:=fun x hx=>nm4_size (hqn x hx),short:={ y with names:=e2,wher:=Nat.le_trans hcl (by decide),order:=Nat.le_trans hq (by decide) } }
 | begin a b c ha ha2 hb hb2 hc hc2=>exact { z with short:=⟨y.cols,y.names,y.row,y.sets,y.wher,y.order⟩ }
 | closed k hk=>exact { z with short:=⟨y.cols,y.names,y.row,y.sets,y.wher,y.order⟩ }
 | named k n hk hn=>exact { z with name:=nm4_size hn,short:=⟨y.cols,y.names,y.row,y.sets,y.wher,y.order⟩ }
 | vacuum t ht=>exact { z with table:=tb3_size ht,short:=⟨y.cols,y.names,y.row,y.sets,y.wher,y.order⟩ }
 | slot k n m hk hn h0 h1=>exact { z with name:=nm4_size hn,n:=⟨by show _<=m;omega,by show m<=_;omega⟩,short:=⟨y.cols,y.names,y.row,y.sets,y.wher,y.order⟩ }
end
end Go.Proofs.YtieojjngeibnmaaGreatDoor
