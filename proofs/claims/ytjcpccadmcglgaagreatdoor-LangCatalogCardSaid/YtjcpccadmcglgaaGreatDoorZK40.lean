/- A statement of short strings and lists has a short printed form. -/
import Derived.Test.YtjcpccadmcglgaaGreatDoorZK10
import Derived.Test.YtjcpccadmcglgaaGreatDoorZK35
import Derived.Lib.ItoaLen
set_option linter.unusedVariables false
set_option linter.unusedSimpArgs false
set_option maxRecDepth 100000
set_option maxHeartbeats 64000000
namespace Go.Proofs.YtjcpccadmcglgaaGreatDoor
section
open Go
def SmallV (M:Nat) (v:Val):Prop:=-9223372036854775808<=v.n/\v.n<=9223372036854775807/\v.s.size<=M
structure SmallS (M:Nat) (s:Stmt):Prop where
 table:s.table.size<=M
 name:s.name.size<=M
 join:s.join.size<=M
 left:s.left.size<=M
 right:s.right.size<=M
 cols:∀ c ∈ s.cols,c.1.size<=M
 names:∀ x ∈ s.names,x.size<=M
 row:∀ v ∈ s.row,SmallV M v
 sets:∀ x ∈ s.sets,x.col.size<=M/\x.col2.size<=M/\SmallV M x.val
 wher:∀ c ∈ s.wher,c.col.size<=M/\SmallV M c.val
 order:∀ x ∈ s.order,x.size<=M
 n:-9223372036854775808<=s.n/\s.n<=9223372036854775807
 short:s.short 14
def AllS (B:Nat) (T:List ByteArray):Prop:=∀ x ∈ T,x.size<=B
theorem AllS.nil {B:Nat}:AllS B []:=fun x h=>by cases h
theorem AllS.cons {B:Nat} {x:ByteArray} {T:List ByteArray} (h:x.size<=B) (k:AllS B T):AllS B (x :: T):=fun y hy=>by
 rcases List.mem_cons.1 hy with rfl|hy
 · exact h
 · exact k y hy
theorem AllS.app {B:Nat} {T U:List ByteArray} (h:AllS B T) (k:AllS B U):AllS B (T ++ U):=fun y hy=>(List.mem_append.1 hy).elim (h y) (k y)
theorem AllS.sep {α:Type} {B:Nat} {bt:ByteArray} {f:α->List ByteArray}:∀ {l:List α},bt.size<=B->(∀ x ∈ l,AllS B (f x))->AllS B (sepP bt f l)
 | [],_,_=>AllS.nil
 | x :: r,hb,h=>(h x List.mem_cons_self).app fun y hy=>by
  obtain ⟨z,hz,hy⟩:=List.mem_flatMap.1 hy
  rcases List.mem_cons.1 hy with rfl|hy
  · exact hb
  · exact h z (List.mem_cons_of_mem _ hz) y hy
theorem flat_le {α:Type} {bt:ByteArray} {f:α->List ByteArray} {c:Nat}:∀ {l:List α},(∀ x,(f x).length<=c)->(l.flatMap fun y=>bt :: f y).length<=(c+1) * l.length
 | [],_=>Nat.zero_le _
 | x :: r,h=>by
  have h1:=flat_le (bt:=bt) (l:=r) h
  have h2:=h x
  have h3:(c+1) * (r.length+1)=(c+1) * r.length+(c+1):=Nat.mul_succ _ _
  simp only [List.flatMap_cons,List.length_append,List.length_cons]
  omega
theorem sep_le {α:Type} {bt:ByteArray} {f:α->List ByteArray} {c:Nat} {l:List α} (h:∀ x,(f x).length<=c):(sepP bt f l).length<=(c+1) * l.length:=by
 cases l with
 | nil=>exact Nat.zero_le _
 | cons x r =>
  have h1:=flat_le (bt:=bt) (l:=r) h
  have h2:=h x
  have h3:(c+1) * (r.length+1)=(c+1) * r.length+(c+1):=Nat.mul_succ _ _
  simp only [sepP,List.length_append,List.length_cons]
  omega
theorem esc_len (L:List UInt8):(escQ L).length<=2 * L.length:=by
 induction L with
 | nil=>exact jR _
 | cons c r ih =>
  unfold escQ at ih ⊢
  simp only [List.flatMap_cons,List.length_append,List.length_cons]
  split <;> simp only [List.length_cons,List.length_nil] <;> omega
theorem text_le {M:Nat} {v:Val} (h:SmallV M v):(textV v).size<=2 * M+25:=by
 obtain ⟨h1,h2,h3⟩:=h
 unfold textV
 split
 · exact Nat.le_trans (by decide:_<=25) (Nat.le_add_left _ _)
 · split
   · have:=Lib.itoa_length_le _ h1 h2
     show (Lib.itoa v.n).length<=_
     omega
   · split
     · have h4:=esc_len v.s.data.toList
       have h5:v.s.data.toList.length=v.s.size:=by simp
       show (39 :: (escQ v.s.data.toList ++ [39])).length<=_
       simp only [List.length_cons,List.length_append,List.length_nil]
       omega
     · exact Nat.zero_le _
theorem itoa_le {n:Int} {B:Nat} (h:-9223372036854775808<=n/\n<=9223372036854775807):(⟨⟨Lib.itoa n⟩⟩:ByteArray).size<=B+25:=by
 have:=Lib.itoa_length_le _ h.1 h.2
 show (Lib.itoa n).length<=_
 omega
theorem op_size (n:Int):(opS n).size<=2:=by unfold opS;split <;> decide
theorem mode_all {B:Nat} (m:Int):AllS (B+25) (modeP m):=by
 have w:∀ {x:ByteArray},x.size<=25->x.size<=B+25:=fun h=>by omega
 unfold modeP
 refine AllS.app (AllS.app ?_ ?_) ?_
 · split <;> first|exact AllS.nil|exact AllS.cons (w (by decide)) AllS.nil
 · split
   · exact AllS.nil
   · exact AllS.cons (w (by decide)) (AllS.cons (w (by decide)) AllS.nil)
 · split
   · exact AllS.nil
   · exact AllS.cons (w (by decide)) AllS.nil
theorem tok_small {M:Nat} {s:Stmt} (h:SmallS M s):AllS (2 * M+25) (tokensP s):=by
 have w:∀ {x:ByteArray},x.size<=25->x.size<=2 * M+25:=fun h=>by omega
 have m:∀ {x:ByteArray},x.size<=M->x.size<=2 * M+25:=fun h=>by omega
 have hn:∀ {l:List ByteArray},(∀ x ∈ l,x.size<=M)->AllS (2 * M+25) (namesP l):=fun h=>AllS.sep (w (by decide)) fun x hx=>AllS.cons (m (h x hx)) AllS.nil
 have hw:AllS (2 * M+25) (whereP s.wher):=by
  unfold whereP
  refine AllS.app ?_ (AllS.sep (w (by decide)) fun c hc=>AllS.cons (m (h.wher c hc).1) (AllS.cons (w (Nat.le_trans (op_size _) (by decide))) (AllS.cons (text_le (h.wher c hc).2) AllS.nil)))
  split
  · exact AllS.nil
  · exact AllS.cons (w (by decide)) AllS.nil
 unfold tokensP
 split
 · refine AllS.app (AllS.app (AllS.cons (w (by decide)) (AllS.cons (w (by decide)) (AllS.cons (m h.table) (AllS.cons (w (by decide)) AllS.nil)))) (AllS.sep (w (by decide)) fun c hc=>AllS.cons (m (h.cols c hc)) (AllS.cons ?_ AllS.nil))) (AllS.cons (w (by decide)) AllS.nil)
   split <;> exact w (by decide)
 · exact AllS.app (AllS.app (AllS.cons (w (by decide)) (AllS.cons (w (by decide)) (AllS.cons (m h.name) (AllS.cons (w (by decide)) (AllS.cons (m h.table) (AllS.cons (w (by decide)) AllS.nil)))))) (hn h.names)) (AllS.cons (w (by decide)) AllS.nil)
 · exact AllS.cons (w (by decide)) (AllS.cons (m h.table) (AllS.cons (m h.name) (AllS.cons (w (by decide)) (AllS.cons (m h.join) AllS.nil))))
 · exact AllS.app (AllS.app (AllS.cons (w (by decide)) (AllS.cons (w (by decide)) (AllS.cons (m h.table) (AllS.cons (w (by decide)) (AllS.cons (w (by decide)) AllS.nil))))) (AllS.sep (w (by decide)) fun v hv=>AllS.cons (text_le (h.row v hv)) AllS.nil)) (AllS.cons (w (by decide)) AllS.nil)
 · refine AllS.app (AllS.app (AllS.cons (w (by decide)) (AllS.cons (m h.table) (AllS.cons (w (by decide)) AllS.nil))) (AllS.sep (w (by decide)) fun x hx=>?_)) hw
   obtain ⟨h1,h2,h3⟩:=h.sets x hx
   unfold setP
   refine AllS.app (AllS.app (AllS.cons (m h1) (AllS.cons (w (by decide)) AllS.nil)) ?_) (AllS.cons (text_le h3) AllS.nil)
   split
   · exact AllS.nil
   · exact AllS.cons (m h2) (AllS.cons (w (by decide)) AllS.nil)
 · exact AllS.app (AllS.cons (w (by decide)) (AllS.cons (w (by decide)) (AllS.cons (m h.table) AllS.nil))) hw
 · unfold queryP
   refine AllS.app (AllS.app (AllS.app (AllS.app (AllS.app (AllS.cons (w (by decide)) AllS.nil) ?_) (AllS.cons (w (by decide)) (AllS.cons (m h.table) AllS.nil))) ?_) hw) ?_
   · split
     · exact AllS.cons (w (by decide)) AllS.nil
     · split
       · next hq =>
         refine AllS.cons ?_ AllS.nil
         have h1:(aggS s.agg).size<=5:=by unfold aggS;split <;> decide
         have h2:(s.names.headD noStr).size<=M:=by
          match e:s.names with
          | []=>exact Nat.zero_le _
          | x :: r=>exact h.names x (by rw [e];exact List.mem_cons_self)
         simp only [ByteArray.size_append]
         have h3:w_lp.size=1:=rfl
         have h4:w_rp.size=1:=rfl
         omega
       · exact hn h.names
   · split
     · exact AllS.nil
     · exact AllS.cons (w (by decide)) (AllS.cons (m h.join) (AllS.cons (w (by decide)) (AllS.cons (m h.left) (AllS.cons (w (by decide)) (AllS.cons (m h.right) AllS.nil)))))
   · split
     · exact AllS.nil
     · exact AllS.app (AllS.cons (w (by decide)) (AllS.cons (w (by decide)) AllS.nil)) (hn h.order)
 · exact AllS.app (AllS.cons (w (by decide)) AllS.nil) (mode_all s.mode)
 · exact AllS.cons (w (by decide)) AllS.nil
 · exact AllS.cons (w (by decide)) AllS.nil
 · exact AllS.cons (w (by decide)) (AllS.cons (m h.name) AllS.nil)
 · exact AllS.cons (w (by decide)) (AllS.cons (w (by decide)) (AllS.cons (m h.name) AllS.nil))
 · exact AllS.cons (w (by decide)) (AllS.cons (m h.name) AllS.nil)
 · exact AllS.cons (w (by decide)) (AllS.cons (w (by decide)) (AllS.cons (m h.name) AllS.nil))
 · exact AllS.cons (w (by decide)) (AllS.cons (w (by decide)) (AllS.cons (m h.name) AllS.nil))
 · exact AllS.cons (w (by decide)) (AllS.cons (m h.table) AllS.nil)
 · exact AllS.cons (w (by decide)) AllS.nil
 · exact AllS.cons (w (by decide)) (AllS.cons (m h.name) AllS.nil)
 · exact AllS.cons (w (by decide)) (AllS.cons (m h.name) (AllS.cons (w (by decide)) (AllS.cons (itoa_le h.n) AllS.nil)))
 · exact AllS.cons (w (by decide)) (AllS.cons (m h.name) (AllS.cons (w (by decide)) (AllS.cons (itoa_le h.n) AllS.nil)))
 · exact AllS.nil
theorem names_le (l:List ByteArray):(namesP l).length<=2 * l.length:=sep_le (c:=1) fun _=>jR _
theorem where_le (l:List Cond):(whereP l).length<=4 * l.length+1:=by
 unfold whereP
 rw [List.length_append]
 have h1:=sep_le (bt:=w_and) (f:=fun c:Cond=>[c.col,opS c.op,textV c.val]) (l:=l) (c:=3) fun _=>jR _
 have h2:(if l.isEmpty=true then ([]:List ByteArray) else [w_where]).length<=1:=by split <;> simp
 omega
theorem mode_len2 (m:Int):(modeP m).length<=4:=by
 unfold modeP
 simp only [List.length_append]
 refine Nat.add_le_add (b:=3) (d:=1) (Nat.add_le_add (b:=1) (d:=2) ?_ ?_) ?_
 · split <;> simp
 · split <;> simp
 · split <;> simp
theorem tok_few {s:Stmt} (h:s.short 14):(tokensP s).length<=200:=by
 have h1:=h.cols
 have h2:=h.names
 have h3:=h.row
 have h4:=h.sets
 have h5:=h.wher
 have h6:=h.order
 have hw:=where_le s.wher
 unfold tokensP
 split
 · have:=sep_le (bt:=w_comma) (f:=fun c:ByteArray × Int=>[c.1,if c.2=1 then w_int else w_text]) (l:=s.cols) (c:=2) fun _=>jR _
   simp only [List.length_append,List.length_cons,List.length_nil];omega
 · have:=names_le s.names
   simp only [List.length_append,List.length_cons,List.length_nil];omega
 · simp
 · have:=sep_le (bt:=w_comma) (f:=fun v:Val=>[textV v]) (l:=s.row) (c:=1) fun _=>jR _
   simp only [List.length_append,List.length_cons,List.length_nil];omega
 · have:=sep_le (bt:=w_comma) (f:=setP) (l:=s.sets) (c:=5) fun x=>by
    unfold setP
    simp only [List.length_append,List.length_cons,List.length_nil]
    split <;> simp
   simp only [List.length_append,List.length_cons,List.length_nil];omega
 · simp only [List.length_append,List.length_cons,List.length_nil];omega
 · have e1:=names_le s.names
   have e2:=names_le s.order
   unfold queryP
   simp only [List.length_append,List.length_cons,List.length_nil]
   have e3:(if s.agg=1 then [w_countAll] else if 0<s.agg/\s.names.length=1 then [aggS s.agg ++ w_lp ++ s.names.headD noStr ++ w_rp] else namesP s.names).length<=28:=by
    split
    · simp
    · split
      · simp
      · omega
   have e4:(if s.join=noStr then [] else [w_join,s.join,w_on,s.left,w_eq,s.right]).length<=6:=by split <;> simp
   have e5:(if s.order.isEmpty=true then [] else [w_order,w_by] ++ namesP s.order).length<=30:=by
    split
    · simp
    · simp only [List.length_append,List.length_cons,List.length_nil];omega
   omega
 · have:=mode_len2 s.mode
   simp only [List.length_append,List.length_cons,List.length_nil];omega
 all_goals simp
theorem join_le {B:Nat}:∀ {T:List ByteArray} {x:ByteArray},x.size<=B->AllS B T->(joinP x T).length<=(T.length+1) * (B+1)
 | [],x,hx,_=>by
  show x.data.toList.length<=_
  have:x.data.toList.length=x.size:=by simp
  simp only [List.length_nil]
  omega
 | y :: T,x,hx,h=>by
  have h1:=join_le (h y List.mem_cons_self) (fun z hz=>h z (List.mem_cons_of_mem _ hz):AllS B T)
  have h2:x.data.toList.length=x.size:=by simp
  have h3:(if gapB x y then [32] else ([]:List UInt8)).length<=1:=by split <;> simp
  have h4:(T.length+1+1) * (B+1)=(T.length+1) * (B+1)+(B+1):=Nat.succ_mul _ _
  simp only [joinP,List.length_append,List.length_cons]
  omega
theorem printed_small {M:Nat} {s:Stmt} (h:SmallS M s):(printedM s).size<=200 * (2 * M+26):=by
 have h1:=tok_small h
 have h2:=tok_few h.short
 unfold printedM
 split
 · exact Nat.zero_le _
 · next x r e =>
   rw [e] at h1 h2
   have h3:=join_le (h1 x List.mem_cons_self) (fun z hz=>h1 z (List.mem_cons_of_mem _ hz):AllS (2 * M+25) r)
   refine Nat.le_trans h3 (Nat.mul_le_mul_right _ ?_)
   simpa using h2
end
end Go.Proofs.YtjcpccadmcglgaaGreatDoor
