/- slices.Concat of two rows, of two lists of columns. -/
import Derived.Lib.AppendZeros
import Derived.Laws.AppendOwnNone
import Derived.Maps.AppendAt
import Derived.LoopN
import Derived.Test.YtgemihkcihigpaaGreatDoorZD28
set_option linter.unusedVariables false
set_option linter.unusedSimpArgs false
set_option maxRecDepth 100000
set_option maxHeartbeats 64000000
namespace Go.Proofs.YtgemihkcihigpaaGreatDoor
open Go.Lib (hid)
section
open Go.RowKit
theorem run_append_owned_nilc {P:Program} {w:World} (base:Nat) (t ty e:TypeId) (i:TypeInfo) (size:Nat) (ht:P.underlying t=some (.slice e)) (hi:P.info? e=some i) (v:Value) (n c:Nat) (xs:List Value) (hown:w.ownsRow base e size v n xs) :
 (Builtin.append_ #[t,t] ty #[v,.slice none 0 c]).run P w=.ok v w:=by
 rcases hown.2 with ⟨rfl,rfl⟩|⟨g,cap,cur,rfl,_,_,hnc,_⟩
 · simp [Builtin.append_,run_underlying ht,sizeOf,typeInfo,hi,Builtin.lenOf,Builtin.firstCells]
 · simp [Builtin.append_,run_underlying ht,sizeOf,typeInfo,hi,Builtin.lenOf,Builtin.firstCells,hnc,storeCells]
theorem wpList_append_own_nilc {P:Program} {w:World} {ops:Array Oper} {rest:List Oper} {o:Oper} {a:Act} {Q:Exit->Act->World->Prop} (hgd:o.guard=none) (s x:Operand) (t:TypeId)
 (ho:o.op=.call { callee:=.builtin .append,args:=#[s,x],argTypes:=#[t,t] })
 (base:Nat) (e:TypeId) (i:TypeInfo) (size:Nat) (ht:P.underlying t=some (.slice e)) (hi:P.info? e=some i)
 (v:Value) (n c:Nat) (xs:List Value) (hs:a.eval s=v) (hown:w.ownsRow base e size v n xs) (hx:a.eval x=.slice none 0 c)
 (h:wpList P ops Q rest (a.put o.dst v) w):wpList P ops Q (o :: rest) a w:=by
 refine wpList_plain hgd fun K hK=>?_
 have hrun:=run_append_owned_nilc (P:=P) (w:=w) base t o.type e i size ht hi v n c xs hown
 unfold Oper.wp
 simp [execOp,ho,resolve,invoke,builtin,hs,hx,hrun,Result.andThen]
 exact hK _ _ h
theorem wpList_append_flat' {P:Program} {w:World} {ops:Array Oper} {rest:List Oper} {o:Oper} {a:Act} {Q:Exit->Act->World->Prop} (hgd:o.guard=none) (s x:Operand) (t:TypeId)
 (ho:o.op=.call { callee:=.builtin .append,args:=#[s,x],argTypes:=#[t,t] })
 (base:Nat) (e:TypeId) (i:TypeInfo) (z:Value) (size bytes:Nat) (ht:P.underlying t=some (.slice e)) (hi:P.info? e=some i) (hz:i.zero=some z)
 (hsize:i.size=size) (hby:i.bytes=bytes) (hzs:z.cells.size=size) (hsz:0<size)
 (v:Value) (n:Nat) (xs:List Value) (hs:a.eval s=v) (hown:w.ownsRow base e size v n xs)
 {α:Type} {enc:α->List Value} {hl:∀ x,(enc x).length=size} {p:Nat->Prop} (L:List α) (ax:Option Addr) (c:Nat) (hx:a.eval x=.slice ax L.length c) (hrow:RowAt (flatR size enc hl) p w ax L)
 (h1:∀ u ∈ L.flatMap enc,u.oneCell'=true)
 (h63:n+L.length<=maxLen) (hbytes:(n+L.length) * bytes<=140737488355328) (hbase:base<=w.heap.size)
 (h:∀ v' w',w'.ownsRow base e size v' (n+L.length) (xs ++ L.flatMap enc)->w.grownBy w' v.ownBlock->wpList P ops Q rest (a.put o.dst v') w'):wpList P ops Q (o :: rest) a w:=by
 cases ax with
 | none =>
  have hL:L=[]:=by
   rcases hrow with h|⟨b,off,ha,_⟩
   · exact h
   · cases ha
  subst hL
  refine wpList_append_own_nilc hgd s x t ho base e i size ht hi v n c xs hs hown hx ?_
  have:=h v w (by simpa using hown) (grownBy_refl _ _)
  simpa using this
 | some ad =>
  exact wpList_append_own w hgd s x t ho base e i z size bytes ht hi hz hsize hby hzs hsz v n xs hs hown ad L.length c (L.flatMap enc) hx (flat_len hl L) (hrow.news) h1 h63 hbytes hbase (fun v' w' h2 h3 _=>h v' w' h2 h3)
theorem grow_row (n:Nat) (hn:n<=2000000) (w:World):Calls Tryz.prog 157 #[.slice none 0 0,.int .i64 n] w
 fun e w'=>(∃ v,e=.returned v/\w'.ownsRow w.heap.size 55 3 v 0 [])/\Below w.heap.size w w':=by
 obtain ⟨i0,hi,hz0,hz1,hz2⟩:=info_parts info_row
 by_cases h0:n=0
 · subst h0
   go_enter Tryz.func157,Tryz.ntmps157
   go_wp2_with fail
   go_ret
   exact ⟨⟨_,rfl,World.ownsRow_nil _ _ _ _⟩,Below.refl _ _⟩
 · have hr:=Lib.run_append_nil_zeros (P:=Tryz.prog) w 35 3 35 55 i0 _ .i64 .i64 Tryz.underlying35 Tryz.underlying3 hi hz0 n (by omega) (by omega) (by omega) (by rw [hz2];omega)
   have HR:=hid hr
   clear hr
   have hpos:(0:Int)<(n:Int):=by omega
   go_enter Tryz.func157,Tryz.ntmps157
   go_wp2_with (at_builtin;refine Lib.wpList_append_run _ rfl _ _ _ _ rfl _ _ rfl rfl _ _ HR.out ?_)
   go_ret
   refine ⟨⟨_,rfl,World.ownsRow_made w _ _ (jR _) (grownCap_le_maxLen w n 0 55 (by unfold maxLen;omega)) ?_⟩,((b0R).alloc (jR _) _).drew⟩
   have:=grownCap_ge w n 0 55
   have hz:∀ z:Value,i0.zero=some z->True:=fun _ _=>trivial
   simp [size_zeroCells,Value.cells]
   omega
theorem growi_row (m:Int) (h0:0<=m) (h1:m<=2000000) (w:World):Calls Tryz.prog 157 #[.slice none 0 0,.int .i64 m] w
 fun e w'=>(∃ v,e=.returned v/\w'.ownsRow w.heap.size 55 3 v 0 [])/\Below w.heap.size w w':=by
 obtain ⟨n,rfl⟩:∃ n:Nat,m=n:=⟨m.toNat,by omega⟩
 exact grow_row n (by omega) w
theorem concat_row {p q:Nat->Prop} (bs:Nat) (w:World) (A B:List Val) (a b:Option Addr) (ca cb:Nat) (h0:w.cell? ⟨bs,0,none⟩=some (.slice a A.length ca)) (h1:w.cell? ⟨bs,1,none⟩=some (.slice b B.length cb))
 (ha:RowAt (flatR 3 valEnc fun _=>rfl) p w a A) (hb:RowAt (flatR 3 valEnc fun _=>rfl) q w b B) (lA:A.length<=1000000) (lB:B.length<=1000000) :
 Calls Tryz.prog 137 #[.slice (some ⟨bs,0,none⟩) 2 2] w fun e w'=>∃ va vc,e=.returned (.slice va (A ++ B).length vc)/\w'.ownsRow w.heap.size 55 3 (.slice va (A ++ B).length vc) (A ++ B).length ((A ++ B).flatMap valEnc)/\Below w.heap.size w w':=by
 obtain ⟨i0,hi,hz0,hz1,hz2⟩:=info_parts info_row
 have HA:=hid ha
 have HB:=hid hb
 have hbs:=World.block_lt_of_cell? w _ h0
 simp only at hbs
 have H0:=hid h0
 have H1:=hid h1
 clear ha hb
 go_enter Tryz.func137,Tryz.ntmps137
 go_wp2_with fail
 refine wp_loop_rounds 3 ?_
 repeat any_goals (rw [rounds_succ];go_wp2_with fail)
 refine (growi_row _ (by omega) (by omega) _).mono ?_
 rintro e w2 ⟨⟨v0,rfl,o0⟩,b2⟩
 have C2:=hid b2
 have O0:=hid o0
 have c0:=(b2.cell (p:=⟨bs,0,none⟩) hbs).trans H0.out
 have RA:=hid (HA.out.below b2)
 clear o0 b2 h0 h1
 go_wp2_with fail
 refine wp_loop_rounds 3 ?_
 rw [rounds_succ]
 go_wp2_with (at_builtin;refine wpList_append_flat' rfl _ _ 35 rfl w.heap.size 55 i0 _ 3 32 Tryz.underlying35 hi hz0 hz1 hz2 rfl (by decide) _ 0 [] rfl O0.out A a ca rfl RA.out (val_cells A) (by unfold maxLen;omega) (by omega) C2.out.size ?_;intro v1 w3 o1 g1)
 have C3:=hid (C2.out.grown g1 C2.out.size (fun k hk=>(O0.out.lt k hk).1))
 have O1:=hid o1
 have c1:=(C3.out.cell (p:=⟨bs,1,none⟩) hbs).trans H1.out
 have RB:=hid (HB.out.below C3.out)
 clear o1 g1 c0
 go_wp2_with fail
 rw [rounds_succ]
 go_wp2_with (at_builtin;refine wpList_append_flat' rfl _ _ 35 rfl w.heap.size 55 i0 _ 3 32 Tryz.underlying35 hi hz0 hz1 hz2 rfl (by decide) _ (0+A.length) _ rfl O1.out B b cb rfl RB.out (val_cells B) (by unfold maxLen;omega) (by omega) C3.out.size ?_;intro v2 w4 o2 g2)
 have C4:=hid (C3.out.grown g2 C3.out.size (fun k hk=>(O1.out.lt k hk).1))
 have O2:=hid o2
 clear o2 g2 c1
 go_wp2_with fail
 rw [rounds_succ]
 go_wp2_with fail
 have hf:w4.ownsRow w.heap.size 55 3 v2 (A ++ B).length ((A ++ B).flatMap valEnc):=by simpa using O2.out
 obtain ⟨va,vc,hv,_⟩:=owns_shape' hf
 have HF:=hid hf
 have HV:=hid hv
 clear hf hv
 go_ret
 exact ⟨va,vc,by rw [HV.out];rfl,by rw [<- HV.out];exact HF.out,C4.out⟩
theorem grow_cols (n:Nat) (hn:n<=2000000) (w:World):Calls Tryz.prog 158 #[.slice none 0 0,.int .i64 n] w
 fun e w'=>(∃ v,e=.returned v/\w'.ownsRow w.heap.size 118 2 v 0 [])/\Below w.heap.size w w':=by
 obtain ⟨i0,hi,hz0,hz1,hz2⟩:=info_parts info_cols
 by_cases h0:n=0
 · subst h0
   go_enter Tryz.func158,Tryz.ntmps158
   go_wp2_with fail
   go_ret
   exact ⟨⟨_,rfl,World.ownsRow_nil _ _ _ _⟩,Below.refl _ _⟩
 · have hr:=Lib.run_append_nil_zeros (P:=Tryz.prog) w 32 3 32 118 i0 _ .i64 .i64 Tryz.underlying32 Tryz.underlying3 hi hz0 n (by omega) (by omega) (by omega) (by rw [hz2];omega)
   have HR:=hid hr
   clear hr
   have hpos:(0:Int)<(n:Int):=by omega
   go_enter Tryz.func158,Tryz.ntmps158
   go_wp2_with (at_builtin;refine Lib.wpList_append_run _ rfl _ _ _ _ rfl _ _ rfl rfl _ _ HR.out ?_)
   go_ret
   refine ⟨⟨_,rfl,World.ownsRow_made w _ _ (jR _) (grownCap_le_maxLen w n 0 118 (by unfold maxLen;omega)) ?_⟩,((b0R).alloc (jR _) _).drew⟩
   have:=grownCap_ge w n 0 118
   have hz:∀ z:Value,i0.zero=some z->True:=fun _ _=>trivial
   simp [size_zeroCells,Value.cells]
   omega
theorem growi_cols (m:Int) (h0:0<=m) (h1:m<=2000000) (w:World):Calls Tryz.prog 158 #[.slice none 0 0,.int .i64 m] w
 fun e w'=>(∃ v,e=.returned v/\w'.ownsRow w.heap.size 118 2 v 0 [])/\Below w.heap.size w w':=by
 obtain ⟨n,rfl⟩:∃ n:Nat,m=n:=⟨m.toNat,by omega⟩
 exact grow_cols n (by omega) w
theorem concat_cols {p q:Nat->Prop} (bs:Nat) (w:World) (A B:List (ByteArray × Int)) (a b:Option Addr) (ca cb:Nat) (h0:w.cell? ⟨bs,0,none⟩=some (.slice a A.length ca)) (h1:w.cell? ⟨bs,1,none⟩=some (.slice b B.length cb))
 (ha:RowAt (flatR 2 colEnc fun _=>rfl) p w a A) (hb:RowAt (flatR 2 colEnc fun _=>rfl) q w b B) (lA:A.length<=1000000) (lB:B.length<=1000000) :
 Calls Tryz.prog 138 #[.slice (some ⟨bs,0,none⟩) 2 2] w fun e w'=>∃ va vc,e=.returned (.slice va (A ++ B).length vc)/\w'.ownsRow w.heap.size 118 2 (.slice va (A ++ B).length vc) (A ++ B).length ((A ++ B).flatMap colEnc)/\Below w.heap.size w w':=by
 obtain ⟨i0,hi,hz0,hz1,hz2⟩:=info_parts info_cols
 have HA:=hid ha
 have HB:=hid hb
 have hbs:=World.block_lt_of_cell? w _ h0
 simp only at hbs
 have H0:=hid h0
 have H1:=hid h1
 clear ha hb
 go_enter Tryz.func138,Tryz.ntmps138
 go_wp2_with fail
 refine wp_loop_rounds 3 ?_
 repeat any_goals (rw [rounds_succ];go_wp2_with fail)
 refine (growi_cols _ (by omega) (by omega) _).mono ?_
 rintro e w2 ⟨⟨v0,rfl,o0⟩,b2⟩
 have C2:=hid b2
 have O0:=hid o0
 have c0:=(b2.cell (p:=⟨bs,0,none⟩) hbs).trans H0.out
 have RA:=hid (HA.out.below b2)
 clear o0 b2 h0 h1
 go_wp2_with fail
 refine wp_loop_rounds 3 ?_
 rw [rounds_succ]
 go_wp2_with (at_builtin;refine wpList_append_flat' rfl _ _ 32 rfl w.heap.size 118 i0 _ 2 24 Tryz.underlying32 hi hz0 hz1 hz2 rfl (by decide) _ 0 [] rfl O0.out A a ca rfl RA.out (col_cells A) (by unfold maxLen;omega) (by omega) C2.out.size ?_;intro v1 w3 o1 g1)
 have C3:=hid (C2.out.grown g1 C2.out.size (fun k hk=>(O0.out.lt k hk).1))
 have O1:=hid o1
 have c1:=(C3.out.cell (p:=⟨bs,1,none⟩) hbs).trans H1.out
 have RB:=hid (HB.out.below C3.out)
 clear o1 g1 c0
 go_wp2_with fail
 rw [rounds_succ]
 go_wp2_with (at_builtin;refine wpList_append_flat' rfl _ _ 32 rfl w.heap.size 118 i0 _ 2 24 Tryz.underlying32 hi hz0 hz1 hz2 rfl (by decide) _ (0+A.length) _ rfl O1.out B b cb rfl RB.out (col_cells B) (by unfold maxLen;omega) (by omega) C3.out.size ?_;intro v2 w4 o2 g2)
 have C4:=hid (C3.out.grown g2 C3.out.size (fun k hk=>(O1.out.lt k hk).1))
 have O2:=hid o2
 clear o2 g2 c1
 go_wp2_with fail
 rw [rounds_succ]
 go_wp2_with fail
 have hf:w4.ownsRow w.heap.size 118 2 v2 (A ++ B).length ((A ++ B).flatMap colEnc):=by simpa using O2.out
 obtain ⟨va,vc,hv,_⟩:=owns_shape' hf
 have HF:=hid hf
 have HV:=hid hv
 clear hf hv
 go_ret
 exact ⟨va,vc,by rw [HV.out];rfl,by rw [<- HV.out];exact HF.out,C4.out⟩
end
section
open Go.RowKit
def FromPost (w:World) (E:Int) (T:Tab) (R:List (List Val)) (e:Ending) (w':World):Prop :=
 ∃ (ti:Int) (tn:ByteArray) (a1:Option Addr) (n1 c1:Nat) (a2:Option Addr) (n2 c2:Nat) (a3:Option Addr) (n3 c3:Nat),e=.returned (.tuple #[.agg #[.int .i64 ti,.string tn,.slice a1 n1 c1,.slice a2 n2 c2],.slice a3 n3 c3,.int .i64 E])/\Below w.heap.size w w' /\
  (E=0->TabV (fun _=>True) w' (.agg #[.int .i64 ti,.string tn,.slice a1 n1 c1,.slice a2 n2 c2]) T/\SlV rowR (fun _=>True) w' (.slice a3 n3 c3) R)
theorem results_ctt {P:Program} {fn:Func} {p q r:Tmp} {tp:TypeId} (h:fn.results=#[.cell p tp,.tmp q,.tmp r]) (tmps:Array Value) (w:World) (g1:Nat) (t1:TypeId) (cs1:Array Value) (fr1:Nat × Nat) (d1:TypeDesc)
 (hp:tmps.getD p undef=.pointer (some ⟨g1,0,none⟩)) (hg1:w.heap[g1]? = some (.cells cs1 t1 fr1))
 (hu1:P.underlying tp=some d1) (hd1:(match d1 with | .struct _ | .array _ _=>true|_=>false)=true) (hi1:(P.info? tp).map (·.size)=some cs1.size) :
 (results fn tmps).run P w=.ok (.tuple #[.agg cs1,tmps.getD q undef,tmps.getD r undef]) w:=by
 have hp':tmps[p]?.getD undef=.pointer (some ⟨g1,0,none⟩):=by simpa using hp
 simp [results,h,hp',asAddr,Sem.run_bind,Result.andThen,run_loadVar_row w g1 t1 tp cs1 fr1 d1 hg1 hu1 hd1 hi1]
def tstored (w:World) (g:Nat) (x0 x1 x2 x3:Value):World:=(((w.setCell ⟨g,0,none⟩ x0).setCell ⟨g,1,none⟩ x1).setCell ⟨g,2,none⟩ x2).setCell ⟨g,3,none⟩ x3
theorem tstored_at {w:World} {g:Nat} {y0 y1 y2 y3 x0 x1 x2 x3:Value} (h:w.heap[g]? = some (.cells #[y0,y1,y2,y3] 75 (0,0))):(tstored w g x0 x1 x2 x3).heap[g]? = some (.cells #[x0,x1,x2,x3] 75 (0,0)) :=
 (heap_setCell_same _ _ _ _ _ _ ((heap_setCell_same _ _ _ _ _ _ ((heap_setCell_same _ _ _ _ _ _ ((heap_setCell_same _ _ _ _ _ _ h).trans rfl)).trans rfl)).trans rfl)).trans rfl
theorem tstored_below {B:Nat} {a w:World} {g:Nat} {x0 x1 x2 x3:Value} (h:Below B a w) (h1:B<=g):Below B a (tstored w g x0 x1 x2 x3) :=
 (((h.setCell (p:=⟨g,0,none⟩) h1 _).setCell (p:=⟨g,1,none⟩) h1 _).setCell (p:=⟨g,2,none⟩) h1 _).setCell (p:=⟨g,3,none⟩) h1 _
theorem tstored_other {w:World} {g:Nat} {x0 x1 x2 x3:Value} (k:Nat) (h:k ≠ g):(tstored w g x0 x1 x2 x3).heap[k]? = w.heap[k]? :=
 (heap_setCell_other _ _ _ _ (by exact h)).trans ((heap_setCell_other _ _ _ _ (by exact h)).trans ((heap_setCell_other _ _ _ _ (by exact h)).trans (heap_setCell_other _ _ _ _ (by exact h))))
theorem tstored_size {w:World} {g:Nat} {x0 x1 x2 x3:Value}:(tstored w g x0 x1 x2 x3).heap.size=w.heap.size:=by simp [tstored]
theorem RowAt.lst {α:Type} {R0:Rep α} {p:Nat->Prop} {w:World} {b off:Nat} {L:List (List α)} (h:RowAt (sliceR R0) p w (some ⟨b,off,none⟩) L) (t:Nat) (ht:t<L.length) :
 ∃ ra rc,w.cell? ⟨b,off+t,none⟩=some (.slice ra L[t].length rc)/\SlV R0 p w (.slice ra L[t].length rc) L[t]:=by
 rcases h with rfl|⟨b',off',e,hp,hb,h⟩
 · cases ht
 · cases e
   obtain ⟨cs,h1,ra,rc,rfl,h2,h3,h4⟩:=h t ht
   have:=h1 0 (by show 0<1;decide)
   simp only [sliceR,Nat.mul_one,Nat.add_zero,List.getElem?_cons_zero] at this
   exact ⟨ra,rc,this,ra,rc,rfl,h2,h3,h4⟩
theorem Ret1.of_below {Z w:World} {g:Nat} {o:Obj} (hg:Z.heap[g]? = some o) (hb:Below Z.heap.size Z w):Ret1 Z g o w:=⟨grownBy_of_below _ hb,(hb.block _ (jB hg)).trans hg⟩
theorem ret_tab {Z w:World} {g:Nat} {x0 x1 x2 x3:Value} (hw:Ret1 Z g (.cells #[x0,x1,x2,x3] 75 (0,0)) w):Ret1 Z g (.cells #[x0,x1,x2,x3] 75 (0,0)) (tstored w g x0 x1 x2 x3):=by
 refine ⟨⟨hw.1.os,hw.1.tape,hw.1.output,by rw [tstored_size];exact hw.1.size,fun k hk hn=>?_⟩,tstored_at hw.2⟩
 exact (tstored_other k (by simpa using hn)).trans (hw.1.block k hk hn)
theorem wpSegs_assign_q {P:Program} {l:List Oper} {Q:Act->World->Prop} {I C:World->Prop} {qs:List Nat} {j:Nat} {a A:Act} {o:Oper} {x:Operand} (J:World->Prop) (v:Value) (hC:Stable C) (hJI:∀ w,J w->I w) (hCJ:∀ w,C w->J w)
 (hq:∀ w0,J w0->wpQuiet P l.toArray (fun w'=>∃ x:Wld (Below w0.heap.size w0),w'=x.val) (fun a'=>a'=A) (pickOps l qs) a)
 (ho:l[j]? = some o) (hop:o.op=.assign x) (hw:Region.wanted o (yielded l.toArray A.tmps)=true) (hj:j=l.length - 1) (hv:A.eval x=v)
 (hrest:∀ w,C w->Q (A.put o.dst v) w):wpSegs P l Q I [(qs,j)] a C:=by
 refine ⟨J,A,hJI,hCJ,hq,o,ho,hw,fun u w=>u=A.eval x/\C w,fun u w w' h hb=>⟨h.1,hC w w' h.2 hb⟩,fun h=>absurd hj h,fun w hc=>?_,fun u ⟨w,h⟩ w' h'=>?_⟩
 · unfold Oper.loose execOp
   rw [hop]
   exact ⟨A.eval x,fun _ _ _=>rfl,rfl,hc⟩
 · rw [h'.1,hv]
   exact hrest w' h'.2
def joinOne (x:List Val) (R:List (List Val)) (l r:Int):List (List Val):=(R.filter fun y=>fitsV (valAt x l) 1 (valAt y r)).map (x ++ ·)
theorem joinR_take {X Y:List (List Val)} {l r:Int} {k:Nat} (hk:k<X.length):joinR (X.take (k+1)) Y l r=joinR (X.take k) Y l r ++ joinOne X[k] Y l r:=by
 unfold joinR
 rw [List.take_succ_eq_append_getElem hk,List.flatMap_append,List.flatMap_singleton]
 rfl
theorem joinOne_yes {x:List Val} {Y:List (List Val)} {l r:Int} {j:Nat} (hj:j<Y.length) (h:fitsV (valAt x l) 1 (valAt Y[j] r)=true):joinOne x (Y.take (j+1)) l r=joinOne x (Y.take j) l r ++ [x ++ Y[j]]:=by
 unfold joinOne
 rw [List.take_succ_eq_append_getElem hj,List.filter_append,List.map_append,List.filter_cons_of_pos (by simpa using h)]
 rfl
theorem joinOne_no {x:List Val} {Y:List (List Val)} {l r:Int} {j:Nat} (hj:j<Y.length) (h:fitsV (valAt x l) 1 (valAt Y[j] r)=false):joinOne x (Y.take (j+1)) l r=joinOne x (Y.take j) l r:=by
 unfold joinOne
 rw [List.take_succ_eq_append_getElem hj,List.filter_append,List.map_append,List.filter_cons_of_neg (by simp [h])]
 simp
structure JAt (Z:World) (v:Value) (acc:List (List Val)) (xs:List Value) (w:World):Prop where
 bl:Below Z.heap.size Z w
 o:w.ownsRow Z.heap.size 35 1 v acc.length xs
 c:Copies Z.heap.size acc acc.length xs w
theorem JAt.below {Z:World} {v:Value} {acc:List (List Val)} {xs:List Value} {w w':World} (h:JAt Z v acc xs w) (hb:Below w.heap.size w w'):JAt Z v acc xs w' :=
 ⟨h.bl.trans (hb.mono h.bl.size),owns_below h.o hb,h.c.below hb⟩
theorem JAt.push {Z:World} {v v' u:Value} {acc:List (List Val)} {r:List Val} {xs:List Value} {w w':World} (h:JAt Z v acc xs w) (hu:w.ownsRow Z.heap.size 55 3 u r.length (r.flatMap valEnc))
 (o1:w'.ownsRow Z.heap.size 35 1 v' (acc.length+1) (xs ++ [u])) (g1:w.grownBy w' v.ownBlock):JAt Z v' (acc ++ [r]) (xs ++ [u]) w':=by
 have ht:=own_tag h.o
 have hl:(acc ++ [r]).length=acc.length+1:=by simp
 refine ⟨h.bl.grown g1 h.bl.size (fun k hk=>(h.o.lt k hk).1),by rw [hl];exact o1,?_⟩
 rw [hl]
 exact (keeps_copies (B':=Z.heap.size) (T:=35) (by decide) w w' _ h.c ht g1).snoc rfl (keeps_owns (B':=Z.heap.size) (T:=35) (by decide) w w' _ hu ht g1)
theorem JAt.sl {Z:World} {v:Value} {acc:List (List Val)} {xs:List Value} {w:World} (h:JAt Z v acc xs w) (hl:acc.length<=2000000000000) (hr:∀ x ∈ acc,x.length<=1000000):SlV rowR (fun k=>Z.heap.size<=k) w v acc:=by
 have hxs:xs.length=acc.length:=by have:=h.o.1;omega
 obtain ⟨a',c',hv',h5,h6,_⟩:=RowAt.of_owns (R:=rowR) (p:=fun k=>Z.heap.size<=k) h.o (fun _ h=>h) (fun i hi=>by
  show rowR.ok _ w (List.take 1 (List.drop (i * 1) xs)) acc[i]
  rw [Nat.mul_one,List.drop_eq_getElem_cons (by omega)]
  have h7:=h.c.2 i (by omega) hi
  have hl2:=hr _ (List.getElem_mem hi)
  obtain ⟨a2,c2,e2,h8,_,h9⟩:=sl_owned (enc:=valEnc) (sz:=3) (hl:=fun _=>rfl) h7 (by omega)
  exact ⟨a2,c2,by rw [<- e2];rfl,h8,by omega,h9⟩)
 exact ⟨a',c',hv',h5,by omega,h6⟩
theorem valAt_nat {x:List Val} {l:Nat} (h:l<x.length):valAt x (l:Int)=x[l]:=by
 unfold valAt
 rw [Int.toNat_natCast,List.getD_eq_getElem?_getD,List.getElem?_eq_getElem h]
 rfl
theorem joinR_mem {X Y:List (List Val)} {l r:Int} {x:List Val} (h:x ∈ joinR X Y l r):∃ a ∈ X,∃ b ∈ Y,x=a ++ b:=by
 unfold joinR at h
 obtain ⟨a,ha,h⟩:=List.mem_flatMap.1 h
 obtain ⟨b,hb,rfl⟩:=List.mem_map.1 h
 exact ⟨a,ha,b,(List.mem_filter.1 hb).1,rfl⟩
theorem TabV.parts {p:Nat->Prop} {w:World} {ac ai:Option Addr} {cc ci:Nat} {T:Tab} (h:TabV p w (.agg #[.int .i64 T.id,.string T.name,.slice ac T.cols.length cc,.slice ai T.idx.length ci]) T):SlV colR p w (.slice ac T.cols.length cc) T.cols/\SlV ixR p w (.slice ai T.idx.length ci) T.idx:=by
 obtain ⟨_,_,_,_,e,h1,h2⟩:=h
 simp only [Value.agg.injEq,Array.mk.injEq,List.cons.injEq,Value.slice.injEq,and_true,true_and] at e
 obtain ⟨⟨rfl,rfl⟩,rfl,rfl⟩:=e
 exact ⟨h1,h2⟩
def NewTwo (v1 v2:Value) (u:Value) (w:World):Prop:=∃ g,u=.slice (some ⟨g,0,none⟩) 2 2/\w.heap[g]? = some (.cells #[v1,v2] 32 (0,0))
def NewCat (B:Nat) (L:List (ByteArray × Int)) (u:Value) (w:World):Prop:=∃ va vc,u=.slice va L.length vc/\w.ownsRow B 118 2 (.slice va L.length vc) L.length (L.flatMap colEnc)
theorem NewTwo.below {v1 v2 u:Value} {w w':World} (h:NewTwo v1 v2 u w) (hb:Below w.heap.size w w'):NewTwo v1 v2 u w':=by
 obtain ⟨g,e,h⟩:=h
 exact ⟨g,e,(hb.block _ (jB h)).trans h⟩
theorem NewCat.below {B:Nat} {L:List (ByteArray × Int)} {u:Value} {w w':World} (h:NewCat B L u w) (hb:Below w.heap.size w w'):NewCat B L u w':=by
 obtain ⟨a,c,e,h⟩:=h
 exact ⟨a,c,e,owns_below h hb⟩
theorem from_any {p p':Nat->Prop} {s:StV} {st:Stmt} {sv stv:Value} {w:World} (hs:StAt p w sv s) (hst:StmtV p' w stv st) (hC:CatOk s.tabs) (hR:RowsSmall s.rows) (hl:s.rows.length=s.tabs.length)
 (hw:∀ n (h1:n<s.rows.length) (h2:n<s.tabs.length),∀ r ∈ s.rows[n],r.length=s.tabs[n].cols.length) (hK:KindsAt w) :
 Calls Tryz.prog 93 #[sv,stv] w fun e w'=>FromPost w (fromE s st) (fromT s st) (fromR s st) e w':=by
 obtain ⟨i0,hi,hz0,hz1,hz2⟩:=info_parts info_arr
 obtain ⟨a1,c1,a2,c2,rfl,htabs,hrows⟩:=hs
 obtain ⟨C,R⟩:=s
 simp only at *
 have HTABS:=hid htabs
 have HROWS:=hid hrows
 have HC:=hid hC
 have HR:=hid hR
 have HRC1:=hid hl
 have HW:=hid hw
 have HKI:=hid hK
 obtain ⟨a3,c3,a4,c4,a5,c5,a6,c6,a7,c7,a12,c12,rfl,_,_,_,_,_,_⟩:=hst
 obtain ⟨Pst,hPst⟩:∃ Pst,Pst=FromPost w (fromE ⟨C,R⟩ st) (fromT ⟨C,R⟩ st) (fromR ⟨C,R⟩ st):=⟨_,rfl⟩
 have HPST:=hid hPst
 rw [<- hPst]
 clear htabs hrows hC hR hPst hl hw hK
 go_enter Tryz.func93,Tryz.ntmps93
 go_upto_region 1 with (fail)
 generalize hW:World.alloc _ _=W0
 have hA':allocs w [_,_,_]=W0:=hW
 have hq0:W0.heap[w.heap.size]? = some (.cells #[.slice a1 C.length c1,.slice a2 R.length c2] 27 (0,0)):=allocs_get hA' 0 rfl
 have hq1:W0.heap[w.heap.size+1]? = some (.cells #[.int .i64 st.kind,.string st.table,.string st.name,.slice a3 st.cols.length c3,.slice a4 st.names.length c4,.slice a5 st.row.length c5,.slice a6 st.sets.length c6,.slice a7 st.wher.length c7,.string st.join,.string st.left,.string st.right,.int .i64 st.agg,.slice a12 st.order.length c12,.int .i64 st.mode,.int .i64 st.n] 39 (0,0)):=allocs_get hA' 1 rfl
 have hq2:W0.heap[w.heap.size+1+1]? = some (.cells #[.int .i64 0,.string ⟨#[]⟩,.slice none 0 0,.slice none 0 0] 75 (0,0)):=allocs_get hA' 2 rfl
 have B0:=hid (allocs_self hA')
 have HS0:=hid (show w.heap.size+3<=W0.heap.size by rw [<- hA',allocs_size];exact jR _)
 have Q0:=hid hq0
 have Q1:=hid hq1
 have Q2:=hid hq2
 have t0:=jC hq0 0
 have t1:=jC hq0 1
 have s1:=jC hq1 1
 simp only [gT,gZ,gS] at t0 t1 s1
 clear hA' hW hq0 hq1 hq2
 have con:=find_any (R:=R) (a2:=a2) (c2:=c2) (n2:=R.length) (HTABS.out.below B0.out) st.table
 obtain ⟨n,hn⟩:∃ n,findV ⟨C,R⟩ st.table=n:=⟨_,rfl⟩
 rw [hn] at con
 have HN:=hid hn
 have HBD:=hid (show -1<=n/\n<C.length from by rw [<- hn];exact findT_lt C st.table)
 clear hn
 go_wp2_with fail
 refine con.mono ?_
 rintro e w1 ⟨rfl,b1⟩
 have B1:=hid (B0.out.trans (b1.mono B0.out.size))
 have HQ2:=cy b1 Q2
 have HQ0:=cy b1 Q0
 have HQ1:=cy b1 Q1
 have HS1:=hid (show w.heap.size+3<=w1.heap.size from Nat.le_trans HS0.out b1.size)
 clear con b1 t0 t1 s1 Q0 Q1 Q2
 by_cases hn0:n<0
 · have d0:decide (n<0)=true:=decide_eq_true hn0
   have x0:=jC HQ2.out 0
   have x1:=jC HQ2.out 1
   have x2:=jC HQ2.out 2
   have x3:=jC HQ2.out 3
   have f0:=free_of HQ2.out 0
   have f1:=free_of HQ2.out 1
   have f2:=free_of HQ2.out 2
   have f3:=free_of HQ2.out 3
   simp only [gT,gZ,gS] at x0 x1 x2 x3
   have HX:=hid (tstored_at (x0:=.int .i64 0) (x1:=.string ⟨#[]⟩) (x2:=.slice none 0 0) (x3:=.slice none 0 0) HQ2.out)
   have HY:=hid (tstored_below (g:=w.heap.size+1+1) (x0:=.int .i64 0) (x1:=.string ⟨#[]⟩) (x2:=.slice none 0 0) (x3:=.slice none 0 0) B1.out (by omega))
   go_wp2_with fail
   refine bodyPost_ret (results_ctt rfl _ _ (w.heap.size+1+1) 75 _ (0,0) _ rfl HX.out Tryz.underlying75 rfl (by kernel_rfl)) rfl ?_
   rw [HPST.out]
   have hE:fromE ⟨C,R⟩ st=50:=by
    unfold fromE
    rw [if_pos (by rw [HN.out];exact hn0)]
   rw [hE]
   exact ⟨_,_,_,_,_,_,_,_,_,_,_,rfl,HY.out,fun h=>by simp at h⟩
 obtain ⟨n,rfl⟩:∃ k:Nat,n=k:=⟨n.toNat,by omega⟩
 have hnC:n<C.length:=by have:=HBD.out.2;omega
 have hnR:n<R.length:=by have:=HRC1.out;omega
 have hn1:¬ (n:Int)<0:=hn0
 obtain ⟨bb,oo,rfl,_,hbb⟩:=HTABS.out.row.2.2.2.addr (by intro e;rw [e] at hnC;cases hnC)
 obtain ⟨ac,cc,ai,ci,g0,g1,g2,g3,htv⟩:=HTABS.out.row.2.2.2.tab n hnC
 have k0:=(B1.out.cell (p:=⟨bb,oo+n * 4,none⟩) hbb).trans g0
 have k1:=(B1.out.cell (p:=⟨bb,oo+n * 4+1,none⟩) hbb).trans g1
 have k2:=(B1.out.cell (p:=⟨bb,oo+n * 4+2,none⟩) hbb).trans g2
 have k3:=(B1.out.cell (p:=⟨bb,oo+n * 4+3,none⟩) hbb).trans g3
 obtain ⟨T,hT⟩:∃ T,T=C[n]:=⟨_,rfl⟩
 have HTT:=hid hT
 rw [<- hT] at htv k0 k1 k2 k3
 have HTV:=hid htv
 have HTA:=hid (show tabAt C (n:Int)=T from by rw [tab_at' hnC];exact hT.symm)
 have hTC:T.cols.length<=6:=by rw [hT];exact (HC.out.tab _ (List.getElem_mem hnC)).len.2
 have z0:=jC HQ0.out 0
 have y0:=jC HQ2.out 0
 have y1:=jC HQ2.out 1
 have y2:=jC HQ2.out 2
 have y3:=jC HQ2.out 3
 have f0:=free_of HQ2.out 0
 have f1:=free_of HQ2.out 1
 have f2:=free_of HQ2.out 2
 have f3:=free_of HQ2.out 3
 simp only [gT,gZ,gS] at z0 y0 y1 y2 y3
 clear g0 g1 g2 g3 htv HBD hT
 go_upto_region 5 with (fail)
 generalize hA:World.setCell _ _ _=W2
 have hA2:tstored w1 (w.heap.size+1+1) (.int .i64 T.id) (.string T.name) (.slice ac T.cols.length cc) (.slice ai T.idx.length ci)=W2:=hA
 have BW2:=hid (show Below w.heap.size w W2 by rw [<- hA2];exact tstored_below B1.out (by omega))
 have QT:=hid (show W2.heap[w.heap.size+1+1]? = some (.cells #[.int .i64 T.id,.string T.name,.slice ac T.cols.length cc,.slice ai T.idx.length ci] 75 (0,0)) by rw [<- hA2];exact tstored_at HQ2.out)
 have QW0:=hid (show W2.heap[w.heap.size]? = some (.cells #[.slice (some ⟨bb,oo,none⟩) C.length c1,.slice a2 R.length c2] 27 (0,0)) by rw [<- hA2];exact (tstored_other _ (by omega)).trans HQ0.out)
 have QW1:=hid (show W2.heap[w.heap.size+1]? = some (.cells #[.int .i64 st.kind,.string st.table,.string st.name,.slice a3 st.cols.length c3,.slice a4 st.names.length c4,.slice a5 st.row.length c5,.slice a6 st.sets.length c6,.slice a7 st.wher.length c7,.string st.join,.string st.left,.string st.right,.int .i64 st.agg,.slice a12 st.order.length c12,.int .i64 st.mode,.int .i64 st.n] 39 (0,0)) by rw [<- hA2];exact (tstored_other _ (by omega)).trans HQ1.out)
 have HS2:=hid (show w.heap.size+3<=W2.heap.size by rw [<- hA2,tstored_size];exact HS1.out)
 clear hA hA2 k0 k1 k2 k3 z0 y0 y1 y2 y3 f0 f1 f2 f3 HQ0 HQ1 HQ2 B1 HS1
 have s8:=jC QW1.out 8
 simp only [gT,gZ,gS] at s8
 have hE:=nil_iff st.join
 cases hj:strNil st.join
 case true =>
  rw [hj] at hE
  have hje:st.join.toList=[]:=by simpa using hE
  have HJ:=hid hj
  clear hE hj
  have HRN:=hid (HROWS.out.below BW2.out)
  obtain ⟨br,orr,rfl,_,hbr⟩:=HROWS.out.row.2.2.2.addr (by intro e;rw [e] at hnR;cases hnR)
  obtain ⟨ra,rc,hr0,hrl⟩:=HROWS.out.row.2.2.2.lst n hnR
  have HR0:=hid ((BW2.out.cell (p:=⟨br,orr+n,none⟩) hbr).trans hr0)
  have HRL0:=hid hrl
  have HBR:=hid hbr
  clear hr0 hrl hbr
  go_upto_region 6 with (fail)
  refine wp_region_loose2 [([0,1,2,3,4,5],6),([7],8)] (Ret1 W2 (w.heap.size+1+1) (.cells #[.int .i64 T.id,.string T.name,.slice ac T.cols.length cc,.slice ai T.idx.length ci] 75 (0,0))) (Below W2.heap.size W2) (by kernel_rfl) (by kernel_rfl) (by kernel_rfl) (fun w1 w2 h b=>h.trans (b.mono h.size)) (Below.drew b0R) ?_
  apply wpSegs_cons (Ret1 W2 (w.heap.size+1+1) (.cells #[.int .i64 T.id,.string T.name,.slice ac T.cols.length cc,.slice ai T.idx.length ci] 75 (0,0))) (fun _ w'=>Ret1 W2 (w.heap.size+1+1) (.cells #[.int .i64 T.id,.string T.name,.slice ac T.cols.length cc,.slice ai T.idx.length ci] 75 (0,0)) w') (fun _ h=>h) (fun _ h=>Ret1.of_below QT.out h)
  case hq =>
   rintro w0 hw0
   have ne:Nonempty (Wld (Below w0.heap.size w0)):=⟨⟨w0,Below.refl _ _⟩⟩
   have qb:=hw0.2
   have q0:=(hw0.1.block _ (jB QW0.out) (by intro e;have e':=jI e;omega)).trans QW0.out
   have qr:=(World.cell?_of_block (a:=⟨br,orr+n,none⟩) (hw0.1.block br (jL HBR.out BW2.out.size) (by intro e;have e':=jI e;have:=HBR.out;omega))).trans HR0.out
   have brs:=jL HBR.out (Nat.le_trans BW2.out.size hw0.1.size)
   have y0:=fun x:Wld (Below w0.heap.size w0)=>jC ((x.good.block _ (jB qb)).trans qb) 0
   have y1:=fun x:Wld (Below w0.heap.size w0)=>jC ((x.good.block _ (jB qb)).trans qb) 1
   have y2:=fun x:Wld (Below w0.heap.size w0)=>jC ((x.good.block _ (jB qb)).trans qb) 2
   have y3:=fun x:Wld (Below w0.heap.size w0)=>jC ((x.good.block _ (jB qb)).trans qb) 3
   have z1:=fun x:Wld (Below w0.heap.size w0)=>jC ((x.good.block _ (jB q0)).trans q0) 1
   simp only [gT,gZ,gS] at y0 y1 y2 y3 z1
   have zr:=fun x:Wld (Below w0.heap.size w0)=>(x.good.cell (p:=⟨br,orr+n,none⟩) brs).trans qr
   clear hw0 qb q0 qr brs
   simp only [pickOps,List.getElem?_cons_zero,List.getElem?_cons_succ]
   apply quiet_hide
   intro KE hKE
   repeat (go_big_quiet_step (fail))
   refine wpQuiet_nil ?_
   exact hKE _ rfl
  case ho=>rfl
  case hop=>rfl
  case hw=>kernel_rfl
  case hDJ=>exact fun _ _ _ h=>h
  case hD=>exact fun u w1 w2 h hb=>h.below hb
  case hlo =>
   intro wa ba
   have hqa:=(ba.block _ (jB QT.out)).trans QT.out
   have g0:=jC hqa 0
   have g1:=jC hqa 1
   have g2:=jC hqa 2
   have g3:=jC hqa 3
   have e0:=free_of hqa 0
   have e1:=free_of hqa 1
   have e2:=free_of hqa 2
   have e3:=free_of hqa 3
   simp only [gT,gZ,gS] at g0 g1 g2 g3
   have HBA:=hid ba
   clear hqa ba
   go_wp2_with fail
   exact ret_tab (Ret1.of_below QT.out HBA.out)
  case hrest =>
   rintro u3 w3 -
   simp only [Act.put,List.setIfInBounds_toArray,List.set_cons_succ,List.set_cons_zero]
   apply wpSegs_assign_q (Ret1 W2 (w.heap.size+1+1) (.cells #[.int .i64 T.id,.string T.name,.slice ac T.cols.length cc,.slice ai T.idx.length ci] 75 (0,0))) (.int .i64 0) (fun w1 w2 h hb=>Ret1.below h hb) (fun _ h=>h) (fun _ h=>h)
   case hq =>
    rintro w0 -
    have ne:Nonempty (Wld (Below w0.heap.size w0)):=⟨⟨w0,Below.refl _ _⟩⟩
    simp only [pickOps,List.getElem?_cons_zero,List.getElem?_cons_succ]
    apply quiet_hide
    intro KE hKE
    repeat (go_big_quiet_step (fail))
    refine wpQuiet_nil ?_
    exact hKE _ rfl
   case ho=>rfl
   case hop=>rfl
   case hw=>kernel_rfl
   case hj=>rfl
   case hv=>rfl
   case hrest =>
    intro w7 h7
    have H7:=hid h7
    clear h7
    go_wp2_with fail
    refine bodyPost_ret (results_ctt rfl _ _ (w.heap.size+1+1) 75 _ (0,0) _ rfl H7.out.2 Tryz.underlying75 rfl (by kernel_rfl)) rfl ?_
    rw [HPST.out]
    have hE:fromE ⟨C,R⟩ st=0:=by
     unfold fromE
     rw [if_neg (by rw [HN.out];omega),if_pos HJ.out]
    have hT:fromT ⟨C,R⟩ st=T:=by
     unfold fromT
     rw [if_pos HJ.out,HN.out,HTA.out]
    have hRr:fromR ⟨C,R⟩ st=R[n]:=by
     unfold fromR
     rw [if_pos HJ.out,HN.out]
     exact rows_at' hnR
    rw [hE,hT,hRr]
    have kp:∀ k,k<w.heap.size->w7.heap[k]? = w.heap[k]? := fun k hk=>(H7.out.1.block k (jL hk BW2.out.size) (by intro e;have e':=jI e;omega)).trans (BW2.out.block k hk)
    exact ⟨_,_,_,_,_,_,_,_,_,_,_,rfl,BW2.out.grown H7.out.1 BW2.out.size (fun k e=>by cases e;omega),fun _=>⟨(HTV.out.keep fun k _ hl=>kp k hl).weaken fun _ _=>trivial,(HRL0.out.keep fun k _ hl=>kp k hl).weaken fun _ _=>trivial⟩⟩
 case false =>
  rw [hj] at hE
  have hje:¬ st.join.toList=[]:=by simpa using hE
  have HJ:=hid hj
  have t0:=jC QW0.out 0
  have t1:=jC QW0.out 1
  simp only [gT,gZ,gS] at t0 t1
  have con:=find_any (R:=R) (a2:=a2) (c2:=c2) (n2:=R.length) (HTABS.out.below BW2.out) st.join
  obtain ⟨m,hm⟩:∃ m,findV ⟨C,R⟩ st.join=m:=⟨_,rfl⟩
  rw [hm] at con
  have HM:=hid hm
  have HMD:=hid (show -1<=m/\m<C.length from by rw [<- hm];exact findT_lt C st.join)
  clear hj hm
  go_wp2_with fail
  refine con.mono ?_
  rintro e w3 ⟨rfl,b3⟩
  have B3:=hid (BW2.out.trans (b3.mono BW2.out.size))
  have QT3:=cy b3 QT
  have Q03:=cy b3 QW0
  have Q13:=cy b3 QW1
  have HS3:=hid (Nat.le_trans HS2.out b3.size)
  clear con b3 t0 t1 s8 QT QW0 QW1
  by_cases hmn:m=n
  · have d1:(m == (n:Int))=true:=by simpa using hmn
    have x0:=jC QT3.out 0
    have x1:=jC QT3.out 1
    have x2:=jC QT3.out 2
    have x3:=jC QT3.out 3
    have f0:=free_of QT3.out 0
    have f1:=free_of QT3.out 1
    have f2:=free_of QT3.out 2
    have f3:=free_of QT3.out 3
    simp only [gT,gZ,gS] at x0 x1 x2 x3
    have HX:=hid (tstored_at (x0:=.int .i64 T.id) (x1:=.string T.name) (x2:=.slice ac T.cols.length cc) (x3:=.slice ai T.idx.length ci) QT3.out)
    have HY:=hid (tstored_below (g:=w.heap.size+1+1) (x0:=.int .i64 T.id) (x1:=.string T.name) (x2:=.slice ac T.cols.length cc) (x3:=.slice ai T.idx.length ci) B3.out (by omega))
    go_wp2_with fail
    refine bodyPost_ret (results_ctt rfl _ _ (w.heap.size+1+1) 75 _ (0,0) _ rfl HX.out Tryz.underlying75 rfl (by kernel_rfl)) rfl ?_
    rw [HPST.out]
    have hE:fromE ⟨C,R⟩ st=51:=by
     unfold fromE
     rw [if_neg (by rw [HN.out];omega),if_neg (by rw [HJ.out];decide),if_pos (by rw [HM.out,HN.out];exact hmn)]
    rw [hE]
    exact ⟨_,_,_,_,_,_,_,_,_,_,_,rfl,HY.out,fun h=>by simp at h⟩
  have d1:(m == (n:Int))=false:=by simpa using hmn
  by_cases hm0:m<0
  · have d2:decide (m<0)=true:=decide_eq_true hm0
    go_upto_region 10 with (fail)
    refine wp_region_class (Below w3.heap.size w3) (by kernel_rfl) (by kernel_rfl) (Below.drew b0R) (fun ne=>?_)
    repeat (go_big_quiet_step (fail))
    refine wpQuiet_nil ?_
    intro w4 b4
    have B4:=hid (B3.out.trans (b4.mono B3.out.size))
    have QT4:=cy b4 QT3
    clear b4 ne
    have x0:=jC QT4.out 0
    have x1:=jC QT4.out 1
    have x2:=jC QT4.out 2
    have x3:=jC QT4.out 3
    have f0:=free_of QT4.out 0
    have f1:=free_of QT4.out 1
    have f2:=free_of QT4.out 2
    have f3:=free_of QT4.out 3
    simp only [gT,gZ,gS] at x0 x1 x2 x3
    have HX:=hid (tstored_at (x0:=.int .i64 T.id) (x1:=.string T.name) (x2:=.slice ac T.cols.length cc) (x3:=.slice ai T.idx.length ci) QT4.out)
    have HY:=hid (tstored_below (g:=w.heap.size+1+1) (x0:=.int .i64 T.id) (x1:=.string T.name) (x2:=.slice ac T.cols.length cc) (x3:=.slice ai T.idx.length ci) B4.out (by omega))
    go_wp2_with fail
    refine bodyPost_ret (results_ctt rfl _ _ (w.heap.size+1+1) 75 _ (0,0) _ rfl HX.out Tryz.underlying75 rfl (by kernel_rfl)) rfl ?_
    rw [HPST.out]
    have hE:fromE ⟨C,R⟩ st=50:=by
     unfold fromE
     rw [if_neg (by rw [HN.out];omega),if_neg (by rw [HJ.out];decide),if_neg (by rw [HM.out,HN.out];exact hmn),if_pos (Or.inl (by rw [HM.out];exact hm0))]
    rw [hE]
    exact ⟨_,_,_,_,_,_,_,_,_,_,_,rfl,HY.out,fun h=>by simp at h⟩
  obtain ⟨m,rfl⟩:∃ k:Nat,m=k:=⟨m.toNat,by omega⟩
  have hmC:m<C.length:=by have:=HMD.out.2;omega
  have hmR:m<R.length:=by have:=HRC1.out;omega
  have hm1:¬ (m:Int)<0:=hm0
  have d2:decide ((m:Int)<0)=false:=decide_eq_false hm0
  obtain ⟨bc,bi,ei,ej,g0,g1,g2,g3,htv⟩:=HTABS.out.row.2.2.2.tab m hmC
  have HG:=hid (show _/\_/\_/\_ from ⟨g0,g1,g2,g3⟩)
  obtain ⟨T2,hT2⟩:∃ T2,T2=C[m]:=⟨_,rfl⟩
  have HTT2:=hid hT2
  rw [<- hT2] at htv HG
  have HTV2:=hid htv
  have HTA2:=hid (show tabAt C (m:Int)=T2 from by rw [tab_at' hmC];exact hT2.symm)
  have hTC2:T2.cols.length<=6:=by rw [hT2];exact (HC.out.tab _ (List.getElem_mem hmC)).len.2
  have HTV3:=hid (HTV.out.below B3.out)
  have HTV23:=hid (HTV2.out.below B3.out)
  have HBB:=hid hbb
  obtain ⟨l,hlc⟩:∃ l,colOf T st.left=l:=⟨_,rfl⟩
  obtain ⟨r,hrc⟩:∃ r,colOf T2 st.right=r:=⟨_,rfl⟩
  have HL:=hid hlc
  have HRR:=hid hrc
  have HFE:=hid (show fromE ⟨C,R⟩ st=if l<0 \/ r<0 then 50 else 0 from by
   unfold fromE
   rw [if_neg (by rw [HN.out];omega),if_neg (by rw [HJ.out];decide),if_neg (by rw [HM.out,HN.out];exact hmn),HM.out,HN.out,HTA.out,HTA2.out,HL.out,HRR.out]
   have hm2:¬ (m:Int)<0:=by omega
   simp only [hm2,false_or])
  clear hT2 g0 g1 g2 g3 htv HMD hlc hrc hm0
  by_cases hl0:l<0
  · have d3:decide (l<0)=true:=decide_eq_true hl0
    go_upto_region 10 with (fail)
    refine wp_region_class (Below w3.heap.size w3) (by kernel_rfl) (by kernel_rfl) (Below.drew b0R) (fun ne=>?_)
    have c0:=fun z:Wld (Below w3.heap.size w3)=>jC ((z.good.block _ (jB QT3.out)).trans QT3.out) 0
    have c1:=fun z:Wld (Below w3.heap.size w3)=>jC ((z.good.block _ (jB QT3.out)).trans QT3.out) 1
    have c2:=fun z:Wld (Below w3.heap.size w3)=>jC ((z.good.block _ (jB QT3.out)).trans QT3.out) 2
    have c3:=fun z:Wld (Below w3.heap.size w3)=>jC ((z.good.block _ (jB QT3.out)).trans QT3.out) 3
    have e9:=fun z:Wld (Below w3.heap.size w3)=>jC ((z.good.block _ (jB Q13.out)).trans Q13.out) 9
    have e10:=fun z:Wld (Below w3.heap.size w3)=>jC ((z.good.block _ (jB Q13.out)).trans Q13.out) 10
    have e0:=fun z:Wld (Below w3.heap.size w3)=>jC ((z.good.block _ (jB Q03.out)).trans Q03.out) 0
    simp only [gT,gZ,gS] at c0 c1 c2 c3 e9 e10 e0
    have k0:=fun z:Wld (Below w3.heap.size w3)=>(z.good.cell (p:=⟨bb,oo+m * 4,none⟩) (jL HBB.out B3.out.size)).trans ((B3.out.cell (p:=⟨bb,oo+m * 4,none⟩) HBB.out).trans HG.out.1)
    have k1:=fun z:Wld (Below w3.heap.size w3)=>(z.good.cell (p:=⟨bb,oo+m * 4+1,none⟩) (jL HBB.out B3.out.size)).trans ((B3.out.cell (p:=⟨bb,oo+m * 4+1,none⟩) HBB.out).trans HG.out.2.1)
    have k2:=fun z:Wld (Below w3.heap.size w3)=>(z.good.cell (p:=⟨bb,oo+m * 4+2,none⟩) (jL HBB.out B3.out.size)).trans ((B3.out.cell (p:=⟨bb,oo+m * 4+2,none⟩) HBB.out).trans HG.out.2.2.1)
    have k3:=fun z:Wld (Below w3.heap.size w3)=>(z.good.cell (p:=⟨bb,oo+m * 4+3,none⟩) (jL HBB.out B3.out.size)).trans ((B3.out.cell (p:=⟨bb,oo+m * 4+3,none⟩) HBB.out).trans HG.out.2.2.2)
    have HGO:=hid (fun z:Wld (Below w3.heap.size w3)=>HTV3.out.below z.good)
    have HGO2:=hid (fun z:Wld (Below w3.heap.size w3)=>HTV23.out.below z.good)
    repeat (go_big_quiet_step ((go_at_call 67;(with_reducible refine Calls.mono (pcol_any (HGO.out _) (by omega) st.left) ?_);rintro e w5 ⟨rfl,b5⟩;exact ⟨congrArg (fun q=>Ending.returned (Value.int .i64 q)) HL.out,class_below _ b5 (jR _)⟩)))
    refine wpQuiet_nil ?_
    intro w4 b4
    have B4:=hid (B3.out.trans (b4.mono B3.out.size))
    have QT4:=cy b4 QT3
    clear b4 ne c0 c1 c2 c3 e9 e10 e0 k0 k1 k2 k3 HGO HGO2
    have x0:=jC QT4.out 0
    have x1:=jC QT4.out 1
    have x2:=jC QT4.out 2
    have x3:=jC QT4.out 3
    have f0:=free_of QT4.out 0
    have f1:=free_of QT4.out 1
    have f2:=free_of QT4.out 2
    have f3:=free_of QT4.out 3
    simp only [gT,gZ,gS] at x0 x1 x2 x3
    have HX:=hid (tstored_at (x0:=.int .i64 T.id) (x1:=.string T.name) (x2:=.slice ac T.cols.length cc) (x3:=.slice ai T.idx.length ci) QT4.out)
    have HY:=hid (tstored_below (g:=w.heap.size+1+1) (x0:=.int .i64 T.id) (x1:=.string T.name) (x2:=.slice ac T.cols.length cc) (x3:=.slice ai T.idx.length ci) B4.out (by omega))
    go_wp2_with fail
    refine bodyPost_ret (results_ctt rfl _ _ (w.heap.size+1+1) 75 _ (0,0) _ rfl HX.out Tryz.underlying75 rfl (by kernel_rfl)) rfl ?_
    rw [HPST.out]
    have hE:fromE ⟨C,R⟩ st=50:=by
     rw [HFE.out,if_pos (Or.inl hl0)]
    rw [hE]
    exact ⟨_,_,_,_,_,_,_,_,_,_,_,rfl,HY.out,fun h=>by simp at h⟩
  have d3:decide (l<0)=false:=decide_eq_false hl0
  by_cases hr0:r<0
  · have d4:decide (r<0)=true:=decide_eq_true hr0
    go_upto_region 10 with (fail)
    refine wp_region_class (Below w3.heap.size w3) (by kernel_rfl) (by kernel_rfl) (Below.drew b0R) (fun ne=>?_)
    have c0:=fun z:Wld (Below w3.heap.size w3)=>jC ((z.good.block _ (jB QT3.out)).trans QT3.out) 0
    have c1:=fun z:Wld (Below w3.heap.size w3)=>jC ((z.good.block _ (jB QT3.out)).trans QT3.out) 1
    have c2:=fun z:Wld (Below w3.heap.size w3)=>jC ((z.good.block _ (jB QT3.out)).trans QT3.out) 2
    have c3:=fun z:Wld (Below w3.heap.size w3)=>jC ((z.good.block _ (jB QT3.out)).trans QT3.out) 3
    have e9:=fun z:Wld (Below w3.heap.size w3)=>jC ((z.good.block _ (jB Q13.out)).trans Q13.out) 9
    have e10:=fun z:Wld (Below w3.heap.size w3)=>jC ((z.good.block _ (jB Q13.out)).trans Q13.out) 10
    have e0:=fun z:Wld (Below w3.heap.size w3)=>jC ((z.good.block _ (jB Q03.out)).trans Q03.out) 0
    simp only [gT,gZ,gS] at c0 c1 c2 c3 e9 e10 e0
    have k0:=fun z:Wld (Below w3.heap.size w3)=>(z.good.cell (p:=⟨bb,oo+m * 4,none⟩) (jL HBB.out B3.out.size)).trans ((B3.out.cell (p:=⟨bb,oo+m * 4,none⟩) HBB.out).trans HG.out.1)
    have k1:=fun z:Wld (Below w3.heap.size w3)=>(z.good.cell (p:=⟨bb,oo+m * 4+1,none⟩) (jL HBB.out B3.out.size)).trans ((B3.out.cell (p:=⟨bb,oo+m * 4+1,none⟩) HBB.out).trans HG.out.2.1)
    have k2:=fun z:Wld (Below w3.heap.size w3)=>(z.good.cell (p:=⟨bb,oo+m * 4+2,none⟩) (jL HBB.out B3.out.size)).trans ((B3.out.cell (p:=⟨bb,oo+m * 4+2,none⟩) HBB.out).trans HG.out.2.2.1)
    have k3:=fun z:Wld (Below w3.heap.size w3)=>(z.good.cell (p:=⟨bb,oo+m * 4+3,none⟩) (jL HBB.out B3.out.size)).trans ((B3.out.cell (p:=⟨bb,oo+m * 4+3,none⟩) HBB.out).trans HG.out.2.2.2)
    have HGO:=hid (fun z:Wld (Below w3.heap.size w3)=>HTV3.out.below z.good)
    have HGO2:=hid (fun z:Wld (Below w3.heap.size w3)=>HTV23.out.below z.good)
    repeat (go_big_quiet_step ((first|(go_at_call 67;(with_reducible refine Calls.mono (pcol_any (HGO.out _) (by omega) st.left) ?_);rintro e w5 ⟨rfl,b5⟩;exact ⟨congrArg (fun q=>Ending.returned (Value.int .i64 q)) HL.out,class_below _ b5 (jR _)⟩)|(go_at_call 67;(with_reducible refine Calls.mono (pcol_any (HGO2.out _) (by omega) st.right) ?_);rintro e w5 ⟨rfl,b5⟩;exact ⟨congrArg (fun q=>Ending.returned (Value.int .i64 q)) HRR.out,class_below _ b5 (jR _)⟩))))
    refine wpQuiet_nil ?_
    intro w4 b4
    have B4:=hid (B3.out.trans (b4.mono B3.out.size))
    have QT4:=cy b4 QT3
    clear b4 ne c0 c1 c2 c3 e9 e10 e0 k0 k1 k2 k3 HGO HGO2
    have x0:=jC QT4.out 0
    have x1:=jC QT4.out 1
    have x2:=jC QT4.out 2
    have x3:=jC QT4.out 3
    have f0:=free_of QT4.out 0
    have f1:=free_of QT4.out 1
    have f2:=free_of QT4.out 2
    have f3:=free_of QT4.out 3
    simp only [gT,gZ,gS] at x0 x1 x2 x3
    have HX:=hid (tstored_at (x0:=.int .i64 T.id) (x1:=.string T.name) (x2:=.slice ac T.cols.length cc) (x3:=.slice ai T.idx.length ci) QT4.out)
    have HY:=hid (tstored_below (g:=w.heap.size+1+1) (x0:=.int .i64 T.id) (x1:=.string T.name) (x2:=.slice ac T.cols.length cc) (x3:=.slice ai T.idx.length ci) B4.out (by omega))
    go_wp2_with fail
    refine bodyPost_ret (results_ctt rfl _ _ (w.heap.size+1+1) 75 _ (0,0) _ rfl HX.out Tryz.underlying75 rfl (by kernel_rfl)) rfl ?_
    rw [HPST.out]
    have hE:fromE ⟨C,R⟩ st=50:=by
     rw [HFE.out,if_pos (Or.inr hr0)]
    rw [hE]
    exact ⟨_,_,_,_,_,_,_,_,_,_,_,rfl,HY.out,fun h=>by simp at h⟩
  have d4:decide (r<0)=false:=decide_eq_false hr0
  go_upto_region 10 with (fail)
  refine wp_region_class (Below w3.heap.size w3) (by kernel_rfl) (by kernel_rfl) (Below.drew b0R) (fun ne=>?_)
  have c0:=fun z:Wld (Below w3.heap.size w3)=>jC ((z.good.block _ (jB QT3.out)).trans QT3.out) 0
  have c1:=fun z:Wld (Below w3.heap.size w3)=>jC ((z.good.block _ (jB QT3.out)).trans QT3.out) 1
  have c2:=fun z:Wld (Below w3.heap.size w3)=>jC ((z.good.block _ (jB QT3.out)).trans QT3.out) 2
  have c3:=fun z:Wld (Below w3.heap.size w3)=>jC ((z.good.block _ (jB QT3.out)).trans QT3.out) 3
  have e9:=fun z:Wld (Below w3.heap.size w3)=>jC ((z.good.block _ (jB Q13.out)).trans Q13.out) 9
  have e10:=fun z:Wld (Below w3.heap.size w3)=>jC ((z.good.block _ (jB Q13.out)).trans Q13.out) 10
  have e0:=fun z:Wld (Below w3.heap.size w3)=>jC ((z.good.block _ (jB Q03.out)).trans Q03.out) 0
  simp only [gT,gZ,gS] at c0 c1 c2 c3 e9 e10 e0
  have k0:=fun z:Wld (Below w3.heap.size w3)=>(z.good.cell (p:=⟨bb,oo+m * 4,none⟩) (jL HBB.out B3.out.size)).trans ((B3.out.cell (p:=⟨bb,oo+m * 4,none⟩) HBB.out).trans HG.out.1)
  have k1:=fun z:Wld (Below w3.heap.size w3)=>(z.good.cell (p:=⟨bb,oo+m * 4+1,none⟩) (jL HBB.out B3.out.size)).trans ((B3.out.cell (p:=⟨bb,oo+m * 4+1,none⟩) HBB.out).trans HG.out.2.1)
  have k2:=fun z:Wld (Below w3.heap.size w3)=>(z.good.cell (p:=⟨bb,oo+m * 4+2,none⟩) (jL HBB.out B3.out.size)).trans ((B3.out.cell (p:=⟨bb,oo+m * 4+2,none⟩) HBB.out).trans HG.out.2.2.1)
  have k3:=fun z:Wld (Below w3.heap.size w3)=>(z.good.cell (p:=⟨bb,oo+m * 4+3,none⟩) (jL HBB.out B3.out.size)).trans ((B3.out.cell (p:=⟨bb,oo+m * 4+3,none⟩) HBB.out).trans HG.out.2.2.2)
  have HGO:=hid (fun z:Wld (Below w3.heap.size w3)=>HTV3.out.below z.good)
  have HGO2:=hid (fun z:Wld (Below w3.heap.size w3)=>HTV23.out.below z.good)
  repeat (go_big_quiet_step ((first|(go_at_call 67;(with_reducible refine Calls.mono (pcol_any (HGO.out _) (by omega) st.left) ?_);rintro e w5 ⟨rfl,b5⟩;exact ⟨congrArg (fun q=>Ending.returned (Value.int .i64 q)) HL.out,class_below _ b5 (jR _)⟩)|(go_at_call 67;(with_reducible refine Calls.mono (pcol_any (HGO2.out _) (by omega) st.right) ?_);rintro e w5 ⟨rfl,b5⟩;exact ⟨congrArg (fun q=>Ending.returned (Value.int .i64 q)) HRR.out,class_below _ b5 (jR _)⟩))))
  refine wpQuiet_nil ?_
  intro w4 b4
  have B4:=hid (B3.out.trans (b4.mono B3.out.size))
  have QT4:=cy b4 QT3
  have Q04:=cy b4 Q03
  have Q14:=cy b4 Q13
  clear b4 ne c0 c1 c2 c3 e9 e10 e0 k0 k1 k2 k3 HGO HGO2
  obtain ⟨l,rfl⟩:∃ k:Nat,l=k:=⟨l.toNat,by omega⟩
  obtain ⟨r,rfl⟩:∃ k:Nat,r=k:=⟨r.toNat,by omega⟩
  have HLT:=hid (show l<T.cols.length from by have:=(colOf_lt T st.left).2;rw [HL.out] at this;omega)
  have HRT:=hid (show r<T2.cols.length from by have:=(colOf_lt T2 st.right).2;rw [HRR.out] at this;omega)
  have HTV4:=hid (HTV.out.below B4.out)
  have HTV24:=hid (HTV2.out.below B4.out)
  go_upto_region 12 with (fail)
  refine wp_region_class (Below w4.heap.size w4) (by kernel_rfl) (by kernel_rfl) (Below.drew b0R) (fun ne=>?_)
  have c0:=fun z:Wld (Below w4.heap.size w4)=>jC ((z.good.block _ (jB QT4.out)).trans QT4.out) 0
  have c1:=fun z:Wld (Below w4.heap.size w4)=>jC ((z.good.block _ (jB QT4.out)).trans QT4.out) 1
  have c2:=fun z:Wld (Below w4.heap.size w4)=>jC ((z.good.block _ (jB QT4.out)).trans QT4.out) 2
  have c3:=fun z:Wld (Below w4.heap.size w4)=>jC ((z.good.block _ (jB QT4.out)).trans QT4.out) 3
  have e9:=fun z:Wld (Below w4.heap.size w4)=>jC ((z.good.block _ (jB Q14.out)).trans Q14.out) 9
  have e10:=fun z:Wld (Below w4.heap.size w4)=>jC ((z.good.block _ (jB Q14.out)).trans Q14.out) 10
  have e0:=fun z:Wld (Below w4.heap.size w4)=>jC ((z.good.block _ (jB Q04.out)).trans Q04.out) 0
  simp only [gT,gZ,gS] at c0 c1 c2 c3 e9 e10 e0
  have k0:=fun z:Wld (Below w4.heap.size w4)=>(z.good.cell (p:=⟨bb,oo+m * 4,none⟩) (jL HBB.out B4.out.size)).trans ((B4.out.cell (p:=⟨bb,oo+m * 4,none⟩) HBB.out).trans HG.out.1)
  have k1:=fun z:Wld (Below w4.heap.size w4)=>(z.good.cell (p:=⟨bb,oo+m * 4+1,none⟩) (jL HBB.out B4.out.size)).trans ((B4.out.cell (p:=⟨bb,oo+m * 4+1,none⟩) HBB.out).trans HG.out.2.1)
  have k2:=fun z:Wld (Below w4.heap.size w4)=>(z.good.cell (p:=⟨bb,oo+m * 4+2,none⟩) (jL HBB.out B4.out.size)).trans ((B4.out.cell (p:=⟨bb,oo+m * 4+2,none⟩) HBB.out).trans HG.out.2.2.1)
  have k3:=fun z:Wld (Below w4.heap.size w4)=>(z.good.cell (p:=⟨bb,oo+m * 4+3,none⟩) (jL HBB.out B4.out.size)).trans ((B4.out.cell (p:=⟨bb,oo+m * 4+3,none⟩) HBB.out).trans HG.out.2.2.2)
  have HGO:=hid (fun z:Wld (Below w4.heap.size w4)=>HTV4.out.below z.good)
  have HGO2:=hid (fun z:Wld (Below w4.heap.size w4)=>HTV24.out.below z.good)
  repeat (go_big_quiet_step ((first|(go_at_call 67;(with_reducible refine Calls.mono (pcol_any (HGO.out _) (by omega) st.left) ?_);rintro e w5 ⟨rfl,b5⟩;exact ⟨congrArg (fun q=>Ending.returned (Value.int .i64 q)) HL.out,class_below _ b5 (jR _)⟩)|(go_at_call 67;(with_reducible refine Calls.mono (pcol_any (HGO2.out _) (by omega) st.right) ?_);rintro e w5 ⟨rfl,b5⟩;exact ⟨congrArg (fun q=>Ending.returned (Value.int .i64 q)) HRR.out,class_below _ b5 (jR _)⟩))))
  refine wpQuiet_nil ?_
  intro w5 b5
  have B5:=hid (B4.out.trans (b5.mono B4.out.size))
  have QT5:=cy b5 QT4
  have Q05:=cy b5 Q04
  clear b5 ne c0 c1 c2 c3 e9 e10 e0 k0 k1 k2 k3 HGO HGO2 QT4 Q04 Q14
  obtain ⟨br,orr,rfl,_,hbr⟩:=HROWS.out.row.2.2.2.addr (by intro e;rw [e] at hnR;cases hnR)
  obtain ⟨ra,rc,hr0,hrx⟩:=HROWS.out.row.2.2.2.lst n hnR
  obtain ⟨rb,rd,hs0,hry⟩:=HROWS.out.row.2.2.2.lst m hmR
  obtain ⟨X,hX⟩:∃ X,X=R[n]:=⟨_,rfl⟩
  obtain ⟨Y,hY⟩:∃ Y,Y=R[m]:=⟨_,rfl⟩
  rw [<- hX] at hr0 hrx
  rw [<- hY] at hs0 hry
  have hXs:X.length<=1000000:=by rw [hX];exact HR.out.2.1 _ (List.getElem_mem hnR)
  have hYs:Y.length<=1000000:=by rw [hY];exact HR.out.2.1 _ (List.getElem_mem hmR)
  have HXW:=hid (show ∀ x ∈ X,x.length=T.cols.length from by rw [hX,HTT.out];exact HW.out n hnR hnC)
  have HYW:=hid (show ∀ x ∈ Y,x.length=T2.cols.length from by rw [hY,HTT2.out];exact HW.out m hmR hmC)
  have HXX:=hid hX
  have HYY:=hid hY
  have HXS:=hid hrx
  have HYS:=hid hry
  have HR0:=hid hr0
  have HS0:=hid hs0
  have HBR:=hid hbr
  have CA0:=hid (show JAt w5 (.slice none 0 0) [] [] w5 from ⟨Below.refl _ _,World.ownsRow_nil _ _ _ _,rfl,fun t h1 h2=>by cases h2⟩)
  have k0:=jC Q05.out 1
  simp only [gT,gZ,gS] at k0
  have rc0:=(B5.out.cell (p:=⟨br,orr+n,none⟩) hbr).trans hr0
  clear hX hY hrx hry hr0 hs0 hbr
  go_wp2_with fail
  go_loopw [5,83] (fun x5 ii wr=>∃ (k:Nat) (v:Value) (xs:List Value),k<=X.length/\ii=.int .i64 k/\v=x5/\(joinR (X.take k) Y l r).length<=k * 1000000/\Hid (JAt w5 v (joinR (X.take k) Y l r) xs wr)) (fun _ ii _=>X.length - (intOf ii).toNat)
  case atStart=>exact ⟨0,_,[],Nat.zero_le _,rfl,rfl,jR _,CA0.out⟩
  case round =>
   obtain ⟨k,v,xs,hk,rfl,rfl,hal,HCA⟩:=hrel
   clear CA0 k0 rc0
   by_cases hlt:k<X.length
   · obtain ⟨wo,hwo⟩:∃ wo,wo=wr:=⟨_,rfl⟩
     rw [<- hwo] at HCA ⊢
     clear hwo
     obtain ⟨acc0,ha0⟩:∃ acc0,joinR (X.take k) Y l r=acc0:=⟨_,rfl⟩
     have HA0:=hid ha0
     rw [ha0] at HCA hal
     obtain ⟨bx,ox,hax,_,hbx⟩:=HXS.out.row.2.2.2.addr (by intro e;rw [e] at hlt;cases hlt)
     subst hax
     obtain ⟨rx,cx,hx0,hxv⟩:=HXS.out.row.2.2.2.lst k hlt
     have HXV:=hid hxv
     have bw:=B5.out.trans (HCA.out.bl.mono B5.out.size)
     have e0:=(bw.cell (p:=⟨bx,ox+k,none⟩) hbx).trans hx0
     have k0:=jC ((HCA.out.bl.block _ (jB Q05.out)).trans Q05.out) 1
     simp only [gT,gZ,gS] at k0
     have rc0:=(bw.cell (p:=⟨br,orr+m,none⟩) HBR.out).trans HS0.out
     have HXL:=hid (HXW.out _ (List.getElem_mem hlt))
     clear ha0 hx0 hxv bw
     go_wp2_with fail
     go_loopw [5,93] (fun x5 jj wr=>∃ (j:Nat) (v:Value) (xs:List Value) (acc:List (List Val)),j<=Y.length/\jj=.int .i64 j/\v=x5/\Hid (acc=acc0 ++ joinOne X[k] (Y.take j) l r)/\acc.length<=k * 1000000+j/\Hid (JAt w5 v acc xs wr)) (fun _ jj _=>Y.length - (intOf jj).toNat)
     case atStart=>exact ⟨0,_,xs,acc0,Nat.zero_le _,rfl,rfl,hid (by simp [joinOne]),Nat.le_trans hal (Nat.le_add_right _ _),HCA⟩
     case round =>
      obtain ⟨j,v,xs,acc,hj,rfl,rfl,HAC,hal2,HCI⟩:=hrel
      clear e0 k0 rc0
      by_cases hjt:j<Y.length
      · obtain ⟨by',oy,hay,_,hby⟩:=HYS.out.row.2.2.2.addr (by intro e;rw [e] at hjt;cases hjt)
        subst hay
        obtain ⟨ry,cy,hy0,hyv⟩:=HYS.out.row.2.2.2.lst j hjt
        have HYV:=hid hyv
        have hbw:=B5.out.trans (HCI.out.bl.mono B5.out.size)
        have BW:=hid hbw
        have e0:=(hbw.cell (p:=⟨by',oy+j,none⟩) hby).trans hy0
        have HYL:=hid (HYW.out _ (List.getElem_mem hjt))
        have hlx:l<X[k].length:=by rw [HXL.out];exact HLT.out
        have hry:r<Y[j].length:=by rw [HYL.out];exact HRT.out
        obtain ⟨px,qx,hpx,_,hbpx⟩:=HXV.out.row.2.2.2.addr (by intro e;rw [e] at hlx;cases hlx)
        obtain ⟨py,qy,hpy,_,hbpy⟩:=HYV.out.row.2.2.2.addr (by intro e;rw [e] at hry;cases hry)
        subst hpx hpy
        obtain ⟨x,hx⟩:∃ x,x=X[k][l]:=⟨_,rfl⟩
        obtain ⟨y,hy⟩:∃ y,y=Y[j][r]:=⟨_,rfl⟩
        have VX:=HXV.out.row.2.2.2.val l hlx
        have VY:=HYV.out.row.2.2.2.val r hry
        rw [<- hx] at VX
        rw [<- hy] at VY
        have HVX:=hid VX
        have HVY:=hid VY
        have HBPX:=hid hbpx
        have HBPY:=hid hbpy
        obtain ⟨f,hf⟩:∃ f,fitsV x 1 y=f:=⟨_,rfl⟩
        have HFV:=hid hf
        have HFF:=hid (show fitsV (valAt X[k] (l:Int)) 1 (valAt Y[j] (r:Int))=f from by rw [valAt_nat hlx,valAt_nat hry,<- hx,<- hy];exact hf)
        have HKW:=hid (HKI.out.below BW.out)
        clear hy0 hyv hbw hx hy VX VY hbpx hbpy hf hby
        go_upto_region 19 with (fail)
        refine wp_region_class (Below wr.heap.size wr) (by kernel_rfl) (by kernel_rfl) (Below.drew b0R) (fun ne=>?_)
        have x0:=fun z:Wld (Below wr.heap.size wr)=>(z.good.cell (p:=⟨px,qx+l * 3,none⟩) (jL HBPX.out BW.out.size)).trans ((BW.out.cell (p:=⟨px,qx+l * 3,none⟩) HBPX.out).trans HVX.out.1)
        have x1:=fun z:Wld (Below wr.heap.size wr)=>(z.good.cell (p:=⟨px,qx+l * 3+1,none⟩) (jL HBPX.out BW.out.size)).trans ((BW.out.cell (p:=⟨px,qx+l * 3+1,none⟩) HBPX.out).trans HVX.out.2.1)
        have x2:=fun z:Wld (Below wr.heap.size wr)=>(z.good.cell (p:=⟨px,qx+l * 3+2,none⟩) (jL HBPX.out BW.out.size)).trans ((BW.out.cell (p:=⟨px,qx+l * 3+2,none⟩) HBPX.out).trans HVX.out.2.2)
        have y0:=fun z:Wld (Below wr.heap.size wr)=>(z.good.cell (p:=⟨py,qy+r * 3,none⟩) (jL HBPY.out BW.out.size)).trans ((BW.out.cell (p:=⟨py,qy+r * 3,none⟩) HBPY.out).trans HVY.out.1)
        have y1:=fun z:Wld (Below wr.heap.size wr)=>(z.good.cell (p:=⟨py,qy+r * 3+1,none⟩) (jL HBPY.out BW.out.size)).trans ((BW.out.cell (p:=⟨py,qy+r * 3+1,none⟩) HBPY.out).trans HVY.out.2.1)
        have y2:=fun z:Wld (Below wr.heap.size wr)=>(z.good.cell (p:=⟨py,qy+r * 3+2,none⟩) (jL HBPY.out BW.out.size)).trans ((BW.out.cell (p:=⟨py,qy+r * 3+2,none⟩) HBPY.out).trans HVY.out.2.2)
        have HGO:=hid (fun z:Wld (Below wr.heap.size wr)=>HKW.out.below z.good)
        repeat (go_big_quiet_step ((go_at_call 68;(refine Calls.mono (vfits_any x y 1 _ (HGO.out _)) ?_);rintro e wq ⟨rfl,bq⟩;exact ⟨congrArg (fun q=>Ending.returned (Value.bool q)) HFV.out,class_below _ bq (jR _)⟩)))
        refine wpQuiet_nil ?_
        intro w6 b6
        have HA6:=hid (HCI.out.below b6)
        have BW6:=hid (BW.out.trans (b6.mono BW.out.size))
        clear b6 x0 x1 x2 y0 y1 y2 HGO ne e0
        cases f
        case false =>
         have HN1:=hid (joinOne_no hjt HFF.out)
         go_wp2_with fail
         go_roundw
         case rel=>exact ⟨j+1,_,_,acc,by omega,by go_num,rfl,hid (by rw [HN1.out];exact HAC.out),by omega,HA6.out⟩
         case measure=>simp [intOf];omega
        case true =>
         have HN1:=hid (joinOne_yes hjt HFF.out)
         have HXR:=hid (HXV.out.below BW6.out).row.2.2.2
         have HYR:=hid (HYV.out.below BW6.out).row.2.2.2
         have HXL6:=hid (show X[k].length<=1000000 from by rw [HXL.out];omega)
         have HYL6:=hid (show Y[j].length<=1000000 from by rw [HYL.out];omega)
         go_wp2_with fail
         refine (concat_row w6.heap.size _ X[k] Y[j] (some ⟨px,qx,none⟩) (some ⟨py,qy,none⟩) cx cy (by go_cell) (by go_cell) (HXR.out.below ((b0R).alloc (jR _) _)) (HYR.out.below ((b0R).alloc (jR _) _)) HXL6.out HYL6.out).mono ?_
         rintro e w8 ⟨va,vc,rfl,o8,b8⟩
         have HA8:=hid ((HA6.out.below ((b0R).alloc (jR _) _)).below b8)
         have HU8:=hid (owns_base (base':=w5.heap.size) o8 (by have:=HA6.out.bl.size;simp;omega))
         clear o8 b8
         go_wp2_with (at_builtin;go_loud (refine wpList_append_own_at _ rfl _ _ 41 rfl w5.heap.size 35 i0 _ 1 24 Tryz.underlying41 hi hz0 hz1 hz2 rfl (by decide) v acc.length xs rfl (HA8.out.o.alloc _) ⟨w8.heap.size,0,none⟩ 1 1 [.slice va (X[k] ++ Y[j]).length vc] rfl rfl (fun j u hj=>by rw [addr_add,jC (heap_alloc_new _ _)];simpa using hj) (fun u hu=>by rw [List.mem_singleton.1 hu];rfl) (by unfold maxLen;omega) (by omega) (by have:=HA8.out.bl.size;simp;omega) ?_;intro v' w7 o1 g1 hx1 at1;clear hx1 at1;have N7:=hid ((HA8.out.below ((b0R).alloc (jR _) _)).push (r:=X[k] ++ Y[j]) (owns_below HU8.out ((b0R).alloc (jR _) _)) o1 g1);clear o1 g1))
         go_roundw
         case rel=>exact ⟨j+1,_,_,_,by omega,by go_num,rfl,hid (by rw [HN1.out,HAC.out,List.append_assoc]),by simp;omega,N7.out⟩
         case measure=>simp [intOf];omega
      · have hjn:j=Y.length:=by omega
        have HAE:=hid (show acc=joinR (X.take (k+1)) Y l r from by rw [joinR_take hlt,HAC.out,HA0.out,hjn,List.take_length])
        go_wp2_with fail
        go_roundw
        case rel=>exact ⟨k+1,_,_,by omega,by go_num,rfl,by rw [<- HAE.out];omega,by rw [<- HAE.out];exact HCI.out⟩
        case measure=>simp [intOf];omega
   · have hkn:k=X.length:=by omega
     subst hkn
     obtain ⟨acc,ha⟩:∃ acc,acc=joinR X Y l r:=⟨_,rfl⟩
     rw [List.take_length,<- ha] at HCA hal
     have HACC:=hid ha
     obtain ⟨ja,jc,hv,_⟩:=owns_shape' HCA.out.o
     subst hv
     have bw:=B5.out.trans (HCA.out.bl.mono B5.out.size)
     have Q06:=cy HCA.out.bl Q05
     have QT6:=cy HCA.out.bl QT5
     have HG6:=hid ((bw.cell (p:=⟨bb,oo+m * 4+2,none⟩) HBB.out).trans HG.out.2.2.1)
     have HBW:=hid bw
     have HC1:=hid (HTV.out.parts.1.below bw).row.2.2.2
     have HC2:=hid (HTV2.out.parts.1.below bw).row.2.2.2
     obtain ⟨TC,hTCe⟩:∃ TC,TC=T.cols ++ T2.cols:=⟨_,rfl⟩
     have HTC:=hid hTCe
     have HTL:=hid (show TC.length<=12 from by rw [hTCe,List.length_append];omega)
     clear hTCe
     have HS6:=hid (show w.heap.size+3<=wr.heap.size from jB QT6.out)
     clear ha bw
     go_upto_region 23 with (fail)
     apply wp_region_growt 11 [115,116,117,118,119,120,121,122,123,124,125]
      [fun _ u _=>u=.pointer (some ⟨w.heap.size+1+1,2,none⟩),
       fun _ u _=>u=.slice ac T.cols.length cc,
       fun _ u _=>u=.pointer (some ⟨w.heap.size,0,none⟩),
       fun _ u _=>u=.slice (some ⟨bb,oo,none⟩) C.length c1,
       fun _ u _=>u=.int .i64 (m:Int),
       fun _ u _=>u=.pointer (some ⟨bb,oo+m * 4,none⟩),
       fun _ u _=>u=.pointer (some ⟨bb,oo+m * 4+2,none⟩),
       fun _ u _=>u=.slice bc T2.cols.length bi,
       fun _ u w'=>NewTwo (.slice ac T.cols.length cc) (.slice bc T2.cols.length bi) u w',
       fun _ u w'=>NewCat (w.heap.size+3) TC u w',
       fun _ u _=>u=.pointer (some ⟨w.heap.size+1+1,2,none⟩)]
      (Below wr.heap.size wr)
     case hF =>
      intro v
      simp only [setAll,List.foldl_cons,List.foldl_nil,Act.put,List.setIfInBounds_toArray,List.set_cons_succ,List.set_cons_zero]
      exact rfl
     case hm=>kernel_rfl
     case hB=>kernel_rfl
     case hsz=>kernel_rfl
     case hC=>exact fun w1 w2 h b=>h.trans (b.mono h.size)
     case hw=>exact Below.drew b0R
     case hS =>
      intro D hD v u
      simp only [List.mem_cons,List.not_mem_nil,or_false] at hD
      rcases hD with rfl|rfl|rfl|rfl|rfl|rfl|rfl|rfl|rfl|rfl|rfl
      · exact fun w1 w2 h _=>h
      · exact fun w1 w2 h _=>h
      · exact fun w1 w2 h _=>h
      · exact fun w1 w2 h _=>h
      · exact fun w1 w2 h _=>h
      · exact fun w1 w2 h _=>h
      · exact fun w1 w2 h _=>h
      · exact fun w1 w2 h _=>h
      · exact fun w1 w2 h hb=>h.below hb
      · exact fun w1 w2 h hb=>h.below hb
      · exact fun w1 w2 h _=>h
     case hob =>
      simp only [List.take_succ_cons,List.take_zero]
      apply growt_cons
      · intro v w1 h1 hd
        clear hd
        clear h1
        go_wp2_with fail
        first|exact Below.refl _ _|exact ⟨Below.refl _ _,rfl⟩|exact ⟨rfl,Below.refl _ _⟩
      apply growt_cons
      · intro v w1 h1 hd
        have g115:v 115=.pointer (some ⟨w.heap.size+1+1,2,none⟩):=hd 0 _ _ _ rfl rfl rfl rfl
        clear hd
        rw [g115]
        have y2:=jC ((h1.block _ (jB QT6.out)).trans QT6.out) 2
        simp only [gT,gZ,gS] at y2
        clear g115 h1
        go_wp2_with fail
        first|exact Below.refl _ _|exact ⟨Below.refl _ _,rfl⟩|exact ⟨rfl,Below.refl _ _⟩
      apply growt_cons
      · intro v w1 h1 hd
        clear hd
        clear h1
        go_wp2_with fail
        first|exact Below.refl _ _|exact ⟨Below.refl _ _,rfl⟩|exact ⟨rfl,Below.refl _ _⟩
      apply growt_cons
      · intro v w1 h1 hd
        have g117:v 117=.pointer (some ⟨w.heap.size,0,none⟩):=hd 2 _ _ _ rfl rfl rfl rfl
        clear hd
        rw [g117]
        have y2:=jC ((h1.block _ (jB Q06.out)).trans Q06.out) 0
        simp only [gT,gZ,gS] at y2
        clear g117 h1
        go_wp2_with fail
        first|exact Below.refl _ _|exact ⟨Below.refl _ _,rfl⟩|exact ⟨rfl,Below.refl _ _⟩
      apply growt_cons
      · intro v w1 h1 hd
        clear hd
        clear h1
        go_wp2_with fail
        first|exact Below.refl _ _|exact ⟨Below.refl _ _,rfl⟩|exact ⟨rfl,Below.refl _ _⟩
      apply growt_cons
      · intro v w1 h1 hd
        have g118:v 118=.slice (some ⟨bb,oo,none⟩) C.length c1:=hd 3 _ _ _ rfl rfl rfl rfl
        have g119:v 119=.int .i64 (m:Int):=hd 4 _ _ _ rfl rfl rfl rfl
        clear hd
        rw [g118,g119]
        clear g118 g119 h1
        go_wp2_with fail
        first|exact Below.refl _ _|exact ⟨Below.refl _ _,rfl⟩|exact ⟨rfl,Below.refl _ _⟩
      apply growt_cons
      · intro v w1 h1 hd
        have g120:v 120=.pointer (some ⟨bb,oo+m * 4,none⟩):=hd 5 _ _ _ rfl rfl rfl rfl
        clear hd
        rw [g120]
        clear g120 h1
        go_wp2_with fail
        first|exact Below.refl _ _|exact ⟨Below.refl _ _,rfl⟩|exact ⟨rfl,Below.refl _ _⟩
      apply growt_cons
      · intro v w1 h1 hd
        have g121:v 121=.pointer (some ⟨bb,oo+m * 4+2,none⟩):=hd 6 _ _ _ rfl rfl rfl rfl
        clear hd
        rw [g121]
        have y2:=(h1.cell (p:=⟨bb,oo+m * 4+2,none⟩) (jL HBB.out HBW.out.size)).trans HG6.out
        clear g121 h1
        go_wp2_with fail
        first|exact Below.refl _ _|exact ⟨Below.refl _ _,rfl⟩|exact ⟨rfl,Below.refl _ _⟩
      apply growt_cons
      · intro v w1 h1 hd
        have g116:v 116=.slice ac T.cols.length cc:=hd 1 _ _ _ rfl rfl rfl rfl
        have g122:v 122=.slice bc T2.cols.length bi:=hd 7 _ _ _ rfl rfl rfl rfl
        clear hd
        rw [g116,g122]
        clear g116 g122 h1
        go_wp2_with fail
        have hb3:Below w1.heap.size w1 (w1.alloc (.cells #[.slice ac T.cols.length cc,.slice bc T2.cols.length bi] 32)):=(b0R).alloc (jR _) _
        first|exact ⟨hb3,w1.heap.size,rfl,heap_alloc_new _ _⟩|exact ⟨⟨w1.heap.size,rfl,heap_alloc_new _ _⟩,hb3⟩
      apply growt_cons
      · intro v w1 h1 hd
        obtain ⟨gb,g123,hgb⟩:NewTwo (.slice ac T.cols.length cc) (.slice bc T2.cols.length bi) (v 123) w1:=hd 8 _ _ _ rfl rfl rfl rfl
        clear hd
        rw [g123]
        have q0:=jC hgb 0
        have q1:=jC hgb 1
        simp only [gT,gZ,gS] at q0 q1
        have con:=concat_cols gb w1 T.cols T2.cols ac bc cc bi q0 q1 (HC1.out.below h1) (HC2.out.below h1) (by omega) (by omega)
        rw [<- HTC.out] at con
        have HSW:=hid h1.size
        clear g123 hgb q0 q1 h1
        go_wp2_with fail
        refine con.mono ?_
        rintro e w2 ⟨ua,uc,rfl,o2,b2⟩
        have T2':=hid (show NewCat (w.heap.size+3) TC (.slice ua TC.length uc) w2 from ⟨ua,uc,rfl,owns_base o2 (Nat.le_trans HS6.out HSW.out)⟩)
        have BB2:=hid b2
        clear con o2 b2
        go_wp2_with fail
        first|exact ⟨BB2.out,T2'.out⟩|exact ⟨T2'.out,BB2.out⟩
      apply growt_cons
      · intro v w1 h1 hd
        clear hd
        clear h1
        go_wp2_with fail
        first|exact Below.refl _ _|exact ⟨Below.refl _ _,rfl⟩|exact ⟨rfl,Below.refl _ _⟩
      exact growt_nil
     case hend =>
      intro v1 w7 h1 hd
      have g125:v1 125=.pointer (some ⟨w.heap.size+1+1,2,none⟩):=hd 10 _ _ _ rfl rfl rfl
      obtain ⟨va,vc,g124,o124⟩:NewCat (w.heap.size+3) TC (v1 124) w7:=hd 9 _ _ _ rfl rfl rfl
      clear hd
      rw [g125,g124]
      have B7:=hid (HBW.out.trans (h1.mono HBW.out.size))
      have H17:=hid h1
      have QT7:=cy h1 QT6
      have O7:=hid o124
      clear h1 o124 g125 g124
      generalize v1 115=y1,v1 116=y2,v1 117=y3,v1 118=y4,v1 119=y5,v1 120=y6,v1 121=y7,v1 122=y8,v1 123=y9
      have m2:=jC QT7.out 2
      have n2:=free_of QT7.out 2
      simp only [gT,gZ,gS] at m2
      simp only [List.drop_succ_cons,List.drop_zero]
      go_upto_region 24 with (fail)
      generalize hZ9:World.setCell _ _ _=Z9
      have QT9:=hid (show Z9.heap[w.heap.size+1+1]? = some (.cells #[.int .i64 T.id,.string T.name,.slice va TC.length vc,.slice ai T.idx.length ci] 75 (0,0)) from by rw [<- hZ9];exact (heap_setCell_same _ _ _ _ _ _ QT7.out).trans rfl)
      have B9:=hid (show Below w.heap.size w Z9 from by rw [<- hZ9];exact B7.out.setCell (p:=⟨w.heap.size+1+1,2,none⟩) (by simp;omega) _)
      have OT9:=hid (show ∀ k,k ≠ w.heap.size+1+1->Z9.heap[k]? = w7.heap[k]? from fun k hk=>by rw [<- hZ9];exact heap_setCell_other _ _ _ _ (by exact hk))
      have x0:=jC QT9.out 0
      have x1:=jC QT9.out 1
      have x2:=jC QT9.out 2
      have x3:=jC QT9.out 3
      have f0:=free_of QT9.out 0
      have f1:=free_of QT9.out 1
      have f2:=free_of QT9.out 2
      have f3:=free_of QT9.out 3
      simp only [gT,gZ,gS] at x0 x1 x2 x3
      have HX:=hid (tstored_at (x0:=.int .i64 T.id) (x1:=.string T.name) (x2:=.slice va TC.length vc) (x3:=.slice ai T.idx.length ci) QT9.out)
      have HY:=hid (tstored_below (g:=w.heap.size+1+1) (x0:=.int .i64 T.id) (x1:=.string T.name) (x2:=.slice va TC.length vc) (x3:=.slice ai T.idx.length ci) B9.out (by omega))
      clear hZ9 m2 n2
      go_wp2_with fail
      refine bodyPost_ret (results_ctt rfl _ _ (w.heap.size+1+1) 75 _ (0,0) _ rfl HX.out Tryz.underlying75 rfl (by kernel_rfl)) rfl ?_
      rw [HPST.out]
      have hE:fromE ⟨C,R⟩ st=0:=by rw [HFE.out,if_neg (by omega)]
      have hnj:¬ strNil st.join=true:=by rw [HJ.out];decide
      have hT:fromT ⟨C,R⟩ st={ T with cols:=TC }:=by
       unfold fromT
       rw [if_neg hnj,HN.out,HM.out]
       show ({ tabAt C (n:Int) with cols:=(tabAt C (n:Int)).cols ++ (tabAt C (m:Int)).cols }:Tab)=_
       rw [HTA.out,HTA2.out,HTC.out]
      have hRr:fromR ⟨C,R⟩ st=acc:=by
       unfold fromR
       rw [if_neg hnj,HN.out,HM.out]
       show joinR (rowsAt R (n:Int)) (rowsAt R (m:Int)) (colOf (tabAt C (n:Int)) st.left) (colOf (tabAt C (m:Int)) st.right)=_
       rw [rows_at' hnR,rows_at' hmR,HTA.out,HTA2.out,HL.out,HRR.out,<- HXX.out,<- HYY.out,HACC.out]
      rw [hE,hT,hRr]
      have hs5:=jB QT5.out
      have hcol:SlV colR (fun k=>w.heap.size+3<=k) w7 (.slice va TC.length vc) TC:=sl_owned (enc:=colEnc) (sz:=2) (hl:=fun _=>rfl) O7.out (by have:=HTL.out;omega)
      have hrow:=HCA.out.sl (by omega) (fun x hx=>by
       rw [HACC.out] at hx
       obtain ⟨a,ha,b,hb,rfl⟩:=joinR_mem hx
       rw [List.length_append,HXW.out a ha,HYW.out b hb]
       omega)
      refine ⟨_,_,_,_,_,_,_,_,_,_,_,rfl,HY.out,fun _=>⟨⟨va,vc,ai,ci,rfl,?_,?_⟩,?_⟩⟩
      · exact (hcol.keep fun k hk hl=>(tstored_other k (by omega)).trans (OT9.out k (by omega))).weaken fun _ _=>trivial
      · exact (HTV.out.parts.2.keep fun k _ hl=>HY.out.block k hl).weaken fun _ _=>trivial
      · exact (hrow.keep fun k hk hl=>(tstored_other k (by omega)).trans ((OT9.out k (by omega)).trans (H17.out.block k hl))).weaken fun _ _=>trivial
end
section
open Go Go.RowKit
def badArg (st:Stmt) (nd:Int):Bool:=decide (st.agg<0) || decide (4<st.agg) || (decide (0<st.agg) && (st.names.length:Int) != nd)
theorem queryE_arg {s:StV} {st:Stmt} {nd:Int} (hn:nd=if 1<st.agg then 1 else 0) (h:badArg st nd=true):queryE s st=1:=by
 unfold queryE
 rw [<- hn,if_pos]
 simp [badArg] at h
 omega
structure QFine (s:StV) (st:Stmt) (nd:Int):Prop where
 n:nd=if 1<st.agg then 1 else 0
 b:badArg st nd=false
theorem QFine.e {s:StV} {st:Stmt} {nd:Int} (h:QFine s st nd):queryE s st =
 if fromE s st ≠ 0 then fromE s st
 else if anyNeg (st.names.map (colOf (fromT s st))) then 50
 else if st.agg=2/\kindAt (fromT s st).cols ((st.names.map (colOf (fromT s st))).headD 0) ≠ 1 then 52
 else if lacksB (fromT s st) st.wher then 50
 else if 0<st.agg then 0
 else if anyNeg (st.order.map (colOf (fromT s st))) then 50
 else if 400<((fromR s st).filter (fitsW (fromT s st) st.wher)).length then 2 else 0:=by
 have hb:=h.b
 conv=>lhs;unfold queryE
 rw [<- h.n,if_neg]
 simp [badArg] at hb
 omega
theorem QFine.agg {s:StV} {st:Stmt} {nd:Int} (h:QFine s st nd):0<=st.agg/\st.agg<=4/\(1<st.agg->st.names.length=1)/\(st.agg=1->st.names=[]):=by
 have hb:=h.b
 have hn:=h.n
 simp [badArg] at hb
 refine ⟨by omega,by omega,fun h1=>?_,fun h1=>?_⟩
 · rw [if_pos h1] at hn;omega
 · rw [if_neg (by omega)] at hn
   exact List.eq_nil_of_length_eq_zero (by omega)
theorem joinOne_len (x:List Val) (Y:List (List Val)) (l r:Int):(joinOne x Y l r).length<=Y.length:=by
 unfold joinOne
 rw [List.length_map]
 exact List.length_filter_le _ _
theorem joinR_len (Y:List (List Val)) (l r:Int):∀ X:List (List Val),(joinR X Y l r).length<=X.length * Y.length
 | []=>by simp [joinR]
 | x :: X=>by
  have h:=joinR_len Y l r X
  have e:joinR (x :: X) Y l r=joinOne x Y l r ++ joinR X Y l r:=by simp [joinR,joinOne]
  have:=joinOne_len x Y l r
  rw [e,List.length_append,List.length_cons,Nat.add_mul]
  omega
theorem told_rng {T:Tab} {L:List ByteArray} {N:List Int} (h:L.map (colOf T)=N) (hn:anyNeg N=false):∀ n ∈ N,0<=n/\n<(T.cols.length:Int):=by
 subst h
 intro n hm
 obtain ⟨s,_,rfl⟩:=List.mem_map.1 hm
 have h1:=colOf_lt T s
 unfold anyNeg at hn
 rw [List.any_eq_false] at hn
 have h2:=hn _ hm
 simp at h2
 omega
theorem from_fine {s:StV} {st:Stmt} (hC:CatOk s.tabs) (hR:RowsSmall s.rows) (hl:s.rows.length=s.tabs.length)
 (hw:∀ n (h1:n<s.rows.length) (h2:n<s.tabs.length),∀ r ∈ s.rows[n],r.length=s.tabs[n].cols.length) :
 fromE s st=0->(fromT s st).cols.length<=12/\(fromR s st).length<=1000000000000/\∀ r ∈ fromR s st,r.length=(fromT s st).cols.length:=by
 intro h
 have one:∀ k:Int,0<=k->k<s.tabs.length->(tabAt s.tabs k).cols.length<=6/\(rowsAt s.rows k).length<=1000000/\∀ r ∈ rowsAt s.rows k,r.length=(tabAt s.tabs k).cols.length:=by
  intro k h0 h1
  obtain ⟨n,rfl⟩:∃ n:Nat,k=n:=⟨k.toNat,by omega⟩
  have hn:n<s.tabs.length:=by omega
  have hn':n<s.rows.length:=by omega
  rw [tab_at' hn,rows_at' hn']
  exact ⟨(hC.tab _ (List.getElem_mem hn)).len.2,hR.2.1 _ (List.getElem_mem hn'),hw n hn' hn⟩
 have b1:=findT_lt s.tabs st.table
 have b2:=findT_lt s.tabs st.join
 rw [<- findV_T] at b1 b2
 unfold fromE at h
 by_cases c1:findV s st.table<0
 · rw [if_pos c1] at h;omega
 rw [if_neg c1] at h
 obtain ⟨t1,t2,t3⟩:=one _ (by omega) b1.2
 by_cases c2:strNil st.join=true
 · unfold fromT fromR
   rw [if_pos c2,if_pos c2]
   exact ⟨by omega,by omega,t3⟩
 rw [if_neg c2] at h
 by_cases c3:findV s st.join=findV s st.table
 · rw [if_pos c3] at h;omega
 rw [if_neg c3] at h
 by_cases c4:findV s st.join<0 \/ colOf (tabAt s.tabs (findV s st.table)) st.left<0 \/ colOf (tabAt s.tabs (findV s st.join)) st.right<0
 · rw [if_pos c4] at h;omega
 obtain ⟨u1,u2,u3⟩:=one (findV s st.join) (by omega) b2.2
 unfold fromT fromR
 rw [if_neg c2,if_neg c2]
 refine ⟨?_,Nat.le_trans (joinR_len _ _ _ _) (Nat.le_trans (Nat.mul_le_mul t2 u2) (by decide)),fun r hr=>?_⟩
 · simp only [List.length_append];omega
 · obtain ⟨a,ha,b,hb,rfl⟩:=joinR_mem hr
   simp only [List.length_append]
   rw [t3 a ha,u3 b hb]
end
section
open Go.RowKit
def FineL (L:List (List Val)):Prop:=∀ r ∈ L,FineR r
end
end Go.Proofs.YtgemihkcihigpaaGreatDoor
