/- Parse: the statement of a text, or the error and its place. -/
import Derived.Test.YtjcpccadmcglgaaGreatDoorZK43
import Derived.Test.YtjcpccadmcglgaaGreatDoorZK30
set_option linter.unusedVariables false
set_option linter.unusedSimpArgs false
set_option maxRecDepth 100000
set_option maxHeartbeats 64000000
namespace Go.Proofs.YtjcpccadmcglgaaGreatDoor
open Go.Lib (hid)
section
open Go.RowKit
theorem kept_set (w:World) (g j:Nat) (v:Value):Kept (fun k=>k ≠ g) w (w.setCell ⟨g,j,none⟩ v):=grown_kept (grown_set w g j v) fun k e=>by cases e;exact fun h=>h rfl
def setsN (w:World) (g:Nat):Nat->List Value->World
 | _,[]=>w
 | j,v :: r=>setsN (w.setCell ⟨g,j,none⟩ v) g (j+1) r
def writesN (c:Array Value):Nat->List Value->Array Value
 | _,[]=>c
 | j,v :: r=>writesN (c.setIfInBounds j v) (j+1) r
theorem setsN_heap {T:TypeId} (g:Nat):∀ (vs:List Value) (j:Nat) (w:World) (c:Array Value),w.heap[g]? = some (.cells c T (0,0))->(setsN w g j vs).heap[g]? = some (.cells (writesN c j vs) T (0,0))
 | [],_,_,_,h=>h
 | v :: r,j,w,c,h=>setsN_heap g r (j+1) _ _ (heap_setCell_same _ _ j _ _ v h)
theorem setsN_kept (g:Nat):∀ (vs:List Value) (j:Nat) (w:World),Kept (fun k=>k ≠ g) w (setsN w g j vs)
 | [],_,w=>Kept.refl _ _
 | v :: r,j,w=>(kept_set w g j v).trans (setsN_kept g r (j+1) _)
theorem st_set {w1:World} {g:Nat} {x0 x1 x2 x3 x4 x5 x6 x7 x8 x9 x10 x11 x12 x13 x14:Value} (q:w1.heap[g]? = some (.cells #[x0,x1,x2,x3,x4,x5,x6,x7,x8,x9,x10,x11,x12,x13,x14] 33 (0,0))) (a0 a1 a2 a3 a4 a5 a6 a7 a8 a9 a10 a11 a12 a13 a14:Value) :
 (((((((((((((((w1.setCell ⟨g,0,none⟩ a0).setCell ⟨g,1,none⟩ a1).setCell ⟨g,2,none⟩ a2).setCell ⟨g,3,none⟩ a3).setCell ⟨g,4,none⟩ a4).setCell ⟨g,5,none⟩ a5).setCell ⟨g,6,none⟩ a6).setCell ⟨g,7,none⟩ a7).setCell ⟨g,8,none⟩ a8).setCell ⟨g,9,none⟩ a9).setCell ⟨g,10,none⟩ a10).setCell ⟨g,11,none⟩ a11).setCell ⟨g,12,none⟩ a12).setCell ⟨g,13,none⟩ a13).setCell ⟨g,14,none⟩ a14).heap[g]? = some (.cells #[a0,a1,a2,a3,a4,a5,a6,a7,a8,a9,a10,a11,a12,a13,a14] 33 (0,0))/\Kept (fun k=>k ≠ g) w1 (((((((((((((((w1.setCell ⟨g,0,none⟩ a0).setCell ⟨g,1,none⟩ a1).setCell ⟨g,2,none⟩ a2).setCell ⟨g,3,none⟩ a3).setCell ⟨g,4,none⟩ a4).setCell ⟨g,5,none⟩ a5).setCell ⟨g,6,none⟩ a6).setCell ⟨g,7,none⟩ a7).setCell ⟨g,8,none⟩ a8).setCell ⟨g,9,none⟩ a9).setCell ⟨g,10,none⟩ a10).setCell ⟨g,11,none⟩ a11).setCell ⟨g,12,none⟩ a12).setCell ⟨g,13,none⟩ a13).setCell ⟨g,14,none⟩ a14):=by
 have h1:=setsN_heap (T:=33) g [a0,a1,a2,a3,a4,a5,a6,a7,a8,a9,a10,a11,a12,a13,a14] 0 w1 _ q
 have h2:=setsN_kept g [a0,a1,a2,a3,a4,a5,a6,a7,a8,a9,a10,a11,a12,a13,a14] 0 w1
 have e:writesN #[x0,x1,x2,x3,x4,x5,x6,x7,x8,x9,x10,x11,x12,x13,x14] 0 [a0,a1,a2,a3,a4,a5,a6,a7,a8,a9,a10,a11,a12,a13,a14]=#[a0,a1,a2,a3,a4,a5,a6,a7,a8,a9,a10,a11,a12,a13,a14]:=by kernel_rfl
 rw [e] at h1
 exact ⟨h1,h2⟩
theorem results_cell_tmp2 {P:Program} {fn:Func} {p q r:Tmp} {ty:TypeId} (h:fn.results=#[.cell p ty,.tmp q,.tmp r]) (tmps:Array Value) (w:World) (g:Nat) (t:TypeId) (cs:Array Value) (fr:Nat × Nat) (d:TypeDesc)
 (hp:tmps.getD p undef=.pointer (some ⟨g,0,none⟩)) (hg:w.heap[g]? = some (.cells cs t fr))
 (hu:P.underlying ty=some d) (hd:(match d with | .struct _ | .array _ _=>true|_=>false)=true) (hi:(P.info? ty).map (·.size)=some cs.size) :
 (results fn tmps).run P w=.ok (.tuple #[.agg cs,tmps.getD q undef,tmps.getD r undef]) w:=by
 have hp':tmps[p]?.getD undef=.pointer (some ⟨g,0,none⟩):=by simpa using hp
 simp [results,h,hp',asAddr,Sem.run_bind,Result.andThen,run_loadVar_row w g t ty cs fr d hg hu hd hi]
theorem Own1.move {X Y:Nat->Prop} {w w':World} {e:TypeId} {sz:Nat} {v:Value} {n:Nat} {xs:List Value} (h:Own1 X w e sz v n xs) (k:Kept Y w w') (hy:∀ j,¬ X j->Y j):Own1 X w' e sz v n xs:=by
 obtain ⟨⟨hlen,⟨rfl,h0⟩|⟨g,cap,cur,rfl,h1,h2,h3⟩⟩,h4⟩:=h
 · exact ⟨⟨hlen,Or.inl ⟨rfl,h0⟩⟩,h4⟩
 · exact ⟨⟨hlen,Or.inr ⟨g,cap,cur,rfl,h1,(k.block _ (hy g (h4 g rfl)) (jB h2)).trans h2,h3⟩⟩,h4⟩
theorem LsAt.move {X Y:Nat->Prop} {w w':World} {L:Lists} {s:Stmt} (h:LsAt X w L s) (k:Kept Y w w') (hy:∀ j,¬ X j->Y j):LsAt X w' L s :=
 ⟨h.cols.move k hy,h.names.move k hy,h.row.move k hy,h.sets.move k hy,h.wher.move k hy,h.order.move k hy⟩
def nilL:Lists:=⟨.slice none 0 0,.slice none 0 0,.slice none 0 0,.slice none 0 0,.slice none 0 0,.slice none 0 0⟩
theorem nil_own (X:Nat->Prop) (w:World) (e:TypeId) (sz:Nat):Own1 X w e sz (.slice none 0 0) 0 []:=⟨World.ownsRow_nil _ _ _ _,fun g hg=>by simp [Value.ownBlock] at hg⟩
theorem nil_lists (X:Nat->Prop) (w:World):LsAt X w nilL stmt0:=⟨nil_own _ _ _ _,nil_own _ _ _ _,nil_own _ _ _ _,nil_own _ _ _ _,nil_own _ _ _ _,nil_own _ _ _ _⟩
def ParsePost (s:ByteArray) (w:World) (e:Ending) (w':World):Prop :=
 Below w.heap.size w w'/\((∃ q L,parseM s=.ok q/\e=.returned (.tuple #[.agg (stC L q),.int .i64 0,.int .i64 0])/\OwnL w.heap.size w' L q) \/
  ∃ er:PErr,parseM s=.error er/\e=.returned (.tuple #[.agg (stC nilL stmt0),.int .i64 er.1,.int .i64 er.2]))
theorem parse_lex_err {s:ByteArray} {er:PErr} (h:lexM s=.error er):parseM s=.error er:=by
 unfold parseM
 rw [h]
theorem parse_lex_ok {s:ByteArray} {ts:List Tok} (h:lexM s=.ok ts):parseM s=stmtM s.size ts:=by
 unfold parseM
 rw [h]
def PXs (b n k:Nat):Prop:=k ≠ b/\k<n
theorem p_start {w w1:World} {b en n:Nat} {v:Value} {ts:List Tok} (he:EnvL w) (hw:w.heap.size<=b) (hb1:Below w.heap.size w w1) (hbn:b<n) (hn:n<=w1.heap.size)
 (hbx:w1.heap[b]? = some (.cells (boxC v en nilL stmt0) 65 (0,0))) (hs:SlV tokR (fun k=>k<b) w1 v ts) (ht:∀ t ∈ ts,TokOk t):PAt (PXs b n) b en ⟨ts,stmt0,[]⟩ w1 :=
 ⟨he.below hb1,fun k hk=>by
  have:=he.lt
  rcases hk with rfl|rfl|rfl|rfl <;> omega,fun k hk=>⟨by omega,by omega⟩,fun k hk=>jL hk.2 hn,fun h=>h.1 rfl,⟨v,nilL,hbx,hs,nil_lists _ _⟩,ht⟩
def POk (s:ByteArray) (ts:List Tok) (b n:Nat) (W:World) (w2:World):Prop:=∃ S',stmtM s.size ts=.ok S'.s/\PAt (PXs b n) b s.size S' w2/\Kept (PXs b n) W w2
def PEr (s:ByteArray) (ts:List Tok) (b n:Nat) (W:World) (er:PErr) (w2:World):Prop:=stmtM s.size ts=.error er/\Kept (PXs b n) W w2
theorem parse_any {s:ByteArray} {w:World} (he:EnvL w) (hs:s.size<=4294967000):Calls Tryz.prog 9 #[.string s] w (ParsePost s w):=by
 obtain ⟨Pst,hPst⟩:∃ Pst,Pst=ParsePost s w:=⟨_,rfl⟩
 have HPST:=hid hPst
 rw [<- hPst]
 obtain ⟨W1,hW1⟩:∃ W,w.alloc (.cells #[.int .i64 0,.string ⟨#[]⟩,.string ⟨#[]⟩,.slice none 0 0,.slice none 0 0,.slice none 0 0,.slice none 0 0,.slice none 0 0,.string ⟨#[]⟩,.string ⟨#[]⟩,.string ⟨#[]⟩,.int .i64 0,.slice none 0 0,.int .i64 0,.int .i64 0] 33)=W:=⟨_,rfl⟩
 have h1s:W1.heap.size=w.heap.size+1:=by rw [<- hW1];simp
 have b1:Below w.heap.size w W1:=by rw [<- hW1];exact (b0R).alloc (jR _) _
 have hq1:W1.heap[w.heap.size]? = some (.cells #[.int .i64 0,.string ⟨#[]⟩,.string ⟨#[]⟩,.slice none 0 0,.slice none 0 0,.slice none 0 0,.slice none 0 0,.slice none 0 0,.string ⟨#[]⟩,.string ⟨#[]⟩,.string ⟨#[]⟩,.int .i64 0,.slice none 0 0,.int .i64 0,.int .i64 0] 33 (0,0)):=by rw [<- hW1];exact heap_alloc_new _ _
 have con:=lex_any (he.below b1) hs
 have B1:=hid b1
 have Q1:=hid hq1
 have HE:=hid he
 have HS:=hid hs
 clear hPst b1 hq1 he hs
 go_enter Tryz.func9,Tryz.ntmps9
 go_wp2_with fail
 refine con.mono ?_
 rintro e w2 ⟨hb2,⟨ts,v,hl,rfl,ho,ht,hn⟩|⟨er,hl,rfl⟩⟩
 · obtain ⟨va,vc,rfl,hva⟩:=owns_shape' ho
   obtain ⟨W3,hW3⟩:∃ W,w2.alloc (.cells (boxC (.slice va ts.length vc) s.size nilL stmt0) 65)=W:=⟨_,rfl⟩
   obtain ⟨W5,hW5⟩:∃ W,W3.alloc (.cells #[.pointer (some ⟨w2.heap.size,0,none⟩)] 63)=W:=⟨_,rfl⟩
   have h3s:W3.heap.size=w2.heap.size+1:=by rw [<- hW3];simp
   have h5s:W5.heap.size=w2.heap.size+2:=by rw [<- hW5];simp [h3s]
   have hs2:w.heap.size+1<=w2.heap.size:=by have:=hb2.size;omega
   have b5:Below w2.heap.size w2 W5:=by rw [<- hW5,<- hW3];exact ((b0R).alloc (jR _) _).alloc (by simp) _
   have hbx:W5.heap[w2.heap.size]? = some (.cells (boxC (.slice va ts.length vc) s.size nilL stmt0) 65 (0,0)):=by
    rw [<- hW5,heap_alloc_old _ _ (by omega),<- hW3];exact heap_alloc_new _ _
   have hqp:W5.heap[w2.heap.size+1]? = some (.cells #[.pointer (some ⟨w2.heap.size,0,none⟩)] 63 (0,0)):=by
    rw [<- hW5,<- h3s];exact heap_alloc_new _ _
   have hsl:SlV tokR (fun k=>k<w2.heap.size) w2 (.slice va ts.length vc) ts:=by
    obtain ⟨a,c,e,h3,h4,_⟩:=RowAt.of_owns_flat (enc:=tokEnc) (sz:=4) (hl:=fun _=>rfl) (p:=fun _=>True) ho (fun _ _=>trivial)
    have h1:SlV tokR (fun _=>True) w2 (.slice va ts.length vc) ts:=⟨a,c,e,h3,by have:=HS.out;omega,h4⟩
    exact h1.bound.weaken fun k hk=>hk.2
   have con2:Calls Tryz.prog 15 #[.func (.func 16) #[] #[.pointer (some ⟨w2.heap.size+1,0,none⟩)]] W5 (fun e w'=>CaughtPost W5 (POk s ts w2.heap.size (w2.heap.size+4) W5) (PEr s ts w2.heap.size (w2.heap.size+4) W5) e w'):=by
    refine caught_any (enters_of Tryz.func16 (by kernel_rfl) rfl) fun w1 bW hsz hca=>?_
    have q1:=(bW.block _ (jB hbx)).trans hbx
    have q2:=(bW.block _ (jB hqp)).trans hqp
    have bw:Below w.heap.size w w1:=(B1.out.trans (hb2.mono B1.out.size)).trans ((b5.trans (bW.mono (by omega))).mono (by omega))
    have hp:=p_start HE.out (n:=w2.heap.size+4) (b:=w2.heap.size) (en:=s.size) (by omega) bw (by omega) (by omega) q1 ((hsl.keep fun k hk hl=>b5.block k hl).keep fun k hk hl=>bW.block k (by omega)) ht
    refine (parse1_any hp q2 ⟨by omega,by omega⟩).mono ?_
    rintro e w9 ⟨k9,h9⟩
    refine ⟨⟨(k9.block _ ⟨by omega,by omega⟩ (by omega)).trans hca.1,(k9.block _ ⟨by omega,by omega⟩ (by omega)).trans hca.2⟩,?_⟩
    rcases h9 with ⟨S',h1,h2,h3⟩|⟨er,h1,h2⟩
    · exact Or.inl ⟨h2,S',h1,h3,(Below.kept bW _).trans k9⟩
    · exact Or.inr ⟨er,h2,h1,(Below.kept bW _).trans k9⟩
   have HB2:=hid hb2
   have HB5:=hid b5
   have HQP:=hid hqp
   have hq2:w2.heap[w.heap.size]? = W1.heap[w.heap.size]? := hb2.block _ (by omega)
   have hq5:W5.heap[w.heap.size]? = w2.heap[w.heap.size]? := b5.block _ (by omega)
   have HQ5:=hid ((hq5.trans hq2).trans Q1.out)
   clear hq2 hq5
   have HL:=hid (parse_lex_ok hl)
   clear con hb2 b5 hbx hqp hsl ht ho hl
   have e5:(w2.alloc (.cells #[.slice va ts.length vc,.int .i64 s.size,.int .i64 0,.string ⟨#[]⟩,.string ⟨#[]⟩,.slice none 0 0,.slice none 0 0,.slice none 0 0,.slice none 0 0,.slice none 0 0,.string ⟨#[]⟩,.string ⟨#[]⟩,.string ⟨#[]⟩,.int .i64 0,.slice none 0 0,.int .i64 0,.int .i64 0] 65)).alloc (.cells #[.pointer (some ⟨w2.heap.size,0,none⟩)] 63)=W5:=by
    rw [<- hW5,<- hW3];rfl
   clear hW3 hW5
   go_wp2_with fail
   clear e5
   refine con2.mono ?_
   rintro e w6 ⟨w9,hk,⟨rfl,S',hst,hp9,hk9⟩|⟨er,rfl,hst,hk9⟩⟩
   · obtain ⟨tv,L,hbx,-,hls⟩:=hp9.box
     obtain ⟨l9,s9,o9⟩:=S'
     obtain ⟨Lc,Ln,Lr,Ls,Lw,Lo⟩:=L
     simp only at hbx hls hst
     obtain ⟨ca,cc,rfl,-⟩:=owns_shape' hls.cols.1
     obtain ⟨na,nc,rfl,-⟩:=owns_shape' hls.names.1
     obtain ⟨ra,rc,rfl,-⟩:=owns_shape' hls.row.1
     obtain ⟨ea,ec,rfl,-⟩:=owns_shape' hls.sets.1
     obtain ⟨wa,wc,rfl,-⟩:=owns_shape' hls.wher.1
     obtain ⟨oa,oc,rfl,-⟩:=owns_shape' hls.order.1
     have hq9:w9.heap[w.heap.size]? = W5.heap[w.heap.size]? := hk9.block _ ⟨by omega,by omega⟩ (by omega)
     have hs9:=hk9.size
     have hq6:w6.heap[w.heap.size]? = w9.heap[w.heap.size]? := hk.block _ ⟨by omega,by omega⟩ (by omega)
     have q6:=(hq6.trans hq9).trans HQ5.out
     have hp6:w6.heap[w2.heap.size+1]? = some (.cells #[.pointer (some ⟨w2.heap.size,0,none⟩)] 63 (0,0)):=(hk.block _ ⟨by omega,by omega⟩ (by omega)).trans ((hk9.block _ ⟨by omega,by omega⟩ (by omega)).trans HQP.out)
     have hb6:=(hk.block _ ⟨by omega,by omega⟩ (jB hbx)).trans hbx
     have LS:=hid (hls.move hk fun j hj=>by
      have h1:¬ (j ≠ w2.heap.size/\j<w2.heap.size+4):=hj
      constructor <;> omega)
     have HST:=hid (HL.out.trans hst)
     have HSH:=hid (stmt_code.2 _ hst)
     have HB:=hid (show Below w.heap.size w w6 from (B1.out.trans (HB2.out.mono B1.out.size)).trans ((HB5.out.mono (by omega)).trans ((hk9.below (fun k hk=>⟨by omega,by omega⟩) (by omega)).trans (hk.below (fun k hk=>⟨by omega,by omega⟩) (by omega)))))
     obtain ⟨sk,stb,snm,scols,snames,srow,ssets,swher,sj,sl,sr,sa,sorder,sm,sn⟩:=s9
     simp only [boxC] at hb6 LS
     clear hk hk9 hq9 hq6 hst con2 hls hbx hp9 hs9
     have k0:=jC q6 0
     have f0:=free_of q6 0
     have k1:=jC q6 1
     have f1:=free_of q6 1
     have k2:=jC q6 2
     have f2:=free_of q6 2
     have k3:=jC q6 3
     have f3:=free_of q6 3
     have k4:=jC q6 4
     have f4:=free_of q6 4
     have k5:=jC q6 5
     have f5:=free_of q6 5
     have k6:=jC q6 6
     have f6:=free_of q6 6
     have k7:=jC q6 7
     have f7:=free_of q6 7
     have k8:=jC q6 8
     have f8:=free_of q6 8
     have k9:=jC q6 9
     have f9:=free_of q6 9
     have k10:=jC q6 10
     have f10:=free_of q6 10
     have k11:=jC q6 11
     have f11:=free_of q6 11
     have k12:=jC q6 12
     have f12:=free_of q6 12
     have k13:=jC q6 13
     have f13:=free_of q6 13
     have k14:=jC q6 14
     have f14:=free_of q6 14
     simp only [gT,gZ,gS] at k0 k1 k2 k3 k4 k5 k6 k7 k8 k9 k10 k11 k12 k13 k14
     have b2:=jC hb6 2
     have b3:=jC hb6 3
     have b4:=jC hb6 4
     have b5:=jC hb6 5
     have b6:=jC hb6 6
     have b7:=jC hb6 7
     have b8:=jC hb6 8
     have b9:=jC hb6 9
     have b10:=jC hb6 10
     have b11:=jC hb6 11
     have b12:=jC hb6 12
     have b13:=jC hb6 13
     have b14:=jC hb6 14
     have b15:=jC hb6 15
     have b16:=jC hb6 16
     simp only [gT,gZ,gS] at b2 b3 b4 b5 b6 b7 b8 b9 b10 b11 b12 b13 b14 b15 b16
     have zp:=jC hp6 0
     simp only [List.getElem?_toArray,List.getElem?_cons_zero] at zp
     have HQ6:=hid q6
     clear q6 hb6 hp6
     go_wp2_with fail
     have ts9:=st_set HQ6.out (.int .i64 sk) (.string stb) (.string snm) (.slice ca scols.length cc) (.slice na snames.length nc) (.slice ra srow.length rc) (.slice ea ssets.length ec) (.slice wa swher.length wc) (.string sj) (.string sl) (.string sr) (.int .i64 sa) (.slice oa sorder.length oc) (.int .i64 sm) (.int .i64 sn)
     refine bodyPost_ret (results_cell_tmp2 rfl _ _ w.heap.size 33 _ (0,0) _ rfl ts9.1 Tryz.underlying33 rfl (by kernel_rfl)) rfl ?_
     rw [HPST.out]
     refine ⟨HB.out.trans (ts9.2.below (fun k hk=>Nat.ne_of_lt hk) (Nat.le_of_lt (jB HQ6.out))),Or.inl ⟨_,⟨_,_,_,_,_,_⟩,HST.out,rfl,?_⟩⟩
     refine OwnL.base (B:=w2.heap.size) ((LS.out.move ts9.2 fun j hj=>?_).own fun k hk=>⟨by omega,by omega⟩) (by omega)
     have h1:¬ (j ≠ w2.heap.size/\j<w2.heap.size+4):=hj
     omega
   · obtain ⟨e1,e2⟩:=er
     have hne:e2 ≠ 0:=stmt_code.1 _ hst
     have d1:(e2 != 0)=true:=by simpa using hne
     have hq9:w9.heap[w.heap.size]? = W5.heap[w.heap.size]? := hk9.block _ ⟨by omega,by omega⟩ (by omega)
     have hq6:w6.heap[w.heap.size]? = w9.heap[w.heap.size]? := hk.block _ ⟨by omega,by omega⟩ (by have:=hk9.size;omega)
     have q6:=(hq6.trans hq9).trans HQ5.out
     have HST:=hid (HL.out.trans hst)
     have HB:=hid (show Below w.heap.size w w6 from (B1.out.trans (HB2.out.mono B1.out.size)).trans ((HB5.out.mono (by omega)).trans ((hk9.below (fun k hk=>⟨by omega,by omega⟩) (by omega)).trans (hk.below (fun k hk=>⟨by omega,by omega⟩) (by have:=hk9.size;omega)))))
     clear hk hk9 hq9 hq6 hne hst con2
     have k0:=jC q6 0
     have f0:=free_of q6 0
     have k1:=jC q6 1
     have f1:=free_of q6 1
     have k2:=jC q6 2
     have f2:=free_of q6 2
     have k3:=jC q6 3
     have f3:=free_of q6 3
     have k4:=jC q6 4
     have f4:=free_of q6 4
     have k5:=jC q6 5
     have f5:=free_of q6 5
     have k6:=jC q6 6
     have f6:=free_of q6 6
     have k7:=jC q6 7
     have f7:=free_of q6 7
     have k8:=jC q6 8
     have f8:=free_of q6 8
     have k9:=jC q6 9
     have f9:=free_of q6 9
     have k10:=jC q6 10
     have f10:=free_of q6 10
     have k11:=jC q6 11
     have f11:=free_of q6 11
     have k12:=jC q6 12
     have f12:=free_of q6 12
     have k13:=jC q6 13
     have f13:=free_of q6 13
     have k14:=jC q6 14
     have f14:=free_of q6 14
     simp only [gT,gZ,gS] at k0 k1 k2 k3 k4 k5 k6 k7 k8 k9 k10 k11 k12 k13 k14
     have HQ6:=hid q6
     clear q6
     simp only
     go_wp2_with fail
     have ts9:=st_set HQ6.out (.int .i64 0) (.string ⟨#[]⟩) (.string ⟨#[]⟩) (.slice none 0 0) (.slice none 0 0) (.slice none 0 0) (.slice none 0 0) (.slice none 0 0) (.string ⟨#[]⟩) (.string ⟨#[]⟩) (.string ⟨#[]⟩) (.int .i64 0) (.slice none 0 0) (.int .i64 0) (.int .i64 0)
     refine bodyPost_ret (results_cell_tmp2 rfl _ _ w.heap.size 33 _ (0,0) _ rfl ts9.1 Tryz.underlying33 rfl (by kernel_rfl)) rfl ?_
     rw [HPST.out]
     exact ⟨HB.out.trans (ts9.2.below (fun k hk=>Nat.ne_of_lt hk) (Nat.le_of_lt (jB HQ6.out))),Or.inr ⟨(e1,e2),HST.out,rfl⟩⟩
 · obtain ⟨e1,e2⟩:=er
   have hne:e2 ≠ 0:=lex_code hl
   have d1:(e2 != 0)=true:=by simpa using hne
   have HL:=hid (parse_lex_err hl)
   have hq2:w2.heap[w.heap.size]? = W1.heap[w.heap.size]? := hb2.block _ (by omega)
   have q2:=hq2.trans Q1.out
   clear hq2
   have HB:=hid (B1.out.trans (hb2.mono B1.out.size))
   have k0:=jC q2 0
   have f0:=free_of q2 0
   have k1:=jC q2 1
   have f1:=free_of q2 1
   have k2:=jC q2 2
   have f2:=free_of q2 2
   have k3:=jC q2 3
   have f3:=free_of q2 3
   have k4:=jC q2 4
   have f4:=free_of q2 4
   have k5:=jC q2 5
   have f5:=free_of q2 5
   have k6:=jC q2 6
   have f6:=free_of q2 6
   have k7:=jC q2 7
   have f7:=free_of q2 7
   have k8:=jC q2 8
   have f8:=free_of q2 8
   have k9:=jC q2 9
   have f9:=free_of q2 9
   have k10:=jC q2 10
   have f10:=free_of q2 10
   have k11:=jC q2 11
   have f11:=free_of q2 11
   have k12:=jC q2 12
   have f12:=free_of q2 12
   have k13:=jC q2 13
   have f13:=free_of q2 13
   have k14:=jC q2 14
   have f14:=free_of q2 14
   simp only [gT,gZ,gS] at k0 k1 k2 k3 k4 k5 k6 k7 k8 k9 k10 k11 k12 k13 k14
   have HQ2:=hid q2
   clear q2
   clear con hl hb2 hne
   simp only
   go_wp2_with fail
   have ts9:=st_set HQ2.out (.int .i64 0) (.string ⟨#[]⟩) (.string ⟨#[]⟩) (.slice none 0 0) (.slice none 0 0) (.slice none 0 0) (.slice none 0 0) (.slice none 0 0) (.string ⟨#[]⟩) (.string ⟨#[]⟩) (.string ⟨#[]⟩) (.int .i64 0) (.slice none 0 0) (.int .i64 0) (.int .i64 0)
   refine bodyPost_ret (results_cell_tmp2 rfl _ _ w.heap.size 33 _ (0,0) _ rfl ts9.1 Tryz.underlying33 rfl (by kernel_rfl)) rfl ?_
   rw [HPST.out]
   exact ⟨HB.out.trans (ts9.2.below (fun k hk=>Nat.ne_of_lt hk) (Nat.le_of_lt (jB HQ2.out))),Or.inr ⟨(e1,e2),HL.out,rfl⟩⟩
end
end Go.Proofs.YtjcpccadmcglgaaGreatDoor
