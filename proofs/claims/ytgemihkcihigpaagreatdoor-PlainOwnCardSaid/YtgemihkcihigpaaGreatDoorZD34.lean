/- plain.Do at any statement. -/
import Derived.Test.YtgemihkcihigpaaGreatDoorZD33
import Derived.Test.YtgemihkcihigpaaGreatDoorZD6
set_option linter.unusedVariables false
set_option linter.unusedSimpArgs false
set_option maxRecDepth 100000
set_option maxHeartbeats 64000000
namespace Go.Proofs.YtgemihkcihigpaaGreatDoor
section
open Go.RowKit
structure StSmall (st:Stmt):Prop where
 kind:(Lit.int .i64 st.kind).wf=true
 cols:st.cols.length<=1000000
 names:st.names.length<=500000
 row:st.row.length<=1000000
 order:st.order.length<=500000
def Leans (s:StV) (st:Stmt):Prop:=stepE s st ≠ 0 \/ ¬ (st.kind=1 \/ st.kind=2 \/ st.kind=3 \/ st.kind=4 \/ st.kind=5 \/ st.kind=6)
theorem do_any {p p':Nat->Prop} {s:StV} {st:Stmt} {sv stv:Value} {n:Nat} {w:World} (hs:StAt p w sv s) (hst:StmtV p' w stv st) (hI:Inv s n) (hn:n<=999999) (hS:StSmall st) (hK:KindsAt w) :
 Calls Tryz.prog 15 #[sv,stv] w fun e w'=>DoOut p w (Leans s st) (stepS s st) (stepA s st) e w':=by
 have hb:StAt (fun k=>p k/\k<w.heap.size) w sv s:=by
  obtain ⟨z1,z2,z3,z4,e,h3,h4⟩:=hs
  exact ⟨z1,z2,z3,z4,e,h3.bound,h4.bound⟩
 have hR:=hI.small (by omega:n<=1000000)
 have hR1:∀ x ∈ s.rows,x.length+1<=1000000:=fun x hx=>by have:=hI.many x hx;omega
 by_cases h1:st.kind=1 \/ st.kind=2 \/ st.kind=3
 · have eE:=stepE_cat (s:=s) h1
   refine do_core (old:=False) (r:=((catV s.tabs st).1,defineS s st,ans0)) hs hst rfl (fun w1 g h=>hand_run st.kind hS.kind w1 g h) (Or.inr ⟨_,by unfold hand;rw [if_pos h1];rfl,enters_of Tryz.func40 (by kernel_rfl) rfl,fun w1 b=>?_,fun h=>?_,fun h=>?_⟩)
   · exact define_any (hb.below b) (hst.below b) hI.cat hR h1 hS.cols (Nat.le_trans hS.names (by decide))
   · have he:stepE s st ≠ 0:=by rw [eE];exact h
     exact ⟨stepS_err he,by rw [stepA_err he,eE],Or.inl he⟩
   · have he:stepE s st=0:=by rw [eE];exact h
     exact ⟨stepS_cat h1 he,stepA_cat h1 he,fun h=>h.elim⟩
 by_cases h4:st.kind=4
 · have eE:=stepE_ins (s:=s) h4
   refine do_core (old:=False) (r:=(insertE s st,insertS s st,⟨0,[],1⟩)) hs hst rfl (fun w1 g h=>hand_run st.kind hS.kind w1 g h) (Or.inr ⟨_,by unfold hand;rw [if_neg h1,if_pos h4];rfl,enters_of Tryz.func41 (by kernel_rfl) rfl,fun w1 b=>?_,fun h=>?_,fun h=>?_⟩)
   · exact insert_any (hb.below b) (hst.below b) hI.cat.small hR hI.len hS.row hR1
   · have he:stepE s st ≠ 0:=by rw [eE];exact h
     exact ⟨stepS_err he,by rw [stepA_err he,eE],Or.inl he⟩
   · have he:stepE s st=0:=by rw [eE];exact h
     exact ⟨stepS_ins h4 he,stepA_ins h4 he,fun h=>h.elim⟩
 by_cases h5:st.kind=5 \/ st.kind=6
 · have eE:=stepE_chg (s:=s) h5
   refine do_core (old:=False) (r:=(changeE s st,changeS s st,⟨0,[],changeN s st⟩)) hs hst rfl (fun w1 g h=>hand_run st.kind hS.kind w1 g h) (Or.inr ⟨_,by unfold hand;rw [if_neg h1,if_neg h4,if_pos h5];rfl,enters_of Tryz.func42 (by kernel_rfl) rfl,fun w1 b=>?_,fun h=>?_,fun h=>?_⟩)
   · exact change_any (hb.below b) (hst.below b) hI.cat.small hR hI.len h5 hI.wid (hK.below b)
   · have he:stepE s st ≠ 0:=by rw [eE];exact h
     exact ⟨stepS_err he,by rw [stepA_err he,eE],Or.inl he⟩
   · have he:stepE s st=0:=by rw [eE];exact h
     exact ⟨stepS_chg h5 he,stepA_chg h5 he,fun h=>h.elim⟩
 have hno:¬ (st.kind=1 \/ st.kind=2 \/ st.kind=3 \/ st.kind=4 \/ st.kind=5 \/ st.kind=6):=by omega
 by_cases h7:st.kind=7
 · have eE:=stepE_qry (s:=s) h7
   refine do_core (old:=True) (r:=(queryE s st,s,queryA s st)) hs hst rfl (fun w1 g h=>hand_run st.kind hS.kind w1 g h) (Or.inr ⟨_,by unfold hand;rw [if_neg h1,if_neg h4,if_neg h5,if_pos h7];rfl,enters_of Tryz.func43 (by kernel_rfl) rfl,fun w1 b=>?_,fun h=>?_,fun h=>?_⟩)
   · exact query_any (hb.below b) (hst.below b) hI.cat hR hI.len hI.wid (hK.below b) hS.names hS.order
   · have he:stepE s st ≠ 0:=by rw [eE];exact h
     exact ⟨stepS_err he,by rw [stepA_err he,eE],Or.inl he⟩
   · have he:stepE s st=0:=by rw [eE];exact h
     exact ⟨stepS_qry h7,stepA_qry h7 he,fun _=>Or.inr hno⟩
 · refine do_core (r:=(0,s,ans0)) (old:=False) hs hst rfl (fun w1 g h=>hand_run st.kind hS.kind w1 g h) (Or.inl ⟨by unfold hand;rw [if_neg h1,if_neg h4,if_neg h5,if_neg h7],?_,?_,Or.inr hno⟩)
   · unfold stepS
     rw [if_neg h1,if_neg h4,if_neg h5]
     split <;> rfl
   · have he:stepE s st=0:=by
      unfold stepE
      rw [if_neg h1,if_neg h4,if_neg h5,if_neg h7]
     unfold stepA
     rw [if_neg (by rw [he];exact fun h=>h rfl),if_neg h4,if_neg h5,if_neg h7]
     rfl
end
open Go.Lib (hid)
section
open Go.RowKit
def Val.v (v:Val):Value:=.agg #[.int .i64 v.kind,.int .i64 v.n,.string v.s]
theorem whole_any (n:Int) (w:World):Calls Tryz.prog 21 #[.int .i64 n] w fun e w'=>e=.returned (.agg #[.int .i64 1,.int .i64 n,.string ⟨#[]⟩])/\Below w.heap.size w w':=by
 go_enter Tryz.func21,Tryz.ntmps21
 go_upto_region 1 with (fail)
 generalize hW:World.alloc _ _=W
 have hb:Below w.heap.size w W:=by rw [<- hW];exact (b0R).alloc (jR _) _
 have hq:W.heap[w.heap.size]? = some (.cells #[.int .i64 0,.int .i64 0,.string ⟨#[]⟩] 55 (0,0)):=by rw [<- hW];exact heap_alloc_new _ _
 have HQ:=hid hq
 have BW:=hid hb
 have g0:=jC hq 0
 have g1:=jC hq 1
 have g2:=jC hq 2
 have e0:=free_of hq 0
 have e1:=free_of hq 1
 have e2:=free_of hq 2
 simp only [gT,gZ,gS] at g0 g1 g2
 clear hW hq hb
 go_wp2_with fail
 refine bodyPost_ret (results_cell1 rfl _ _ w.heap.size 55 _ (0,0) _ rfl (vstored_at HQ.out) Tryz.underlying55 rfl (by kernel_rfl)) rfl ?_
 exact ⟨rfl,((BW.out.setCell (p:=⟨w.heap.size,0,none⟩) (jR _) _).setCell (p:=⟨w.heap.size,1,none⟩) (jR _) _).setCell (p:=⟨w.heap.size,2,none⟩) (jR _) _⟩
theorem text_any (s:ByteArray) (w:World):Calls Tryz.prog 22 #[.string s] w fun e w'=>e=.returned (.agg #[.int .i64 2,.int .i64 0,.string s])/\Below w.heap.size w w':=by
 go_enter Tryz.func22,Tryz.ntmps22
 go_upto_region 1 with (fail)
 generalize hW:World.alloc _ _=W
 have hb:Below w.heap.size w W:=by rw [<- hW];exact (b0R).alloc (jR _) _
 have hq:W.heap[w.heap.size]? = some (.cells #[.int .i64 0,.int .i64 0,.string ⟨#[]⟩] 55 (0,0)):=by rw [<- hW];exact heap_alloc_new _ _
 have HQ:=hid hq
 have BW:=hid hb
 have g0:=jC hq 0
 have g1:=jC hq 1
 have g2:=jC hq 2
 have e0:=free_of hq 0
 have e1:=free_of hq 1
 have e2:=free_of hq 2
 simp only [gT,gZ,gS] at g0 g1 g2
 clear hW hq hb
 go_wp2_with fail
 refine bodyPost_ret (results_cell1 rfl _ _ w.heap.size 55 _ (0,0) _ rfl (vstored_at HQ.out) Tryz.underlying55 rfl (by kernel_rfl)) rfl ?_
 exact ⟨rfl,((BW.out.setCell (p:=⟨w.heap.size,0,none⟩) (jR _) _).setCell (p:=⟨w.heap.size,1,none⟩) (jR _) _).setCell (p:=⟨w.heap.size,2,none⟩) (jR _) _⟩
theorem lins_any (name:ByteArray) (a:Option Addr) (n c:Nat) (w:World):Calls Tryz.prog 35 #[.string name,.slice a n c] w fun e w'=>e=.returned (.agg #[.int .i64 4,.string name,.string ⟨#[]⟩,.slice none 0 0,.slice none 0 0,.slice a n c,.slice none 0 0,.slice none 0 0,.string ⟨#[]⟩,.string ⟨#[]⟩,.string ⟨#[]⟩,.int .i64 0,.slice none 0 0,.int .i64 0,.int .i64 0])/\Below w.heap.size w w':=by
 go_enter Tryz.func35,Tryz.ntmps35
 go_upto_region 1 with (fail)
 generalize hW:World.alloc _ _=W
 have hb:Below w.heap.size w W:=by rw [<- hW];exact (b0R).alloc (jR _) _
 have hq:W.heap[w.heap.size]? = some (.cells #[.int .i64 0,.string ⟨#[]⟩,.string ⟨#[]⟩,.slice none 0 0,.slice none 0 0,.slice none 0 0,.slice none 0 0,.slice none 0 0,.string ⟨#[]⟩,.string ⟨#[]⟩,.string ⟨#[]⟩,.int .i64 0,.slice none 0 0,.int .i64 0,.int .i64 0] 39 (0,0)):=by rw [<- hW];exact heap_alloc_new _ _
 have HQ:=hid hq
 have BW:=hid hb
 have g0:=jC hq 0
 have e0:=free_of hq 0
 have g1:=jC hq 1
 have e1:=free_of hq 1
 have g2:=jC hq 2
 have e2:=free_of hq 2
 have g3:=jC hq 3
 have e3:=free_of hq 3
 have g4:=jC hq 4
 have e4:=free_of hq 4
 have g5:=jC hq 5
 have e5:=free_of hq 5
 have g6:=jC hq 6
 have e6:=free_of hq 6
 have g7:=jC hq 7
 have e7:=free_of hq 7
 have g8:=jC hq 8
 have e8:=free_of hq 8
 have g9:=jC hq 9
 have e9:=free_of hq 9
 have g10:=jC hq 10
 have e10:=free_of hq 10
 have g11:=jC hq 11
 have e11:=free_of hq 11
 have g12:=jC hq 12
 have e12:=free_of hq 12
 have g13:=jC hq 13
 have e13:=free_of hq 13
 have g14:=jC hq 14
 have e14:=free_of hq 14
 simp only [gT,gZ,gS] at g0 g1 g2 g3 g4 g5 g6 g7 g8 g9 g10 g11 g12 g13 g14
 clear hW hq hb
 go_wp2_with fail
 have k0:=heap_setCell_same _ w.heap.size 0 _ _ (.int .i64 4) HQ.out
 have k1:=heap_setCell_same _ w.heap.size 1 _ _ (.string name) k0
 have k2:=heap_setCell_same _ w.heap.size 2 _ _ (.string ⟨#[]⟩) k1
 have k3:=heap_setCell_same _ w.heap.size 3 _ _ (.slice none 0 0) k2
 have k4:=heap_setCell_same _ w.heap.size 4 _ _ (.slice none 0 0) k3
 have k5:=heap_setCell_same _ w.heap.size 5 _ _ (.slice a n c) k4
 have k6:=heap_setCell_same _ w.heap.size 6 _ _ (.slice none 0 0) k5
 have k7:=heap_setCell_same _ w.heap.size 7 _ _ (.slice none 0 0) k6
 have k8:=heap_setCell_same _ w.heap.size 8 _ _ (.string ⟨#[]⟩) k7
 have k9:=heap_setCell_same _ w.heap.size 9 _ _ (.string ⟨#[]⟩) k8
 have k10:=heap_setCell_same _ w.heap.size 10 _ _ (.string ⟨#[]⟩) k9
 have k11:=heap_setCell_same _ w.heap.size 11 _ _ (.int .i64 0) k10
 have k12:=heap_setCell_same _ w.heap.size 12 _ _ (.slice none 0 0) k11
 have k13:=heap_setCell_same _ w.heap.size 13 _ _ (.int .i64 0) k12
 have k14:=heap_setCell_same _ w.heap.size 14 _ _ (.int .i64 0) k13
 simp only [List.setIfInBounds_toArray,List.set_cons_zero,List.set_cons_succ] at k14
 refine bodyPost_ret (results_cell1 rfl _ _ w.heap.size 39 _ (0,0) _ rfl k14 Tryz.underlying39 rfl (by kernel_rfl)) rfl ?_
 exact ⟨rfl,(((((((((((((((BW.out.setCell (p:=⟨w.heap.size,0,none⟩) (jR _) _).setCell (p:=⟨w.heap.size,1,none⟩) (jR _) _).setCell (p:=⟨w.heap.size,2,none⟩) (jR _) _).setCell (p:=⟨w.heap.size,3,none⟩) (jR _) _).setCell (p:=⟨w.heap.size,4,none⟩) (jR _) _).setCell (p:=⟨w.heap.size,5,none⟩) (jR _) _).setCell (p:=⟨w.heap.size,6,none⟩) (jR _) _).setCell (p:=⟨w.heap.size,7,none⟩) (jR _) _).setCell (p:=⟨w.heap.size,8,none⟩) (jR _) _).setCell (p:=⟨w.heap.size,9,none⟩) (jR _) _).setCell (p:=⟨w.heap.size,10,none⟩) (jR _) _).setCell (p:=⟨w.heap.size,11,none⟩) (jR _) _).setCell (p:=⟨w.heap.size,12,none⟩) (jR _) _).setCell (p:=⟨w.heap.size,13,none⟩) (jR _) _).setCell (p:=⟨w.heap.size,14,none⟩) (jR _) _)⟩
theorem ins_at {p:Nat->Prop} {name:ByteArray} {a:Option Addr} {c:Nat} {r:List Val} {w:World} (h:SlV valR p w (.slice a r.length c) r) :
 StmtV p w (.agg #[.int .i64 4,.string name,.string ⟨#[]⟩,.slice none 0 0,.slice none 0 0,.slice a r.length c,.slice none 0 0,.slice none 0 0,.string ⟨#[]⟩,.string ⟨#[]⟩,.string ⟨#[]⟩,.int .i64 0,.slice none 0 0,.int .i64 0,.int .i64 0]) (insS name r) :=
 ⟨none,0,none,0,a,c,none,0,none,0,none,0,rfl,nil_sl,nil_sl,h,nil_sl,nil_sl,nil_sl⟩
theorem ins_small {name:ByteArray} {r:List Val} (h:r.length<=1000000):StSmall (insS name r):=⟨rfl,Nat.zero_le _,Nat.zero_le _,h,Nat.zero_le _⟩
theorem do_law {p p':Nat->Prop} {s s':StV} {R:List (List Val)} {er nn:Int} {nt nr na:Nat} {st:Stmt} {sv stv:Value} {n:Nat} {w:World} (hs:StAt p w sv s) (hst:StmtV p' w stv st) (hI:Inv s n) (hn:n<=999999) (hS:StSmall st) (hK:KindsAt w)
 (h1:stepS s st=s') (h2:stepA s st=⟨er,R,nn⟩) (ht:s'.tabs.length=nt) (hr:s'.rows.length=nr) (ha:R.length=na) :
 Calls Tryz.prog 15 #[sv,stv] w fun e w'=>∃ a1 c1 a2 c2 a3 c3,e=.returned (.tuple #[.agg #[.slice a1 nt c1,.slice a2 nr c2],.agg #[.int .i64 er,.slice a3 na c3,.int .i64 nn]])/\Below w.heap.size w w' /\
  StAt (fun k=>p k \/ w.heap.size<=k) w' (.agg #[.slice a1 nt c1,.slice a2 nr c2]) s'/\SlV rowR (fun k=>w.heap.size<=k) w' (.slice a3 na c3) R:=by
 subst h1 ht hr ha
 refine (do_any hs hst hI hn hS hK).mono ?_
 rintro e w' ⟨sv',av',rfl,hb,hso,hao⟩
 rw [h2] at hao
 obtain ⟨a1,c1,a2,c2,rfl,h3,h4⟩:=hso
 obtain ⟨a3,c3,rfl,h5⟩:=hao
 exact ⟨a1,c1,a2,c2,a3,c3,rfl,hb,⟨a1,c1,a2,c2,rfl,h3,h4.weaken (fun k hk=>hk.imp (fun h=>h.2) id)⟩,h5⟩
def TwoAt (p:Nat->Prop) (w:World) (a1:Option Addr) (c1:Nat) (a2:Option Addr) (c2:Nat) (A B:List (List Val)):Prop:=StAt p w (.agg #[.slice a1 2 c1,.slice a2 2 c2]) (twoS A B)
theorem TwoAt.weaken {p q:Nat->Prop} {w:World} {a1 a2:Option Addr} {c1 c2:Nat} {A B:List (List Val)} (h:TwoAt p w a1 c1 a2 c2 A B) (hp:∀ k,p k->q k):TwoAt q w a1 c1 a2 c2 A B:=StAt.weaken h hp
theorem TwoAt.keep {p:Nat->Prop} {w w':World} {a1 a2:Option Addr} {c1 c2:Nat} {A B:List (List Val)} (h:TwoAt p w a1 c1 a2 c2 A B) (hk:∀ k,p k->k<w.heap.size->w'.heap[k]? = w.heap[k]?):TwoAt p w' a1 c1 a2 c2 A B:=StAt.keep h hk
theorem TwoAt.bound {p:Nat->Prop} {w:World} {a1 a2:Option Addr} {c1 c2:Nat} {A B:List (List Val)} (h:TwoAt p w a1 c1 a2 c2 A B):TwoAt (fun k=>p k/\k<w.heap.size) w a1 c1 a2 c2 A B:=by
 obtain ⟨z1,z2,z3,z4,e,h3,h4⟩:=h
 exact ⟨z1,z2,z3,z4,e,h3.bound,h4.bound⟩
theorem TwoAt.below {p:Nat->Prop} {w w':World} {a1 a2:Option Addr} {c1 c2:Nat} {A B:List (List Val)} (h:TwoAt p w a1 c1 a2 c2 A B) (hb:Below w.heap.size w w'):TwoAt p w' a1 c1 a2 c2 A B:=StAt.below h hb
theorem inv_two {A B:List (List Val)} {n:Nat} (hA:∀ r ∈ A,r.length=2) (hB:∀ r ∈ B,r.length=2) (h1:A.length<=n) (h2:B.length<=n):Inv (twoS A B) n:=by
 refine ⟨cat_two,rfl,fun i k1 k2 r hr=>?_,fun x hx=>?_⟩
 · have k1':i<2:=k1
   rcases (show i=0 \/ i=1 by omega) with rfl|rfl
   · exact hA r hr
   · exact hB r hr
 · have hx':x ∈ [A,B]:=hx
   simp only [List.mem_cons,List.not_mem_nil,or_false] at hx'
   rcases hx' with rfl|rfl
   · exact h1
   · exact h2
def StBox (w:World) (g:Nat) (a1:Option Addr) (n1 c1:Nat) (a2:Option Addr) (n2 c2:Nat):Prop:=w.heap[g]? = some (.cells #[.slice a1 n1 c1,.slice a2 n2 c2] 27 (0,0))
theorem stbox_put {w:World} {g:Nat} {y0 y1 x0 x1:Value} (h:w.heap[g]? = some (.cells #[y0,y1] 27 (0,0))):((w.setCell ⟨g,0,none⟩ x0).setCell ⟨g,1,none⟩ x1).heap[g]? = some (.cells #[x0,x1] 27 (0,0)) :=
 (heap_setCell_same _ _ _ _ _ _ ((heap_setCell_same _ _ _ _ _ _ h).trans rfl)).trans rfl
theorem two_cols {p:Nat->Prop} {g:Nat} {s t:ByteArray} {k l:Int} {w:World} (h:w.heap[g]? = some (.cells #[.string s,.int .i64 k,.string t,.int .i64 l] 118 (0,0))) (hp:p g):SlV colR p w (.slice (some ⟨g,0,none⟩) 2 2) [(s,k),(t,l)]:=by
 refine ⟨some ⟨g,0,none⟩,2,rfl,jR _,by simp,Or.inr ⟨g,0,rfl,hp,Live.of_block h,fun i hi=>?_⟩⟩
 have hi':i<2:=hi
 rcases (show i=0 \/ i=1 by omega) with rfl|rfl
 · refine ⟨colEnc (s,k),fun j hj=>?_,rfl⟩
   have e:colR.sz=2:=rfl
   rw [e] at hj ⊢
   have:=jC h j
   simp only [Nat.zero_mul,Nat.zero_add]
   rw [this]
   rcases (show j=0 \/ j=1 by omega) with rfl|rfl <;> rfl
 · refine ⟨colEnc (t,l),fun j hj=>?_,rfl⟩
   have e:colR.sz=2:=rfl
   rw [e] at hj ⊢
   have:=jC h (2+j)
   simp only [Nat.one_mul,Nat.zero_add]
   rw [this]
   rcases (show j=0 \/ j=1 by omega) with rfl|rfl <;> rfl
theorem mk_at {p:Nat->Prop} {name:ByteArray} {a:Option Addr} {c:Nat} {L:List (ByteArray × Int)} {w:World} (h:SlV colR p w (.slice a L.length c) L) :
 StmtV p w (.agg #[.int .i64 1,.string name,.string ⟨#[]⟩,.slice a L.length c,.slice none 0 0,.slice none 0 0,.slice none 0 0,.slice none 0 0,.string ⟨#[]⟩,.string ⟨#[]⟩,.string ⟨#[]⟩,.int .i64 0,.slice none 0 0,.int .i64 0,.int .i64 0]) (mkS name L) :=
 ⟨a,c,none,0,none,0,none,0,none,0,none,0,rfl,h,nil_sl,nil_sl,nil_sl,nil_sl,nil_sl⟩
theorem mk_small {name:ByteArray} {L:List (ByteArray × Int)} (h:L.length<=1000000):StSmall (mkS name L):=⟨rfl,h,Nat.zero_le _,Nat.zero_le _,Nat.zero_le _⟩
theorem nil_st {p:Nat->Prop} {w:World}:StAt p w (.agg #[.slice none 0 0,.slice none 0 0]) ⟨[],[]⟩:=⟨none,0,none,0,rfl,nil_sl,nil_sl⟩
theorem do_two {p p':Nat->Prop} {A B A' B' R:List (List Val)} {er nn:Int} {na n c1 c2:Nat} {a1 a2:Option Addr} {st:Stmt} {stv:Value} {w:World} (hs:TwoAt p w a1 c1 a2 c2 A B) (hst:StmtV p' w stv st) (hI:Inv (twoS A B) n) (hn:n<=999999) (hS:StSmall st) (hK:KindsAt w)
 (h1:stepS (twoS A B) st=twoS A' B') (h2:stepA (twoS A B) st=⟨er,R,nn⟩) (ha:R.length=na) :
 Calls Tryz.prog 15 #[.agg #[.slice a1 2 c1,.slice a2 2 c2],stv] w fun e w'=>∃ b1 d1 b2 d2 a3 c3,e=.returned (.tuple #[.agg #[.slice b1 2 d1,.slice b2 2 d2],.agg #[.int .i64 er,.slice a3 na c3,.int .i64 nn]])/\Below w.heap.size w w' /\
  TwoAt (fun k=>p k \/ w.heap.size<=k) w' b1 d1 b2 d2 A' B'/\SlV rowR (fun k=>w.heap.size<=k) w' (.slice a3 na c3) R:=do_law hs hst hI hn hS hK h1 h2 rfl rfl ha
theorem begun_any (w:World) (hK:KindsAt w):Calls Tryz.prog 37 #[] w fun e w'=>∃ a1 c1 a2 c2,e=.returned (.agg #[.slice a1 2 c1,.slice a2 2 c2])/\Below w.heap.size w w'/\TwoAt (fun k=>w.heap.size<=k) w' a1 c1 a2 c2 [] []:=by
 have HK:=hid hK
 clear hK
 go_enter Tryz.func37,Tryz.ntmps37
 go_upto_region 1 with (fail)
 generalize hW:World.alloc _ _=W
 have hb:Below w.heap.size w W:=by rw [<- hW];exact (b0R).alloc (jR _) _
 have HQ:=hid (show W.heap[w.heap.size]? = some (.cells #[.slice none 0 0,.slice none 0 0] 27 (0,0)) by rw [<- hW];exact heap_alloc_new _ _)
 have BW:=hid hb
 clear hW hb
 go_wp2_with fail
 generalize hX:World.alloc _ _=X
 have bx:Below W.heap.size W X:=by rw [<- hX];exact (b0R).alloc (jR _) _
 have hx:X.heap[W.heap.size]? = some (.cells #[.string sA,.int .i64 1,.string sB,.int .i64 2] 118 (0,0)):=by rw [<- hX];exact heap_alloc_new _ _
 have B1:=BW.out.trans (bx.mono BW.out.size)
 have con:=do_law (p:=fun _=>False) (p':=fun _=>True) (s:=⟨[],[]⟩) (st:=mkS sT colsT) (w:=X) (nt:=1) (nr:=1) (na:=0) nil_st (mk_at (two_cols hx trivial)) inv_nil (by omega) (mk_small (by decide)) (HK.out.below B1) begun_one.2 (stepA_cat (Or.inl rfl) begun_one.1) rfl rfl rfl
 have HB1:=hid B1
 have Q1:=cy bx HQ
 clear hX bx hx B1
 refine con.mono ?_
 rintro e w1 ⟨a1,c1,a2,c2,a3,c3,rfl,b1,s1,r1⟩
 have B1:=hid (HB1.out.trans (b1.mono HB1.out.size))
 have Q2:=cy b1 Q1
 have S1:=hid (show StAt (fun k=>w.heap.size+1<=k/\k<w1.heap.size) w1 (.agg #[.slice a1 1 c1,.slice a2 1 c2]) ⟨[tT],[[]]⟩ from by
  have hx:=jB Q1.out
  obtain ⟨z1,z2,z3,z4,e,h3,h4⟩:=s1
  exact ⟨z1,z2,z3,z4,e,h3.bound.weaken fun k h=>⟨by have:=h.1.resolve_left id;omega,h.2⟩,h4.bound.weaken fun k h=>⟨by have:=h.1.resolve_left id;omega,h.2⟩⟩)
 clear con b1 s1 r1
 go_upto_region 2 with (fail)
 generalize hA:World.alloc _ _=Z
 have hZ:allocs w1 [_,_]=Z:=hA
 have hu:Z.heap[w1.heap.size]? = some (.cells #[.slice a1 1 c1,.slice a2 1 c2] 27 (0,0)):=allocs_get hZ 0 rfl
 have bz:=allocs_self hZ
 have U:=hid hu
 have B2:=hid (B1.out.trans (bz.mono B1.out.size))
 have Q3:=cy bz Q2
 have S2:=hid (S1.out.below bz)
 have HN:=hid (show w.heap.size<w1.heap.size from jB Q2.out)
 have HL:=hid (jB hu)
 have x0:=jC hu 0
 have x1:=jC hu 1
 simp only [gT,gZ,gS] at x0 x1
 clear hA hZ hu bz
 go_wp2_with fail
 generalize hX:World.alloc _ _=X
 have bx:Below Z.heap.size Z X:=by rw [<- hX];exact (b0R).alloc (jR _) _
 have hx:X.heap[Z.heap.size]? = some (.cells #[.string sB,.int .i64 2,.string sC,.int .i64 1] 118 (0,0)):=by rw [<- hX];exact heap_alloc_new _ _
 have B3:=B2.out.trans (bx.mono B2.out.size)
 have con:=do_law (p':=fun _=>True) (s:=⟨[tT],[[]]⟩) (st:=mkS sU colsU) (w:=X) (nt:=2) (nr:=2) (na:=0) (n:=1) (S2.out.below bx) (mk_at (two_cols hx trivial)) (by have:=inv_step (st:=mkS sT colsT) inv_nil;rw [begun_one.2] at this;exact this) (by omega) (mk_small (by decide)) (HK.out.below B3) begun_two.2 (stepA_cat (Or.inl rfl) begun_two.1) rfl rfl rfl
 have HB3:=hid B3
 have U2:=cy bx U
 have Q4:=cy bx Q3
 clear hX bx hx B3 x0 x1
 refine con.mono ?_
 rintro e w2 ⟨b1,d1,b2,d2,b3,d3,rfl,bb,ss,rr⟩
 have B4:=hid (HB3.out.trans (bb.mono HB3.out.size))
 have hu3:=(bb.block _ (jB U2.out)).trans U2.out
 have U3:=hid hu3
 have Q5:=cy bb Q4
 have S3:=hid (show TwoAt (fun k=>(w.heap.size+1<=k/\k<w1.heap.size) \/ w1.heap.size+1<=k) w2 b1 d1 b2 d2 [] [] from StAt.weaken ss fun k hk=>hk.imp id (fun h=>by have:=jB U2.out;omega))
 have x0:=jC hu3 0
 have x1:=jC hu3 1
 have f0:=free_of hu3 0
 have f1:=free_of hu3 1
 simp only [gT,gZ,gS] at x0 x1
 clear con bb ss rr hu3
 have HX:=hid (stbox_put (x0:=.slice b1 2 d1) (x1:=.slice b2 2 d2) U3.out)
 go_upto_region 3 with (fail)
 generalize hA:World.setCell _ _ _=Y
 have hY:((w2.setCell ⟨w1.heap.size,0,none⟩ (.slice b1 2 d1)).setCell ⟨w1.heap.size,1,none⟩ (.slice b2 2 d2))=Y:=hA
 have U4:=hid (show Y.heap[w1.heap.size]? = some (.cells #[.slice b1 2 d1,.slice b2 2 d2] 27 (0,0)) by rw [<- hY];exact HX.out)
 have OY:=hid (show ∀ k,k ≠ w1.heap.size->Y.heap[k]? = w2.heap[k]? from fun k hk=>by
  rw [<- hY]
  exact (heap_setCell_other _ _ _ _ (by exact hk)).trans (heap_setCell_other _ _ _ _ (by exact hk)))
 have B5:=hid (show Below w.heap.size w Y from by
  rw [<- hY]
  exact (B4.out.setCell (p:=⟨w1.heap.size,0,none⟩) (Nat.le_of_lt HN.out) _).setCell (p:=⟨w1.heap.size,1,none⟩) (Nat.le_of_lt HN.out) _)
 have hq6:=(OY.out w.heap.size (by have:=HN.out;omega)).trans Q5.out
 have Q6:=hid hq6
 have y0:=jC U4.out 0
 have y1:=jC U4.out 1
 have g0:=jC hq6 0
 have g1:=jC hq6 1
 have e0:=free_of hq6 0
 have e1:=free_of hq6 1
 simp only [gT,gZ,gS] at y0 y1 g0 g1
 have HF:=hid (stbox_put (x0:=.slice b1 2 d1) (x1:=.slice b2 2 d2) hq6)
 clear hA hY hq6 x0 x1 f0 f1
 go_wp2_with fail
 refine bodyPost_ret (results_cell1 rfl _ _ w.heap.size 27 _ (0,0) _ rfl HF.out Tryz.underlying27 rfl (by kernel_rfl)) rfl ?_
 refine ⟨_,_,_,_,rfl,(B5.out.setCell (p:=⟨w.heap.size,0,none⟩) (jR _) _).setCell (p:=⟨w.heap.size,1,none⟩) (jR _) _,(S3.out.keep fun k hk _=>?_).weaken fun k hk=>by have:=HN.out;rcases hk with h|h <;> omega⟩
 have hn:=HN.out
 exact (heap_setCell_other _ _ _ _ (by rcases hk with h|h <;> (simp;omega))).trans ((heap_setCell_other _ _ _ _ (by rcases hk with h|h <;> (simp;omega))).trans (OY.out k (by rcases hk with h|h <;> omega)))
def NewTwoV (S:Nat) (x y:Val) (u:Value) (w:World):Prop:=∃ g,u=.slice (some ⟨g,0,none⟩) 2 2/\S<=g/\w.heap[g]? = some (.cells #[.int .i64 x.kind,.int .i64 x.n,.string x.s,.int .i64 y.kind,.int .i64 y.n,.string y.s] 55 (0,0))
def InsAt (S:Nat) (name:ByteArray) (x y:Val) (u:Value) (w:World):Prop:=∃ g,u=.agg #[.int .i64 4,.string name,.string ⟨#[]⟩,.slice none 0 0,.slice none 0 0,.slice (some ⟨g,0,none⟩) 2 2,.slice none 0 0,.slice none 0 0,.string ⟨#[]⟩,.string ⟨#[]⟩,.string ⟨#[]⟩,.int .i64 0,.slice none 0 0,.int .i64 0,.int .i64 0] /\
 S<=g/\w.heap[g]? = some (.cells #[.int .i64 x.kind,.int .i64 x.n,.string x.s,.int .i64 y.kind,.int .i64 y.n,.string y.s] 55 (0,0))
def DidAt (p:Nat->Prop) (A B:List (List Val)) (u:Value) (w:World):Prop:=∃ b1 d1 b2 d2 b3 d3,u=.tuple #[.agg #[.slice b1 2 d1,.slice b2 2 d2],.agg #[.int .i64 0,.slice b3 0 d3,.int .i64 1]]/\TwoAt p w b1 d1 b2 d2 A B
def NowAt (p:Nat->Prop) (A B:List (List Val)) (u:Value) (w:World):Prop:=∃ b1 d1 b2 d2,u=.agg #[.slice b1 2 d1,.slice b2 2 d2]/\TwoAt p w b1 d1 b2 d2 A B
def BoxAt (g:Nat) (p:Nat->Prop) (A B:List (List Val)) (w:World):Prop:=∃ b1 d1 b2 d2,w.heap[g]? = some (.cells #[.slice b1 2 d1,.slice b2 2 d2] 27 (0,0))/\TwoAt p w b1 d1 b2 d2 A B
theorem NewTwoV.grown {S r:Nat} {x y:Val} {u:Value} {w w':World} (h:NewTwoV S x y u w) (hr:r<S) (hg:w.grownBy w' (some r)):NewTwoV S x y u w':=by
 obtain ⟨g,h1,h2,h3⟩:=h
 exact ⟨g,h1,h2,(hg.block g (jB h3) (by intro e;have:=jI e;omega)).trans h3⟩
theorem InsAt.grown {S r:Nat} {name:ByteArray} {x y:Val} {u:Value} {w w':World} (h:InsAt S name x y u w) (hr:r<S) (hg:w.grownBy w' (some r)):InsAt S name x y u w':=by
 obtain ⟨g,h1,h2,h3⟩:=h
 exact ⟨g,h1,h2,(hg.block g (jB h3) (by intro e;have:=jI e;omega)).trans h3⟩
theorem DidAt.grown {p:Nat->Prop} {r:Nat} {A B:List (List Val)} {u:Value} {w w':World} (h:DidAt p A B u w) (hr:¬ p r) (hg:w.grownBy w' (some r)):DidAt p A B u w':=by
 obtain ⟨b1,d1,b2,d2,b3,d3,h1,h2⟩:=h
 exact ⟨b1,d1,b2,d2,b3,d3,h1,h2.keep fun k hk hl=>hg.block k hl (by intro e;have e1:=jI e;exact hr (e1 ▸ hk))⟩
theorem NowAt.grown {p:Nat->Prop} {r:Nat} {A B:List (List Val)} {u:Value} {w w':World} (h:NowAt p A B u w) (hr:¬ p r) (hg:w.grownBy w' (some r)):NowAt p A B u w':=by
 obtain ⟨b1,d1,b2,d2,h1,h2⟩:=h
 exact ⟨b1,d1,b2,d2,h1,h2.keep fun k hk hl=>hg.block k hl (by intro e;have e1:=jI e;exact hr (e1 ▸ hk))⟩
theorem BoxAt.below {g:Nat} {p:Nat->Prop} {A B:List (List Val)} {w w':World} (h:BoxAt g p A B w) (hb:Below w.heap.size w w'):BoxAt g p A B w':=by
 obtain ⟨b1,d1,b2,d2,h1,h2⟩:=h
 exact ⟨b1,d1,b2,d2,(hb.block _ (jB h1)).trans h1,h2.below hb⟩
theorem BoxAt.weaken {g:Nat} {p q:Nat->Prop} {A B:List (List Val)} {w:World} (h:BoxAt g p A B w) (hp:∀ k,p k->q k):BoxAt g q A B w:=by
 obtain ⟨b1,d1,b2,d2,h1,h2⟩:=h
 exact ⟨b1,d1,b2,d2,h1,h2.weaken hp⟩
theorem two_vals {p:Nat->Prop} {g:Nat} {x y:Val} {w:World} (h:w.heap[g]? = some (.cells #[.int .i64 x.kind,.int .i64 x.n,.string x.s,.int .i64 y.kind,.int .i64 y.n,.string y.s] 55 (0,0))) (hp:p g):SlV valR p w (.slice (some ⟨g,0,none⟩) 2 2) [x,y]:=by
 refine ⟨some ⟨g,0,none⟩,2,rfl,jR _,by simp,Or.inr ⟨g,0,rfl,hp,Live.of_block h,fun i hi=>?_⟩⟩
 have hi':i<2:=hi
 have e:valR.sz=3:=rfl
 rcases (show i=0 \/ i=1 by omega) with rfl|rfl
 · refine ⟨valEnc x,fun j hj=>?_,rfl⟩
   rw [e] at hj ⊢
   have:=jC h j
   simp only [Nat.zero_mul,Nat.zero_add]
   rw [this]
   rcases (show j=0 \/ j=1 \/ j=2 by omega) with rfl|rfl|rfl <;> rfl
 · refine ⟨valEnc y,fun j hj=>?_,rfl⟩
   rw [e] at hj ⊢
   have:=jC h (3+j)
   simp only [Nat.one_mul,Nat.zero_add]
   rw [this]
   rcases (show j=0 \/ j=1 \/ j=2 by omega) with rfl|rfl|rfl <;> rfl
end
section
open Go.RowKit
def fillM (l:List Int):Nat:=if l.length<=48 then l.length else 48
def FilP (P:Nat->Prop) (w:World) (g:Nat) (l:List Int) (k:Nat) (wr:World):Prop:=Below w.heap.size w wr/\wr.heap[w.heap.size]? = some (.cells #[.slice none 0 0,.slice none 0 0] 27 (0,0))/\BoxAt g P (fillA l k) (fillB l k) wr
def FilAt (w:World) (g:Nat) (l:List Int) (k:Nat) (wr:World):Prop:=FilP (fun j=>w.heap.size<j/\j ≠ g) w g l k wr
theorem FilP.below {P:Nat->Prop} {w wr w':World} {g k:Nat} {l:List Int} (h:FilP P w g l k wr) (hb:Below wr.heap.size wr w'):FilP P w g l k w':=⟨h.1.trans (hb.mono h.1.size),(hb.block _ (jB h.2.1)).trans h.2.1,h.2.2.below hb⟩
theorem FilP.bound {P:Nat->Prop} {w wr:World} {g k:Nat} {l:List Int} (h:FilP P w g l k wr):FilP (fun j=>P j/\j<wr.heap.size) w g l k wr:=by
 obtain ⟨h1,h2,b1,d1,b2,d2,h3,h4⟩:=h
 exact ⟨h1,h2,b1,d1,b2,d2,h3,h4.bound⟩
theorem FilP.grown {P:Nat->Prop} {w wr w':World} {g k q:Nat} {l:List Int} (h:FilP P w g l k wr) (hP:¬ P q) (h0:w.heap.size<q) (hg:q ≠ g) (hb:wr.grownBy w' (some q)):FilP P w g l k w':=by
 obtain ⟨h1,h2,b1,d1,b2,d2,h3,h4⟩:=h
 have nq:∀ k,k ≠ q->some k ≠ some q:=fun k hk e=>hk (jI e)
 exact ⟨h1.grown hb h1.size (fun k e=>by cases e;omega),(hb.block _ (jB h2) (nq _ (by omega))).trans h2,b1,d1,b2,d2,(hb.block _ (jB h3) (nq _ (Ne.symm hg))).trans h3,h4.keep fun k hk hl=>hb.block k hl (nq _ (fun e=>hP (e ▸ hk)))⟩
def ValAt (q:Nat) (v:Val) (w:World):Prop:=w.heap[q]? = some (.cells #[.int .i64 v.kind,.int .i64 v.n,.string v.s] 55 (0,0))
theorem ValAt.below {q:Nat} {v:Val} {w w':World} (h:ValAt q v w) (hb:Below w.heap.size w w'):ValAt q v w':=(hb.block _ (jB h)).trans h
theorem ValAt.grown {q r:Nat} {v:Val} {w w':World} (h:ValAt q v w) (hr:q ≠ r) (hg:w.grownBy w' (some r)):ValAt q v w':=(hg.block _ (jB h) (fun e=>hr (jI e))).trans h
theorem val_put {q:Nat} {v u:Val} {w:World} (h:ValAt q v w):ValAt q u (((w.setCell ⟨q,0,none⟩ (.int .i64 u.kind)).setCell ⟨q,1,none⟩ (.int .i64 u.n)).setCell ⟨q,2,none⟩ (.string u.s))/\w.grownBy (((w.setCell ⟨q,0,none⟩ (.int .i64 u.kind)).setCell ⟨q,1,none⟩ (.int .i64 u.n)).setCell ⟨q,2,none⟩ (.string u.s)) (some q) :=
 ⟨vstored_at h,grown_tra (grown_tra (grown_cell w ⟨q,0,none⟩ _) (grown_cell _ ⟨q,1,none⟩ _)) (grown_cell _ ⟨q,2,none⟩ _)⟩
theorem fill_inv (l:List Int) (k:Nat) (hk:k<=48):Inv (twoS (fillA l k) (fillB l k)) 48 :=
 inv_two (fun r hr=>rowT_len ((fillA_row l k).1 r hr)) (fun r hr=>rowU_len ((fillB_row l k).1 r hr)) (Nat.le_trans (fillA_row l k).2 hk) (Nat.le_trans (fillB_row l k).2 hk)
theorem filled_any {p:Nat->Prop} {al:Option Addr} {cl:Nat} {l:List Int} {w:World} (hl:SlV intR p w (.slice al l.length cl) l) (hK:KindsAt w) :
 Calls Tryz.prog 20 #[.slice al l.length cl] w fun e w'=>∃ a1 c1 a2 c2,e=.returned (.agg #[.slice a1 2 c1,.slice a2 2 c2])/\Below w.heap.size w w'/\TwoAt (fun k=>w.heap.size<=k) w' a1 c1 a2 c2 (fillA l (fillM l)) (fillB l (fillM l)):=by
 have HK:=hid hK
 have HL:=hid hl
 clear hK hl
 go_enter Tryz.func20,Tryz.ntmps20
 go_upto_region 1 with (fail)
 generalize hW:World.alloc _ _=W
 have hb:Below w.heap.size w W:=by rw [<- hW];exact (b0R).alloc (jR _) _
 have HQ:=hid (show W.heap[w.heap.size]? = some (.cells #[.slice none 0 0,.slice none 0 0] 27 (0,0)) by rw [<- hW];exact heap_alloc_new _ _)
 have BW:=hid hb
 have con:=begun_any W (HK.out.below hb)
 clear hW hb
 go_wp2_with fail
 refine con.mono ?_
 rintro e w1 ⟨a1,c1,a2,c2,rfl,b1,t1⟩
 have B1:=hid (BW.out.trans (b1.mono BW.out.size))
 have Q1:=cy b1 HQ
 have T1:=hid t1.bound
 have HSW:=hid (jB HQ.out)
 clear con b1 t1
 go_upto_region 2 with (fail)
 generalize hA:World.alloc _ _=Z
 have bz:Below w1.heap.size w1 Z:=by rw [<- hA];exact (b0R).alloc (jR _) _
 have F0:=hid (show FilAt w w1.heap.size l 0 Z from ⟨B1.out.trans (bz.mono B1.out.size),(bz.block _ (jB Q1.out)).trans Q1.out,a1,c1,a2,c2,by rw [<- hA];exact heap_alloc_new _ _,(T1.out.below bz).weaken fun k h=>⟨by have:=h.1;have:=HSW.out;omega,by have:=h.2;omega⟩⟩)
 have HG:=hid (show w.heap.size<w1.heap.size from jB Q1.out)
 obtain ⟨g,hg⟩:∃ g,w1.heap.size=g:=⟨_,rfl⟩
 rw [hg] at F0 HG ⊢
 clear hA bz hg T1 Q1 B1
 go_wp2_with fail
 go_loopw [4] (fun x4 wr=>∃ k:Nat,k<=l.length/\k<=48/\x4=.int .i64 k/\Hid (FilAt w g l k wr)) (fun x4 _=>48 - (intOf x4).toNat)
 case atStart=>exact ⟨0,Nat.zero_le _,Nat.zero_le _,rfl,F0⟩
 case round =>
  obtain ⟨k,hkl,hk48,rfl,HF⟩:=hrel
  clear F0
  by_cases h1:k<l.length
  · by_cases h2:k<48
    · obtain ⟨bl,ol,rfl,_,hbl⟩:=HL.out.row.2.2.2.addr (by intro e;rw [e] at h1;cases h1)
      have c0:=(HF.out.1.cell (p:=⟨bl,ol+k,none⟩) hbl).trans (HL.out.row.2.2.2.int k h1)
      obtain ⟨X,hX⟩:∃ X,fillX l k=X:=⟨_,rfl⟩
      have hm:bits .and .i64 l[k] 65535=X:=by
       rw [mask16,<- hX]
       unfold fillX
       rw [List.getD_eq_getElem?_getD,List.getElem?_eq_getElem h1]
       rfl
      have hX0:0<=X/\X<65536:=by rw [<- hX];unfold fillX;omega
      obtain ⟨hX1,hX2⟩:=hX0
      have HX:=hid hX
      obtain ⟨z,hz⟩:∃ z,z=l[k]:=⟨_,rfl⟩
      rw [<- hz] at c0 hm
      have e5:Int.tmod X 5=X % 5:=Int.tmod_eq_emod_of_nonneg hX1
      clear hX hz
      go_upto_region 6 with (fail)
      have con:=whole_any (X % 5) wr
      go_wp2_with fail
      refine con.mono ?_
      rintro e w2 ⟨rfl,b2⟩
      have F2:=hid (HF.out.bound.below b2)
      have HWS:=hid b2.size
      clear con b2 c0 hm
      go_upto_region 7 with (fail)
      generalize hA:World.alloc _ _=W3
      have b3:Below w2.heap.size w2 W3:=by rw [<- hA];exact (b0R).alloc (jR _) _
      have F3:=hid (F2.out.below b3)
      have V3:=hid (show ValAt w2.heap.size ⟨1,X % 5,noStr⟩ W3 by rw [<- hA];exact heap_alloc_new _ _)
      have HQ6:=hid (show g<w2.heap.size from by obtain ⟨_,_,_,_,h,_⟩:=F2.out.2.2;exact jB h)
      obtain ⟨q6,hq6⟩:∃ q6,w2.heap.size=q6:=⟨_,rfl⟩
      rw [hq6] at V3 HQ6 HWS ⊢
      clear hA b3 hq6 F2
      have e6:Int.tdiv X 5=X / 5:=Int.tdiv_eq_ediv_of_nonneg hX1
      have e7:Int.tmod (X / 5) 3=X / 5 % 3:=Int.tmod_eq_emod_of_nonneg (by omega)
      go_cut [7] from 27 to 35 (fun x7 wx=>∃ q7:Nat,x7=.pointer (some ⟨q7,0,none⟩)/\Hid (Below W3.heap.size W3 wx/\W3.heap.size<=q7/\ValAt q7 ⟨2,0,xyzB (X / 5 % 3)⟩ wx))
      case first =>
       rcases (show X / 5 % 3=0 \/ X / 5 % 3=1 \/ X / 5 % 3=2 by omega) with hj|hj|hj
       · rw [hj] at e7
         have con:=text_any ((⟨#[120,121,122]⟩:ByteArray).extract 0 1) W3
         have HJ:=hid hj
         clear hj
         go_wp2_with fail
         refine con.mono ?_
         rintro e w4 ⟨rfl,b4⟩
         have B4:=hid b4
         clear con b4
         go_wp2_with fail
         have hb:Below w4.heap.size w4 (w4.alloc (.cells #[.int .i64 2,.int .i64 0,.string ((⟨#[120,121,122]⟩:ByteArray).extract 0 1)] 55)):=(b0R).alloc (jR _) _
         go_meet
         refine ⟨w4.heap.size,rfl,⟨B4.out.trans (hb.mono B4.out.size),B4.out.size,?_⟩⟩
         rw [HJ.out]
         exact heap_alloc_new _ _
       · rw [hj] at e7
         have con:=text_any ((⟨#[120,121,122]⟩:ByteArray).extract 1 2) W3
         have HJ:=hid hj
         clear hj
         go_wp2_with fail
         refine con.mono ?_
         rintro e w4 ⟨rfl,b4⟩
         have B4:=hid b4
         clear con b4
         go_wp2_with fail
         have hb:Below w4.heap.size w4 (w4.alloc (.cells #[.int .i64 2,.int .i64 0,.string ((⟨#[120,121,122]⟩:ByteArray).extract 1 2)] 55)):=(b0R).alloc (jR _) _
         go_meet
         refine ⟨w4.heap.size,rfl,⟨B4.out.trans (hb.mono B4.out.size),B4.out.size,?_⟩⟩
         rw [HJ.out]
         exact heap_alloc_new _ _
       · rw [hj] at e7
         have con:=text_any ((⟨#[120,121,122]⟩:ByteArray).extract 2 3) W3
         have HJ:=hid hj
         clear hj
         go_wp2_with fail
         refine con.mono ?_
         rintro e w4 ⟨rfl,b4⟩
         have B4:=hid b4
         clear con b4
         go_wp2_with fail
         have hb:Below w4.heap.size w4 (w4.alloc (.cells #[.int .i64 2,.int .i64 0,.string ((⟨#[120,121,122]⟩:ByteArray).extract 2 3)] 55)):=(b0R).alloc (jR _) _
         go_meet
         refine ⟨w4.heap.size,rfl,⟨B4.out.trans (hb.mono B4.out.size),B4.out.size,?_⟩⟩
         rw [HJ.out]
         exact heap_alloc_new _ _
      case rest =>
       obtain ⟨q7,rfl,HR7⟩:=hcut
       have F4:=hid (F3.out.below HR7.out.1)
       have V4:=hid (V3.out.below HR7.out.1)
       have U4:=hid HR7.out.2.2
       have HQ7:=hid (show q6<q7 from jL (jB V3.out) HR7.out.2.1)
       clear e5 e6 e7 HR7 F3 V3
       have e11:Int.tmod X 11=X % 11:=Int.tmod_eq_emod_of_nonneg hX1
       have e13:Int.tmod X 13=X % 13:=Int.tmod_eq_emod_of_nonneg hX1
       go_upto_if 38 with (fail)
       generalize hcb:(X % 11 == 4)=cb
       have HCB:=hid hcb
       clear hcb
       go_cut [] from 36 to 39 (fun wx=>Hid (FilP (fun j=>(w.heap.size<j/\j ≠ g)/\j<wr.heap.size) w g l k wx/\ValAt q6 (fillV X) wx/\ValAt q7 ⟨2,0,xyzB (X / 5 % 3)⟩ wx))
       case first =>
        cases cb
        case true =>
         have hv:fillV X=val0:=by unfold fillV;rw [if_pos (by simpa using HCB.out)]
         have HV:=hid hv
         clear hv
         have m0:=jC V4.out 0
         have m1:=jC V4.out 1
         have m2:=jC V4.out 2
         have n0:=free_of V4.out 0
         have n1:=free_of V4.out 1
         have n2:=free_of V4.out 2
         simp only [gT,gZ,gS] at m0 m1 m2
         have HP:=hid (val_put (u:=val0) V4.out)
         go_wp2_with fail
         go_meet
         rw [HV.out]
         exact ⟨F4.out.grown (by have:=HWS.out;omega) (by have:=HG.out;have:=HQ6.out;omega) (by have:=HQ6.out;omega) HP.out.2,HP.out.1,U4.out.grown (by have:=HQ7.out;omega) HP.out.2⟩
        case false =>
         have hv:fillV X=⟨1,X % 5,noStr⟩:=by unfold fillV;rw [if_neg (by simpa using HCB.out)]
         have HV:=hid hv
         clear hv
         go_wp2_with fail
         go_meet
         rw [HV.out]
         exact ⟨F4.out,V4.out,U4.out⟩
       case rest =>
        have HC:=hid hcut.out
        clear hcut F4 V4 U4 HCB
        obtain ⟨F5,V5,U5⟩:Hid (FilP (fun j=>(w.heap.size<j/\j ≠ g)/\j<wr.heap.size) w g l k wc)/\Hid (ValAt q6 (fillV X) wc)/\Hid (ValAt q7 ⟨2,0,xyzB (X / 5 % 3)⟩ wc):=⟨HC.out.1,HC.out.2.1,HC.out.2.2⟩
        clear HC
        go_upto_if 42 with (fail)
        generalize hcb:(X % 13 == 6)=cb
        have HCB:=hid hcb
        clear hcb
        go_cut [] from 40 to 43 (fun wx=>Hid (FilP (fun j=>(w.heap.size<j/\j ≠ g)/\j<wr.heap.size) w g l k wx/\ValAt q6 (fillV X) wx/\ValAt q7 (fillT X) wx))
        case first =>
         cases cb
         case true =>
          have hv:fillT X=val0:=by unfold fillT;rw [if_pos (by simpa using HCB.out)]
          have HV:=hid hv
          clear hv
          have m0:=jC U5.out 0
          have m1:=jC U5.out 1
          have m2:=jC U5.out 2
          have n0:=free_of U5.out 0
          have n1:=free_of U5.out 1
          have n2:=free_of U5.out 2
          simp only [gT,gZ,gS] at m0 m1 m2
          have HP:=hid (val_put (u:=val0) U5.out)
          go_wp2_with fail
          go_meet
          rw [HV.out]
          exact ⟨F5.out.grown (by have:=HWS.out;have:=HQ7.out;omega) (by have:=HG.out;have:=HQ6.out;have:=HQ7.out;omega) (by have:=HQ6.out;have:=HQ7.out;omega) HP.out.2,V5.out.grown (by have:=HQ7.out;omega) HP.out.2,HP.out.1⟩
         case false =>
          have hv:fillT X=⟨2,0,xyzB (X / 5 % 3)⟩:=by unfold fillT;rw [if_neg (by simpa using HCB.out)]
          have HV:=hid hv
          clear hv
          go_wp2_with fail
          go_meet
          rw [HV.out]
          exact ⟨F5.out,V5.out,U5.out⟩
        case rest =>
         have HC:=hid hcut.out
         clear hcut F5 V5 U5 HCB e11 e13
         obtain ⟨V,hV⟩:∃ V,V=wc:=⟨_,rfl⟩
         subst hV
         obtain ⟨a1,c1,a2,c2,hbox,htwo⟩:=HC.out.1.2.2
         have G:=hid hbox
         have HT:=hid htwo
         have VQ6:=hid (show V.heap[q6]? = some (.cells #[.int .i64 (fillV X).kind,.int .i64 (fillV X).n,.string (fillV X).s] 55 (0,0)) from HC.out.2.1)
         have VQ7:=hid (show V.heap[q7]? = some (.cells #[.int .i64 (fillT X).kind,.int .i64 (fillT X).n,.string (fillT X).s] 55 (0,0)) from HC.out.2.2)
         have HKV:=hid (HK.out.below HC.out.1.1)
         have HFV:=hid HC.out.1
         have HI:=hid (fill_inv l k hk48)
         clear hbox htwo HC
         have e2:Int.tmod (k:Int) 2=((k % 2:Nat):Int):=by rw [Int.tmod_eq_emod_of_nonneg (by omega)];omega
         by_cases hpar:k % 2=0
         · rw [hpar] at e2
           have HPAR:=hid hpar
           clear hpar
           go_upto_region 13 with (fail)
           clear e2
           apply wp_region_growa 9 (fun w1 w2=>w1.grownBy w2 (some (g))) [48,49,50,51,52,53,47,54,55]
            [fun _ u _=>u=.agg #[.slice a1 2 c1,.slice a2 2 c2],
             fun _ u _=>u=.agg #[.int .i64 (fillV X).kind,.int .i64 (fillV X).n,.string (fillV X).s],
             fun _ u _=>u=.agg #[.int .i64 (fillT X).kind,.int .i64 (fillT X).n,.string (fillT X).s],
             fun _ u w'=>NewTwoV V.heap.size (fillV X) (fillT X) u w',
             fun _ u w'=>InsAt V.heap.size sT (fillV X) (fillT X) u w',
             fun _ u w'=>DidAt (fun k=>((w.heap.size<k/\k ≠ g)/\k<wr.heap.size) \/ V.heap.size<=k) (fillA l k ++ [[fillV X,fillT X]]) (fillB l k) u w',
             fun _ u w'=>DidAt (fun k=>((w.heap.size<k/\k ≠ g)/\k<wr.heap.size) \/ V.heap.size<=k) (fillA l k ++ [[fillV X,fillT X]]) (fillB l k) u w',
             fun _ u w'=>NowAt (fun k=>((w.heap.size<k/\k ≠ g)/\k<wr.heap.size) \/ V.heap.size<=k) (fillA l k ++ [[fillV X,fillT X]]) (fillB l k) u w',
             fun _ _ _=>True,
             fun _ _ _=>True]
            (fun w'=>V.grownBy w' (some (g))) (Below V.heap.size V) (BoxAt (g) (fun k=>((w.heap.size<k/\k ≠ g)/\k<wr.heap.size) \/ V.heap.size<=k) (fillA l k ++ [[fillV X,fillT X]]) (fillB l k))
           case hF =>
            intro v
            simp only [setAll,List.foldl_cons,List.foldl_nil,Act.put,List.setIfInBounds_toArray,List.set_cons_succ,List.set_cons_zero]
            exact rfl
           case hm=>kernel_rfl
           case hB=>kernel_rfl
           case hsz=>kernel_rfl
           case hR=>exact fun w1 w2 h=>grownBy_of_below _ h
           case hC=>exact fun w1 w2 h b=>grown_tra h b
           case hCp=>exact fun w1 w2 h b=>h.trans (b.mono h.size)
           case hDm=>exact fun w1 w2 h b=>h.below b
           case hw=>exact grownBy_of_below _ (Below.drew b0R)
           case hwp=>exact Below.drew b0R
           case hS =>
            intro D hD v u
            simp only [List.mem_cons,List.not_mem_nil,or_false] at hD
            rcases hD with rfl|rfl|rfl|rfl|rfl|rfl|rfl|rfl|rfl|rfl
            · exact fun w1 w2 h _=>h
            · exact fun w1 w2 h _=>h
            · exact fun w1 w2 h _=>h
            · exact fun w1 w2 h hb=>h.grown (by exact jB G.out) hb
            · exact fun w1 w2 h hb=>h.grown (by exact jB G.out) hb
            · exact fun w1 w2 h hb=>h.grown ((fun h=>h.elim (fun h=>h.1.2 rfl) (fun h=>absurd h (Nat.not_le.2 (jB G.out))))) hb
            · exact fun w1 w2 h hb=>h.grown ((fun h=>h.elim (fun h=>h.1.2 rfl) (fun h=>absurd h (Nat.not_le.2 (jB G.out))))) hb
            · exact fun w1 w2 h hb=>h.grown ((fun h=>h.elim (fun h=>h.1.2 rfl) (fun h=>absurd h (Nat.not_le.2 (jB G.out))))) hb
            · exact fun w1 w2 h _=>h
            · exact fun w1 w2 h _=>h
           case hob =>
            apply growr_ahead rfl (by kernel_rfl)
            · intro v w1 h1 hp hd
              clear hd
              have q0:=(hp.block _ (jB G.out)).trans G.out
              have x0:=jC q0 0
              have x1:=jC q0 1
              simp only [gT,gZ,gS] at x0 x1
              clear q0
              clear h1 hp
              go_wp2_with fail
              first|exact Below.refl _ _|exact ⟨Below.refl _ _,rfl⟩|exact ⟨rfl,Below.refl _ _⟩
            apply growr_cons rfl
            · intro v w1 h1 hd
              clear hd
              have q0:=(h1.block _ (jB VQ6.out) (by intro e;have e1:=jI e;have:=HQ6.out;omega)).trans VQ6.out
              have x0:=jC q0 0
              have x1:=jC q0 1
              have x2:=jC q0 2
              simp only [gT,gZ,gS] at x0 x1 x2
              clear q0
              clear h1
              go_wp2_with fail
              first|exact Below.refl _ _|exact ⟨Below.refl _ _,rfl⟩|exact ⟨rfl,Below.refl _ _⟩
            apply growr_cons rfl
            · intro v w1 h1 hd
              clear hd
              have q0:=(h1.block _ (jB VQ7.out) (by intro e;have e1:=jI e;have:=HQ6.out;have:=HQ7.out;omega)).trans VQ7.out
              have x0:=jC q0 0
              have x1:=jC q0 1
              have x2:=jC q0 2
              simp only [gT,gZ,gS] at x0 x1 x2
              clear q0
              clear h1
              go_wp2_with fail
              first|exact Below.refl _ _|exact ⟨Below.refl _ _,rfl⟩|exact ⟨rfl,Below.refl _ _⟩
            apply growr_cons rfl
            · intro v w1 h1 hd
              have g1:v 49=.agg #[.int .i64 (fillV X).kind,.int .i64 (fillV X).n,.string (fillV X).s]:=hd 1 _ _ _ rfl rfl rfl rfl
              have g2:v 50=.agg #[.int .i64 (fillT X).kind,.int .i64 (fillT X).n,.string (fillT X).s]:=hd 2 _ _ _ rfl rfl rfl rfl
              clear hd
              rw [g1,g2]
              have HSW:=hid h1.size
              clear g1 g2 h1
              go_wp2_with fail
              have hb3:Below w1.heap.size w1 (w1.alloc (.cells #[.int .i64 (fillV X).kind,.int .i64 (fillV X).n,.string (fillV X).s,.int .i64 (fillT X).kind,.int .i64 (fillT X).n,.string (fillT X).s] 55)):=(b0R).alloc (jR _) _
              first|exact ⟨hb3,w1.heap.size,rfl,HSW.out,heap_alloc_new _ _⟩|exact ⟨⟨w1.heap.size,rfl,HSW.out,heap_alloc_new _ _⟩,hb3⟩
            apply growr_cons rfl
            · intro v w1 h1 hd
              obtain ⟨gq,g3,hg1,hg2⟩:NewTwoV V.heap.size (fillV X) (fillT X) (v 51) w1:=hd 3 _ _ _ rfl rfl rfl rfl
              clear hd
              rw [g3]
              have HG:=hid (show _/\_ from ⟨hg1,hg2⟩)
              have con:=lins_any sT (some ⟨gq,0,none⟩) 2 2 w1
              clear g3 hg1 hg2 h1
              go_wp2_with fail
              refine con.mono ?_
              rintro e w2 ⟨rfl,b2⟩
              have B2:=hid b2
              have R2:=hid (show InsAt V.heap.size sT (fillV X) (fillT X) _ w2 from ⟨gq,rfl,HG.out.1,(b2.block _ (jB HG.out.2)).trans HG.out.2⟩)
              clear con b2
              go_wp2_with fail
              first|exact ⟨B2.out,R2.out⟩|exact ⟨R2.out,B2.out⟩
            apply growr_ahead rfl (by kernel_rfl)
            · intro v w1 h1 hp hd
              have g0:v 48=.agg #[.slice a1 2 c1,.slice a2 2 c2]:=hd 0 _ _ _ rfl rfl rfl rfl
              obtain ⟨gq,g4,hg1,hg2⟩:InsAt V.heap.size sT (fillV X) (fillT X) (v 52) w1:=hd 4 _ _ _ rfl rfl rfl rfl
              clear hd
              rw [g0,g4]
              have HSW:=hid hp.size
              have con:=do_two (HT.out.below hp) (ins_at (two_vals (p:=fun _=>True) hg2 trivial)) HI.out (by decide) (ins_small (Nat.le_trans (show (2:Nat)<=2 from jR _) (by decide))) (HKV.out.below hp) ((ins_t (A:=fillA l k) (B:=fillB l k) (fillV_int X) (fillT_text X))).2 (stepA_ins rfl ((ins_t (A:=fillA l k) (B:=fillB l k) (fillV_int X) (fillT_text X))).1) rfl
              clear g0 g4 hg1 hg2 h1 hp
              go_wp2_with fail
              refine con.mono ?_
              rintro e w2 ⟨b1,d1,b2,d2,b3,d3,rfl,bb,tt,_⟩
              have B2:=hid bb
              have R2:=hid (show DidAt (fun k=>((w.heap.size<k/\k ≠ g)/\k<wr.heap.size) \/ V.heap.size<=k) (fillA l k ++ [[fillV X,fillT X]]) (fillB l k) _ w2 from ⟨b1,d1,b2,d2,b3,d3,rfl,tt.weaken fun k hk=>hk.imp id (fun h=>Nat.le_trans HSW.out h)⟩)
              clear con bb tt
              go_wp2_with fail
              first|exact ⟨B2.out,R2.out⟩|exact ⟨R2.out,B2.out⟩
            apply growr_cons rfl
            · intro v w1 h1 hd
              obtain ⟨b1,d1,b2,d2,b3,d3,g5,tt⟩:DidAt (fun k=>((w.heap.size<k/\k ≠ g)/\k<wr.heap.size) \/ V.heap.size<=k) (fillA l k ++ [[fillV X,fillT X]]) (fillB l k) (v 53) w1:=hd 5 _ _ _ rfl rfl rfl rfl
              clear hd
              rw [g5]
              have R2:=hid (show DidAt (fun k=>((w.heap.size<k/\k ≠ g)/\k<wr.heap.size) \/ V.heap.size<=k) (fillA l k ++ [[fillV X,fillT X]]) (fillB l k) _ w1 from ⟨b1,d1,b2,d2,b3,d3,rfl,tt⟩)
              clear g5 tt h1
              go_wp2_with fail
              first|exact ⟨Below.refl _ _,R2.out⟩|exact ⟨R2.out,Below.refl _ _⟩
            apply growr_cons rfl
            · intro v w1 h1 hd
              obtain ⟨b1,d1,b2,d2,b3,d3,g6,tt⟩:DidAt (fun k=>((w.heap.size<k/\k ≠ g)/\k<wr.heap.size) \/ V.heap.size<=k) (fillA l k ++ [[fillV X,fillT X]]) (fillB l k) (v 47) w1:=hd 6 _ _ _ rfl rfl rfl rfl
              clear hd
              rw [g6]
              have R2:=hid (show NowAt (fun k=>((w.heap.size<k/\k ≠ g)/\k<wr.heap.size) \/ V.heap.size<=k) (fillA l k ++ [[fillV X,fillT X]]) (fillB l k) _ w1 from ⟨b1,d1,b2,d2,rfl,tt⟩)
              clear g6 tt h1
              go_wp2_with fail
              first|exact ⟨Below.refl _ _,R2.out⟩|exact ⟨R2.out,Below.refl _ _⟩
            apply growr_cons rfl
            · intro v w1 h1 hd
              obtain ⟨b1,d1,b2,d2,b3,d3,g6,tt⟩:DidAt (fun k=>((w.heap.size<k/\k ≠ g)/\k<wr.heap.size) \/ V.heap.size<=k) (fillA l k ++ [[fillV X,fillT X]]) (fillB l k) (v 47) w1:=hd 6 _ _ _ rfl rfl rfl rfl
              clear hd
              rw [g6]
              clear g6 tt h1
              go_wp2_with fail
              first|exact Below.refl _ _|exact ⟨Below.refl _ _,trivial⟩|exact ⟨trivial,Below.refl _ _⟩
            apply growr_one rfl
            · intro v w1 h1 hp hd
              obtain ⟨b1,d1,b2,d2,g7,tt⟩:NowAt (fun k=>((w.heap.size<k/\k ≠ g)/\k<wr.heap.size) \/ V.heap.size<=k) (fillA l k ++ [[fillV X,fillT X]]) (fillB l k) (v 54) w1:=hd 7 _ _ _ rfl rfl rfl rfl
              clear hd
              rw [g7]
              have hz:=(hp.block _ (jB G.out)).trans G.out
              have m0:=jC hz 0
              have m1:=jC hz 1
              have n0:=free_of hz 0
              have n1:=free_of hz 1
              simp only [gT,gZ,gS] at m0 m1
              have RR:=hid (ret_first (x0:=.slice b1 2 d1) (x1:=.slice b2 2 d2) b0R hz)
              have RT:=hid (tt.keep (w':=(w1.setCell ⟨g,0,none⟩ (.slice b1 2 d1)).setCell ⟨g,1,none⟩ (.slice b2 2 d2)) fun k hk hl=>RR.out.1.block k hl (by intro e;have e1:=jI e;exact absurd (e1 ▸ hk) ((fun h=>h.elim (fun h=>h.1.2 rfl) (fun h=>absurd h (Nat.not_le.2 (jB G.out)))))))
              clear g7 tt h1 hp hz
              go_wp2_with fail
              have hfin:w1.grownBy ((w1.setCell ⟨g,0,none⟩ (.slice b1 2 d1)).setCell ⟨g,1,none⟩ (.slice b2 2 d2)) (some (g))/\BoxAt (g) (fun k=>((w.heap.size<k/\k ≠ g)/\k<wr.heap.size) \/ V.heap.size<=k) (fillA l k ++ [[fillV X,fillT X]]) (fillB l k) ((w1.setCell ⟨g,0,none⟩ (.slice b1 2 d1)).setCell ⟨g,1,none⟩ (.slice b2 2 d2)):=⟨RR.out.1,b1,d1,b2,d2,RR.out.2,RT.out⟩
              first|exact hfin|exact ⟨hfin.2,hfin.1⟩
            exact growr_nil
           case hend =>
            intro v w9 h1 hdm hd
            clear hd
            have H9:=hid (show _/\_ from ⟨h1,hdm⟩)
            clear h1 hdm
            go_wp2_with fail
            go_roundw
            case rel =>
             refine ⟨k+1,by omega,by omega,by go_num,hid ?_⟩
             have hgw:=jB G.out
             have hgg:=HG.out
             have eA:fillA l (k+1)=fillA l k ++ [[fillV X,fillT X]]:=by rw [fillA,if_pos HPAR.out,HX.out]
             have eB:fillB l (k+1)=fillB l k:=by rw [fillB,if_pos HPAR.out]
             refine ⟨HFV.out.1.grown H9.out.1 HFV.out.1.size (fun j e=>by cases e;omega),(H9.out.1.block _ (jB HFV.out.2.1) (by intro e;have:=jI e;omega)).trans HFV.out.2.1,?_⟩
             rw [eA,eB]
             exact H9.out.2.weaken fun j hj=>by
              rcases hj with hj|hj
              · exact hj.1
              · have:=HFV.out.1.size;exact ⟨by omega,by omega⟩
            case measure=>simp [intOf];omega
         · have hp1:k % 2=1:=by omega
           rw [hp1] at e2
           have HPAR:=hid hpar
           clear hpar hp1
           go_upto_region 14 with (fail)
           clear e2
           apply wp_region_growa 9 (fun w1 w2=>w1.grownBy w2 (some (g))) [57,58,59,60,61,62,56,63,64]
            [fun _ u _=>u=.agg #[.slice a1 2 c1,.slice a2 2 c2],
             fun _ u _=>u=.agg #[.int .i64 (fillT X).kind,.int .i64 (fillT X).n,.string (fillT X).s],
             fun _ u _=>u=.agg #[.int .i64 (fillV X).kind,.int .i64 (fillV X).n,.string (fillV X).s],
             fun _ u w'=>NewTwoV V.heap.size (fillT X) (fillV X) u w',
             fun _ u w'=>InsAt V.heap.size sU (fillT X) (fillV X) u w',
             fun _ u w'=>DidAt (fun k=>((w.heap.size<k/\k ≠ g)/\k<wr.heap.size) \/ V.heap.size<=k) (fillA l k) (fillB l k ++ [[fillT X,fillV X]]) u w',
             fun _ u w'=>DidAt (fun k=>((w.heap.size<k/\k ≠ g)/\k<wr.heap.size) \/ V.heap.size<=k) (fillA l k) (fillB l k ++ [[fillT X,fillV X]]) u w',
             fun _ u w'=>NowAt (fun k=>((w.heap.size<k/\k ≠ g)/\k<wr.heap.size) \/ V.heap.size<=k) (fillA l k) (fillB l k ++ [[fillT X,fillV X]]) u w',
             fun _ _ _=>True,
             fun _ _ _=>True]
            (fun w'=>V.grownBy w' (some (g))) (Below V.heap.size V) (BoxAt (g) (fun k=>((w.heap.size<k/\k ≠ g)/\k<wr.heap.size) \/ V.heap.size<=k) (fillA l k) (fillB l k ++ [[fillT X,fillV X]]))
           case hF =>
            intro v
            simp only [setAll,List.foldl_cons,List.foldl_nil,Act.put,List.setIfInBounds_toArray,List.set_cons_succ,List.set_cons_zero]
            exact rfl
           case hm=>kernel_rfl
           case hB=>kernel_rfl
           case hsz=>kernel_rfl
           case hR=>exact fun w1 w2 h=>grownBy_of_below _ h
           case hC=>exact fun w1 w2 h b=>grown_tra h b
           case hCp=>exact fun w1 w2 h b=>h.trans (b.mono h.size)
           case hDm=>exact fun w1 w2 h b=>h.below b
           case hw=>exact grownBy_of_below _ (Below.drew b0R)
           case hwp=>exact Below.drew b0R
           case hS =>
            intro D hD v u
            simp only [List.mem_cons,List.not_mem_nil,or_false] at hD
            rcases hD with rfl|rfl|rfl|rfl|rfl|rfl|rfl|rfl|rfl|rfl
            · exact fun w1 w2 h _=>h
            · exact fun w1 w2 h _=>h
            · exact fun w1 w2 h _=>h
            · exact fun w1 w2 h hb=>h.grown (by exact jB G.out) hb
            · exact fun w1 w2 h hb=>h.grown (by exact jB G.out) hb
            · exact fun w1 w2 h hb=>h.grown ((fun h=>h.elim (fun h=>h.1.2 rfl) (fun h=>absurd h (Nat.not_le.2 (jB G.out))))) hb
            · exact fun w1 w2 h hb=>h.grown ((fun h=>h.elim (fun h=>h.1.2 rfl) (fun h=>absurd h (Nat.not_le.2 (jB G.out))))) hb
            · exact fun w1 w2 h hb=>h.grown ((fun h=>h.elim (fun h=>h.1.2 rfl) (fun h=>absurd h (Nat.not_le.2 (jB G.out))))) hb
            · exact fun w1 w2 h _=>h
            · exact fun w1 w2 h _=>h
           case hob =>
            apply growr_ahead rfl (by kernel_rfl)
            · intro v w1 h1 hp hd
              clear hd
              have q0:=(hp.block _ (jB G.out)).trans G.out
              have x0:=jC q0 0
              have x1:=jC q0 1
              simp only [gT,gZ,gS] at x0 x1
              clear q0
              clear h1 hp
              go_wp2_with fail
              first|exact Below.refl _ _|exact ⟨Below.refl _ _,rfl⟩|exact ⟨rfl,Below.refl _ _⟩
            apply growr_cons rfl
            · intro v w1 h1 hd
              clear hd
              have q0:=(h1.block _ (jB VQ7.out) (by intro e;have e1:=jI e;have:=HQ6.out;have:=HQ7.out;omega)).trans VQ7.out
              have x0:=jC q0 0
              have x1:=jC q0 1
              have x2:=jC q0 2
              simp only [gT,gZ,gS] at x0 x1 x2
              clear q0
              clear h1
              go_wp2_with fail
              first|exact Below.refl _ _|exact ⟨Below.refl _ _,rfl⟩|exact ⟨rfl,Below.refl _ _⟩
            apply growr_cons rfl
            · intro v w1 h1 hd
              clear hd
              have q0:=(h1.block _ (jB VQ6.out) (by intro e;have e1:=jI e;have:=HQ6.out;omega)).trans VQ6.out
              have x0:=jC q0 0
              have x1:=jC q0 1
              have x2:=jC q0 2
              simp only [gT,gZ,gS] at x0 x1 x2
              clear q0
              clear h1
              go_wp2_with fail
              first|exact Below.refl _ _|exact ⟨Below.refl _ _,rfl⟩|exact ⟨rfl,Below.refl _ _⟩
            apply growr_cons rfl
            · intro v w1 h1 hd
              have g1:v 58=.agg #[.int .i64 (fillT X).kind,.int .i64 (fillT X).n,.string (fillT X).s]:=hd 1 _ _ _ rfl rfl rfl rfl
              have g2:v 59=.agg #[.int .i64 (fillV X).kind,.int .i64 (fillV X).n,.string (fillV X).s]:=hd 2 _ _ _ rfl rfl rfl rfl
              clear hd
              rw [g1,g2]
              have HSW:=hid h1.size
              clear g1 g2 h1
              go_wp2_with fail
              have hb3:Below w1.heap.size w1 (w1.alloc (.cells #[.int .i64 (fillT X).kind,.int .i64 (fillT X).n,.string (fillT X).s,.int .i64 (fillV X).kind,.int .i64 (fillV X).n,.string (fillV X).s] 55)):=(b0R).alloc (jR _) _
              first|exact ⟨hb3,w1.heap.size,rfl,HSW.out,heap_alloc_new _ _⟩|exact ⟨⟨w1.heap.size,rfl,HSW.out,heap_alloc_new _ _⟩,hb3⟩
            apply growr_cons rfl
            · intro v w1 h1 hd
              obtain ⟨gq,g3,hg1,hg2⟩:NewTwoV V.heap.size (fillT X) (fillV X) (v 60) w1:=hd 3 _ _ _ rfl rfl rfl rfl
              clear hd
              rw [g3]
              have HG:=hid (show _/\_ from ⟨hg1,hg2⟩)
              have con:=lins_any sU (some ⟨gq,0,none⟩) 2 2 w1
              clear g3 hg1 hg2 h1
              go_wp2_with fail
              refine con.mono ?_
              rintro e w2 ⟨rfl,b2⟩
              have B2:=hid b2
              have R2:=hid (show InsAt V.heap.size sU (fillT X) (fillV X) _ w2 from ⟨gq,rfl,HG.out.1,(b2.block _ (jB HG.out.2)).trans HG.out.2⟩)
              clear con b2
              go_wp2_with fail
              first|exact ⟨B2.out,R2.out⟩|exact ⟨R2.out,B2.out⟩
            apply growr_ahead rfl (by kernel_rfl)
            · intro v w1 h1 hp hd
              have g0:v 57=.agg #[.slice a1 2 c1,.slice a2 2 c2]:=hd 0 _ _ _ rfl rfl rfl rfl
              obtain ⟨gq,g4,hg1,hg2⟩:InsAt V.heap.size sU (fillT X) (fillV X) (v 61) w1:=hd 4 _ _ _ rfl rfl rfl rfl
              clear hd
              rw [g0,g4]
              have HSW:=hid hp.size
              have con:=do_two (HT.out.below hp) (ins_at (two_vals (p:=fun _=>True) hg2 trivial)) HI.out (by decide) (ins_small (Nat.le_trans (show (2:Nat)<=2 from jR _) (by decide))) (HKV.out.below hp) ((ins_u (A:=fillA l k) (B:=fillB l k) (fillV_int X) (fillT_text X))).2 (stepA_ins rfl ((ins_u (A:=fillA l k) (B:=fillB l k) (fillV_int X) (fillT_text X))).1) rfl
              clear g0 g4 hg1 hg2 h1 hp
              go_wp2_with fail
              refine con.mono ?_
              rintro e w2 ⟨b1,d1,b2,d2,b3,d3,rfl,bb,tt,_⟩
              have B2:=hid bb
              have R2:=hid (show DidAt (fun k=>((w.heap.size<k/\k ≠ g)/\k<wr.heap.size) \/ V.heap.size<=k) (fillA l k) (fillB l k ++ [[fillT X,fillV X]]) _ w2 from ⟨b1,d1,b2,d2,b3,d3,rfl,tt.weaken fun k hk=>hk.imp id (fun h=>Nat.le_trans HSW.out h)⟩)
              clear con bb tt
              go_wp2_with fail
              first|exact ⟨B2.out,R2.out⟩|exact ⟨R2.out,B2.out⟩
            apply growr_cons rfl
            · intro v w1 h1 hd
              obtain ⟨b1,d1,b2,d2,b3,d3,g5,tt⟩:DidAt (fun k=>((w.heap.size<k/\k ≠ g)/\k<wr.heap.size) \/ V.heap.size<=k) (fillA l k) (fillB l k ++ [[fillT X,fillV X]]) (v 62) w1:=hd 5 _ _ _ rfl rfl rfl rfl
              clear hd
              rw [g5]
              have R2:=hid (show DidAt (fun k=>((w.heap.size<k/\k ≠ g)/\k<wr.heap.size) \/ V.heap.size<=k) (fillA l k) (fillB l k ++ [[fillT X,fillV X]]) _ w1 from ⟨b1,d1,b2,d2,b3,d3,rfl,tt⟩)
              clear g5 tt h1
              go_wp2_with fail
              first|exact ⟨Below.refl _ _,R2.out⟩|exact ⟨R2.out,Below.refl _ _⟩
            apply growr_cons rfl
            · intro v w1 h1 hd
              obtain ⟨b1,d1,b2,d2,b3,d3,g6,tt⟩:DidAt (fun k=>((w.heap.size<k/\k ≠ g)/\k<wr.heap.size) \/ V.heap.size<=k) (fillA l k) (fillB l k ++ [[fillT X,fillV X]]) (v 56) w1:=hd 6 _ _ _ rfl rfl rfl rfl
              clear hd
              rw [g6]
              have R2:=hid (show NowAt (fun k=>((w.heap.size<k/\k ≠ g)/\k<wr.heap.size) \/ V.heap.size<=k) (fillA l k) (fillB l k ++ [[fillT X,fillV X]]) _ w1 from ⟨b1,d1,b2,d2,rfl,tt⟩)
              clear g6 tt h1
              go_wp2_with fail
              first|exact ⟨Below.refl _ _,R2.out⟩|exact ⟨R2.out,Below.refl _ _⟩
            apply growr_cons rfl
            · intro v w1 h1 hd
              obtain ⟨b1,d1,b2,d2,b3,d3,g6,tt⟩:DidAt (fun k=>((w.heap.size<k/\k ≠ g)/\k<wr.heap.size) \/ V.heap.size<=k) (fillA l k) (fillB l k ++ [[fillT X,fillV X]]) (v 56) w1:=hd 6 _ _ _ rfl rfl rfl rfl
              clear hd
              rw [g6]
              clear g6 tt h1
              go_wp2_with fail
              first|exact Below.refl _ _|exact ⟨Below.refl _ _,trivial⟩|exact ⟨trivial,Below.refl _ _⟩
            apply growr_one rfl
            · intro v w1 h1 hp hd
              obtain ⟨b1,d1,b2,d2,g7,tt⟩:NowAt (fun k=>((w.heap.size<k/\k ≠ g)/\k<wr.heap.size) \/ V.heap.size<=k) (fillA l k) (fillB l k ++ [[fillT X,fillV X]]) (v 63) w1:=hd 7 _ _ _ rfl rfl rfl rfl
              clear hd
              rw [g7]
              have hz:=(hp.block _ (jB G.out)).trans G.out
              have m0:=jC hz 0
              have m1:=jC hz 1
              have n0:=free_of hz 0
              have n1:=free_of hz 1
              simp only [gT,gZ,gS] at m0 m1
              have RR:=hid (ret_first (x0:=.slice b1 2 d1) (x1:=.slice b2 2 d2) b0R hz)
              have RT:=hid (tt.keep (w':=(w1.setCell ⟨g,0,none⟩ (.slice b1 2 d1)).setCell ⟨g,1,none⟩ (.slice b2 2 d2)) fun k hk hl=>RR.out.1.block k hl (by intro e;have e1:=jI e;exact absurd (e1 ▸ hk) ((fun h=>h.elim (fun h=>h.1.2 rfl) (fun h=>absurd h (Nat.not_le.2 (jB G.out)))))))
              clear g7 tt h1 hp hz
              go_wp2_with fail
              have hfin:w1.grownBy ((w1.setCell ⟨g,0,none⟩ (.slice b1 2 d1)).setCell ⟨g,1,none⟩ (.slice b2 2 d2)) (some (g))/\BoxAt (g) (fun k=>((w.heap.size<k/\k ≠ g)/\k<wr.heap.size) \/ V.heap.size<=k) (fillA l k) (fillB l k ++ [[fillT X,fillV X]]) ((w1.setCell ⟨g,0,none⟩ (.slice b1 2 d1)).setCell ⟨g,1,none⟩ (.slice b2 2 d2)):=⟨RR.out.1,b1,d1,b2,d2,RR.out.2,RT.out⟩
              first|exact hfin|exact ⟨hfin.2,hfin.1⟩
            exact growr_nil
           case hend =>
            intro v w9 h1 hdm hd
            clear hd
            have H9:=hid (show _/\_ from ⟨h1,hdm⟩)
            clear h1 hdm
            go_wp2_with fail
            go_roundw
            case rel =>
             refine ⟨k+1,by omega,by omega,by go_num,hid ?_⟩
             have hgw:=jB G.out
             have hgg:=HG.out
             have eA:fillA l (k+1)=fillA l k:=by rw [fillA,if_neg HPAR.out]
             have eB:fillB l (k+1)=fillB l k ++ [[fillT X,fillV X]]:=by rw [fillB,if_neg HPAR.out,HX.out]
             refine ⟨HFV.out.1.grown H9.out.1 HFV.out.1.size (fun j e=>by cases e;omega),(H9.out.1.block _ (jB HFV.out.2.1) (by intro e;have:=jI e;omega)).trans HFV.out.2.1,?_⟩
             rw [eA,eB]
             exact H9.out.2.weaken fun j hj=>by
              rcases hj with hj|hj
              · exact hj.1
              · have:=HFV.out.1.size;exact ⟨by omega,by omega⟩
            case measure=>simp [intOf];omega
    · have hk:k=48:=by omega
      have HM:=hid (show fillM l=k from by unfold fillM;split <;> omega)
      clear hk
      obtain ⟨a1,c1,a2,c2,hbox,htwo⟩:=HF.out.2.2
      have HT:=hid htwo
      have G:=hid hbox
      have BF:=hid HF.out.1
      have HQF:=hid HF.out.2.1
      have x0:=jC hbox 0
      have x1:=jC hbox 1
      have g0:=jC HF.out.2.1 0
      have g1:=jC HF.out.2.1 1
      have e0:=free_of HF.out.2.1 0
      have e1:=free_of HF.out.2.1 1
      simp only [gT,gZ,gS] at x0 x1 g0 g1
      have HB:=hid (stbox_put (x0:=.slice a1 2 c1) (x1:=.slice a2 2 c2) HF.out.2.1)
      clear hbox htwo HF
      go_wp2_with fail
      refine bodyPost_ret (results_cell1 rfl _ _ w.heap.size 27 _ (0,0) _ rfl HB.out Tryz.underlying27 rfl (by kernel_rfl)) rfl ?_
      rw [HM.out]
      exact ⟨_,_,_,_,rfl,(BF.out.setCell (p:=⟨w.heap.size,0,none⟩) (jR _) _).setCell (p:=⟨w.heap.size,1,none⟩) (jR _) _,(HT.out.keep fun j hj _=>(heap_setCell_other _ _ _ _ (by have:=hj.1;simp;omega)).trans (heap_setCell_other _ _ _ _ (by have:=hj.1;simp;omega))).weaken fun j hj=>Nat.le_of_lt hj.1⟩
  · have hk:k=l.length:=by omega
    have HM:=hid (show fillM l=k from by unfold fillM;rw [if_pos (by omega),hk])
    clear hk
    obtain ⟨a1,c1,a2,c2,hbox,htwo⟩:=HF.out.2.2
    have HT:=hid htwo
    have G:=hid hbox
    have BF:=hid HF.out.1
    have HQF:=hid HF.out.2.1
    have x0:=jC hbox 0
    have x1:=jC hbox 1
    have g0:=jC HF.out.2.1 0
    have g1:=jC HF.out.2.1 1
    have e0:=free_of HF.out.2.1 0
    have e1:=free_of HF.out.2.1 1
    simp only [gT,gZ,gS] at x0 x1 g0 g1
    have HB:=hid (stbox_put (x0:=.slice a1 2 c1) (x1:=.slice a2 2 c2) HF.out.2.1)
    clear hbox htwo HF
    go_wp2_with fail
    refine bodyPost_ret (results_cell1 rfl _ _ w.heap.size 27 _ (0,0) _ rfl HB.out Tryz.underlying27 rfl (by kernel_rfl)) rfl ?_
    rw [HM.out]
    exact ⟨_,_,_,_,rfl,(BF.out.setCell (p:=⟨w.heap.size,0,none⟩) (jR _) _).setCell (p:=⟨w.heap.size,1,none⟩) (jR _) _,(HT.out.keep fun j hj _=>(heap_setCell_other _ _ _ _ (by have:=hj.1;simp;omega)).trans (heap_setCell_other _ _ _ _ (by have:=hj.1;simp;omega))).weaken fun j hj=>Nat.le_of_lt hj.1⟩
end
section
open Go.RowKit
end
section
open Go.RowKit
def SBox (w:World) (k:Nat):Prop:=∃ x1 n1 y1 x2 n2 y2,w.heap[k]? = some (.cells #[.slice x1 n1 y1,.slice x2 n2 y2] 27 (0,0))/\n1 ≠ 1/\n2 ≠ 1
def RS (S:Nat) (w w':World):Prop:=Below w.heap.size w w' \/ ∃ k,S<=k/\SBox w k/\SBox w' k/\w.grownBy w' (some k)
theorem RS.other {S j:Nat} {w w':World} {cs:Array Value} {T:TypeId} {fz:Nat × Nat} (h:RS S w w') (hj:w.heap[j]? = some (.cells cs T fz)) (hT:T ≠ 27):w'.heap[j]? = some (.cells cs T fz):=by
 rcases h with h|⟨k,_,⟨_,_,_,_,_,_,h2,_⟩,_,h4⟩
 · exact (h.block _ (jB hj)).trans hj
 · refine (h4.block _ (jB hj) (fun e=>?_)).trans hj
   rw [jI e,h2] at hj
   simp at hj
   exact hT hj.2.1.symm
theorem RS.base {S:Nat} {V w w':World} (hV:S<=V.heap.size) (h:Below S V w) (hr:RS S w w'):Below S V w':=by
 rcases hr with hr|⟨k,h1,_,_,h4⟩
 · exact h.trans (hr.mono (Nat.le_trans hV h.size))
 · exact h.grown h4 (Nat.le_trans hV h.size) (fun j e=>by cases e;exact h1)
theorem SBox.rs {S j:Nat} {w w':World} (h:SBox w j) (hr:RS S w w'):SBox w' j:=by
 rcases hr with hr|⟨k,_,h2,h3,h4⟩
 · obtain ⟨x1,n1,y1,x2,n2,y2,e,z⟩:=h
   exact ⟨x1,n1,y1,x2,n2,y2,(hr.block _ (jB e)).trans e,z⟩
 · by_cases hjk:j=k
   · rw [hjk];exact h3
   · obtain ⟨x1,n1,y1,x2,n2,y2,e,z⟩:=h
     exact ⟨x1,n1,y1,x2,n2,y2,(h4.block _ (jB e) (fun e=>hjk (jI e))).trans e,z⟩
def NewB (S:Nat) (cs:Array Value) (T:TypeId) (u:Value) (w:World):Prop:=∃ q,u=.slice (some ⟨q,0,none⟩) 1 1/\S<=q/\w.heap[q]? = some (.cells cs T (0,0))
theorem NewB.rs {S S':Nat} {cs:Array Value} {T:TypeId} {u:Value} {w w':World} (hT:T ≠ 27) (h:NewB S' cs T u w) (hr:RS S w w'):NewB S' cs T u w':=by
 obtain ⟨q,h1,h2,h3⟩:=h
 exact ⟨q,h1,h2,hr.other h3 hT⟩
def RowOne (v:Val) (rb ro:Nat) (w:World):Prop:=∃ b2 o2 c2,w.cell? ⟨rb,ro,none⟩=some (.slice (some ⟨b2,o2,none⟩) 1 c2)/\w.cell? ⟨b2,o2,none⟩=some (.int .i64 v.kind)/\w.cell? ⟨b2,o2+1,none⟩=some (.int .i64 v.n)/\w.cell? ⟨b2,o2+2,none⟩=some (.string v.s)
theorem RowOne.below {v:Val} {rb ro:Nat} {w w':World} (h:RowOne v rb ro w) (hb:Below w.heap.size w w'):RowOne v rb ro w':=by
 obtain ⟨b2,o2,c2,h0,h1,h2,h3⟩:=h
 have l0:=World.block_lt_of_cell? w _ h0
 have l1:=World.block_lt_of_cell? w _ h1
 exact ⟨b2,o2,c2,(hb.cell (p:=⟨rb,ro,none⟩) l0).trans h0,(hb.cell (p:=⟨b2,o2,none⟩) l1).trans h1,(hb.cell (p:=⟨b2,o2+1,none⟩) l1).trans h2,(hb.cell (p:=⟨b2,o2+2,none⟩) l1).trans h3⟩
theorem RowOne.grown {v:Val} {rb ro k:Nat} {w w':World} (h:RowOne v rb ro w) (hg:w.grownBy w' (some k)) (h1:∀ o x c,w.cell? ⟨k,o,none⟩ ≠ some (.slice x 1 c)) (h2:∀ o s,w.cell? ⟨k,o,none⟩ ≠ some (.string s)):RowOne v rb ro w':=by
 obtain ⟨b2,o2,c2,e0,e1,e2,e3⟩:=h
 have n1:rb ≠ k:=by rintro rfl;exact h1 _ _ _ e0
 have n2:b2 ≠ k:=by rintro rfl;exact h2 _ _ e3
 have l0:=World.block_lt_of_cell? w _ e0
 have l1:=World.block_lt_of_cell? w _ e1
 have k0:=hg.block rb l0 (fun e=>n1 (jI e))
 have k1:=hg.block b2 l1 (fun e=>n2 (jI e))
 exact ⟨b2,o2,c2,(World.cell?_of_block (a:=⟨rb,ro,none⟩) k0).trans e0,(World.cell?_of_block (a:=⟨b2,o2,none⟩) k1).trans e1,(World.cell?_of_block (a:=⟨b2,o2+1,none⟩) k1).trans e2,(World.cell?_of_block (a:=⟨b2,o2+2,none⟩) k1).trans e3⟩
theorem sbox_cell {w:World} {k:Nat} (h:SBox w k):(∀ o x c,w.cell? ⟨k,o,none⟩ ≠ some (.slice x 1 c))/\∀ o s,w.cell? ⟨k,o,none⟩ ≠ some (.string s):=by
 obtain ⟨x1,n1,y1,x2,n2,y2,e,z1,z2⟩:=h
 have hc:=fun o=>jC e o
 refine ⟨fun o x c ho=>?_,fun o s ho=>?_⟩ <;> rw [hc o] at ho <;> rcases o with _|_|o <;> simp at ho
 · exact z1 ho.2.1
 · exact z2 ho.2.1
theorem RowOne.rs {S:Nat} {v:Val} {rb ro:Nat} {w w':World} (h:RowOne v rb ro w) (hr:RS S w w'):RowOne v rb ro w':=by
 rcases hr with hr|⟨k,_,h2,_,h4⟩
 · exact h.below hr
 · exact h.grown h4 (sbox_cell h2).1 (sbox_cell h2).2
theorem ans_cell {w:World} {k:Nat} {i j:Int} (e:w.heap[k]? = some (.cells #[.int .i64 i,.slice none 0 0,.int .i64 j] 43 (0,0))):(∀ o x c,w.cell? ⟨k,o,none⟩ ≠ some (.slice x 1 c))/\∀ o s,w.cell? ⟨k,o,none⟩ ≠ some (.string s):=by
 have hc:=fun o=>jC e o
 refine ⟨fun o x c ho=>?_,fun o s ho=>?_⟩ <;> rw [hc o] at ho <;> rcases o with _|_|_|o <;> simp at ho
theorem rows_cells {p:Nat->Prop} {w:World} {a:Option Addr} {n c:Nat} {R:List (List Val)} (h:SlV rowR p w (.slice a n c) R) (hn:0<R.length):∃ b o,a=some ⟨b,o,none⟩/\∀ i (hi:i<R.length) (v:Val),R[i]=[v]->RowOne v b (o+i) w:=by
 obtain ⟨rfl,_,_,hrow⟩:=h.row
 obtain ⟨b,o,rfl,_,_⟩:=hrow.addr (by intro e;rw [e] at hn;cases hn)
 refine ⟨b,o,rfl,fun i hi v hv=>?_⟩
 obtain ⟨ra,rc,h0,hr⟩:=hrow.lst i hi
 rw [hv] at hr h0
 obtain ⟨_,_,_,hrow2⟩:=hr.row
 obtain ⟨b2,o2,rfl,_,_⟩:=hrow2.addr (by simp)
 obtain ⟨v0,v1,v2⟩:=hrow2.val 0 (by simp)
 exact ⟨b2,o2,rc,by simpa using h0,by simpa using v0,by simpa using v1,by simpa using v2⟩
theorem one_str {p:Nat->Prop} {g:Nat} {s:ByteArray} {w:World} (h:w.heap[g]? = some (.cells #[.string s] 9 (0,0))) (hp:p g):SlV strF p w (.slice (some ⟨g,0,none⟩) 1 1) [s]:=by
 refine ⟨some ⟨g,0,none⟩,1,rfl,jR _,by simp,Or.inr ⟨g,0,rfl,hp,Live.of_block h,fun i hi=>?_⟩⟩
 obtain rfl:i=0:=by simp at hi;omega
 refine ⟨strEnc s,fun j hj=>?_,rfl⟩
 have e:strF.sz=1:=rfl
 rw [e] at hj ⊢
 obtain rfl:j=0:=by omega
 simpa [strEnc] using jC h 0
theorem one_cond {p:Nat->Prop} {g:Nat} {c:Cond} {w:World} (h:w.heap[g]? = some (.cells #[.string c.col,.int .i64 c.op,.int .i64 c.val.kind,.int .i64 c.val.n,.string c.val.s] 60 (0,0))) (hp:p g):SlV condR p w (.slice (some ⟨g,0,none⟩) 1 1) [c]:=by
 refine ⟨some ⟨g,0,none⟩,1,rfl,jR _,by simp,Or.inr ⟨g,0,rfl,hp,Live.of_block h,fun i hi=>?_⟩⟩
 obtain rfl:i=0:=by simp at hi;omega
 refine ⟨condEnc c,fun j hj=>?_,rfl⟩
 have e:condR.sz=5:=rfl
 rw [e] at hj ⊢
 have:=jC h j
 simp only [Nat.zero_mul,Nat.zero_add]
 rw [this]
 simp [condEnc]
theorem one_set {p:Nat->Prop} {g:Nat} {c:SetV} {w:World} (h:w.heap[g]? = some (.cells #[.string c.col,.string c.col2,.int .i64 c.val.kind,.int .i64 c.val.n,.string c.val.s] 81 (0,0))) (hp:p g):SlV setR p w (.slice (some ⟨g,0,none⟩) 1 1) [c]:=by
 refine ⟨some ⟨g,0,none⟩,1,rfl,jR _,by simp,Or.inr ⟨g,0,rfl,hp,Live.of_block h,fun i hi=>?_⟩⟩
 obtain rfl:i=0:=by simp at hi;omega
 refine ⟨setEnc c,fun j hj=>?_,rfl⟩
 have e:setR.sz=5:=rfl
 rw [e] at hj ⊢
 have:=jC h j
 simp only [Nat.zero_mul,Nat.zero_add]
 rw [this]
 simp [setEnc]
theorem san_inv1:Inv (twoS san1 []) 48:=inv_two (fun r hr=>by simp [san1] at hr;rw [hr];rfl) (fun r hr=>absurd hr List.not_mem_nil) (by decide) (by decide)
theorem san_inv2:Inv (twoS san2 []) 48:=inv_two (fun r hr=>by simp [san2] at hr;rcases hr with rfl|rfl <;> rfl) (fun r hr=>absurd hr List.not_mem_nil) (by decide) (by decide)
end
section
open Go.RowKit
def Val.tiny (v:Val):Prop:=v.s.size<=1
theorem xyz_tiny (k:Nat) (hk:k<3):((⟨#[120,121,122]⟩:ByteArray).extract k (k+1)).size<=1:=by
 rcases (show k=0 \/ k=1 \/ k=2 by omega) with rfl|rfl|rfl <;> decide
theorem xyz_int (y:Int) (h0:0<=y) (h1:y<3):((⟨#[120,121,122]⟩:ByteArray).extract y.toNat (y+1).toNat).size<=1:=by
 rw [show (y+1).toNat=y.toNat+1 by omega]
 exact xyz_tiny _ (by omega)
theorem mval_any (x:Int) (h0:0<=x) (h1:x<=65535) (w:World):Calls Tryz.prog 81 #[.int .i64 x] w fun e w'=>(∃ v:Val,e=.returned (.agg #[.int .i64 v.kind,.int .i64 v.n,.string v.s])/\v.tiny)/\Below w.heap.size w w':=by
 have hm7:0<=x % 7/\x % 7<7:=⟨Int.emod_nonneg _ (by decide),Int.emod_lt_of_pos _ (by decide)⟩
 go_enter Tryz.func81,Tryz.ntmps81
 go_upto_region 1 with (fail)
 generalize hW:World.alloc _ _=W
 have hb:Below w.heap.size w W:=by rw [<- hW];exact (b0R).alloc (jR _) _
 have hq:W.heap[w.heap.size]? = some (.cells #[.int .i64 0,.int .i64 0,.string ⟨#[]⟩] 55 (0,0)):=by rw [<- hW];exact heap_alloc_new _ _
 have HQ:=hid hq
 have BW:=hid hb
 have g0:=jC hq 0
 have g1:=jC hq 1
 have g2:=jC hq 2
 have e0:=free_of hq 0
 have e1:=free_of hq 1
 have e2:=free_of hq 2
 simp only [gT,gZ,gS] at g0 g1 g2
 clear hW hq hb
 go_wp2_with fail
 all_goals
  refine bodyPost_ret (results_cell1 rfl _ _ w.heap.size 55 _ (0,0) _ rfl (vstored_at HQ.out) Tryz.underlying55 rfl (by kernel_rfl)) rfl ?_
  refine ⟨?_,((BW.out.setCell (p:=⟨w.heap.size,0,none⟩) (jR _) _).setCell (p:=⟨w.heap.size,1,none⟩) (jR _) _).setCell (p:=⟨w.heap.size,2,none⟩) (jR _) _⟩
  first
  | exact ⟨⟨2,0,_⟩,rfl,xyz_int (x / 7 % 3) (Int.emod_nonneg _ (by decide)) (Int.emod_lt_of_pos _ (by decide))⟩
  | exact ⟨⟨_,_,noStr⟩,rfl,Nat.zero_le _⟩
end
section
open Go.RowKit
structure OkSt (st:Stmt):Prop where
 kind:2<=st.kind/\st.kind<=7
 cols:st.cols=[]
 mode:st.mode=0
 n:st.n=0
 len:st.names.length<=3/\st.row.length<=3/\st.sets.length<=3/\st.wher.length<=3/\st.order.length<=3
 str:st.table.size<=1/\st.name.size<=1/\st.join.size<=1/\st.left.size<=1/\st.right.size<=1
 nm:(∀ s ∈ st.names,s.size<=1)/\∀ s ∈ st.order,s.size<=1
 row:∀ v ∈ st.row,v.tiny
 sets:∀ x ∈ st.sets,x.col.size<=1/\x.col2.size<=1/\x.val.tiny
 wher:∀ c ∈ st.wher,c.col.size<=1/\c.val.tiny
def Lst {α:Type} (R:Rep α) (q:Nat) (w:World) (a:Option Addr) (c:Nat) (L:List α):Prop:=SlV R (fun k=>q<k) w (.slice a L.length c) L/\(L=[]->a=none/\c=0)
theorem Lst.nil {α:Type} {R:Rep α} {q:Nat} {w:World}:Lst R q w none 0 ([]:List α):=⟨nil_sl,fun _=>⟨rfl,rfl⟩⟩
theorem Lst.grown {α:Type} {R:Rep α} {q:Nat} {w w':World} {a:Option Addr} {c:Nat} {L:List α} (h:Lst R q w a c L) (hg:w.grownBy w' (some q)):Lst R q w' a c L :=
 ⟨h.1.keep fun k hk hl=>hg.block k hl (fun e=>by have:=jI e;omega),h.2⟩
theorem Lst.own {α:Type} {w:World} {base q:Nat} {e:TypeId} {a:Option Addr} {c:Nat} {L:List α} {sz:Nat} {enc:α->List Value} {hl:∀ x,(enc x).length=sz} (h:w.ownsRow base e sz (.slice a L.length c) L.length (L.flatMap enc)) (hq:q<base) (hL:L.length<=3) (hn:L=[]->a=none/\c=0):Lst (flatR sz enc hl) q w a c L:=by
 obtain ⟨a',c',e1,h1,h2,_⟩:=RowAt.of_owns_flat (hl:=hl) (p:=fun k=>q<k) h (fun k hk=>jL hq hk)
 simp only [Value.slice.injEq,true_and] at e1
 obtain ⟨rfl,rfl⟩:=e1
 exact ⟨⟨a,c,rfl,h1,by omega,h2⟩,hn⟩
structure Lsts (q:Nat) (st:Stmt) (a4:Option Addr) (c4:Nat) (a5:Option Addr) (c5:Nat) (a6:Option Addr) (c6:Nat) (a7:Option Addr) (c7:Nat) (a12:Option Addr) (c12:Nat) (w:World):Prop where
 names:Lst strF q w a4 c4 st.names
 row:Lst valR q w a5 c5 st.row
 sets:Lst setR q w a6 c6 st.sets
 wher:Lst condR q w a7 c7 st.wher
 order:Lst strF q w a12 c12 st.order
def stCells (st:Stmt) (a4:Option Addr) (c4:Nat) (a5:Option Addr) (c5:Nat) (a6:Option Addr) (c6:Nat) (a7:Option Addr) (c7:Nat) (a12:Option Addr) (c12:Nat):Array Value :=
 #[.int .i64 st.kind,.string st.table,.string st.name,.slice none 0 0,.slice a4 st.names.length c4,.slice a5 st.row.length c5,.slice a6 st.sets.length c6,.slice a7 st.wher.length c7,.string st.join,.string st.left,.string st.right,.int .i64 st.agg,.slice a12 st.order.length c12,.int .i64 0,.int .i64 0]
def StQ (V:World) (q:Nat) (kd:Int) (w:World):Prop:=∃ st a4 c4 a5 c5 a6 c6 a7 c7 a12 c12,V.grownBy w (some q)/\w.heap[q]? = some (.cells (stCells st a4 c4 a5 c5 a6 c6 a7 c7 a12 c12) 39 (0,0))/\Lsts q st a4 c4 a5 c5 a6 c6 a7 c7 a12 c12 w/\OkSt st/\st.kind=kd
theorem StQ.stmt {p:Nat->Prop} {q:Nat} {st:Stmt} {a4 a5 a6 a7 a12:Option Addr} {c4 c5 c6 c7 c12:Nat} {w:World} (h:Lsts q st a4 c4 a5 c5 a6 c6 a7 c7 a12 c12 w) (ho:OkSt st) (hp:∀ k,q<k->p k):StmtV p w (.agg (stCells st a4 c4 a5 c5 a6 c6 a7 c7 a12 c12)) st:=by
 refine ⟨none,0,a4,c4,a5,c5,a6,c6,a7,c7,a12,c12,?_,?_,h.names.1.weaken hp,h.row.1.weaken hp,h.sets.1.weaken hp,h.wher.1.weaken hp,h.order.1.weaken hp⟩
 · rw [ho.cols,ho.mode,ho.n];rfl
 · rw [ho.cols];exact nil_sl
theorem OkSt.small {st:Stmt} (h:OkSt st):StSmall st:=by
 obtain ⟨h1,h2,h3,h4,h5⟩:=h.len
 have hk:=h.kind
 refine ⟨?_,by rw [h.cols];exact Nat.zero_le _,by omega,by omega,by omega⟩
 rcases (show st.kind=2 \/ st.kind=3 \/ st.kind=4 \/ st.kind=5 \/ st.kind=6 \/ st.kind=7 by omega) with e|e|e|e|e|e <;> rw [e] <;> rfl
def tabs6:Array Value:=#[.string ⟨#[116]⟩,.string ⟨#[117]⟩,.string ⟨#[116]⟩,.string ⟨#[117]⟩,.string ⟨#[116]⟩,.string ⟨#[118]⟩]
def cols6:Array Value:=#[.string ⟨#[97]⟩,.string ⟨#[98]⟩,.string ⟨#[99]⟩,.string ⟨#[100]⟩,.string ⟨#[97]⟩,.string ⟨#[98]⟩]
def mtS (k:Int):ByteArray:=if k=0 \/ k=2 \/ k=4 then ⟨#[116]⟩ else if k=1 \/ k=3 then ⟨#[117]⟩ else ⟨#[118]⟩
def mcS (k:Int):ByteArray:=if k=0 \/ k=4 then ⟨#[97]⟩ else if k=1 \/ k=5 then ⟨#[98]⟩ else if k=2 then ⟨#[99]⟩ else ⟨#[100]⟩
theorem mtS_size (k:Int):(mtS k).size<=1:=by unfold mtS;split <;> (try split) <;> decide
theorem mcS_size (k:Int):(mcS k).size<=1:=by unfold mcS;split <;> (try split) <;> (try split) <;> decide
theorem tab_at {w:World} {q:Nat} {T:TypeId} (h:w.heap[q]? = some (.cells tabs6 T (0,0))) (k:Int) (h0:0<=k) (h1:k<6):w.cell? ⟨q,k.toNat,none⟩=some (.string (mtS k)):=by
 rw [jC h]
 rcases (show k=0 \/ k=1 \/ k=2 \/ k=3 \/ k=4 \/ k=5 by omega) with rfl|rfl|rfl|rfl|rfl|rfl <;> rfl
theorem col_at6 {w:World} {q:Nat} {T:TypeId} (h:w.heap[q]? = some (.cells cols6 T (0,0))) (k:Int) (h0:0<=k) (h1:k<6):w.cell? ⟨q,k.toNat,none⟩=some (.string (mcS k)):=by
 rw [jC h]
 rcases (show k=0 \/ k=1 \/ k=2 \/ k=3 \/ k=4 \/ k=5 by omega) with rfl|rfl|rfl|rfl|rfl|rfl <;> rfl
end
section
open Go.RowKit
def kd12 (k:Int):Int:=if k<4 then 4 else if k<6 then 5 else if k=6 then 6 else if k<10 then 7 else if k=10 then 3 else 2
structure Nums (s:List Int) (i:Nat) (X:List Int):Prop where
 len:X.length=16
 rng:∀ x ∈ X,0<=x/\x<=65535
 one:X.getD 0 0=if i=0 then 0 else s.getD 0 0 % 65536
theorem Nums.start (s:List Int):Nums s 0 (List.replicate 16 0):=⟨rfl,fun x hx=>by rw [List.eq_of_mem_replicate hx];decide,rfl⟩
theorem Nums.step {s X:List Int} {i:Nat} (h:Nums s i X) (hi:i<s.length) (h16:i<16):Nums s (i+1) (X.set i (s[i] % 65536)):=by
 refine ⟨by rw [List.length_set];exact h.len,fun x hx=>?_,?_⟩
 · rcases List.mem_or_eq_of_mem_set hx with hx|rfl
   · exact h.rng x hx
   · omega
 · rw [if_neg (by omega)]
   by_cases h0:i=0
   · subst h0
     have hl:=h.len
     rw [List.getD_eq_getElem?_getD,List.getElem?_set_self (by omega),List.getD_eq_getElem?_getD,List.getElem?_eq_getElem hi]
     rfl
   · have:=h.one
     rw [if_neg h0] at this
     rw [List.getD_eq_getElem?_getD,List.getElem?_set_ne h0,<- List.getD_eq_getElem?_getD]
     exact this
theorem Nums.done {s X:List Int} {i:Nat} (h:Nums s i X) (hi:i=s.length \/ i=16):X.getD 0 0=s.getD 0 0 % 65536:=by
 rw [h.one]
 split
 · rename_i h0
   have:s=[]:=by rcases hi with e|e;exact List.eq_nil_of_length_eq_zero (by omega);omega
   rw [this];rfl
 · rfl
theorem idx12 (k:Int) (h0:0<=k) (h1:k<12) (w:World):Sem.run Tryz.prog (Instr.index 124 (.agg #[.int .i64 4,.int .i64 4,.int .i64 4,.int .i64 4,.int .i64 5,.int .i64 5,.int .i64 6,.int .i64 7,.int .i64 7,.int .i64 7,.int .i64 3,.int .i64 2]) (.int .i64 k)) w=.ok (.int .i64 (kd12 k)) w:=by
 rcases (show k=0 \/ k=1 \/ k=2 \/ k=3 \/ k=4 \/ k=5 \/ k=6 \/ k=7 \/ k=8 \/ k=9 \/ k=10 \/ k=11 by omega) with rfl|rfl|rfl|rfl|rfl|rfl|rfl|rfl|rfl|rfl|rfl|rfl <;> kernel_rfl
def ag8 (k:Int):Int:=if k<4 then 0 else k - 3
theorem idx8 (k:Int) (h0:0<=k) (h1:k<8) (w:World):Sem.run Tryz.prog (Instr.index 126 (.agg #[.int .i64 0,.int .i64 0,.int .i64 0,.int .i64 0,.int .i64 1,.int .i64 2,.int .i64 3,.int .i64 4]) (.int .i64 k)) w=.ok (.int .i64 (ag8 k)) w:=by
 rcases (show k=0 \/ k=1 \/ k=2 \/ k=3 \/ k=4 \/ k=5 \/ k=6 \/ k=7 by omega) with rfl|rfl|rfl|rfl|rfl|rfl|rfl|rfl <;> kernel_rfl
def nS (X:List Int) (j:Int):Int:=X.getD j.toNat 0
theorem nS_bd {X:List Int} (h:∀ x ∈ X,0<=x/\x<=65535) (j:Int):0<=nS X j/\nS X j<=65535:=by
 unfold nS
 rw [List.getD_eq_getElem?_getD]
 cases e:X[j.toNat]? with
 | none=>exact ⟨Int.le_refl _,by decide⟩
 | some x=>exact h x (List.mem_of_getElem? e)
theorem num_at {w:World} {q:Nat} {X:List Int} (hl:X.length=16) (h:w.heap[q]? = some (.cells (X.map (Value.int .i64)).toArray 3 (0,0))) (j:Int) (h0:0<=j) (h1:j<16):w.cell? ⟨q,j.toNat,none⟩=some (.int .i64 (nS X j)):=by
 rw [jC h,List.getElem?_toArray,List.getElem?_map,List.getElem?_eq_getElem (by omega)]
 unfold nS
 rw [List.getD_eq_getElem?_getD,List.getElem?_eq_getElem (by omega)]
 rfl
theorem own_neB {w:World} {B:Nat} {e:TypeId} {sz n:Nat} {v:Value} {xs:List Value} (h:w.ownsRow B e sz v n xs) {k:Nat} (hk:k<B):some k ≠ v.ownBlock:=fun e=>absurd (h.lt k e.symm).1 (Nat.not_le.2 hk)
def NewEl {α:Type} (enc:α->List Value) (ok:α->Prop) (e:TypeId) (S:Nat) (u:Value) (w:World):Prop:=∃ x g,ok x/\u=.slice (some ⟨g,0,none⟩) 1 1/\S<=g/\w.heap[g]? = some (.cells (enc x).toArray e (0,0))
theorem NewEl.grown {α:Type} {enc:α->List Value} {ok:α->Prop} {e:TypeId} {S:Nat} {u:Value} {w w':World} {r:Option Nat} (h:NewEl enc ok e S u w) (hr:∀ b,r=some b->b<S) (hg:w.grownBy w' r):NewEl enc ok e S u w':=by
 obtain ⟨x,g,h1,h2,h3,h4⟩:=h
 exact ⟨x,g,h1,h2,h3,(hg.block _ (jB h4) (fun e=>absurd (hr g e.symm) (Nat.not_lt.2 h3))).trans h4⟩
def AppEl {α:Type} (enc:α->List Value) (ok:α->Prop) (e:TypeId) (sz base n:Nat) (L:List α) (u:Value) (w:World):Prop:=∃ x a c,ok x/\u=.slice a (n+1) c/\w.ownsRow base e sz (.slice a (n+1) c) (n+1) ((L ++ [x]).flatMap enc)
theorem AppEl.below {α:Type} {enc:α->List Value} {ok:α->Prop} {e:TypeId} {sz base n:Nat} {L:List α} {u:Value} {w w':World} (h:AppEl enc ok e sz base n L u w) (hb:Below w.heap.size w w'):AppEl enc ok e sz base n L u w':=by
 obtain ⟨x,a,c,h1,h2,h3⟩:=h
 exact ⟨x,a,c,h1,h2,owns_below h3 hb⟩
def CondOk (c:Cond):Prop:=c.col.size<=1/\c.val.tiny
def SetOk (x:SetV):Prop:=x.col.size<=1/\x.col2.size<=1/\x.val.tiny
def StrOk (s:ByteArray):Prop:=s.size<=1
def ValU (u:Value):Prop:=∃ v:Val,v.tiny/\u=.agg #[.int .i64 v.kind,.int .i64 v.n,.string v.s]
def CondU (u:Value):Prop:=∃ c:Cond,CondOk c/\u=.agg #[.string c.col,.int .i64 c.op,.int .i64 c.val.kind,.int .i64 c.val.n,.string c.val.s]
theorem condEnc_cells (x:Cond):∀ u ∈ condEnc x,u.oneCell'=true:=by
 intro u hu
 simp only [condEnc,List.mem_cons,List.not_mem_nil,or_false] at hu
 rcases hu with rfl|rfl|rfl|rfl|rfl <;> rfl
theorem valEnc_cells (x:Val):∀ u ∈ valEnc x,u.oneCell'=true:=by
 intro u hu
 simp only [valEnc,List.mem_cons,List.not_mem_nil,or_false] at hu
 rcases hu with rfl|rfl|rfl <;> rfl
theorem setEnc_cells (x:SetV):∀ u ∈ setEnc x,u.oneCell'=true:=by
 intro u hu
 simp only [setEnc,List.mem_cons,List.not_mem_nil,or_false] at hu
 rcases hu with rfl|rfl|rfl|rfl|rfl <;> rfl
theorem strEnc_cells (x:ByteArray):∀ u ∈ strEnc x,u.oneCell'=true:=by
 intro u hu
 simp only [strEnc,List.mem_cons,List.not_mem_nil,or_false] at hu
 subst hu;rfl
theorem kd12_bd (k:Int):2<=kd12 k/\kd12 k<=7:=by unfold kd12;split <;> (try split) <;> (try split) <;> (try split) <;> (try split) <;> omega
theorem loop_grow {V wr w9:World} {q:Nat} {r:Option Nat} (h1:V.grownBy wr (some q)) (h2:wr.grownBy w9 r) (hr:∀ b,r=some b->V.heap.size<=b):V.grownBy w9 (some q) :=
 ⟨h2.os.trans h1.os,h2.tape.trans h1.tape,h2.output.trans h1.output,Nat.le_trans h1.size h2.size,fun k hk hn=>(h2.block k (jL hk h1.size) (fun e=>absurd (hr k e.symm) (Nat.not_le.2 hk))).trans (h1.block k hk hn)⟩
theorem ok0 {kd:Int} {tb:ByteArray} {L:List Cond} (hk:2<=kd/\kd<=7) (ht:tb.size<=1) (hl:L.length<=3) (h:∀ c ∈ L,CondOk c):OkSt { stmt0 with kind:=kd,table:=tb,wher:=L } :=
 ⟨hk,rfl,rfl,rfl,⟨Nat.zero_le _,Nat.zero_le _,Nat.zero_le _,hl,Nat.zero_le _⟩,⟨ht,Nat.zero_le _,Nat.zero_le _,Nat.zero_le _,Nat.zero_le _⟩,⟨(fun x hx=>by cases hx),(fun x hx=>by cases hx)⟩,(fun x hx=>by cases hx),(fun x hx=>by cases hx),h⟩
theorem okn {kd:Int} {tb nm jn:ByteArray} (hk:2<=kd/\kd<=7) (ht:tb.size<=1) (h1:nm.size<=1) (h2:jn.size<=1):OkSt { stmt0 with kind:=kd,table:=tb,name:=nm,join:=jn } :=
 ⟨hk,rfl,rfl,rfl,⟨Nat.zero_le _,Nat.zero_le _,Nat.zero_le _,Nat.zero_le _,Nat.zero_le _⟩,⟨ht,h1,h2,Nat.zero_le _,Nat.zero_le _⟩,⟨(fun x hx=>by cases hx),(fun x hx=>by cases hx)⟩,(fun x hx=>by cases hx),(fun x hx=>by cases hx),(fun x hx=>by cases hx)⟩
theorem okr {kd:Int} {tb:ByteArray} {M:List Val} (hk:2<=kd/\kd<=7) (ht:tb.size<=1) (hl:M.length<=3) (h:∀ v ∈ M,v.tiny):OkSt { stmt0 with kind:=kd,table:=tb,row:=M } :=
 ⟨hk,rfl,rfl,rfl,⟨Nat.zero_le _,hl,Nat.zero_le _,Nat.zero_le _,Nat.zero_le _⟩,⟨ht,Nat.zero_le _,Nat.zero_le _,Nat.zero_le _,Nat.zero_le _⟩,⟨(fun x hx=>by cases hx),(fun x hx=>by cases hx)⟩,h,(fun x hx=>by cases hx),(fun x hx=>by cases hx)⟩
theorem oks {kd ag:Int} {tb j l r:ByteArray} {L:List Cond} {M P:List ByteArray} (hk:2<=kd/\kd<=7) (ht:tb.size<=1) (hl:L.length<=3) (h:∀ c ∈ L,CondOk c) (hm:M.length<=3) (h1:∀ x ∈ M,StrOk x) (hp:P.length<=3) (h2:∀ x ∈ P,StrOk x) (hj:j.size<=1) (hl1:l.size<=1) (hr:r.size<=1) :
 OkSt { stmt0 with kind:=kd,table:=tb,wher:=L,names:=M,order:=P,agg:=ag,join:=j,left:=l,right:=r } :=
 ⟨hk,rfl,rfl,rfl,⟨hm,Nat.zero_le _,Nat.zero_le _,hl,hp⟩,⟨ht,Nat.zero_le _,hj,hl1,hr⟩,⟨h1,h2⟩,(fun x hx=>by cases hx),(fun x hx=>by cases hx),h⟩
theorem list16 {X:List Int} (h:X.length=16):∃ x0 x1 x2 x3 x4 x5 x6 x7 x8 x9 x10 x11 x12 x13 x14 x15,X=[x0,x1,x2,x3,x4,x5,x6,x7,x8,x9,x10,x11,x12,x13,x14,x15]:=by
 match X,h with
 | [x0,x1,x2,x3,x4,x5,x6,x7,x8,x9,x10,x11,x12,x13,x14,x15],_=>exact ⟨_,_,_,_,_,_,_,_,_,_,_,_,_,_,_,_,rfl⟩
theorem nums_block {w:World} {q:Nat} {X:List Int} (h:w.ownsRow q 3 1 (.slice (some ⟨q,0,none⟩) 16 16) 16 (X.map (.int .i64))):w.heap[q]? = some (.cells (X.map (Value.int .i64)).toArray 3 (0,0)):=by
 obtain ⟨hl,⟨e1,_⟩|⟨g,cap,cur,e1,_,hg,_,_,hs,ht⟩⟩:=h
 · cases e1
 · simp only [Value.slice.injEq,Option.some.injEq,Addr.mk.injEq,and_true,true_and] at e1
   obtain ⟨rfl,rfl⟩:=e1
   rw [List.take_of_length_le (by rw [Array.length_toList];omega)] at ht
   rw [hg,<- ht]
def NewSt0 (S:Nat) (u:Value) (w:World):Prop:=∃ q,u=.pointer (some ⟨q,0,none⟩)/\S<=q/\w.heap[q]? = some (.cells #[.int .i64 0,.string ⟨#[]⟩,.string ⟨#[]⟩,.slice none 0 0,.slice none 0 0,.slice none 0 0,.slice none 0 0,.slice none 0 0,.string ⟨#[]⟩,.string ⟨#[]⟩,.string ⟨#[]⟩,.int .i64 0,.slice none 0 0,.int .i64 0,.int .i64 0] 39 (0,0))
theorem NewSt0.below {S:Nat} {u:Value} {w w':World} (h:NewSt0 S u w) (hb:Below w.heap.size w w'):NewSt0 S u w':=by
 obtain ⟨q,e,h1,h2⟩:=h
 exact ⟨q,e,h1,(hb.block _ (jB h2)).trans h2⟩
theorem info_mc:(Tryz.prog.info? 60).map (fun i=>(i.zero,i.size,i.bytes))=some (some (.agg #[.string ⟨#[]⟩,.int .i64 0,.int .i64 0,.int .i64 0,.string ⟨#[]⟩]),5,56):=by kernel_rfl
theorem info_mv:(Tryz.prog.info? 55).map (fun i=>(i.zero,i.size,i.bytes))=some (some (.agg #[.int .i64 0,.int .i64 0,.string ⟨#[]⟩]),3,32):=by kernel_rfl
theorem info_mst:(Tryz.prog.info? 9).map (fun i=>(i.zero,i.size,i.bytes))=some (some (.string ⟨#[]⟩),1,16):=by kernel_rfl
theorem info_mse:(Tryz.prog.info? 81).map (fun i=>(i.zero,i.size,i.bytes))=some (some (.agg #[.string ⟨#[]⟩,.string ⟨#[]⟩,.int .i64 0,.int .i64 0,.string ⟨#[]⟩]),5,64):=by kernel_rfl
theorem info_mi:(Tryz.prog.info? 3).map (fun i=>(i.zero,i.size,i.bytes))=some (some (.int .i64 0),1,8):=by kernel_rfl
def condThen (T:Tmp):Code->Option Code
 | .loop c=>condThen T c
 | .seq a b=>match condThen T a with
  | some c=>some c
  | none=>condThen T b
 | .block _ c=>condThen T c
 | .scope c=>condThen T c
 | .cond x a b=>match x with
  | .tmp t=>if t=T then some a else match condThen T a with
   | some c=>some c
   | none=>condThen T b
  | _=>match condThen T a with
   | some c=>some c
   | none=>condThen T b
 | _=>none
end
end Go.Proofs.YtgemihkcihigpaaGreatDoor
