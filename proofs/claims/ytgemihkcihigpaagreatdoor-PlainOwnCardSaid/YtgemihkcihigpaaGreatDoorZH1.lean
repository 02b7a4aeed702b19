/- PlainOwn, plain: a world whose cells keep their kind when rows in new memory are overwritt. -/
import Derived.Test.YtgemihkcihigpaaGreatDoorZD37
import Derived.Test.YtgemihkcihigpaaGreatDoorZD39
set_option linter.unusedVariables false
set_option linter.unusedSimpArgs false
set_option maxRecDepth 100000
set_option maxHeartbeats 64000000
namespace Go.Proofs.YtgemihkcihigpaaGreatDoor
section
open Go.RowKit
def likeV (u v:Value):Prop:=match u with
 | .int k _=>∃ y,v=.int k y
 | .string _=>∃ s,v=.string s
 | u=>v=u
theorem likeV.refl (u:Value):likeV u u:=by
 cases u <;> simp [likeV]
theorem likeV.trans {u v x:Value} (h:likeV u v) (k:likeV v x):likeV u x:=by
 cases u <;> simp only [likeV] at h ⊢
 case int=>obtain ⟨y,rfl⟩:=h;exact k
 case string=>obtain ⟨y,rfl⟩:=h;exact k
 all_goals (subst h;exact k)
structure Kinded (H H1:Nat) (w w':World):Prop where
 os:w'.os=w.os
 tape:w'.tape=w.tape
 output:w'.output=w.output
 size:w'.heap.size=w.heap.size
 out:∀ k,¬ (H<=k/\k<H1)->w'.heap[k]? = w.heap[k]?
 cell:∀ a u,w.cell? a=some u->∃ v,w'.cell? a=some v/\likeV u v
 free:∀ a,w'.frozen? a=w.frozen? a
theorem Kinded.refl {H H1:Nat} (w:World):Kinded H H1 w w:=⟨rfl,rfl,rfl,rfl,fun _ _=>rfl,fun _ u h=>⟨u,h,likeV.refl u⟩,fun _=>rfl⟩
theorem Kinded.set {H H1 b o:Nat} {W w:World} {u x:Value} (h:Kinded H H1 W w) (hb:H<=b/\b<H1) (hc:w.cell? ⟨b,o,none⟩=some u) (hx:likeV u x):Kinded H H1 W (w.setCell ⟨b,o,none⟩ x):=by
 refine ⟨h.os,h.tape,h.output,by rw [<- h.size];simp,fun k hk=>?_,fun a v ha=>?_,fun a=>(World.frozen?_setCell _ _ _ _).trans (h.free a)⟩
 · exact (heap_setCell_other _ _ _ _ (fun e=>hk (by rw [show k=b from e];exact hb))).trans (h.out k hk)
 · obtain ⟨v1,h1,h2⟩:=h.cell a v ha
   by_cases e:(⟨b,o,none⟩:Addr)=a
   · subst e
     rw [hc] at h1
     cases h1
     exact ⟨x,World.cell?_setCell_same _ _ _ hc,h2.trans hx⟩
   · exact ⟨v1,(World.cell?_setCell_other _ _ _ _ e).trans h1,h2⟩
theorem Kinded.below {B H H1:Nat} {w0 W w:World} (hb:Below B w0 W) (h:Kinded H H1 W w) (hB:B<=H):Below B w0 w :=
 ⟨h.os.trans hb.os,h.tape.trans hb.tape,h.output.trans hb.output,by rw [h.size];exact hb.size,fun k hk=>(h.out k (fun e=>by omega)).trans (hb.block k hk)⟩
theorem Kinded.val {H H1 b off:Nat} {p:Nat->Prop} {W w:World} {L:List Val} (h:Kinded H H1 W w) (hr:RowAt valR p W (some ⟨b,off,none⟩) L) (t:Nat) (ht:t<L.length) :
 ∃ x y s,w.cell? ⟨b,off+t * 3,none⟩=some (.int .i64 x)/\w.cell? ⟨b,off+t * 3+1,none⟩=some (.int .i64 y)/\w.cell? ⟨b,off+t * 3+2,none⟩=some (.string s) /\
  w.frozen? ⟨b,off+t * 3,none⟩=false/\w.frozen? ⟨b,off+t * 3+1,none⟩=false/\w.frozen? ⟨b,off+t * 3+2,none⟩=false:=by
 obtain ⟨h1,h2,h3⟩:=hr.val t ht
 obtain ⟨v1,k1,x,rfl⟩:=h.cell _ _ h1
 obtain ⟨v2,k2,y,rfl⟩:=h.cell _ _ h2
 obtain ⟨v3,k3,s,rfl⟩:=h.cell _ _ h3
 have hl:=(hr.live (by intro e;rw [e] at ht;cases ht)).2
 have e3:valR.sz=3:=rfl
 rw [e3] at hl
 exact ⟨x,y,s,k1,k2,k3,(h.free _).trans (hl.free (t * 3) (by omega)),(h.free _).trans (by have:=hl.free (t * 3+1) (by omega);rwa [<- Nat.add_assoc] at this),(h.free _).trans (by have:=hl.free (t * 3+2) (by omega);rwa [<- Nat.add_assoc] at this)⟩
theorem Kinded.put {H H1 b off:Nat} {p:Nat->Prop} {W w:World} {L:List Val} {x y:Int} {s:ByteArray} (h:Kinded H H1 W w) (hr:RowAt valR p W (some ⟨b,off,none⟩) L) (hp:p b->H<=b/\b<H1) (t:Nat) (ht:t<L.length) :
 Kinded H H1 W (((w.setCell ⟨b,off+t * 3,none⟩ (.int .i64 x)).setCell ⟨b,off+t * 3+1,none⟩ (.int .i64 y)).setCell ⟨b,off+t * 3+2,none⟩ (.string s)):=by
 obtain ⟨x0,y0,s0,h1,h2,h3,_⟩:=h.val hr t ht
 have hb:=hp (hr.live (by intro e;rw [e] at ht;cases ht)).1
 have n1:(⟨b,off+t * 3,none⟩:Addr) ≠ ⟨b,off+t * 3+1,none⟩:=fun e=>by have:=congrArg Addr.off e;simp at this
 have n2:(⟨b,off+t * 3,none⟩:Addr) ≠ ⟨b,off+t * 3+2,none⟩:=fun e=>by have:=congrArg Addr.off e;simp at this
 have n3:(⟨b,off+t * 3+1,none⟩:Addr) ≠ ⟨b,off+t * 3+2,none⟩:=fun e=>by have:=congrArg Addr.off e;simp at this
 exact ((h.set hb h1 ⟨x,rfl⟩).set hb ((World.cell?_setCell_other _ _ _ _ n1).trans h2) ⟨y,rfl⟩).set hb ((World.cell?_setCell_other _ _ _ _ n3).trans ((World.cell?_setCell_other _ _ _ _ n2).trans h3)) ⟨s,rfl⟩
theorem not_leans {s:StV} {st:Stmt} (hk:2<=st.kind/\st.kind<=7) (h7:st.kind ≠ 7) (he:(stepA s st).err=0):¬ (stepE s st ≠ 0 \/ ¬ (st.kind=1 \/ st.kind=2 \/ st.kind=3 \/ st.kind=4 \/ st.kind=5 \/ st.kind=6)):=by
 rintro (h|h)
 · rw [stepA_err h] at he
   exact h he
 · exact h (by omega)
theorem stepE_other {s:StV} {st:Stmt} (h:¬ (1<=st.kind/\st.kind<=7)):stepE s st=0:=by
 unfold stepE
 rw [if_neg (by omega),if_neg (by omega),if_neg (by omega),if_neg (by omega)]
theorem stepS_other {s:StV} {st:Stmt} (h:¬ (1<=st.kind/\st.kind<=7)):stepS s st=s:=by
 unfold stepS
 rw [stepE_other h,if_neg (by omega),if_neg (by omega),if_neg (by omega),if_neg (by omega)]
theorem stepA_other {s:StV} {st:Stmt} (h:¬ (1<=st.kind/\st.kind<=7)):stepA s st=ans0:=by
 unfold stepA
 rw [stepE_other h,if_neg (by omega),if_neg (by omega),if_neg (by omega),if_neg (by omega)]
def otherS (k:Int):Stmt:=⟨k,⟨#[116]⟩,⟨#[120]⟩,[],[],[],[],[],noStr,noStr,noStr,0,[],0,0⟩
theorem other_small {k:Int} (h:(Lit.int .i64 k).wf=true):StSmall (otherS k):=⟨h,Nat.zero_le _,Nat.zero_le _,Nat.zero_le _,Nat.zero_le _⟩
end
open Go.Lib (hid)
section
open Go.RowKit
def FilledU (A B:List (List Val)) (u:Value) (w:World):Prop:=∃ x1 y1 x2 y2,u=.agg #[.slice x1 2 y1,.slice x2 2 y2]/\TwoAt (fun _=>True) w x1 y1 x2 y2 A B
theorem FilledU.below {A B:List (List Val)} {u:Value} {w w':World} (h:FilledU A B u w) (hb:Below w.heap.size w w'):FilledU A B u w':=by
 obtain ⟨x1,y1,x2,y2,e,h1⟩:=h
 exact ⟨x1,y1,x2,y2,e,h1.below hb⟩
theorem inv_rowsO {A B:List (List Val)} (h:Inv (twoS A B) 48):∀ L ∈ (twoS A B).rows,L.length<=1000000/\∀ r ∈ L,r.length<=1000000:=fun L hL=>⟨(h.small (by decide)).2.1 L hL,(h.small (by decide)).2.2 L hL⟩
theorem other_at {p:Nat->Prop} {w:World} {k:Int}:StmtV p w (.agg #[.int .i64 k,.string ⟨#[116]⟩,.string ⟨#[120]⟩,.slice none 0 0,.slice none 0 0,.slice none 0 0,.slice none 0 0,.slice none 0 0,.string noStr,.string noStr,.string noStr,.int .i64 0,.slice none 0 0,.int .i64 0,.int .i64 0]) (otherS k) :=
 ⟨none,0,none,0,none,0,none,0,none,0,none,0,rfl,nil_sl,nil_sl,nil_sl,nil_sl,nil_sl,nil_sl⟩
theorem own_do {p p':Nat->Prop} {s:StV} {st:Stmt} {sv stv:Value} {n nt nr na:Nat} {w:World} {TT:List Tab} {RW:List (List (List Val))} {AR:List (List Val)} {er nn:Int} (hs:StAt p w sv s) (hst:StmtV p' w stv st) (hI:Inv s n) (hn:n<=999999) (hS:StSmall st) (hK:KindsAt w)
 (h1:stepS s st=⟨TT,RW⟩) (h2:stepA s st=⟨er,AR,nn⟩) (n1:TT.length=nt) (n2:RW.length=nr) (n3:AR.length=na) :
 Calls Tryz.prog 15 #[sv,stv] w fun e w'=>∃ e1 f1 e2 f2 e3 f3,e=.returned (.tuple #[.agg #[.slice e1 nt f1,.slice e2 nr f2],.agg #[.int .i64 er,.slice e3 na f3,.int .i64 nn]])/\Below w.heap.size w w' /\
  SlV rowsR (fun k=>(Leans s st/\p k) \/ w.heap.size<=k) w' (.slice e2 nr f2) RW/\SlV rowR (fun k=>w.heap.size<=k) w' (.slice e3 na f3) AR:=by
 have con:=do_any hs hst hI hn hS hK
 rw [h1,h2] at con
 refine con.mono ?_
 rintro e w' ⟨sv',av,rfl,hb,⟨e1,f1,e2,f2,rfl,_,k2⟩,e3,f3,rfl,k3⟩
 subst n1
 subst n2
 subst n3
 exact ⟨e1,f1,e2,f2,e3,f3,rfl,hb,k2,k3⟩
theorem Kinded.slc {H H1:Nat} {W w:World} {ad:Addr} {a:Option Addr} {n c:Nat} (h:Kinded H H1 W w) (hc:W.cell? ad=some (.slice a n c)):w.cell? ad=some (.slice a n c):=by
 obtain ⟨v,h3,h4⟩:=h.cell _ _ hc
 simp only [likeV] at h4
 rw [h3,h4]
theorem own_walk {p pq:Nat->Prop} {al aq:Option Addr} {cl cq:Nat} {l q:List Int} {kind:Int} {w:World} (hl:SlV intR p w (.slice al l.length cl) l) (hq:SlV intR pq w (.slice aq q.length cq) q) (hkr:-9223372036854775808<=kind/\kind<=9223372036854775807) (hK:KindsAt w) :
 Calls Tryz.prog 12 #[.slice al l.length cl,.slice aq q.length cq,.int .i64 kind] w fun e w'=>e=.returned (.bool true)/\Below w.heap.size w w':=by
 have HK:=hid hK
 have HL:=hid hl
 have HQL:=hid hq
 have HKR:=hid hkr
 have con:=sanity_any w hK
 clear hK hl hq hkr
 go_enter Tryz.func12,Tryz.ntmps12
 go_wp2_with fail
 refine con.mono ?_
 rintro e w1 ⟨rfl,b1⟩
 have B1:=hid b1
 have con:=filled_any (HL.out.below b1) (HK.out.below b1)
 clear b1
 go_wp2_with fail
 refine con.mono ?_
 rintro e w2 ⟨a1,c1,a2,c2,rfl,b2,t2⟩
 have B2:=hid (B1.out.trans (b2.mono B1.out.size))
 obtain ⟨A,hA⟩:∃ A,fillA l (fillM l)=A:=⟨_,rfl⟩
 obtain ⟨B,hB⟩:∃ B,fillB l (fillM l)=B:=⟨_,rfl⟩
 have hM:fillM l<=48:=by unfold fillM;split <;> omega
 have HIN:=hid (show Inv (twoS A B) 48 by
  rw [<- hA,<- hB]
  exact inv_two (fun r hr=>rowT_len ((fillA_row l _).1 r hr)) (fun r hr=>rowU_len ((fillB_row l _).1 r hr)) (Nat.le_trans (fillA_row l _).2 hM) (Nat.le_trans (fillB_row l _).2 hM))
 have HEQ:=hid (show fillA l (fillM l)=A/\fillB l (fillM l)=B from ⟨hA,hB⟩)
 rw [hA,hB] at t2
 have T2:=hid t2.bound
 clear con b2 t2 hA hB hM
 go_upto_region 3 with (fail)
 generalize hX:World.alloc _ _=W3
 have b3:Below w2.heap.size w2 W3:=by rw [<- hX];exact (b0R).alloc (jR _) _
 have G8:=hid (show W3.heap[w2.heap.size]? = some (.cells #[.slice a1 2 c1,.slice a2 2 c2] 27 (0,0)) by rw [<- hX];exact heap_alloc_new _ _)
 have RS:=hid (show TwoAt (fun k=>k<w2.heap.size) W3 a1 c1 a2 c2 A B from (T2.out.below b3).weaken fun k h=>h.2)
 have BW:=hid (B2.out.trans (b3.mono B2.out.size))
 obtain ⟨q8,hq8⟩:∃ q,w2.heap.size=q:=⟨_,rfl⟩
 rw [hq8] at G8 RS ⊢
 clear hX b3 T2 B2 B1 hq8
 obtain ⟨M,hM⟩:∃ M,q.take 16=M:=⟨_,rfl⟩
 have hmN:M.length<=q.length:=by rw [<- hM,List.length_take];omega
 have hmi:min (q.length:Int) 16=(M.length:Int):=by rw [<- hM,List.length_take];omega
 have hmc:M.length<=cq:=Nat.le_trans hmN HQL.out.row.2.1
 have SM:=hid (show SlV intR pq W3 (.slice aq M.length cq) M from (show SlV intR pq w (.slice aq M.length cq) M from ⟨aq,cq,rfl,hmc,Nat.le_trans hmN HQL.out.row.2.2.1,by rw [<- hM];exact row_takeI 16 HQL.out.row.2.2.2⟩).below BW.out)
 clear hM hmN HQL
 have con:=made_any SM.out
 go_wp2_with fail
 refine con.mono ?_
 rintro e w8 ⟨sv,st,rfl,b8,sm,ok,_⟩
 have SM8:=hid sm
 have OK:=hid ok
 obtain ⟨a3,c3,a4,c4,a5,c5,a6,c6,a7,c7,a12,c12,rfl,_⟩:=sm
 obtain ⟨kd,hkd⟩:∃ k,st.kind=k:=⟨_,rfl⟩
 rw [hkd] at SM8 ⊢
 have HKD:=hid hkd
 have B8:=hid b8
 clear con b8 ok SM hmi hmc hkd
 go_upto_region 4 with (fail)
 generalize hX:World.alloc _ _=W9
 have b9:Below w8.heap.size w8 W9:=by rw [<- hX];exact (b0R).alloc (jR _) _
 have G9:=hid (show W9.heap[w8.heap.size]? = some (.cells #[.int .i64 kd,.string st.table,.string st.name,.slice a3 st.cols.length c3,.slice a4 st.names.length c4,.slice a5 st.row.length c5,.slice a6 st.sets.length c6,.slice a7 st.wher.length c7,.string st.join,.string st.left,.string st.right,.int .i64 st.agg,.slice a12 st.order.length c12,.int .i64 st.mode,.int .i64 st.n] 39 (0,0)) by rw [<- hX];exact heap_alloc_new _ _)
 have B9:=hid (B8.out.trans (b9.mono B8.out.size))
 have SM9:=hid (SM8.out.below b9)
 obtain ⟨q9,hq9⟩:∃ q,w8.heap.size=q:=⟨_,rfl⟩
 rw [hq9] at G9 ⊢
 replace G8:=cy B9.out G8
 replace RS:=hid (RS.out.below B9.out)
 replace BW:=hid (BW.out.trans (B9.out.mono BW.out.size))
 have HKW:=hid (HK.out.below BW.out)
 clear hX b9 B8 SM8 hq9 B9
 obtain ⟨TT,RW,hS⟩:∃ TT RW,stepS (twoS A B) st=⟨TT,RW⟩:=⟨_,_,rfl⟩
 obtain ⟨er,AR,nn,hA1⟩:∃ er R nn,stepA (twoS A B) st=⟨er,R,nn⟩:=⟨_,_,_,rfl⟩
 obtain ⟨nt,hnt⟩:∃ n,TT.length=n:=⟨_,rfl⟩
 obtain ⟨nr,hnr⟩:∃ n,RW.length=n:=⟨_,rfl⟩
 obtain ⟨na,hna⟩:∃ n,AR.length=n:=⟨_,rfl⟩
 have HNL:=hid (show kd ≠ 7->er=0->¬ Leans (twoS A B) st from fun h7 he=>not_leans OK.out.kind (by rw [HKD.out];exact h7) (by rw [hA1];exact he))
 have con:=own_do RS.out SM9.out HIN.out (by decide) OK.out.small HKW.out hS hA1 hnt hnr hna
 have HNR:=hid hnr
 have HNA:=hid hna
 clear hS hA1 hnt hnr hna
 have x0:=jC G8.out 0
 have x1:=jC G8.out 1
 have z0:=jC G9.out 0
 have z1:=jC G9.out 1
 have z2:=jC G9.out 2
 have z3:=jC G9.out 3
 have z4:=jC G9.out 4
 have z5:=jC G9.out 5
 have z6:=jC G9.out 6
 have z7:=jC G9.out 7
 have z8:=jC G9.out 8
 have z9:=jC G9.out 9
 have z10:=jC G9.out 10
 have z11:=jC G9.out 11
 have z12:=jC G9.out 12
 have z13:=jC G9.out 13
 have z14:=jC G9.out 14
 simp only [gT,gZ,gS] at x0 x1 z0 z1 z2 z3 z4 z5 z6 z7 z8 z9 z10 z11 z12 z13 z14
 go_wp2_with fail
 refine con.mono ?_
 rintro e w10 ⟨e1,f1,e2,f2,e3,f3,rfl,b10,r10,s10⟩
 clear con x0 x1 z0 z1 z2 z3 z4 z5 z6 z7 z8 z9 z10 z11 z12 z13 z14
 go_upto_region 5 with (fail)
 generalize hX:World.alloc _ _=Z
 have hZ:allocs w10 [_,_]=Z:=hX
 have G10:=hid (show Z.heap[w10.heap.size]? = some (.cells #[.slice e1 nt f1,.slice e2 nr f2] 27 (0,0)) from allocs_get hZ 0 rfl)
 have G11:=hid (show Z.heap[w10.heap.size+1]? = some (.cells #[.int .i64 er,.slice e3 na f3,.int .i64 nn] 43 (0,0)) from allocs_get hZ 1 rfl)
 have bz:=allocs_self hZ
 have R10:=hid (r10.bound.below bz)
 have S10:=hid (s10.bound.below bz)
 have BZ9:=hid (b10.trans (bz.mono b10.size))
 have HNI:=hid (show q9<W9.heap.size/\q8<W9.heap.size/\W9.heap.size<=w10.heap.size from ⟨jB G9.out,jB G8.out,b10.size⟩)
 obtain ⟨H,hH⟩:∃ n,W9.heap.size=n:=⟨_,rfl⟩
 obtain ⟨q10,hq10⟩:∃ q,w10.heap.size=q:=⟨_,rfl⟩
 have HWH:=hid (show w.heap.size<=H by rw [<- hH];exact BW.out.size)
 rw [hq10] at G10 G11 R10 S10 HNI ⊢
 rw [hH] at R10 S10 HNI
 have GZ8:=cy BZ9.out G8
 have GZ9:=cy BZ9.out G9
 have BWZ:=hid (BW.out.trans (BZ9.out.mono BW.out.size))
 have RZ:=hid (RS.out.below BZ9.out)
 clear hX hZ bz b10 r10 s10 hH hq10 G8 G9 RS BW BZ9 SM9 HKW
 go_upto_block 0 with (fail)
 go_cut [] from 35 to 85 (fun wx=>Hid (Kinded H q10 Z wx))
 case first =>
  go_wp2_with fail
  go_loopw [12] (fun x12 wr=>∃ i:Nat,i<=nr/\x12=.int .i64 i/\Hid (Kinded H q10 Z wr)) (fun x12 _=>nr+1 - (intOf x12).toNat)
  case atStart=>exact ⟨0,Nat.zero_le _,rfl,Kinded.refl Z⟩
  case round =>
   obtain ⟨i,hi,rfl,HI⟩:=hrel
   have hbr:nr<=140737488355328:=R10.out.row.2.2.1
   obtain ⟨Wr,hWr⟩:∃ W,W=wr:=⟨_,rfl⟩
   subst hWr
   have hN9:=HNI.out
   have x0:=jC ((HI.out.out q10 (by omega)).trans G10.out) 0
   have x1:=jC ((HI.out.out q10 (by omega)).trans G10.out) 1
   simp only [gT,gZ,gS] at x0 x1
   by_cases hlt:i<nr
   · have hlti:(i:Int)<nr:=by omega
     have hltR:i<RW.length:=by rw [HNR.out];exact hlt
     obtain ⟨rb,ro,rfl,_,_⟩:=R10.out.row.2.2.2.addr (by intro e;rw [e] at hltR;cases hltR)
     obtain ⟨la,lc,h0,hrow⟩:=R10.out.row.2.2.2.lst i hltR
     obtain ⟨L,hL⟩:∃ L,RW[i]'hltR=L:=⟨_,rfl⟩
     rw [hL] at h0 hrow
     obtain ⟨nl,hnl⟩:∃ n,L.length=n:=⟨_,rfl⟩
     rw [hnl] at h0 hrow
     have H0:=hid h0
     have HROW:=hid hrow
     have HNLL:=hid hnl
     clear h0 hrow hL hnl hltR hN9
     go_upto_block 2 with (fail)
     clear x0 x1
     go_wp2_with fail
     go_loopw [13] (fun x13 wr=>∃ k:Nat,k<=nl/\x13=.int .i64 k/\Hid (Kinded H q10 Z wr)) (fun x13 _=>nl+1 - (intOf x13).toNat)
     case atStart=>exact ⟨0,Nat.zero_le _,rfl,HI.out⟩
     case round =>
      obtain ⟨k,hk,rfl,HI2⟩:=hrel
      have hbl:nl<=140737488355328:=HROW.out.row.2.2.1
      obtain ⟨Wk,hWk⟩:∃ W,W=wr:=⟨_,rfl⟩
      subst hWk
      have hN9:=HNI.out
      have x0:=jC ((HI2.out.out q10 (by omega)).trans G10.out) 0
      have x1:=jC ((HI2.out.out q10 (by omega)).trans G10.out) 1
      have s0:=jC ((HI2.out.out q9 (by omega)).trans GZ9.out) 0
      have t0:=jC ((HI2.out.out (q10+1) (by omega)).trans G11.out) 0
      have y0:=HI2.out.slc H0.out
      simp only [gT,gZ,gS] at x0 x1 s0 t0
      clear hN9
      by_cases hkl:k<nl
      · have hkli:(k:Int)<nl:=by omega
        by_cases h7:kd=7
        · subst h7
          go_wp2_with fail
          go_roundw
          case rel=>exact ⟨i+1,by omega,by go_num,HI2.out⟩
          case measure=>simp [intOf];omega
        have d1:(kd == 7)=false:=by simpa using h7
        have d2:(kd != 7)=true:=by simpa using h7
        have d3:decide (kd=7)=false:=by simpa using h7
        by_cases he:er=0
        · have hltL:k<L.length:=by rw [HNLL.out];exact hkl
          obtain ⟨lb,lo,rfl,_,_⟩:=HROW.out.row.2.2.2.addr (by intro e;rw [e] at hltL;cases hltL)
          obtain ⟨ra,rc,g0,hr⟩:=HROW.out.row.2.2.2.lst k hltL
          obtain ⟨X,hX⟩:∃ X,L[k]'hltL=X:=⟨_,rfl⟩
          rw [hX] at g0 hr
          obtain ⟨m,hm⟩:∃ n,X.length=n:=⟨_,rfl⟩
          rw [hm] at g0 hr
          have GR0:=hid g0
          have HR:=hid hr
          have HMM:=hid hm
          have HPB:=hid (HNL.out h7 he)
          clear g0 hr hX hm hltL
          subst he
          go_upto_block 4 with (fail)
          clear x0 x1 s0 t0 y0
          go_wp2_with fail
          go_loopw [14] (fun x14 wr=>∃ j:Nat,j<=m/\x14=.int .i64 j/\Hid (Kinded H q10 Z wr)) (fun x14 _=>m+1 - (intOf x14).toNat)
          case atStart=>exact ⟨0,Nat.zero_le _,rfl,HI2.out⟩
          case round =>
           obtain ⟨j,hj,rfl,HI3⟩:=hrel
           have hbm:m<=140737488355328:=HR.out.row.2.2.1
           have hN9:=HNI.out
           have x0:=jC ((HI3.out.out q10 (by omega)).trans G10.out) 0
           have x1:=jC ((HI3.out.out q10 (by omega)).trans G10.out) 1
           have y0:=HI3.out.slc H0.out
           have y1:=HI3.out.slc GR0.out
           simp only [gT,gZ,gS] at x0 x1
           clear hN9
           by_cases hjm:j<m
           · have hjmi:(j:Int)<m:=by omega
             have hltX:j<X.length:=by rw [HMM.out];exact hjm
             obtain ⟨vb,vo,rfl,_,_⟩:=HR.out.row.2.2.2.addr (by intro e;rw [e] at hltX;cases hltX)
             obtain ⟨vx,vy,vs,m0,m1,m2,n0,n1,n2⟩:=HI3.out.val HR.out.row.2.2.2 j hltX
             have NX:=hid (HI3.out.put (x:=9) (y:=0) (s:=⟨#[]⟩) HR.out.row.2.2.2 (fun h=>⟨h.1.resolve_left (fun e=>HPB.out e.1),h.2⟩) j hltX)
             clear hltX
             go_wp2_with fail
             go_roundw
             case rel=>exact ⟨j+1,by omega,by go_num,NX.out⟩
             case measure=>simp [intOf];omega
           · have hj2:j=m:=by omega
             subst hj2
             go_wp2_with fail
             go_roundw
             case rel=>exact ⟨k+1,by omega,by go_num,HI3.out⟩
             case measure=>simp [intOf];omega
        · have d4:(er == 0)=false:=by simpa using he
          have d5:decide (er=0)=false:=by simpa using he
          go_wp2_with fail
          go_roundw
          case rel=>exact ⟨i+1,by omega,by go_num,HI2.out⟩
          case measure=>simp [intOf];omega
      · have hk2:k=nl:=by omega
        subst hk2
        go_wp2_with fail
        go_roundw
        case rel=>exact ⟨i+1,by omega,by go_num,HI2.out⟩
        case measure=>simp [intOf];omega
   · have hi2:i=nr:=by omega
     subst hi2
     go_wp2_with fail
     go_meet
     exact HI
 case rest =>
  have HI:=hcut
  obtain ⟨Wm,hWm⟩:∃ W,W=wc:=⟨_,rfl⟩
  subst hWm
  go_upto_block 6 with (fail)
  go_cut [] from 86 to 110 (fun wx=>Hid (Kinded H q10 Z wx))
  case first =>
   go_wp2_with fail
   go_loopw [15] (fun x15 wr=>∃ i:Nat,i<=na/\x15=.int .i64 i/\Hid (Kinded H q10 Z wr)) (fun x15 _=>na+1 - (intOf x15).toNat)
   case atStart=>exact ⟨0,Nat.zero_le _,rfl,HI.out⟩
   case round =>
    obtain ⟨i,hi,rfl,HI2⟩:=hrel
    have hbr:na<=140737488355328:=S10.out.row.2.2.1
    obtain ⟨Wr,hWr⟩:∃ W,W=wr:=⟨_,rfl⟩
    subst hWr
    have hN9:=HNI.out
    have x0:=jC ((HI2.out.out (q10+1) (by omega)).trans G11.out) 0
    have x1:=jC ((HI2.out.out (q10+1) (by omega)).trans G11.out) 1
    have x2:=jC ((HI2.out.out (q10+1) (by omega)).trans G11.out) 2
    simp only [gT,gZ,gS] at x0 x1 x2
    clear hN9
    by_cases hlt:i<na
    · have hlti:(i:Int)<na:=by omega
      have hltR:i<AR.length:=by rw [HNA.out];exact hlt
      obtain ⟨rb,ro,rfl,_,_⟩:=S10.out.row.2.2.2.addr (by intro e;rw [e] at hltR;cases hltR)
      obtain ⟨ra,rc,h0,hr⟩:=S10.out.row.2.2.2.lst i hltR
      obtain ⟨X,hX⟩:∃ X,AR[i]'hltR=X:=⟨_,rfl⟩
      rw [hX] at h0 hr
      obtain ⟨m,hm⟩:∃ n,X.length=n:=⟨_,rfl⟩
      rw [hm] at h0 hr
      have GR0:=hid h0
      have HR:=hid hr
      have HMM:=hid hm
      clear h0 hr hX hm hltR
      go_upto_block 8 with (fail)
      clear x0 x1 x2
      go_wp2_with fail
      go_loopw [16] (fun x16 wr=>∃ j:Nat,j<=m/\x16=.int .i64 j/\Hid (Kinded H q10 Z wr)) (fun x16 _=>m+1 - (intOf x16).toNat)
      case atStart=>exact ⟨0,Nat.zero_le _,rfl,HI2.out⟩
      case round =>
       obtain ⟨j,hj,rfl,HI3⟩:=hrel
       have hbm:m<=140737488355328:=HR.out.row.2.2.1
       have hN9:=HNI.out
       have x0:=jC ((HI3.out.out (q10+1) (by omega)).trans G11.out) 0
       have x1:=jC ((HI3.out.out (q10+1) (by omega)).trans G11.out) 1
       have x2:=jC ((HI3.out.out (q10+1) (by omega)).trans G11.out) 2
       have y1:=HI3.out.slc GR0.out
       simp only [gT,gZ,gS] at x0 x1 x2
       clear hN9
       by_cases hjm:j<m
       · have hjmi:(j:Int)<m:=by omega
         have hltX:j<X.length:=by rw [HMM.out];exact hjm
         obtain ⟨vb,vo,rfl,_,_⟩:=HR.out.row.2.2.2.addr (by intro e;rw [e] at hltX;cases hltX)
         obtain ⟨vx,vy,vs,m0,m1,m2,n0,n1,n2⟩:=HI3.out.val HR.out.row.2.2.2 j hltX
         have NX:=hid (HI3.out.put (x:=9) (y:=0) (s:=⟨#[]⟩) HR.out.row.2.2.2 (fun h=>h) j hltX)
         clear hltX
         go_wp2_with fail
         go_roundw
         case rel=>exact ⟨j+1,by omega,by go_num,NX.out⟩
         case measure=>simp [intOf];omega
       · have hj2:j=m:=by omega
         subst hj2
         go_wp2_with fail
         go_roundw
         case rel=>exact ⟨i+1,by omega,by go_num,HI3.out⟩
         case measure=>simp [intOf];omega
    · have hi2:i=na:=by omega
      subst hi2
      go_wp2_with fail
      go_meet
      exact HI2
  case rest =>
  have HI2:=hcut
  obtain ⟨U,hU⟩:∃ W,W=wc:=⟨_,rfl⟩
  subst hU
  have hN9:=HNI.out
  have G8:=hid ((HI2.out.out q8 (by omega)).trans GZ8.out)
  have BU:=hid (HI2.out.below BWZ.out HWH.out)
  have RSU:=hid (show TwoAt (fun k=>k<q8) U a1 c1 a2 c2 A B from RZ.out.keep fun k hk _=>HI2.out.out k (by omega))
  have HKU:=hid (HK.out.below BU.out)
  have HLU:=hid (HL.out.below BU.out)
  clear HI2 HI GZ8 GZ9 G10 G11 R10 S10 RZ BWZ HNI HNL HNR HNA hN9 OK HKD HK HL
  obtain ⟨hk1,hk2⟩:=HKR.out
  rcases (show kind<1 \/ (1<=kind/\kind<=7) \/ 7<kind by omega) with hc|⟨hc1,hc2⟩|hc
  · have d1:decide (1<=kind)=false:=by simp;omega
    have HKK:=hid (show ¬ (1<=kind/\kind<=7)/\(Lit.int .i64 kind).wf=true from ⟨by omega,by simp [Lit.wf,IntKind.min,IntKind.max,IntKind.signed,IntKind.bits];omega⟩)
    go_upto_region 25 with (fail)
    clear d1 hc
    have x0:=jC G8.out 0
    have x1:=jC G8.out 1
    simp only [gT,gZ,gS] at x0 x1
    have con:=do_two RSU.out (other_at (p:=fun _=>True) (k:=kind)) HIN.out (by decide) (other_small HKK.out.2) HKU.out (stepS_other HKK.out.1) (stepA_other HKK.out.1) rfl
    go_wp2_with fail
    refine con.mono ?_
    rintro e w5 ⟨u1,v1,u2,v2,u3,v3,rfl,b5,t5,_⟩
    clear con x0 x1
    go_upto_region 26 with (fail)
    generalize hX:World.alloc _ _=V
    have hV:allocs w5 [_,_]=V:=hX
    have G18:=hid (show V.heap[w5.heap.size]? = some (.cells #[.slice u1 2 v1,.slice u2 2 v2] 27 (0,0)) from allocs_get hV 0 rfl)
    have G19:=hid (show V.heap[w5.heap.size+1]? = some (.cells #[.int .i64 0,.slice u3 0 v3,.int .i64 0] 43 (0,0)) from allocs_get hV 1 rfl)
    have bz:=allocs_self hV
    have TU:=hid (t5.below bz)
    have BV5:=hid (b5.trans (bz.mono b5.size))
    have BV:=hid (BU.out.trans (BV5.out.mono BU.out.size))
    replace G8:=cy BV5.out G8
    have RSV:=hid (RSU.out.below BV5.out)
    have HKV:=hid (HKU.out.below BV5.out)
    have HLV:=hid (HLU.out.below BV5.out)
    obtain ⟨q18,hq18⟩:∃ q,w5.heap.size=q:=⟨_,rfl⟩
    rw [hq18] at G18 G19 ⊢
    clear hX hV bz b5 t5 hq18 BV5 RSU HKU HLU BU HKK hk1 hk2 HKR
    apply wp_region_growt 16 [127,128,129,130,131,132,133,134,135,136,137,138,139,140,141,142]
     [fun _ u _=>u=.bool true,
      fun _ u _=>u=.bool true,
      fun _ u _=>u=.agg #[.slice a1 2 c1,.slice a2 2 c2],
      fun _ u _=>u=.slice al l.length cl,
      fun _ u w'=>FilledU A B u w',
      fun _ u _=>u=.bool true,
      fun _ u _=>u=.bool true,
      fun _ u _=>u=.bool true,
      fun _ u _=>u=.agg #[.slice u1 2 v1,.slice u2 2 v2],
      fun _ u _=>u=.agg #[.slice a1 2 c1,.slice a2 2 c2],
      fun _ u _=>u=.bool true,
      fun _ u _=>u=.bool true,
      fun _ u _=>u=.bool true,
      fun _ u _=>u=.agg #[.int .i64 0,.slice u3 0 v3,.int .i64 0],
      fun _ u _=>u=.agg #[.int .i64 0,.slice none 0 0,.int .i64 0],
      fun _ u _=>u=.bool true]
     (fun w'=>Below V.heap.size V w')
    case hF =>
     intro v
     simp only [setAll,List.foldl_cons,List.foldl_nil,Act.put,List.setIfInBounds_toArray,List.set_cons_succ,List.set_cons_zero]
     exact rfl
    case hm=>kernel_rfl
    case hB=>kernel_rfl
    case hsz=>kernel_rfl
    case hC=>exact fun w1 w2 h b=>h.trans (b.mono h.size)
    case hw=>exact Below.drew b0R
    case hS =>
     intro D hD v u
     simp only [List.mem_cons,List.not_mem_nil,or_false] at hD
     rcases hD with rfl|rfl|rfl|rfl|rfl|rfl|rfl|rfl|rfl|rfl|rfl|rfl|rfl|rfl|rfl|rfl
     · exact fun w1 w2 h _=>h
     · exact fun w1 w2 h _=>h
     · exact fun w1 w2 h _=>h
     · exact fun w1 w2 h _=>h
     · exact fun w1 w2 h hr=>h.below hr
     · exact fun w1 w2 h _=>h
     · exact fun w1 w2 h _=>h
     · exact fun w1 w2 h _=>h
     · exact fun w1 w2 h _=>h
     · exact fun w1 w2 h _=>h
     · exact fun w1 w2 h _=>h
     · exact fun w1 w2 h _=>h
     · exact fun w1 w2 h _=>h
     · exact fun w1 w2 h _=>h
     · exact fun w1 w2 h _=>h
     · exact fun w1 w2 h _=>h
    case hob =>
     simp only [List.take_succ_cons,List.take_zero]
     apply growt_cons
     · intro v w1 h1 hd
       clear hd
       clear h1
       go_wp2_with fail
       first|exact Below.refl _ _|exact ⟨Below.refl _ _,rfl⟩|exact ⟨rfl,Below.refl _ _⟩
     apply growt_cons
     · intro v w1 h1 hd
       have g127:v 127=.bool true:=hd 0 _ _ _ rfl rfl rfl rfl
       clear hd
       rw [g127]
       clear g127 h1
       go_wp2_with fail
       first|exact Below.refl _ _|exact ⟨Below.refl _ _,rfl⟩|exact ⟨rfl,Below.refl _ _⟩
     apply growt_cons
     · intro v w1 h1 hd
       have g128:v 128=.bool true:=hd 1 _ _ _ rfl rfl rfl rfl
       clear hd
       rw [g128]
       have x0:=jC ((h1.block _ (jB G8.out)).trans G8.out) 0
       have x1:=jC ((h1.block _ (jB G8.out)).trans G8.out) 1
       simp only [gT,gZ,gS] at x0 x1
       clear g128 h1
       go_wp2_with fail
       first|exact Below.refl _ _|exact ⟨Below.refl _ _,rfl⟩|exact ⟨rfl,Below.refl _ _⟩
     apply growt_cons
     · intro v w1 h1 hd
       have g128:v 128=.bool true:=hd 1 _ _ _ rfl rfl rfl rfl
       clear hd
       rw [g128]
       clear g128 h1
       go_wp2_with fail
       first|exact Below.refl _ _|exact ⟨Below.refl _ _,rfl⟩|exact ⟨rfl,Below.refl _ _⟩
     apply growt_cons
     · intro v w1 h1 hd
       have g128:v 128=.bool true:=hd 1 _ _ _ rfl rfl rfl rfl
       have g130:v 130=.slice al l.length cl:=hd 3 _ _ _ rfl rfl rfl rfl
       clear hd
       rw [g128,g130]
       have con:=filled_any (HLV.out.below h1) (HKV.out.below h1)
       clear g128 g130 h1
       go_wp2_with fail
       refine con.mono ?_
       rintro e w2 ⟨x1,y1,x2,y2,rfl,b2,t2⟩
       rw [HEQ.out.1,HEQ.out.2] at t2
       have B2:=hid b2
       have T2:=hid t2
       clear con b2 t2
       go_wp2_with fail
       first|exact ⟨B2.out,x1,y1,x2,y2,rfl,T2.out.weaken (fun _ _=>trivial)⟩|exact ⟨⟨x1,y1,x2,y2,rfl,T2.out.weaken (fun _ _=>trivial)⟩,B2.out⟩
     apply growt_cons
     · intro v w1 h1 hd
       have g128:v 128=.bool true:=hd 1 _ _ _ rfl rfl rfl rfl
       have g129:v 129=.agg #[.slice a1 2 c1,.slice a2 2 c2]:=hd 2 _ _ _ rfl rfl rfl rfl
       obtain ⟨x1,y1,x2,y2,g131,t2⟩:FilledU A B (v 131) w1:=hd 4 _ _ _ rfl rfl rfl rfl
       clear hd
       rw [g128,g129,g131]
       have con:=alike_any (RSV.out.below h1) t2 (inv_rowsO HIN.out) (inv_rowsO HIN.out) (HKV.out.below h1)
       rw [alike_refl] at con
       clear g128 g129 g131 h1 t2
       go_wp2_with fail
       refine con.mono ?_
       rintro e w2 ⟨rfl,b2⟩
       have B2:=hid b2
       clear con b2
       go_wp2_with fail
       first|exact B2.out|exact ⟨B2.out,rfl⟩|exact ⟨rfl,B2.out⟩
     apply growt_cons
     · intro v w1 h1 hd
       have g128:v 128=.bool true:=hd 1 _ _ _ rfl rfl rfl rfl
       have g132:v 132=.bool true:=hd 5 _ _ _ rfl rfl rfl rfl
       clear hd
       rw [g128,g132]
       clear g128 g132 h1
       go_wp2_with fail
       first|exact Below.refl _ _|exact ⟨Below.refl _ _,rfl⟩|exact ⟨rfl,Below.refl _ _⟩
     apply growt_cons
     · intro v w1 h1 hd
       have g133:v 133=.bool true:=hd 6 _ _ _ rfl rfl rfl rfl
       clear hd
       rw [g133]
       clear g133 h1
       go_wp2_with fail
       first|exact Below.refl _ _|exact ⟨Below.refl _ _,rfl⟩|exact ⟨rfl,Below.refl _ _⟩
     apply growt_cons
     · intro v w1 h1 hd
       have g134:v 134=.bool true:=hd 7 _ _ _ rfl rfl rfl rfl
       clear hd
       rw [g134]
       have x0:=jC ((h1.block _ (jB G18.out)).trans G18.out) 0
       have x1:=jC ((h1.block _ (jB G18.out)).trans G18.out) 1
       simp only [gT,gZ,gS] at x0 x1
       clear g134 h1
       go_wp2_with fail
       first|exact Below.refl _ _|exact ⟨Below.refl _ _,rfl⟩|exact ⟨rfl,Below.refl _ _⟩
     apply growt_cons
     · intro v w1 h1 hd
       have g134:v 134=.bool true:=hd 7 _ _ _ rfl rfl rfl rfl
       clear hd
       rw [g134]
       have x0:=jC ((h1.block _ (jB G8.out)).trans G8.out) 0
       have x1:=jC ((h1.block _ (jB G8.out)).trans G8.out) 1
       simp only [gT,gZ,gS] at x0 x1
       clear g134 h1
       go_wp2_with fail
       first|exact Below.refl _ _|exact ⟨Below.refl _ _,rfl⟩|exact ⟨rfl,Below.refl _ _⟩
     apply growt_cons
     · intro v w1 h1 hd
       have g134:v 134=.bool true:=hd 7 _ _ _ rfl rfl rfl rfl
       have g135:v 135=.agg #[.slice u1 2 v1,.slice u2 2 v2]:=hd 8 _ _ _ rfl rfl rfl rfl
       have g136:v 136=.agg #[.slice a1 2 c1,.slice a2 2 c2]:=hd 9 _ _ _ rfl rfl rfl rfl
       clear hd
       rw [g134,g135,g136]
       have con:=alike_any (TU.out.below h1) (RSV.out.below h1) (inv_rowsO HIN.out) (inv_rowsO HIN.out) (HKV.out.below h1)
       rw [alike_refl] at con
       clear g134 g135 g136 h1
       go_wp2_with fail
       refine con.mono ?_
       rintro e w2 ⟨rfl,b2⟩
       have B2:=hid b2
       clear con b2
       go_wp2_with fail
       first|exact B2.out|exact ⟨B2.out,rfl⟩|exact ⟨rfl,B2.out⟩
     apply growt_cons
     · intro v w1 h1 hd
       have g134:v 134=.bool true:=hd 7 _ _ _ rfl rfl rfl rfl
       have g137:v 137=.bool true:=hd 10 _ _ _ rfl rfl rfl rfl
       clear hd
       rw [g134,g137]
       clear g134 g137 h1
       go_wp2_with fail
       first|exact Below.refl _ _|exact ⟨Below.refl _ _,rfl⟩|exact ⟨rfl,Below.refl _ _⟩
     apply growt_cons
     · intro v w1 h1 hd
       have g138:v 138=.bool true:=hd 11 _ _ _ rfl rfl rfl rfl
       clear hd
       rw [g138]
       clear g138 h1
       go_wp2_with fail
       first|exact Below.refl _ _|exact ⟨Below.refl _ _,rfl⟩|exact ⟨rfl,Below.refl _ _⟩
     apply growt_cons
     · intro v w1 h1 hd
       have g139:v 139=.bool true:=hd 12 _ _ _ rfl rfl rfl rfl
       clear hd
       rw [g139]
       have x0:=jC ((h1.block _ (jB G19.out)).trans G19.out) 0
       have x1:=jC ((h1.block _ (jB G19.out)).trans G19.out) 1
       have x2:=jC ((h1.block _ (jB G19.out)).trans G19.out) 2
       simp only [gT,gZ,gS] at x0 x1 x2
       clear g139 h1
       go_wp2_with fail
       first|exact Below.refl _ _|exact ⟨Below.refl _ _,rfl⟩|exact ⟨rfl,Below.refl _ _⟩
     apply growt_cons
     · intro v w1 h1 hd
       have g139:v 139=.bool true:=hd 12 _ _ _ rfl rfl rfl rfl
       clear hd
       rw [g139]
       clear g139 h1
       go_wp2_with fail
       first|exact Below.refl _ _|exact ⟨Below.refl _ _,rfl⟩|exact ⟨rfl,Below.refl _ _⟩
     apply growt_cons
     · intro v w1 h1 hd
       have g139:v 139=.bool true:=hd 12 _ _ _ rfl rfl rfl rfl
       have g140:v 140=.agg #[.int .i64 0,.slice u3 0 v3,.int .i64 0]:=hd 13 _ _ _ rfl rfl rfl rfl
       have g141:v 141=.agg #[.int .i64 0,.slice none 0 0,.int .i64 0]:=hd 14 _ _ _ rfl rfl rfl rfl
       clear hd
       rw [g139,g140,g141]
       have con:Calls Tryz.prog 29 #[.agg #[.int .i64 0,.slice u3 0 v3,.int .i64 0],.agg #[.int .i64 0,.slice none 0 0,.int .i64 0]] w1 fun e w'=>e=.returned (.bool true)/\Below w1.heap.size w1 w':=by
        have h:=sameA_any (p:=fun _=>True) (q:=fun _=>True) (x:=[]) (y:=[]) (ex:=0) (ey:=0) (nx:=0) (ny:=0) (a:=u3) (c:=v3) (a':=none) (c':=0) ⟨u3,v3,rfl,Nat.zero_le _,Nat.zero_le _,RowAt.nil⟩ ⟨none,0,rfl,Nat.zero_le _,Nat.zero_le _,RowAt.nil⟩ (HKV.out.below h1)
        rw [sameA_refl] at h
        exact h
       clear g139 g140 g141 h1
       go_wp2_with fail
       refine con.mono ?_
       rintro e w2 ⟨rfl,b2⟩
       have B2:=hid b2
       clear con b2
       go_wp2_with fail
       first|exact B2.out|exact ⟨B2.out,rfl⟩|exact ⟨rfl,B2.out⟩
     exact growt_nil
    case hend =>
     intro v w7 h1 hd
     have g139:v 139=.bool true:=hd 12 _ _ _ rfl rfl rfl
     have g142:v 142=.bool true:=hd 15 _ _ _ rfl rfl rfl
     clear hd
     rw [g139,g142]
     have BE:=hid (BV.out.trans (h1.mono BV.out.size))
     clear g139 g142 h1
     simp only [List.drop_succ_cons,List.drop_zero]
     go_wp2_with fail
     go_ret
     exact ⟨rfl,BE.out⟩
  · have d1:decide (1<=kind)=true:=by simp;omega
    have d2:decide (kind<=7)=true:=by simp;omega
    have hw:IntKind.i64.wrap (kind+7)=kind+7:=by rw [IntKind.wrap_i64];omega
    have HKK:=hid (show ¬ (1<=kind+7/\kind+7<=7)/\(Lit.int .i64 (kind+7)).wf=true from ⟨by omega,by simp [Lit.wf,IntKind.min,IntKind.max,IntKind.signed,IntKind.bits];omega⟩)
    go_upto_region 25 with (fail)
    clear d1 d2 hc1 hc2 hw
    have x0:=jC G8.out 0
    have x1:=jC G8.out 1
    simp only [gT,gZ,gS] at x0 x1
    have con:=do_two RSU.out (other_at (p:=fun _=>True) (k:=(kind+7))) HIN.out (by decide) (other_small HKK.out.2) HKU.out (stepS_other HKK.out.1) (stepA_other HKK.out.1) rfl
    go_wp2_with fail
    refine con.mono ?_
    rintro e w5 ⟨u1,v1,u2,v2,u3,v3,rfl,b5,t5,_⟩
    clear con x0 x1
    go_upto_region 26 with (fail)
    generalize hX:World.alloc _ _=V
    have hV:allocs w5 [_,_]=V:=hX
    have G18:=hid (show V.heap[w5.heap.size]? = some (.cells #[.slice u1 2 v1,.slice u2 2 v2] 27 (0,0)) from allocs_get hV 0 rfl)
    have G19:=hid (show V.heap[w5.heap.size+1]? = some (.cells #[.int .i64 0,.slice u3 0 v3,.int .i64 0] 43 (0,0)) from allocs_get hV 1 rfl)
    have bz:=allocs_self hV
    have TU:=hid (t5.below bz)
    have BV5:=hid (b5.trans (bz.mono b5.size))
    have BV:=hid (BU.out.trans (BV5.out.mono BU.out.size))
    replace G8:=cy BV5.out G8
    have RSV:=hid (RSU.out.below BV5.out)
    have HKV:=hid (HKU.out.below BV5.out)
    have HLV:=hid (HLU.out.below BV5.out)
    obtain ⟨q18,hq18⟩:∃ q,w5.heap.size=q:=⟨_,rfl⟩
    rw [hq18] at G18 G19 ⊢
    clear hX hV bz b5 t5 hq18 BV5 RSU HKU HLU BU HKK hk1 hk2 HKR
    apply wp_region_growt 16 [127,128,129,130,131,132,133,134,135,136,137,138,139,140,141,142]
     [fun _ u _=>u=.bool true,
      fun _ u _=>u=.bool true,
      fun _ u _=>u=.agg #[.slice a1 2 c1,.slice a2 2 c2],
      fun _ u _=>u=.slice al l.length cl,
      fun _ u w'=>FilledU A B u w',
      fun _ u _=>u=.bool true,
      fun _ u _=>u=.bool true,
      fun _ u _=>u=.bool true,
      fun _ u _=>u=.agg #[.slice u1 2 v1,.slice u2 2 v2],
      fun _ u _=>u=.agg #[.slice a1 2 c1,.slice a2 2 c2],
      fun _ u _=>u=.bool true,
      fun _ u _=>u=.bool true,
      fun _ u _=>u=.bool true,
      fun _ u _=>u=.agg #[.int .i64 0,.slice u3 0 v3,.int .i64 0],
      fun _ u _=>u=.agg #[.int .i64 0,.slice none 0 0,.int .i64 0],
      fun _ u _=>u=.bool true]
     (fun w'=>Below V.heap.size V w')
    case hF =>
     intro v
     simp only [setAll,List.foldl_cons,List.foldl_nil,Act.put,List.setIfInBounds_toArray,List.set_cons_succ,List.set_cons_zero]
     exact rfl
    case hm=>kernel_rfl
    case hB=>kernel_rfl
    case hsz=>kernel_rfl
    case hC=>exact fun w1 w2 h b=>h.trans (b.mono h.size)
    case hw=>exact Below.drew b0R
    case hS =>
     intro D hD v u
     simp only [List.mem_cons,List.not_mem_nil,or_false] at hD
     rcases hD with rfl|rfl|rfl|rfl|rfl|rfl|rfl|rfl|rfl|rfl|rfl|rfl|rfl|rfl|rfl|rfl
     · exact fun w1 w2 h _=>h
     · exact fun w1 w2 h _=>h
     · exact fun w1 w2 h _=>h
     · exact fun w1 w2 h _=>h
     · exact fun w1 w2 h hr=>h.below hr
     · exact fun w1 w2 h _=>h
     · exact fun w1 w2 h _=>h
     · exact fun w1 w2 h _=>h
     · exact fun w1 w2 h _=>h
     · exact fun w1 w2 h _=>h
     · exact fun w1 w2 h _=>h
     · exact fun w1 w2 h _=>h
     · exact fun w1 w2 h _=>h
     · exact fun w1 w2 h _=>h
     · exact fun w1 w2 h _=>h
     · exact fun w1 w2 h _=>h
    case hob =>
     simp only [List.take_succ_cons,List.take_zero]
     apply growt_cons
     · intro v w1 h1 hd
       clear hd
       clear h1
       go_wp2_with fail
       first|exact Below.refl _ _|exact ⟨Below.refl _ _,rfl⟩|exact ⟨rfl,Below.refl _ _⟩
     apply growt_cons
     · intro v w1 h1 hd
       have g127:v 127=.bool true:=hd 0 _ _ _ rfl rfl rfl rfl
       clear hd
       rw [g127]
       clear g127 h1
       go_wp2_with fail
       first|exact Below.refl _ _|exact ⟨Below.refl _ _,rfl⟩|exact ⟨rfl,Below.refl _ _⟩
     apply growt_cons
     · intro v w1 h1 hd
       have g128:v 128=.bool true:=hd 1 _ _ _ rfl rfl rfl rfl
       clear hd
       rw [g128]
       have x0:=jC ((h1.block _ (jB G8.out)).trans G8.out) 0
       have x1:=jC ((h1.block _ (jB G8.out)).trans G8.out) 1
       simp only [gT,gZ,gS] at x0 x1
       clear g128 h1
       go_wp2_with fail
       first|exact Below.refl _ _|exact ⟨Below.refl _ _,rfl⟩|exact ⟨rfl,Below.refl _ _⟩
     apply growt_cons
     · intro v w1 h1 hd
       have g128:v 128=.bool true:=hd 1 _ _ _ rfl rfl rfl rfl
       clear hd
       rw [g128]
       clear g128 h1
       go_wp2_with fail
       first|exact Below.refl _ _|exact ⟨Below.refl _ _,rfl⟩|exact ⟨rfl,Below.refl _ _⟩
     apply growt_cons
     · intro v w1 h1 hd
       have g128:v 128=.bool true:=hd 1 _ _ _ rfl rfl rfl rfl
       have g130:v 130=.slice al l.length cl:=hd 3 _ _ _ rfl rfl rfl rfl
       clear hd
       rw [g128,g130]
       have con:=filled_any (HLV.out.below h1) (HKV.out.below h1)
       clear g128 g130 h1
       go_wp2_with fail
       refine con.mono ?_
       rintro e w2 ⟨x1,y1,x2,y2,rfl,b2,t2⟩
       rw [HEQ.out.1,HEQ.out.2] at t2
       have B2:=hid b2
       have T2:=hid t2
       clear con b2 t2
       go_wp2_with fail
       first|exact ⟨B2.out,x1,y1,x2,y2,rfl,T2.out.weaken (fun _ _=>trivial)⟩|exact ⟨⟨x1,y1,x2,y2,rfl,T2.out.weaken (fun _ _=>trivial)⟩,B2.out⟩
     apply growt_cons
     · intro v w1 h1 hd
       have g128:v 128=.bool true:=hd 1 _ _ _ rfl rfl rfl rfl
       have g129:v 129=.agg #[.slice a1 2 c1,.slice a2 2 c2]:=hd 2 _ _ _ rfl rfl rfl rfl
       obtain ⟨x1,y1,x2,y2,g131,t2⟩:FilledU A B (v 131) w1:=hd 4 _ _ _ rfl rfl rfl rfl
       clear hd
       rw [g128,g129,g131]
       have con:=alike_any (RSV.out.below h1) t2 (inv_rowsO HIN.out) (inv_rowsO HIN.out) (HKV.out.below h1)
       rw [alike_refl] at con
       clear g128 g129 g131 h1 t2
       go_wp2_with fail
       refine con.mono ?_
       rintro e w2 ⟨rfl,b2⟩
       have B2:=hid b2
       clear con b2
       go_wp2_with fail
       first|exact B2.out|exact ⟨B2.out,rfl⟩|exact ⟨rfl,B2.out⟩
     apply growt_cons
     · intro v w1 h1 hd
       have g128:v 128=.bool true:=hd 1 _ _ _ rfl rfl rfl rfl
       have g132:v 132=.bool true:=hd 5 _ _ _ rfl rfl rfl rfl
       clear hd
       rw [g128,g132]
       clear g128 g132 h1
       go_wp2_with fail
       first|exact Below.refl _ _|exact ⟨Below.refl _ _,rfl⟩|exact ⟨rfl,Below.refl _ _⟩
     apply growt_cons
     · intro v w1 h1 hd
       have g133:v 133=.bool true:=hd 6 _ _ _ rfl rfl rfl rfl
       clear hd
       rw [g133]
       clear g133 h1
       go_wp2_with fail
       first|exact Below.refl _ _|exact ⟨Below.refl _ _,rfl⟩|exact ⟨rfl,Below.refl _ _⟩
     apply growt_cons
     · intro v w1 h1 hd
       have g134:v 134=.bool true:=hd 7 _ _ _ rfl rfl rfl rfl
       clear hd
       rw [g134]
       have x0:=jC ((h1.block _ (jB G18.out)).trans G18.out) 0
       have x1:=jC ((h1.block _ (jB G18.out)).trans G18.out) 1
       simp only [gT,gZ,gS] at x0 x1
       clear g134 h1
       go_wp2_with fail
       first|exact Below.refl _ _|exact ⟨Below.refl _ _,rfl⟩|exact ⟨rfl,Below.refl _ _⟩
     apply growt_cons
     · intro v w1 h1 hd
       have g134:v 134=.bool true:=hd 7 _ _ _ rfl rfl rfl rfl
       clear hd
       rw [g134]
       have x0:=jC ((h1.block _ (jB G8.out)).trans G8.out) 0
       have x1:=jC ((h1.block _ (jB G8.out)).trans G8.out) 1
       simp only [gT,gZ,gS] at x0 x1
       clear g134 h1
       go_wp2_with fail
       first|exact Below.refl _ _|exact ⟨Below.refl _ _,rfl⟩|exact ⟨rfl,Below.refl _ _⟩
     apply growt_cons
     · intro v w1 h1 hd
       have g134:v 134=.bool true:=hd 7 _ _ _ rfl rfl rfl rfl
       have g135:v 135=.agg #[.slice u1 2 v1,.slice u2 2 v2]:=hd 8 _ _ _ rfl rfl rfl rfl
       have g136:v 136=.agg #[.slice a1 2 c1,.slice a2 2 c2]:=hd 9 _ _ _ rfl rfl rfl rfl
       clear hd
       rw [g134,g135,g136]
       have con:=alike_any (TU.out.below h1) (RSV.out.below h1) (inv_rowsO HIN.out) (inv_rowsO HIN.out) (HKV.out.below h1)
       rw [alike_refl] at con
       clear g134 g135 g136 h1
       go_wp2_with fail
       refine con.mono ?_
       rintro e w2 ⟨rfl,b2⟩
       have B2:=hid b2
       clear con b2
       go_wp2_with fail
       first|exact B2.out|exact ⟨B2.out,rfl⟩|exact ⟨rfl,B2.out⟩
     apply growt_cons
     · intro v w1 h1 hd
       have g134:v 134=.bool true:=hd 7 _ _ _ rfl rfl rfl rfl
       have g137:v 137=.bool true:=hd 10 _ _ _ rfl rfl rfl rfl
       clear hd
       rw [g134,g137]
       clear g134 g137 h1
       go_wp2_with fail
       first|exact Below.refl _ _|exact ⟨Below.refl _ _,rfl⟩|exact ⟨rfl,Below.refl _ _⟩
     apply growt_cons
     · intro v w1 h1 hd
       have g138:v 138=.bool true:=hd 11 _ _ _ rfl rfl rfl rfl
       clear hd
       rw [g138]
       clear g138 h1
       go_wp2_with fail
       first|exact Below.refl _ _|exact ⟨Below.refl _ _,rfl⟩|exact ⟨rfl,Below.refl _ _⟩
     apply growt_cons
     · intro v w1 h1 hd
       have g139:v 139=.bool true:=hd 12 _ _ _ rfl rfl rfl rfl
       clear hd
       rw [g139]
       have x0:=jC ((h1.block _ (jB G19.out)).trans G19.out) 0
       have x1:=jC ((h1.block _ (jB G19.out)).trans G19.out) 1
       have x2:=jC ((h1.block _ (jB G19.out)).trans G19.out) 2
       simp only [gT,gZ,gS] at x0 x1 x2
       clear g139 h1
       go_wp2_with fail
       first|exact Below.refl _ _|exact ⟨Below.refl _ _,rfl⟩|exact ⟨rfl,Below.refl _ _⟩
     apply growt_cons
     · intro v w1 h1 hd
       have g139:v 139=.bool true:=hd 12 _ _ _ rfl rfl rfl rfl
       clear hd
       rw [g139]
       clear g139 h1
       go_wp2_with fail
       first|exact Below.refl _ _|exact ⟨Below.refl _ _,rfl⟩|exact ⟨rfl,Below.refl _ _⟩
     apply growt_cons
     · intro v w1 h1 hd
       have g139:v 139=.bool true:=hd 12 _ _ _ rfl rfl rfl rfl
       have g140:v 140=.agg #[.int .i64 0,.slice u3 0 v3,.int .i64 0]:=hd 13 _ _ _ rfl rfl rfl rfl
       have g141:v 141=.agg #[.int .i64 0,.slice none 0 0,.int .i64 0]:=hd 14 _ _ _ rfl rfl rfl rfl
       clear hd
       rw [g139,g140,g141]
       have con:Calls Tryz.prog 29 #[.agg #[.int .i64 0,.slice u3 0 v3,.int .i64 0],.agg #[.int .i64 0,.slice none 0 0,.int .i64 0]] w1 fun e w'=>e=.returned (.bool true)/\Below w1.heap.size w1 w':=by
        have h:=sameA_any (p:=fun _=>True) (q:=fun _=>True) (x:=[]) (y:=[]) (ex:=0) (ey:=0) (nx:=0) (ny:=0) (a:=u3) (c:=v3) (a':=none) (c':=0) ⟨u3,v3,rfl,Nat.zero_le _,Nat.zero_le _,RowAt.nil⟩ ⟨none,0,rfl,Nat.zero_le _,Nat.zero_le _,RowAt.nil⟩ (HKV.out.below h1)
        rw [sameA_refl] at h
        exact h
       clear g139 g140 g141 h1
       go_wp2_with fail
       refine con.mono ?_
       rintro e w2 ⟨rfl,b2⟩
       have B2:=hid b2
       clear con b2
       go_wp2_with fail
       first|exact B2.out|exact ⟨B2.out,rfl⟩|exact ⟨rfl,B2.out⟩
     exact growt_nil
    case hend =>
     intro v w7 h1 hd
     have g139:v 139=.bool true:=hd 12 _ _ _ rfl rfl rfl
     have g142:v 142=.bool true:=hd 15 _ _ _ rfl rfl rfl
     clear hd
     rw [g139,g142]
     have BE:=hid (BV.out.trans (h1.mono BV.out.size))
     clear g139 g142 h1
     simp only [List.drop_succ_cons,List.drop_zero]
     go_wp2_with fail
     go_ret
     exact ⟨rfl,BE.out⟩
  · have d1:decide (1<=kind)=true:=by simp;omega
    have d2:decide (kind<=7)=false:=by simp;omega
    have HKK:=hid (show ¬ (1<=kind/\kind<=7)/\(Lit.int .i64 kind).wf=true from ⟨by omega,by simp [Lit.wf,IntKind.min,IntKind.max,IntKind.signed,IntKind.bits];omega⟩)
    go_upto_region 25 with (fail)
    clear d1 d2 hc
    have x0:=jC G8.out 0
    have x1:=jC G8.out 1
    simp only [gT,gZ,gS] at x0 x1
    have con:=do_two RSU.out (other_at (p:=fun _=>True) (k:=kind)) HIN.out (by decide) (other_small HKK.out.2) HKU.out (stepS_other HKK.out.1) (stepA_other HKK.out.1) rfl
    go_wp2_with fail
    refine con.mono ?_
    rintro e w5 ⟨u1,v1,u2,v2,u3,v3,rfl,b5,t5,_⟩
    clear con x0 x1
    go_upto_region 26 with (fail)
    generalize hX:World.alloc _ _=V
    have hV:allocs w5 [_,_]=V:=hX
    have G18:=hid (show V.heap[w5.heap.size]? = some (.cells #[.slice u1 2 v1,.slice u2 2 v2] 27 (0,0)) from allocs_get hV 0 rfl)
    have G19:=hid (show V.heap[w5.heap.size+1]? = some (.cells #[.int .i64 0,.slice u3 0 v3,.int .i64 0] 43 (0,0)) from allocs_get hV 1 rfl)
    have bz:=allocs_self hV
    have TU:=hid (t5.below bz)
    have BV5:=hid (b5.trans (bz.mono b5.size))
    have BV:=hid (BU.out.trans (BV5.out.mono BU.out.size))
    replace G8:=cy BV5.out G8
    have RSV:=hid (RSU.out.below BV5.out)
    have HKV:=hid (HKU.out.below BV5.out)
    have HLV:=hid (HLU.out.below BV5.out)
    obtain ⟨q18,hq18⟩:∃ q,w5.heap.size=q:=⟨_,rfl⟩
    rw [hq18] at G18 G19 ⊢
    clear hX hV bz b5 t5 hq18 BV5 RSU HKU HLU BU HKK hk1 hk2 HKR
    apply wp_region_growt 16 [127,128,129,130,131,132,133,134,135,136,137,138,139,140,141,142]
     [fun _ u _=>u=.bool true,
      fun _ u _=>u=.bool true,
      fun _ u _=>u=.agg #[.slice a1 2 c1,.slice a2 2 c2],
      fun _ u _=>u=.slice al l.length cl,
      fun _ u w'=>FilledU A B u w',
      fun _ u _=>u=.bool true,
      fun _ u _=>u=.bool true,
      fun _ u _=>u=.bool true,
      fun _ u _=>u=.agg #[.slice u1 2 v1,.slice u2 2 v2],
      fun _ u _=>u=.agg #[.slice a1 2 c1,.slice a2 2 c2],
      fun _ u _=>u=.bool true,
      fun _ u _=>u=.bool true,
      fun _ u _=>u=.bool true,
      fun _ u _=>u=.agg #[.int .i64 0,.slice u3 0 v3,.int .i64 0],
      fun _ u _=>u=.agg #[.int .i64 0,.slice none 0 0,.int .i64 0],
      fun _ u _=>u=.bool true]
     (fun w'=>Below V.heap.size V w')
    case hF =>
     intro v
     simp only [setAll,List.foldl_cons,List.foldl_nil,Act.put,List.setIfInBounds_toArray,List.set_cons_succ,List.set_cons_zero]
     exact rfl
    case hm=>kernel_rfl
    case hB=>kernel_rfl
    case hsz=>kernel_rfl
    case hC=>exact fun w1 w2 h b=>h.trans (b.mono h.size)
    case hw=>exact Below.drew b0R
    case hS =>
     intro D hD v u
     simp only [List.mem_cons,List.not_mem_nil,or_false] at hD
     rcases hD with rfl|rfl|rfl|rfl|rfl|rfl|rfl|rfl|rfl|rfl|rfl|rfl|rfl|rfl|rfl|rfl
     · exact fun w1 w2 h _=>h
     · exact fun w1 w2 h _=>h
     · exact fun w1 w2 h _=>h
     · exact fun w1 w2 h _=>h
     · exact fun w1 w2 h hr=>h.below hr
     · exact fun w1 w2 h _=>h
     · exact fun w1 w2 h _=>h
     · exact fun w1 w2 h _=>h
     · exact fun w1 w2 h _=>h
     · exact fun w1 w2 h _=>h
     · exact fun w1 w2 h _=>h
     · exact fun w1 w2 h _=>h
     · exact fun w1 w2 h _=>h
     · exact fun w1 w2 h _=>h
     · exact fun w1 w2 h _=>h
     · exact fun w1 w2 h _=>h
    case hob =>
     simp only [List.take_succ_cons,List.take_zero]
     apply growt_cons
     · intro v w1 h1 hd
       clear hd
       clear h1
       go_wp2_with fail
       first|exact Below.refl _ _|exact ⟨Below.refl _ _,rfl⟩|exact ⟨rfl,Below.refl _ _⟩
     apply growt_cons
     · intro v w1 h1 hd
       have g127:v 127=.bool true:=hd 0 _ _ _ rfl rfl rfl rfl
       clear hd
       rw [g127]
       clear g127 h1
       go_wp2_with fail
       first|exact Below.refl _ _|exact ⟨Below.refl _ _,rfl⟩|exact ⟨rfl,Below.refl _ _⟩
     apply growt_cons
     · intro v w1 h1 hd
       have g128:v 128=.bool true:=hd 1 _ _ _ rfl rfl rfl rfl
       clear hd
       rw [g128]
       have x0:=jC ((h1.block _ (jB G8.out)).trans G8.out) 0
       have x1:=jC ((h1.block _ (jB G8.out)).trans G8.out) 1
       simp only [gT,gZ,gS] at x0 x1
       clear g128 h1
       go_wp2_with fail
       first|exact Below.refl _ _|exact ⟨Below.refl _ _,rfl⟩|exact ⟨rfl,Below.refl _ _⟩
     apply growt_cons
     · intro v w1 h1 hd
       have g128:v 128=.bool true:=hd 1 _ _ _ rfl rfl rfl rfl
       clear hd
       rw [g128]
       clear g128 h1
       go_wp2_with fail
       first|exact Below.refl _ _|exact ⟨Below.refl _ _,rfl⟩|exact ⟨rfl,Below.refl _ _⟩
     apply growt_cons
     · intro v w1 h1 hd
       have g128:v 128=.bool true:=hd 1 _ _ _ rfl rfl rfl rfl
       have g130:v 130=.slice al l.length cl:=hd 3 _ _ _ rfl rfl rfl rfl
       clear hd
       rw [g128,g130]
       have con:=filled_any (HLV.out.below h1) (HKV.out.below h1)
       clear g128 g130 h1
       go_wp2_with fail
       refine con.mono ?_
       rintro e w2 ⟨x1,y1,x2,y2,rfl,b2,t2⟩
       rw [HEQ.out.1,HEQ.out.2] at t2
       have B2:=hid b2
       have T2:=hid t2
       clear con b2 t2
       go_wp2_with fail
       first|exact ⟨B2.out,x1,y1,x2,y2,rfl,T2.out.weaken (fun _ _=>trivial)⟩|exact ⟨⟨x1,y1,x2,y2,rfl,T2.out.weaken (fun _ _=>trivial)⟩,B2.out⟩
     apply growt_cons
     · intro v w1 h1 hd
       have g128:v 128=.bool true:=hd 1 _ _ _ rfl rfl rfl rfl
       have g129:v 129=.agg #[.slice a1 2 c1,.slice a2 2 c2]:=hd 2 _ _ _ rfl rfl rfl rfl
       obtain ⟨x1,y1,x2,y2,g131,t2⟩:FilledU A B (v 131) w1:=hd 4 _ _ _ rfl rfl rfl rfl
       clear hd
       rw [g128,g129,g131]
       have con:=alike_any (RSV.out.below h1) t2 (inv_rowsO HIN.out) (inv_rowsO HIN.out) (HKV.out.below h1)
       rw [alike_refl] at con
       clear g128 g129 g131 h1 t2
       go_wp2_with fail
       refine con.mono ?_
       rintro e w2 ⟨rfl,b2⟩
       have B2:=hid b2
       clear con b2
       go_wp2_with fail
       first|exact B2.out|exact ⟨B2.out,rfl⟩|exact ⟨rfl,B2.out⟩
     apply growt_cons
     · intro v w1 h1 hd
       have g128:v 128=.bool true:=hd 1 _ _ _ rfl rfl rfl rfl
       have g132:v 132=.bool true:=hd 5 _ _ _ rfl rfl rfl rfl
       clear hd
       rw [g128,g132]
       clear g128 g132 h1
       go_wp2_with fail
       first|exact Below.refl _ _|exact ⟨Below.refl _ _,rfl⟩|exact ⟨rfl,Below.refl _ _⟩
     apply growt_cons
     · intro v w1 h1 hd
       have g133:v 133=.bool true:=hd 6 _ _ _ rfl rfl rfl rfl
       clear hd
       rw [g133]
       clear g133 h1
       go_wp2_with fail
       first|exact Below.refl _ _|exact ⟨Below.refl _ _,rfl⟩|exact ⟨rfl,Below.refl _ _⟩
     apply growt_cons
     · intro v w1 h1 hd
       have g134:v 134=.bool true:=hd 7 _ _ _ rfl rfl rfl rfl
       clear hd
       rw [g134]
       have x0:=jC ((h1.block _ (jB G18.out)).trans G18.out) 0
       have x1:=jC ((h1.block _ (jB G18.out)).trans G18.out) 1
       simp only [gT,gZ,gS] at x0 x1
       clear g134 h1
       go_wp2_with fail
       first|exact Below.refl _ _|exact ⟨Below.refl _ _,rfl⟩|exact ⟨rfl,Below.refl _ _⟩
     apply growt_cons
     · intro v w1 h1 hd
       have g134:v 134=.bool true:=hd 7 _ _ _ rfl rfl rfl rfl
       clear hd
       rw [g134]
       have x0:=jC ((h1.block _ (jB G8.out)).trans G8.out) 0
       have x1:=jC ((h1.block _ (jB G8.out)).trans G8.out) 1
       simp only [gT,gZ,gS] at x0 x1
       clear g134 h1
       go_wp2_with fail
       first|exact Below.refl _ _|exact ⟨Below.refl _ _,rfl⟩|exact ⟨rfl,Below.refl _ _⟩
     apply growt_cons
     · intro v w1 h1 hd
       have g134:v 134=.bool true:=hd 7 _ _ _ rfl rfl rfl rfl
       have g135:v 135=.agg #[.slice u1 2 v1,.slice u2 2 v2]:=hd 8 _ _ _ rfl rfl rfl rfl
       have g136:v 136=.agg #[.slice a1 2 c1,.slice a2 2 c2]:=hd 9 _ _ _ rfl rfl rfl rfl
       clear hd
       rw [g134,g135,g136]
       have con:=alike_any (TU.out.below h1) (RSV.out.below h1) (inv_rowsO HIN.out) (inv_rowsO HIN.out) (HKV.out.below h1)
       rw [alike_refl] at con
       clear g134 g135 g136 h1
       go_wp2_with fail
       refine con.mono ?_
       rintro e w2 ⟨rfl,b2⟩
       have B2:=hid b2
       clear con b2
       go_wp2_with fail
       first|exact B2.out|exact ⟨B2.out,rfl⟩|exact ⟨rfl,B2.out⟩
     apply growt_cons
     · intro v w1 h1 hd
       have g134:v 134=.bool true:=hd 7 _ _ _ rfl rfl rfl rfl
       have g137:v 137=.bool true:=hd 10 _ _ _ rfl rfl rfl rfl
       clear hd
       rw [g134,g137]
       clear g134 g137 h1
       go_wp2_with fail
       first|exact Below.refl _ _|exact ⟨Below.refl _ _,rfl⟩|exact ⟨rfl,Below.refl _ _⟩
     apply growt_cons
     · intro v w1 h1 hd
       have g138:v 138=.bool true:=hd 11 _ _ _ rfl rfl rfl rfl
       clear hd
       rw [g138]
       clear g138 h1
       go_wp2_with fail
       first|exact Below.refl _ _|exact ⟨Below.refl _ _,rfl⟩|exact ⟨rfl,Below.refl _ _⟩
     apply growt_cons
     · intro v w1 h1 hd
       have g139:v 139=.bool true:=hd 12 _ _ _ rfl rfl rfl rfl
       clear hd
       rw [g139]
       have x0:=jC ((h1.block _ (jB G19.out)).trans G19.out) 0
       have x1:=jC ((h1.block _ (jB G19.out)).trans G19.out) 1
       have x2:=jC ((h1.block _ (jB G19.out)).trans G19.out) 2
       simp only [gT,gZ,gS] at x0 x1 x2
       clear g139 h1
       go_wp2_with fail
       first|exact Below.refl _ _|exact ⟨Below.refl _ _,rfl⟩|exact ⟨rfl,Below.refl _ _⟩
     apply growt_cons
     · intro v w1 h1 hd
       have g139:v 139=.bool true:=hd 12 _ _ _ rfl rfl rfl rfl
       clear hd
       rw [g139]
       clear g139 h1
       go_wp2_with fail
       first|exact Below.refl _ _|exact ⟨Below.refl _ _,rfl⟩|exact ⟨rfl,Below.refl _ _⟩
     apply growt_cons
     · intro v w1 h1 hd
       have g139:v 139=.bool true:=hd 12 _ _ _ rfl rfl rfl rfl
       have g140:v 140=.agg #[.int .i64 0,.slice u3 0 v3,.int .i64 0]:=hd 13 _ _ _ rfl rfl rfl rfl
       have g141:v 141=.agg #[.int .i64 0,.slice none 0 0,.int .i64 0]:=hd 14 _ _ _ rfl rfl rfl rfl
       clear hd
       rw [g139,g140,g141]
       have con:Calls Tryz.prog 29 #[.agg #[.int .i64 0,.slice u3 0 v3,.int .i64 0],.agg #[.int .i64 0,.slice none 0 0,.int .i64 0]] w1 fun e w'=>e=.returned (.bool true)/\Below w1.heap.size w1 w':=by
        have h:=sameA_any (p:=fun _=>True) (q:=fun _=>True) (x:=[]) (y:=[]) (ex:=0) (ey:=0) (nx:=0) (ny:=0) (a:=u3) (c:=v3) (a':=none) (c':=0) ⟨u3,v3,rfl,Nat.zero_le _,Nat.zero_le _,RowAt.nil⟩ ⟨none,0,rfl,Nat.zero_le _,Nat.zero_le _,RowAt.nil⟩ (HKV.out.below h1)
        rw [sameA_refl] at h
        exact h
       clear g139 g140 g141 h1
       go_wp2_with fail
       refine con.mono ?_
       rintro e w2 ⟨rfl,b2⟩
       have B2:=hid b2
       clear con b2
       go_wp2_with fail
       first|exact B2.out|exact ⟨B2.out,rfl⟩|exact ⟨rfl,B2.out⟩
     exact growt_nil
    case hend =>
     intro v w7 h1 hd
     have g139:v 139=.bool true:=hd 12 _ _ _ rfl rfl rfl
     have g142:v 142=.bool true:=hd 15 _ _ _ rfl rfl rfl
     clear hd
     rw [g139,g142]
     have BE:=hid (BV.out.trans (h1.mono BV.out.size))
     clear g139 g142 h1
     simp only [List.drop_succ_cons,List.drop_zero]
     go_wp2_with fail
     go_ret
     exact ⟨rfl,BE.out⟩
end
end Go.Proofs.YtgemihkcihigpaaGreatDoor
