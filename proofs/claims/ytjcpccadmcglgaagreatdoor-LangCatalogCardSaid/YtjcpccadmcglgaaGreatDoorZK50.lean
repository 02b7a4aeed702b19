/- LangCatalog: the walk. -/
import Derived.Test.YtjcpccadmcglgaaGreatDoorZK49
import Derived.Test.YtjcpccadmcglgaaGreatDoorZK41
import Derived.Test.YtjcpccadmcglgaaGreatDoorZK7
import Derived.Test.YtjcpccadmcglgaaGreatDoorZK4
set_option linter.unusedVariables false
set_option linter.unusedSimpArgs false
set_option maxRecDepth 100000
set_option maxHeartbeats 64000000
namespace Go.Proofs.YtjcpccadmcglgaaGreatDoor
open Go.Lib (hid)
section
open Go.RowKit
theorem wpSegs_end {P:Program} {l:List Oper} {Q:Act->World->Prop} {I C:World->Prop} {qs:List Nat} {j:Nat} {a A:Act} {o:Oper} (v:Value) (J:World->Prop) (hC:Stable C) (hJI:∀ w,J w->I w) (hCJ:∀ w,C w->J w)
 (hq:∀ w0,J w0->wpQuiet P l.toArray (fun w'=>∃ x:Wld (Below w0.heap.size w0),w'=x.val) (fun a'=>a'=A) (pickOps l qs) a)
 (ho:l[j]? = some o) (hw:Region.wanted o (yielded l.toArray A.tmps)=true) (hj:j=l.length - 1)
 (hrun:∀ w,(execOp A.eval o).run P w=.ok (.value v) w) (hrest:∀ w,C w->Q (A.put o.dst v) w):wpSegs P l Q I [(qs,j)] a C :=
 ⟨J,A,hJI,hCJ,hq,o,ho,hw,fun u w=>u=v/\C w,fun u w w' h hb=>⟨h.1,hC w w' h.2 hb⟩,fun h=>absurd hj h,fun w hc=>by
  unfold Oper.loose
  rw [hrun w]
  exact ⟨v,fun _ _ _=>rfl,rfl,hc⟩,fun u ⟨w,h⟩ w' h'=>by rw [h'.1];exact hrest w' h'.2⟩
theorem parse_read2 {s:ByteArray} {q:Stmt} {w:World} {e:Ending} {w':World} (h:ParsePost s w e w') (hp:parseM s=.ok q) :
 Below w.heap.size w w'/\∃ L:Lists,e=.returned (.tuple #[.agg (stC L q),.int .i64 0,.int .i64 0])/\SlsAt (fun k=>w.heap.size<=k) w' L q:=by
 obtain ⟨hb,⟨q',L,h1,h2,h3⟩|⟨er,h1,h2⟩⟩:=h
 · rw [h1] at hp
   cases hp
   exact ⟨hb,L,h2,h3.read ((parse_code.2 q h1).mono (by decide))⟩
 · rw [h1] at hp
   cases hp
theorem callC_push (L:Lists) (s:Stmt) (rt:Int):callC L s rt=(stC L s).push (.int .i64 rt):=rfl
theorem call_new {p:Nat->Prop} {L:Lists} {s:Stmt} {rt:Int} {w0:World} (h:SlsAt p w0 L s) {V:Array Value} (hV:V=stC L s) (w:World):(storeCells ⟨w.heap.size,0,none⟩ (V.push (.int .i64 rt)).toList 0).run Tryz.prog (w.alloc (.cells #[.int .i64 0,.string ⟨#[]⟩,.string ⟨#[]⟩,.slice none 0 0,.slice none 0 0,.slice none 0 0,.slice none 0 0,.slice none 0 0,.string ⟨#[]⟩,.string ⟨#[]⟩,.string ⟨#[]⟩,.int .i64 0,.slice none 0 0,.int .i64 0,.int .i64 0,.int .i64 0] 35))=.ok () (w.alloc (.cells (V.push (.int .i64 rt)) 35)):=by
 have hz:(V.push (.int .i64 rt)).size=16:=by rw [hV];rfl
 refine run_storeCells_new w 35 _ (V.push (.int .i64 rt)) (by rw [hz];kernel_rfl) (by rw [hz];rfl) ?_
 rw [hV]
 have h:=st_cells h
 simp [stC] at h
 obtain ⟨g1,g2,g3,g4,g5,g6,g7,g8,g9,g10,g11,g12,g13,g14,g15⟩:=h
 have g16:(Value.int .i64 rt).oneCell'=true:=rfl
 simp [stC,g1,g2,g3,g4,g5,g6,g7,g8,g9,g10,g11,g12,g13,g14,g15,g16]
theorem stmtV_of {p:Nat->Prop} {w:World} {L:Lists} {s:Stmt} (h:SlsAt p w L s):StmtV p w (.agg (stC L s)) s:=by
 obtain ⟨⟨d0,d00,e1⟩,⟨d1,d11,e2⟩,⟨d2,d22,e3⟩,⟨d3,d33,e4⟩,⟨d4,d44,e5⟩,⟨d5,d55,e6⟩⟩:=h.shapes
 obtain ⟨Lc,Ln,Lr,Ls,Lw,Lo⟩:=L
 simp only at e1 e2 e3 e4 e5 e6
 subst e1 e2 e3 e4 e5 e6
 exact ⟨d0,d00,d1,d11,d2,d22,d3,d33,d4,d44,d5,d55,rfl,h.cols,h.names,h.row,h.sets,h.wher,h.order⟩
theorem CatSm.names {C:List Tab} (h:CatSm C):∀ t ∈ C,∀ c ∈ t.cols,c.1.size<=maxLen:=fun t ht c hc=>by
 have:=(h.tab t ht).2.2.2.1 c hc
 unfold maxLen
 omega
theorem Md14.wf {s:Stmt} (h:Md14 s):(Lit.int .i64 s.kind).wf=true:=by
 rcases h.kind with h|h|h <;> rw [h] <;> rfl
theorem cat_walk {al:Option Addr} {n cl:Nat} {w:World} (hR:RowsC w al n) (hn:n<=140737488355328) (he:EnvL w) :
 Calls Tryz.prog 3 #[.slice al n cl] w fun e w'=>e=.returned (.bool true)/\Below w.heap.size w w':=by
 have con:=sanity_any he
 have HE:=hid he
 have HRW:=hid hR
 obtain ⟨N,hN⟩:∃ N,N=15:=⟨_,rfl⟩
 have z15:=st_size hN
 obtain ⟨M,hM⟩:∃ M,M=16:=⟨_,rfl⟩
 have z16:∀ W:World,(sizeOf 35).run Tryz.prog W=.ok M W:=by intro W;rw [hM];kernel_rfl
 have HN:=hid (show N=15/\M=16 from ⟨hN,hM⟩)
 have n0:¬ N=0:=by omega
 have n1:¬ M=0:=by omega
 have n2:(N == 0)=false:=by simpa using n0
 clear he hR hN hM
 go_enter Tryz.func3,Tryz.ntmps3
 go_wp2_with fail
 refine con.mono ?_
 rintro e w2 ⟨rfl,b2⟩
 have B2:=hid b2
 clear con b2
 have con:=cnew_any w2
 go_wp2_with fail
 refine con.mono ?_
 rintro e w3 ⟨rfl,hw3⟩
 have con2:=cnew_any w3
 have HW3:=hid hw3
 clear con hw3
 go_wp2_with fail
 refine con2.mono ?_
 rintro e w4 ⟨rfl,hw4⟩
 have s3:w3.heap.size=w2.heap.size+1:=by rw [HW3.out];simp
 have s4:w4.heap.size=w3.heap.size+1:=by rw [hw4];simp
 obtain ⟨a,ha⟩:∃ a,a=w2.heap.size:=⟨_,rfl⟩
 obtain ⟨b,hb⟩:∃ b,b=w3.heap.size:=⟨_,rfl⟩
 have OO:=hid (show Odd w.heap.size a b [] [] (fun _=>False) w4 from odd_new (by rw [ha];exact B2.out.size) (by rw [hb,s3];have:=B2.out.size;omega) (by omega)
  (by rw [hw4,ha];refine (heap_alloc_old _ _ (by rw [s3];omega)).trans ?_;rw [HW3.out];exact heap_alloc_new _ _) (by rw [hw4,hb];exact heap_alloc_new _ _))
 have B4:=hid (show Below w.heap.size w w4 from by rw [hw4,HW3.out];exact (B2.out.alloc B2.out.size _).alloc (by have:=B2.out.size;simp;omega) _)
 clear con2 hw4 HW3 B2 s3 s4
 rw [<- ha,<- hb]
 clear ha hb
 go_wp2_with fail
 go_loopw [6] (fun ii wr=>∃ k:Nat,k<=n/\k<=30/\ii=.int .i64 k/\Hid (∃ C,CatSm C/\Odd w.heap.size a b C C (fun _=>False) wr/\Below w.heap.size w wr)) (fun ii _=>30 - (intOf ii).toNat)
 case atStart=>exact ⟨0,Nat.zero_le _,Nat.zero_le _,rfl,[],sm_nil,OO.out,B4.out⟩
 case round =>
  obtain ⟨k,hk,hk30,rfl,HK⟩:=hrel
  obtain ⟨C,hC,hO,hB⟩:=HK.out
  have HC:=hid hC
  have HO:=hid hO
  have HB:=hid hB
  have hwr:=hB.size
  clear hC hO hB HK
  by_cases h1:k<n
  · by_cases h2:k<30
    · obtain ⟨rb,ro,rfl,hrb,hrow⟩:∃ b off,al=some ⟨b,off,none⟩/\b<w.heap.size/\∀ i,i<n->∃ a cap Z,w.cell? ⟨b,off+i,none⟩=some (.slice a (List.length Z) cap)/\IntsC w a Z/\(∀ x ∈ Z,Rng x)/\Z.length<=140737488355328:=by
       rcases HRW.out with h|h
       · omega
       · exact h
      obtain ⟨za,zc,Z,c0,hz,hzr,hzl⟩:=hrow k h1
      have c0:=(HB.out.cell (p:=⟨rb,ro+k,none⟩) hrb).trans c0
      have con:=made14_any (cl:=zc) (hz.below HB.out) hzr hzl
      obtain ⟨zn,hzn⟩:∃ zn,zn=Z.length:=⟨_,rfl⟩
      rw [<- hzn] at c0 con
      clear hrow hz hzr hzl hzn
      go_wp2_with fail
      refine con.mono ?_
      rintro e w5 ⟨⟨Lc,c,rt,rfl,hm,l5⟩,b5⟩
      have HM:=hid hm
      obtain ⟨V,hV⟩:∃ V,V=stC Lc c:=⟨_,rfl⟩
      rw [callC_push,<- hV]
      obtain ⟨VC,hVC⟩:∃ X,X=V.push (.int .i64 rt):=⟨_,rfl⟩
      rw [<- hVC]
      have sn:=call_new (rt:=rt) l5 hV w5
      rw [<- hVC] at sn
      have hz6:VC.size=M:=by rw [HN.out.2,hVC,hV];rfl
      have HVC:=hid hVC
      have HV:=hid hV
      have L5:=hid l5
      have B5:=hid b5
      clear con c0 hm l5 b5 hV hVC
      go_upto_region 10 with (fail)
      obtain ⟨gc,hgc⟩:∃ g,g=w5.heap.size:=⟨_,rfl⟩
      obtain ⟨W6,hW6⟩:∃ W,w5.alloc (.cells VC 35)=W:=⟨_,rfl⟩
      rw [hW6,<- hgc]
      have b6:Below w5.heap.size w5 W6:=by rw [<- hW6];exact (b0R).alloc (jR _) _
      have K6:=hid (show W6.heap[gc]? = some (.cells VC 35 (0,0)) from by rw [<- hW6,hgc];exact heap_alloc_new _ _)
      have D6:=hid (show Below wr.heap.size wr W6 from B5.out.trans (b6.mono B5.out.size))
      have B6:=hid (show Below w.heap.size w W6 from HB.out.trans (D6.out.mono hwr))
      have L6:=hid (show SlsAt (fun k=>wr.heap.size<=k) W6 Lc c from L5.out.below b6)
      have GC:=hid (show wr.heap.size<=gc from by rw [hgc];exact B5.out.size)
      have hpush:∀ (j:Nat) (v:Value),V[j]? = some v->VC[j]? = some v:=fun j v h=>by
       rw [HVC.out]
       have hj:=(Array.getElem?_eq_some_iff.1 h).1
       rw [Array.getElem?_push_lt hj,<- h,Array.getElem?_eq_getElem hj]
      have HPU:=hid hpush
      have HVN:=hid (show V.size=N from by rw [HN.out.1,HV.out];rfl)
      clear sn hz6 hgc hW6 b6 B5 L5 hpush
      have ld:=box_load_part (P:=Tryz.prog) K6.out HPU.out HVN.out
      have con:=print_any (HE.out.below B6.out) L6.out HM.out.ok HM.out.size
      rw [<- HV.out] at con
      obtain ⟨P,hP⟩:∃ P,P=printM c:=⟨_,rfl⟩
      have HP:=hid hP
      rw [<- hP] at con
      clear hP
      go_wp2_with fail
      refine con.mono ?_
      rintro e w7 ⟨rfl,b7⟩
      have K7:=cy b7 K6
      have D7:=hid (D6.out.trans (b7.mono D6.out.size))
      have B7:=hid (B6.out.trans (b7.mono B6.out.size))
      have L7:=hid (L6.out.below b7)
      clear con ld b7 K6 D6 B6 L6
      cases hr:rightM c with
      | false =>
       have e1:=str_none (show P=noStr from by rw [HP.out];exact print_wrong hr)
       have ld:=box_load_part (P:=Tryz.prog) K7.out HPU.out HVN.out
       have con:=right_any (HE.out.below B7.out) L7.out HM.out.ok HM.out.size
       rw [<- HV.out,hr] at con
       go_wp2_with fail
       refine con.mono ?_
       rintro e w8 ⟨rfl,b8⟩
       have D8:=hid (D7.out.trans (b8.mono D7.out.size))
       clear con ld b8 e1
       go_wp2_with fail
       go_roundw
       case rel=>exact ⟨k+1,by omega,by omega,by go_num,C,HC.out,HO.out.below D8.out,HB.out.trans (D8.out.mono hwr)⟩
       case measure=>simp [intOf];omega
      | true =>
       have HPR:=hid (show P=printedM c/\parseM P=.ok c from by
        obtain ⟨k1,k2⟩:=print_right hr
        rw [HP.out,k1]
        exact ⟨rfl,k2⟩)
       have e1:=str_some (show ¬ P=noStr from fun e=>by
        have:=HPR.out.2
        rw [e,show noStr=⟨#[]⟩ from rfl,none_bad] at this
        cases this)
       have con:=parse_any (s:=P) (HE.out.below B7.out) (by rw [HPR.out.1];exact HM.out.size)
       clear hr
       go_wp2_with fail
       refine con.mono ?_
       intro e w8 h8
       obtain ⟨b8,Ls,rfl,l8⟩:=parse_read2 h8 HPR.out.2
       obtain ⟨VS,hVS⟩:∃ V,V=stC Ls c:=⟨_,rfl⟩
       rw [<- hVS]
       have sn:=st_new l8 hVS w8
       have hz8:VS.size=N:=by rw [HN.out.1,hVS];rfl
       have HVS:=hid hVS
       have K8:=cy b8 K7
       have D8:=hid (D7.out.trans (b8.mono D7.out.size))
       have L8:=hid (L7.out.below b8)
       have M8:=hid (show SlsAt (fun k=>wr.heap.size<=k) w8 Ls c from l8.weaken fun k hk=>Nat.le_trans D7.out.size hk)
       clear con h8 b8 l8 hVS e1 K7 D7 B7 L7
       go_upto_region 15 with (fail)
       obtain ⟨gs,hgs⟩:∃ g,g=w8.heap.size:=⟨_,rfl⟩
       obtain ⟨W9,hW9⟩:∃ W,w8.alloc (.cells VS 33)=W:=⟨_,rfl⟩
       rw [hW9,<- hgs]
       have b9:Below w8.heap.size w8 W9:=by rw [<- hW9];exact (b0R).alloc (jR _) _
       have D9:=hid (D8.out.trans (b9.mono D8.out.size))
       have hK9:W9.heap[gc]? = some (.cells VC 35 (0,0)):=(b9.block _ (jB K8.out)).trans K8.out
       have hS9:W9.heap[gs]? = some (.cells VS 33 (0,0)):=by rw [<- hW9,hgs];exact heap_alloc_new _ _
       obtain ⟨Y,hY⟩:∃ Y,Y=fun k=>wr.heap.size<=k/\k<W9.heap.size:=⟨_,rfl⟩
       have O9:=hid (show Odd w.heap.size a b C C Y W9 from by rw [hY];exact HO.out.fresh D9.out)
       have YC:Y gc:=by rw [hY];exact ⟨GC.out,jB hK9⟩
       have YS:Y gs:=by rw [hY];exact ⟨by rw [hgs];exact D8.out.size,jB hS9⟩
       have YL:=hid (show ∀ k,Y k->k<W9.heap.size from fun k hk=>by rw [hY] at hk;exact hk.2)
       have L9:=hid (show SlsAt Y W9 Lc c from by rw [hY];exact (L8.out.below b9).bound)
       have M9:=hid (show SlsAt Y W9 Ls c from by rw [hY];exact (M8.out.below b9).bound)
       have B9:=hid (HB.out.trans (D9.out.mono hwr))
       obtain ⟨r1,hr1⟩:∃ r,r=(catV C c rt).1:=⟨_,rfl⟩
       obtain ⟨C1,hC1⟩:∃ D,D=(catV C c rt).2:=⟨_,rfl⟩
       have HC1:=hid (show CatSm C1 from by rw [hC1];exact catV_sm HC.out)
       obtain ⟨s1,hs1⟩:∃ s:ByteArray,s=⟨(catB C1).toArray⟩:=⟨_,rfl⟩
       have HEQ:=hid (show r1=(catV C c rt).1/\C1=(catV C c rt).2/\s1=⟨(catB C1).toArray⟩ from ⟨hr1,hC1,hs1⟩)
       have JK:=hid (show ∀ x:World,(∀ k,Y k->x.heap[k]? = W9.heap[k]?)->x.heap[gc]? = some (.cells VC 35 (0,0))/\x.heap[gs]? = some (.cells VS 33 (0,0)) from fun x h=>⟨(h gc YC).trans hK9,(h gs YS).trans hS9⟩)
       have KB:=hid (show ∀ x:World,Below W9.heap.size W9 x->∀ k,Y k->x.heap[k]? = W9.heap[k]? from fun x h k hk=>h.block k (YL.out k hk))
       have SD:=hid (show ∀ (D E:List Tab) (x y:World),(Odd w.heap.size a b D E Y x/\Below w.heap.size w x/\∀ k,Y k->x.heap[k]? = W9.heap[k]?)->Below x.heap.size x y->Odd w.heap.size a b D E Y y/\Below w.heap.size w y/\∀ k,Y k->y.heap[k]? = W9.heap[k]? from fun D E x y ⟨k1,k2,k3⟩ hb=>by
        refine ⟨k1.below hb,k2.trans (hb.mono k2.size),fun k hk=>(hb.block k ?_).trans (k3 k hk)⟩
        obtain ⟨u,us,v,vs,-,-,-,k4⟩:=k1
        exact (k4 k hk).1)
       clear sn hz8 hgs hW9 b9 hK9 hS9 hY YC YS K8 D8 L8 M8 hr1 hC1 hs1
       refine wp_region_loose2 [([0,1,2,3,4,5,6,7,9,10,11,12],8),([],13),([14,15,16,17,19],18),([],20),([21],22)] (fun _=>True) (Below W9.heap.size W9) (by kernel_rfl) (by kernel_rfl) (by kernel_rfl) (fun w1 w2 h b=>h.trans (b.mono h.size)) (Below.drew b0R) ?_
       apply wpSegs_call (fun x=>x.heap[gc]? = some (.cells VC 35 (0,0))/\x.heap[gs]? = some (.cells VS 33 (0,0))) (fun u x=>u=.int .i64 r1/\Odd w.heap.size a b C1 C Y x/\Below w.heap.size w x/\∀ k,Y k->x.heap[k]? = W9.heap[k]?) (fun _ _=>trivial) (fun x h=>JK.out x (KB.out x h))
       case hq =>
        rintro w0 ⟨hk0,hs0⟩
        have ne:Nonempty (Wld (Below w0.heap.size w0)):=⟨⟨w0,Below.refl _ _⟩⟩
        have ldk:=fun x:Wld (Below w0.heap.size w0)=>box_load_part (P:=Tryz.prog) ((x.good.block _ (jB hk0)).trans hk0) HPU.out HVN.out
        have lds:=fun x:Wld (Below w0.heap.size w0)=>box_load (P:=Tryz.prog) ((x.good.block _ (jB hs0)).trans hs0) (show VS.size=N from by rw [HN.out.1,HVS.out];rfl)
        have rtc:=fun x:Wld (Below w0.heap.size w0)=>(jC ((x.good.block _ (jB hk0)).trans hk0) 15).trans (show VC[15]? = some (.int .i64 rt) from by rw [HVC.out,HV.out];rfl)
        clear hk0 hs0
        simp only [pickOps,List.getElem?_cons_zero,List.getElem?_cons_succ]
        apply quiet_hide
        intro KE hKE
        repeat (go_big_quiet_step (fail))
        refine wpQuiet_nil ?_
        exact hKE _ rfl
       case ho=>rfl
       case hw=>kernel_rfl
       case hD=>exact fun u x y h hb=>⟨h.1,SD.out _ _ x y h.2 hb⟩
       case hDJ=>exact fun _ u x h=>JK.out x h.2.2.2
       case hlo =>
        intro x hx
        refine loose_call (args:=#[.pointer (some ⟨a,0,none⟩),.agg V,.int .i64 rt]) (run_call_func rfl (by kernel_rfl) (enters_of Tryz.func10 (by kernel_rfl) rfl)) ?_
        have hsz:=B9.out.size
        rw [HV.out]
        refine (odd_do (O9.out.below hx) (TabsSmall.of HC.out) (stmtV_of (L9.out.below hx)) HM.out.wf (Nat.le_trans HM.out.cols.1 (by decide)) (Nat.le_trans HM.out.names.1 (by decide)) HC.out.names (Nat.le_trans hsz hx.size)).mono ?_
        rintro e y ⟨he,hb,ho,hk⟩
        rw [<- HEQ.out.1] at he
        rw [<- HEQ.out.2.1] at ho
        exact ⟨_,he,rfl,ho,(B9.out.trans (hx.mono hsz)).trans hb,fun k hy=>(hk k hy).trans (KB.out x hx k hy)⟩
       case hrest =>
        rintro u x ⟨rfl,-,-⟩
        simp only [Act.put,List.setIfInBounds_toArray,List.set_cons_succ,List.set_cons_zero]
        apply wpSegs_call (fun x=>x.heap[gc]? = some (.cells VC 35 (0,0))/\x.heap[gs]? = some (.cells VS 33 (0,0))) (fun u x=>u=.int .i64 r1/\Odd w.heap.size a b C1 C1 Y x/\Below w.heap.size w x/\∀ k,Y k->x.heap[k]? = W9.heap[k]?) (fun _ h=>h) (fun x h=>JK.out x h.2.2.2)
        case hq=>exact fun _ _=>rfl
        case ho=>rfl
        case hw=>kernel_rfl
        case hD=>exact fun u x y h hb=>⟨h.1,SD.out _ _ x y h.2 hb⟩
        case hDJ=>exact fun _ u x h=>JK.out x h.2.2.2
        case hlo =>
         rintro x ⟨-,ho,hb,hk⟩
         refine loose_call (args:=#[.pointer (some ⟨b,0,none⟩),.agg VS,.int .i64 rt]) (run_call_func rfl (by kernel_rfl) (enters_of Tryz.func10 (by kernel_rfl) rfl)) ?_
         rw [HVS.out]
         have mx:SlsAt Y x Ls c:=M9.out.keep fun k hy _=>hk k hy
         refine (odd_do ho.swap (TabsSmall.of HC.out) (stmtV_of mx) HM.out.wf (Nat.le_trans HM.out.cols.1 (by decide)) (Nat.le_trans HM.out.names.1 (by decide)) HC.out.names hb.size).mono ?_
         rintro e y ⟨he,hb2,ho2,hk2⟩
         rw [<- HEQ.out.1] at he
         rw [<- HEQ.out.2.1] at ho2
         exact ⟨_,he,rfl,ho2.swap,hb.trans hb2,fun k hy=>(hk2 k hy).trans (hk k hy)⟩
        case hrest =>
         rintro u x ⟨rfl,-,-⟩
         simp only [Act.put,List.setIfInBounds_toArray,List.set_cons_succ,List.set_cons_zero]
         apply wpSegs_call (fun x=>x.heap[gc]? = some (.cells VC 35 (0,0))/\x.heap[gs]? = some (.cells VS 33 (0,0))) (fun u x=>u=.string s1/\Odd w.heap.size a b C1 C1 Y x/\Below w.heap.size w x/\∀ k,Y k->x.heap[k]? = W9.heap[k]?) (fun _ h=>h) (fun x h=>JK.out x h.2.2.2)
         case hq =>
          rintro w0 -
          have ne:Nonempty (Wld (Below w0.heap.size w0)):=⟨⟨w0,Below.refl _ _⟩⟩
          simp only [pickOps,List.getElem?_cons_zero,List.getElem?_cons_succ]
          apply quiet_hide
          intro KE hKE
          repeat (go_big_quiet_step (fail))
          refine wpQuiet_nil ?_
          exact hKE _ rfl
         case ho=>rfl
         case hw=>kernel_rfl
         case hD=>exact fun u x y h hb=>⟨h.1,SD.out _ _ x y h.2 hb⟩
         case hDJ=>exact fun _ u x h=>JK.out x h.2.2.2
         case hlo =>
          rintro x ⟨-,ho,hb,hk⟩
          refine loose_call (args:=#[.pointer (some ⟨a,0,none⟩)]) (run_call_func rfl (by kernel_rfl) (enters_of Tryz.func11 (by kernel_rfl) rfl)) ?_
          refine (bytes_any ho.one HC1.out).mono ?_
          rintro e y ⟨he,hby⟩
          rw [<- HEQ.out.2.2] at he
          exact ⟨_,he,rfl,SD.out _ _ x y ⟨ho,hb,hk⟩ hby⟩
         case hrest =>
          rintro u x ⟨rfl,-,-⟩
          simp only [Act.put,List.setIfInBounds_toArray,List.set_cons_succ,List.set_cons_zero]
          apply wpSegs_call (fun x=>x.heap[gc]? = some (.cells VC 35 (0,0))/\x.heap[gs]? = some (.cells VS 33 (0,0))) (fun u x=>u=.string s1/\Odd w.heap.size a b C1 C1 Y x/\Below w.heap.size w x/\∀ k,Y k->x.heap[k]? = W9.heap[k]?) (fun _ h=>h) (fun x h=>JK.out x h.2.2.2)
          case hq=>exact fun _ _=>rfl
          case ho=>rfl
          case hw=>kernel_rfl
          case hD=>exact fun u x y h hb=>⟨h.1,SD.out _ _ x y h.2 hb⟩
          case hDJ=>exact fun _ u x h=>JK.out x h.2.2.2
          case hlo =>
           rintro x ⟨-,ho,hb,hk⟩
           refine loose_call (args:=#[.pointer (some ⟨b,0,none⟩)]) (run_call_func rfl (by kernel_rfl) (enters_of Tryz.func11 (by kernel_rfl) rfl)) ?_
           refine (bytes_any ho.swap.one HC1.out).mono ?_
           rintro e y ⟨he,hby⟩
           rw [<- HEQ.out.2.2] at he
           exact ⟨_,he,rfl,SD.out _ _ x y ⟨ho,hb,hk⟩ hby⟩
          case hrest =>
           rintro u x ⟨rfl,-,-⟩
           simp only [Act.put,List.setIfInBounds_toArray,List.set_cons_succ,List.set_cons_zero]
           apply wpSegs_end (.bool false) (fun x=>x.heap[gc]? = some (.cells VC 35 (0,0))/\x.heap[gs]? = some (.cells VS 33 (0,0))) (fun x y h hb=>⟨h.1,SD.out _ _ x y h.2 hb⟩) (fun _ h=>h) (fun x h=>JK.out x h.2.2.2)
           case hq =>
            rintro w0 -
            have ne:Nonempty (Wld (Below w0.heap.size w0)):=⟨⟨w0,Below.refl _ _⟩⟩
            simp only [pickOps,List.getElem?_cons_zero,List.getElem?_cons_succ]
            apply quiet_hide
            intro KE hKE
            repeat (go_big_quiet_step (fail))
            refine wpQuiet_nil ?_
            exact hKE _ rfl
           case ho=>rfl
           case hw=>kernel_rfl
           case hj=>rfl
           case hrun=>exact fun x=>rfl
           case hrest =>
            rintro x ⟨-,ho,hb,hk⟩
            have HF:=hid (show CatSm C1/\Odd w.heap.size a b C1 C1 (fun _=>False) x/\Below w.heap.size w x from ⟨HC1.out,ho.none,hb⟩)
            clear ho hb hk
            simp only [Act.put,List.setIfInBounds_toArray,List.set_cons_succ,List.set_cons_zero]
            go_wp2_with fail
            go_roundw
            case rel=>exact ⟨k+1,by omega,by omega,by go_num,C1,HF.out.1,HF.out.2.1,HF.out.2.2⟩
            case measure=>simp [intOf];omega
    · have d1:decide (k<30)=false:=decide_eq_false h2
      have d2:decide ((k:Int)<30)=false:=decide_eq_false (by omega)
      go_wp2_with fail
      go_ret
      exact ⟨rfl,HB.out⟩
  · have d1:decide (k<n)=false:=decide_eq_false h1
    have d2:decide ((k:Int)<n)=false:=decide_eq_false (by omega)
    go_wp2_with fail
    go_ret
    exact ⟨rfl,HB.out⟩
end
end Go.Proofs.YtjcpccadmcglgaaGreatDoor
