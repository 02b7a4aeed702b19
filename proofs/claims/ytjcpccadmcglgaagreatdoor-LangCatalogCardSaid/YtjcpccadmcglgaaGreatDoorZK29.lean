/- where$1: a condition. -/
import Derived.Test.YtjcpccadmcglgaaGreatDoorZK28
import Derived.Test.YtjcpccadmcglgaaGreatDoorZK27
set_option linter.unusedVariables false
set_option linter.unusedSimpArgs false
set_option maxRecDepth 100000
set_option maxHeartbeats 64000000
namespace Go.Proofs.YtjcpccadmcglgaaGreatDoor
open Go.Lib (hid)
section
open Go.RowKit
def T6wher (ec:Array Value) (W:World) (u:Value) (w':World):Prop:=∃ g,u=.slice (some ⟨g,0,none⟩) 1 1/\w'.heap[g]? = some (.cells ec 52 (0,0))/\Below W.heap.size W w'
def T7wher (b qp j n:Nat) (v:Value) (xs:List Value) (W:World) (u:Value) (w':World):Prop :=
 ∃ wa,Below W.heap.size W wa/\w'.ownsRow 0 52 5 u n xs/\wa.grownBy w' v.ownBlock/\(u.ownBlock=v.ownBlock \/ u.ownBlock=some wa.heap.size)/\TJ b qp j v w'
theorem PAt.one' {X:Nat->Prop} {b en:Nat} {S:PS} {w:World} (h:PAt X b en S w) (hl:1<=S.l.length):∃ (a:Option Addr) (n c:Nat) (a':Option Addr),w.cell? ⟨b,0,none⟩=some (.slice a n c)/\w.frozen? ⟨b,0,none⟩=false/\1<=n/\n<=c/\n<=140737488355328 /\
 (∀ w1,(Instr.slice 46 (.slice a n c) (some (.int .i64 1)) none none).run Tryz.prog w1=.ok (.slice a' (n - 1) (c - 1)) w1) /\
 ∀ w1,Below w.heap.size w w1->PAt X b en { S with l:=S.l.tail } (w1.setCell ⟨b,0,none⟩ (.slice a' (n - 1) (c - 1)))/\Turn b w (w1.setCell ⟨b,0,none⟩ (.slice a' (n - 1) (c - 1))):=by
 obtain ⟨a,n,c,h1,h2,h3,h4,h5,_⟩:=h.one hl
 refine ⟨a,n,c,if c=1 then a else a.map fun x=>x.add (1 * 4),h1,h2,h3,h4,h5,fun w1=>?_,fun w1 hb=>?_⟩
 · rw [run_slice_l w1 46 a n c (by kernel_rfl) .i64 1 (by omega) (by omega)]
   simp [go_sem]
 · have hn:n=S.l.length:=by
    obtain ⟨a2,c2,L,hb2,hs2,_⟩:=h.open
    have k0:=jC hb2 0
    simp only [boxC,List.getElem?_toArray,List.getElem?_cons_zero] at k0
    rw [h1] at k0
    simp only [Option.some.injEq,Value.slice.injEq] at k0
    exact k0.2.1
   have hp:=h.below hb
   have h1':=(World.cell?_of_block (w:=w) (a:=⟨b,0,none⟩) (hb.block b h.lt_box)).trans h1
   have:=hp.taken (m:=1) (n:=n) hn (by omega) h1' (v:=.slice (if c=1 then a else a.map fun x=>x.add (1 * 4)) (n - 1) (c - 1)) (by
    by_cases hc:c=1
    · rw [if_pos hc,if_pos hc,hc]
    · rw [if_neg hc,if_neg hc])
   rw [tail_drop] at this
   exact ⟨this.1,(turn_below h.lt_box hb).trans this.2⟩
def NT (Y:Nat->Prop) (b en:Nat) (S:PS) (W w':World):Prop:=PAt Y b en S w'/\Turn b W w'
def opsL:List ByteArray:=[w_eq,w_ne,w_lt,w_le,w_gt,w_ge]
theorem cond1_any {X:Nat->Prop} {b en qp:Nat} {w0:World} {i:Nat} {S:PS} {w:World} (hi:i<=1000) (h:SJ X b en qp w0 (fun s=>s.wher.length) i S w) (hb0:b<qp) :
 Calls Tryz.prog 126 #[.pointer (some ⟨qp,0,none⟩)] w fun e w'=>SPost X b en qp w0 (fun s=>s.wher.length) i (condOne en S) e w':=by
 obtain ⟨hp,⟨Y,hP,hXY,hYp⟩,hk,hlen⟩:=h
 have NB:=hid (show ¬ X b/\qp ≠ b from ⟨fun e=>hP.nb (hXY b e),by omega⟩)
 obtain ⟨Pst,hPst⟩:∃ Pst,Pst=SPost X b en qp w0 (fun s=>s.wher.length) i (condOne en S):=⟨_,rfl⟩
 have HPST:=hid hPst
 rw [<- hPst]
 obtain ⟨w1,hw1⟩:∃ x,x=w:=⟨_,rfl⟩
 rw [<- hw1] at hp hP hk ⊢
 have HP1:=hid hp
 have HK1:=hid hk
 have P1:=hid hP
 have HY:=hid (show _/\_ from ⟨hXY,hYp⟩)
 have HLE0:=hid (show S.s.wher.length<=i/\i<=1000 from ⟨hlen,hi⟩)
 have HE1:=hid (congrFun (condOne_eq en) S)
 clear hp hk hP hXY hYp hPst hw1 hlen
 go_enter Tryz.func126,Tryz.ntmps126
 have kp1:=jC HP1.out 0
 simp only [List.getElem?_toArray,List.getElem?_cons_zero] at kp1
 have con:=name_any P1.out
 go_wp2_with fail
 refine con.mono ?_
 rintro e w2 ⟨g,h⟩
 have hg:=g.g
 have HP2:=hid ((hg.block qp (jB HP1.out) (by have:=NB.out.2;simpa using this)).trans HP1.out)
 have HK2:=hid (HK1.out.leaf hg NB.out.1)
 clear con g hg kp1
 obtain ⟨nm,S2,hn,rfl,p2⟩|⟨er,hn,rfl⟩:=h
 case inr =>
  have HR:=hid (show condOne en S=.error er from HE1.out.trans (bind_error hn))
  clear hn
  go_wp2_with fail
  refine ⟨rfl,?_⟩
  rw [HPST.out]
  exact Or.inr ⟨_,HR.out,rfl,HK2.out⟩
 have hS2:=name_keeps hn
 have HS2:=hid (show S2.s=S.s by rw [hS2])
 have HE2:=hid ((HE1.out.trans (bind_ok hn)).trans (bind_ok (m:=nowM en) (S:=S2) (S':=S2) (a:=nowT en S2) rfl))
 obtain ⟨w3,hw3⟩:∃ W,w2.alloc (.cells #[.string nm,.int .i64 0,.int .i64 0,.int .i64 0,.string ⟨#[]⟩] 52)=W:=⟨_,rfl⟩
 have bW:Below w2.heap.size w2 w3:=by rw [<- hw3];exact (b0R).alloc (jR _) _
 have hsW:w3.heap.size=w2.heap.size+1:=by rw [<- hw3];simp
 have hqc:w3.heap[w2.heap.size]? = some (.cells #[.string nm,.int .i64 0,.int .i64 0,.int .i64 0,.string ⟨#[]⟩] 52 (0,0)):=by rw [<- hw3];exact heap_alloc_new _ _
 have hpW:=p2.more (Y:=fun k=>Y k \/ (w2.heap.size<=k/\k<w3.heap.size)) bW (fun _ h=>Or.inl h) (fun _ h=>h)
 obtain ⟨Y3,hY3⟩:∃ Y3,Y3=(fun k=>Y k \/ (w2.heap.size<=k/\k<w3.heap.size)):=⟨_,rfl⟩
 rw [<- hY3] at hpW
 have HY3:=hid (show (∀ k,X k->Y3 k)/\Y3 qp/\Y3 w2.heap.size by rw [hY3];exact ⟨fun k hk=>Or.inl (HY.out.1 k hk),Or.inl HY.out.2,Or.inr ⟨jR _,by omega⟩⟩)
 have HP3:=cy bW HP2
 have HK3:=hid (HK2.out.trans (Below.kept bW X))
 have QC3:=hid hqc
 have P3:=hid hpW
 have HXN:=hid (show ¬ X w2.heap.size from fun hx=>Nat.lt_irrefl _ (p2.lt _ (HY.out.1 _ hx)))
 have HNE:=hid (show w2.heap.size ≠ b/\b<w2.heap.size from ⟨fun e=>by have:=p2.lt_box;omega,p2.lt_box⟩)
 have HQP:=hid (show qp ≠ w2.heap.size from fun e=>by have:=jB HP2.out;omega)
 obtain ⟨i0,hi0,hz0,hz1,hz2⟩:=info_parts (show (Tryz.prog.info? 52).map (fun i=>(i.zero,i.size,i.bytes))=some (some (.agg #[.string ByteArray.empty,.int .i64 0,.int .i64 0,.int .i64 0,.string ByteArray.empty]),5,56) by kernel_rfl)
 clear hn hS2 p2 bW hsW hqc hpW hY3
 obtain ⟨hsz,_,_⟩:=now_ok P3.out
 have con:=now_any P3.out
 obtain ⟨t,ht⟩:∃ t,t=nowT en S2:=⟨_,rfl⟩
 have HT:=hid ht
 rw [<- ht] at con hsz HE2
 clear ht
 obtain ⟨tk,tp,tt,tn⟩:=t
 simp only [Tok.enc] at con
 have kp3:=jC HP3.out 0
 simp only [List.getElem?_toArray,List.getElem?_cons_zero] at kp3
 have qi0:=jC QC3.out 0
 have fi0:=free_of QC3.out 0
 have si0:w3.setCell ⟨w2.heap.size,0,none⟩ (.string nm)=w3:=setCell_id QC3.out rfl
 have qi1:=jC QC3.out 1
 have fi1:=free_of QC3.out 1
 have si1:w3.setCell ⟨w2.heap.size,1,none⟩ (.int .i64 0)=w3:=setCell_id QC3.out rfl
 have qi2:=jC QC3.out 2
 have fi2:=free_of QC3.out 2
 have si2:w3.setCell ⟨w2.heap.size,2,none⟩ (.int .i64 0)=w3:=setCell_id QC3.out rfl
 have qi3:=jC QC3.out 3
 have fi3:=free_of QC3.out 3
 have si3:w3.setCell ⟨w2.heap.size,3,none⟩ (.int .i64 0)=w3:=setCell_id QC3.out rfl
 have qi4:=jC QC3.out 4
 have fi4:=free_of QC3.out 4
 have si4:w3.setCell ⟨w2.heap.size,4,none⟩ (.string ⟨#[]⟩)=w3:=setCell_id QC3.out rfl
 simp only [gT,gZ,gS] at qi0 qi1 qi2 qi3 qi4
 go_wp2_with fail
 refine con.mono ?_
 rintro e w4 ⟨rfl,hb4⟩
 clear con kp3 qi0 qi1 qi2 qi3 qi4 fi0 fi1 fi2 fi3 fi4 si0 si1 si2 si3 si4 hw3
 obtain ⟨w5,hw5⟩:∃ W,w4.alloc (.cells #[.int .i64 tk,.int .i64 tp,.string tt,.int .i64 tn] 56)=W:=⟨_,rfl⟩
 have b5:Below w3.heap.size w3 w5:=by rw [<- hw5];exact hb4.trans (((b0R).alloc (jR _) _).mono hb4.size)
 have hqt:w5.heap[w4.heap.size]? = some (.cells #[.int .i64 tk,.int .i64 tp,.string tt,.int .i64 tn] 56 (0,0)):=by rw [<- hw5];exact heap_alloc_new _ _
 have HP5:=cy b5 HP3
 have QC5:=cy b5 QC3
 have QT5:=hid hqt
 have HK5:=hid (HK3.out.trans (Below.kept b5 X))
 have P5:=hid (P3.out.below b5)
 have t0:=jC hqt 0
 have t1:=jC hqt 1
 have c1:=jC QC5.out 1
 simp only [gT,gZ,gS] at t0 t1 c1
 clear hb4 b5 hqt
 by_cases hk4:tk=4
 case neg =>
  have e4:(tk == 4)=false:=by simpa using hk4
  have HR:=hid (show condOne en S=.error (tp,60) from HE2.out.trans (by
   have h0:opI ⟨tk,tp,tt,tn⟩=0:=by rw [op_idx,if_neg hk4]
   exact congrFun (if_pos h0) S2))
  have con:=fail_any tp 60 w5
  go_wp2_with fail
  refine con.mono ?_
  rintro e w6 ⟨rfl,rfl⟩
  go_wp2_with fail
  refine ⟨rfl,?_⟩
  rw [HPST.out]
  exact Or.inr ⟨_,HR.out,rfl,HK5.out⟩
 subst hk4
 obtain ⟨k,hk⟩:∃ k,k=Lib.idxOfS opsL tt:=⟨_,rfl⟩
 have hkb:=idx_bd opsL tt
 rw [<- hk] at hkb
 have hkb':-1<=k/\k<6:=hkb
 have HOP:=hid (show opI ⟨4,tp,tt,tn⟩=1+k by rw [op_idx,if_pos rfl,hk];rfl)
 have HKX:=hid hk
 clear hk hkb c1
 go_upto_region 3 with (fail)
 clear hw5
 apply wp_region_growt 5 [12,13,14,15,16]
  [fun _ u w'=>WordsD opsL u w',
   fun _ u _=>u=.pointer (some ⟨w4.heap.size,2,none⟩),
   fun _ u _=>u=.string tt,
   fun _ u _=>u=.int .i64 k,
   fun _ u _=>u=.int .i64 (1+k)]
  (Below w5.heap.size w5)
 case hF =>
  intro v
  simp only [setAll,List.foldl_cons,List.foldl_nil,Act.put,List.setIfInBounds_toArray,List.set_cons_succ,List.set_cons_zero]
  exact rfl
 case hm=>kernel_rfl
 case hB=>kernel_rfl
 case hsz=>kernel_rfl
 case hC=>exact fun w1 w2 h b=>h.trans (b.mono h.size)
 case hw=>exact Below.drew b0R
 case hS =>
  intro D hD v u
  simp only [List.mem_cons,List.not_mem_nil,or_false] at hD
  rcases hD with rfl|rfl|rfl|rfl|rfl
  · exact fun w1 w2 h hb=>h.below hb
  · exact fun w1 w2 h _=>h
  · exact fun w1 w2 h _=>h
  · exact fun w1 w2 h _=>h
  · exact fun w1 w2 h _=>h
 case hob =>
  simp only [List.take_succ_cons,List.take_zero]
  apply growt_cons
  · intro v w1 h1 hd
    have con:=fields_any (s:=⟨#[61,32,60,62,32,60,32,60,61,32,62,32,62,61]⟩) (L:=opsL) (by decide +kernel) (by decide) (by decide) (P5.out.below h1).env
    clear hd h1
    go_wp2_with fail
    refine con.mono ?_
    rintro e w2 ⟨rfl,h2⟩
    have H2:=hid h2
    have hwd:=words_at w1 opsL (by decide)
    have HWD:=hid hwd
    have HB2:=hid (show Below w1.heap.size w1 w2 by rw [h2];exact (b0R).alloc (jR _) _)
    clear con h2 hwd
    go_wp2_with fail
    have hx:WordsD opsL (.slice (some ⟨w1.heap.size,0,none⟩) opsL.length opsL.length) w2:=by rw [H2.out];exact ⟨_,rfl,HWD.out⟩
    first|exact ⟨HB2.out,hx⟩|exact ⟨hx,HB2.out⟩
  apply growt_cons
  · intro v w1 h1 hd
    clear hd h1
    go_wp2_with fail
    first|exact Below.refl _ _|exact ⟨Below.refl _ _,rfl⟩|exact ⟨rfl,Below.refl _ _⟩
  apply growt_cons
  · intro v w1 h1 hd
    have g13:v 13=.pointer (some ⟨w4.heap.size,2,none⟩):=hd 1 _ _ _ rfl rfl rfl rfl
    have ct:=jC ((h1.block _ (jB QT5.out)).trans QT5.out) 2
    simp only [gT,gZ,gS] at ct
    clear hd
    rw [g13]
    clear g13 h1
    go_wp2_with fail
    first|exact Below.refl _ _|exact ⟨Below.refl _ _,rfl⟩|exact ⟨rfl,Below.refl _ _⟩
  apply growt_cons
  · intro v w1 h1 hd
    obtain ⟨g,g12,hg⟩:WordsD opsL (v 12) w1:=hd 0 _ _ _ rfl rfl rfl rfl
    have g14:v 14=.string tt:=hd 2 _ _ _ rfl rfl rfl rfl
    have con:=index_any hg tt
    rw [<- HKX.out] at con
    clear hd
    rw [g12,g14]
    clear g12 g14 h1 hg
    go_wp2_with fail
    refine con.mono ?_
    rintro e w2 ⟨rfl,rfl⟩
    clear con
    go_wp2_with fail
    first|exact Below.refl _ _|exact ⟨Below.refl _ _,rfl⟩|exact ⟨rfl,Below.refl _ _⟩
  apply growt_cons
  · intro v w1 h1 hd
    have g15:v 15=.int .i64 k:=hd 3 _ _ _ rfl rfl rfl rfl
    clear hd
    rw [g15]
    clear g15 h1
    go_wp2_with fail
    first|exact Below.refl _ _|exact ⟨Below.refl _ _,rfl⟩|exact ⟨rfl,Below.refl _ _⟩
  exact growt_nil
 case hend =>
  intro v w7 h1 hd
  have g16:v 16=.int .i64 (1+k):=hd 4 _ _ _ rfl rfl rfl
  rw [g16]
  have HP7:=cy h1 HP5
  have QC7:=cy h1 QC5
  have QT7:=cy h1 QT5
  have HK7:=hid (HK5.out.trans (Below.kept h1 X))
  have P7:=hid (P5.out.below h1)
  have qc1:=jC QC7.out 1
  have fc1:=free_of QC7.out 1
  simp only [gT,gZ,gS] at qc1
  clear hd g16 h1 t0 t1
  generalize v 12=y12,v 13=y13,v 14=y14,v 15=y15
  simp only [List.drop_succ_cons,List.drop_zero]
  go_upto_region 4 with (fail)
  have g8:=grown_set w7 w2.heap.size 1 (.int .i64 (1+k))
  have P8:=hid (P7.out.other HY3.out.2.2 HNE.out.2 g8)
  have HP8:=hid ((g8.block qp (jB HP7.out) (by have:=HQP.out;simpa using this)).trans HP7.out)
  have QC8:=hid ((heap_setCell_same w7 _ 1 _ _ (.int .i64 (1+k)) QC7.out).trans (show _=some (.cells #[.string nm,.int .i64 (1+k),.int .i64 0,.int .i64 0,.string ⟨#[]⟩] 52 (0,0)) from rfl))
  have QT8:=hid ((g8.block _ (jB QT7.out) (by simp;intro e;have h1:=QT7.out;rw [e,QC7.out] at h1;simp at h1)).trans QT7.out)
  have HK8:=hid (HK7.out.trans (grown_kept g8 fun k e=>by cases e;exact HXN.out))
  obtain ⟨w8,hw8⟩:∃ x,x=World.setCell w7 ⟨w2.heap.size,1,none⟩ (.int .i64 (1+k)):=⟨_,rfl⟩
  rw [<- hw8] at P8 HP8 QC8 QT8 HK8 ⊢
  clear hw8 g8 qc1 fc1
  have qc1:=jC QC8.out 1
  have qt1:=jC QT8.out 1
  simp only [gT,gZ,gS] at qc1 qt1
  by_cases hk0:1+k=0
  case pos =>
   have e0:(1+k == 0)=true:=by simpa using hk0
   have HR:=hid (show condOne en S=.error (tp,60) from HE2.out.trans (congrFun (if_pos (HOP.out.trans hk0)) S2))
   have con:=fail_any tp 60 w8
   go_wp2_with fail
   refine con.mono ?_
   rintro e w6 ⟨rfl,rfl⟩
   go_wp2_with fail
   refine ⟨rfl,?_⟩
   rw [HPST.out]
   exact Or.inr ⟨_,HR.out,rfl,HK8.out⟩
  have e0:(1+k == 0)=false:=by simpa using hk0
  have HE9:=hid ((HE2.out.trans (congrFun (if_neg (fun e=>hk0 (HOP.out.symm.trans e))) S2)).trans (bind_ok (m:=nextM) (S:=S2) (S':={ S2 with l:=S2.l.tail }) (a:=()) rfl))
  have hlen:=now_len (en:=en) (S:=S2) (by rw [<- HT.out];show (4:Int) ≠ 0;decide)
  obtain ⟨a,n,c,a',k0,hf,hn1,hnc,hns,hsl,hfin⟩:=P8.out.one' hlen
  have HTJ:=hid (show TJ b qp 0 (.slice a n c) w8 from ⟨HP8.out,k0,hf⟩)
  have FIN:=hid hfin
  clear k0 hf hfin hlen
  go_upto_region 6 with (fail)
  clear qc1 qt1 e0
  refine wp_region_loose2 [([0,1,2,3,4,5,6,7],8)] (TJ b qp 0 (.slice a n c)) (Below w8.heap.size w8) (by kernel_rfl) (by kernel_rfl) (by kernel_rfl) (fun w1 w2 h b=>h.trans (b.mono h.size)) (Below.drew b0R) ?_
  apply wpSegs_cons (TJ b qp 0 (.slice a n c)) (fun _=>NT Y3 b en { S2 with l:=S2.l.tail } w8) (fun _ h=>h) (fun w' h=>HTJ.out.below h)
  case hq =>
   intro w1 hw1
   have ne:Nonempty (Wld (Below w1.heap.size w1)):=⟨⟨w1,Below.refl _ _⟩⟩
   have c0:=fun x:Wld (Below w1.heap.size w1)=>jC (hw1.below x.good).1 0
   have c1:=fun x:Wld (Below w1.heap.size w1)=>(hw1.below x.good).2.1
   simp only [List.getElem?_toArray,List.getElem?_cons_zero] at c0
   simp only [pickOps,List.getElem?_cons_zero,List.getElem?_cons_succ]
   apply quiet_hide
   intro KE hKE
   repeat (go_big_quiet_step (fail))
   refine wpQuiet_nil ?_
   exact hKE _ rfl
  case ho=>rfl
  case hop=>rfl
  case hw=>kernel_rfl
  case hD=>exact fun u w1 w2 h hb=>⟨h.1.below hb,h.2.trans (turn_below h.1.lt_box hb)⟩
  case hDJ=>exact fun h=>absurd rfl h
  case hlo =>
   intro wa ba
   have hj:=HTJ.out.below ba
   have c1:=hj.2.1
   have f1:=hj.2.2
   have BA:=hid ba
   clear hj ba
   go_wp2_with fail
   exact FIN.out wa BA.out
  case hrest =>
   rintro u9 w9x h9x
   refine wpSegs_nil fun w9 h9=>?_
   have P9:=hid h9.1
   have HP9:=hid ((h9.2.g.block qp (jB HP8.out) (by have:=NB.out.2;simpa using this)).trans HP8.out)
   have QC9:=hid ((h9.2.g.block _ (jB QC8.out) (by have:=HNE.out.1;simpa using this)).trans QC8.out)
   have HK9:=hid (HK8.out.leaf h9.2.g NB.out.1)
   clear h9 h9x hsl
   have kp9:=jC HP9.out 0
   simp only [List.getElem?_toArray,List.getElem?_cons_zero] at kp9
   have con:=value_any P9.out
   go_wp2_with fail
   refine con.mono ?_
   rintro e w10 ⟨g,h⟩
   have hg:=g.g
   have HP10:=hid ((hg.block qp (jB HP9.out) (by have:=NB.out.2;simpa using this)).trans HP9.out)
   have QC10:=hid ((hg.block _ (jB QC9.out) (by have:=HNE.out.1;simpa using this)).trans QC9.out)
   have HK10:=hid (HK9.out.leaf hg NB.out.1)
   clear con g hg kp9
   obtain ⟨⟨vk,vn,vs⟩,S3,h10,rfl,p10⟩|⟨er,h10,rfl⟩:=h
   case inr =>
    have HR:=hid (show condOne en S=.error er from HE9.out.trans (bind_error h10))
    clear h10
    go_wp2_with fail
    refine ⟨rfl,?_⟩
    rw [HPST.out]
    exact Or.inr ⟨_,HR.out,rfl,HK10.out⟩
   have HLE:=hid (show S3.s.wher.length<=i/\i<=1000 by rw [(value_keeps h10).1];show S2.s.wher.length<=i/\_;rw [HS2.out];exact HLE0.out)
   have HE3:=hid (show condOne en S=.ok ((),{ S3 with s:={ S3.s with wher:=S3.s.wher ++ [⟨nm,1+k,⟨vk,vn,vs⟩⟩] } }) by rw [<- HOP.out];exact HE9.out.trans (bind_ok h10))
   have P10:=hid p10
   clear h10 p10
   unfold Val.enc
   have qc2:=jC QC10.out 2
   have qc3:=jC QC10.out 3
   have qc4:=jC QC10.out 4
   have fc2:=free_of QC10.out 2
   have fc3:=free_of QC10.out 3
   have fc4:=free_of QC10.out 4
   simp only [gT,gZ,gS] at qc2 qc3 qc4
   have g11:=grown_set3' w10 w2.heap.size (.int .i64 vk) (.int .i64 vn) (.string vs)
   have P11:=hid (P10.out.other HY3.out.2.2 HNE.out.2 g11)
   have HP11:=hid ((g11.block qp (jB HP10.out) (by have:=HQP.out;simpa using this)).trans HP10.out)
   have QC11:=hid (heap_set3' QC10.out (.int .i64 vk) (.int .i64 vn) (.string vs))
   have HK11:=hid (HK10.out.trans (grown_kept g11 fun k e=>by cases e;exact HXN.out))
   clear g11
   go_upto_region 8 with (fail)
   obtain ⟨w3,hw3⟩:∃ x,x=World.setCell (World.setCell (World.setCell w10 ⟨w2.heap.size,2,none⟩ (.int .i64 vk)) ⟨w2.heap.size,3,none⟩ (.int .i64 vn)) ⟨w2.heap.size,4,none⟩ (.string vs):=⟨_,rfl⟩
   rw [<- hw3] at P11 HP11 QC11 HK11 ⊢
   have P3:=P11
   have HPW3:=HP11
   have Q3:=QC11
   have HK3:=HK11
   clear hw3 qc2 qc3 qc4 fc2 fc3 fc4 HP11 HK11 QC11 P11
   obtain ⟨ta,tc,L,hbx,hsl,hls⟩:=P3.out.open
   obtain ⟨ca,cc,hcv,_⟩:=owns_shape' hls.wher.1
   have TJ3:=hid (show TJ b qp 9 L.wher w3 from ⟨HPW3.out,by simpa [boxC] using jC hbx 9,free_of hbx 9⟩)
   have HBX:=hid hbx
   have HSL:=hid hsl
   have HLS:=hid hls
   have NY:=hid (show ∀ q,L.wher.ownBlock=some q->¬ Y3 q from hls.wher.2)
   clear hbx hsl hls
   rw [hcv] at TJ3 NY
   have HCV:=hid hcv
   clear hcv
   refine wp_region_loose2 [([0,1,2,3,4,5],6),([],7),([],8)] (TJ b qp 9 (.slice ca S3.s.wher.length cc)) (Below w3.heap.size w3) (by kernel_rfl) (by kernel_rfl) (by kernel_rfl) (fun w1 w2 h b=>h.trans (b.mono h.size)) (Below.drew b0R) ?_
   apply wpSegs_cons (fun w'=>TJ b qp 9 (.slice ca S3.s.wher.length cc) w'/\w'.heap[w2.heap.size]? = some (.cells #[.string nm,.int .i64 (1+k),.int .i64 vk,.int .i64 vn,.string vs] 52 (0,0))) (T6wher #[.string nm,.int .i64 (1+k),.int .i64 vk,.int .i64 vn,.string vs] w3) (fun _ h=>h.1) (fun w' h=>⟨TJ3.out.below h,(h.block _ (jB Q3.out)).trans Q3.out⟩)
   case hq =>
    intro w1 hw1
    have ne:Nonempty (Wld (Below w1.heap.size w1)):=⟨⟨w1,Below.refl _ _⟩⟩
    have c0:=fun x:Wld (Below w1.heap.size w1)=>jC (hw1.1.below x.good).1 0
    have c1:=fun x:Wld (Below w1.heap.size w1)=>(hw1.1.below x.good).2.1
    have cc':=fun (x:Wld (Below w1.heap.size w1)) (t:Nat)=>jC ((x.good.block _ (jB hw1.2)).trans hw1.2) t
    have e0:=fun (x:Wld (Below w1.heap.size w1))=>cc' x 0
    have e1:=fun (x:Wld (Below w1.heap.size w1))=>cc' x 1
    have e2:=fun (x:Wld (Below w1.heap.size w1))=>cc' x 2
    have e3:=fun (x:Wld (Below w1.heap.size w1))=>cc' x 3
    have e4:=fun (x:Wld (Below w1.heap.size w1))=>cc' x 4
    simp only [gT,gZ,gS] at c0 e0 e1 e2 e3 e4
    clear cc'
    simp only [pickOps,List.getElem?_cons_zero,List.getElem?_cons_succ]
    apply quiet_hide
    intro KE hKE
    repeat (go_big_quiet_step (fail))
    refine wpQuiet_nil ?_
    exact hKE _ rfl
   case ho=>rfl
   case hop=>rfl
   case hw=>kernel_rfl
   case hD=>exact fun u w1 w2 ⟨g,h1,h2,h3⟩ hb=>⟨g,h1,(hb.block _ (jB h2)).trans h2,h3.trans (hb.mono h3.size)⟩
   case hDJ=>exact fun _ u w' ⟨g,h1,h2,h3⟩=>⟨TJ3.out.below h3,(h3.block _ (jB Q3.out)).trans Q3.out⟩
   case hlo =>
    intro wa ba
    go_wp2_with fail
    exact ⟨wa.heap.size,rfl,heap_alloc_new _ _,ba.alloc ba.size _⟩
   case hrest =>
    rintro u2 w4 ⟨g,rfl,-,-⟩
    simp only [Act.put,List.setIfInBounds_toArray,List.set_cons_succ,List.set_cons_zero]
    apply wpSegs_cons0 (T7wher b qp 9 (S3.s.wher.length+1) (.slice ca S3.s.wher.length cc) (S3.s.wher.flatMap condEnc ++ #[.string nm,.int .i64 (1+k),.int .i64 vk,.int .i64 vn,.string vs].toList) w3)
    case hCI=>exact fun w' ⟨g,h1,h2,h3⟩=>⟨TJ3.out.below h3,(h3.block _ (jB Q3.out)).trans Q3.out⟩
    case ho=>rfl
    case hop=>rfl
    case hw=>kernel_rfl
    case hD=>exact fun u w1 w2 ⟨wa,h1,h2,h3,h4,h5⟩ hb=>⟨wa,h1,owns_below h2 hb,grown_then h3 hb,h4,h5.below hb⟩
    case hDI =>
     rintro - u w' ⟨wa,h1,h2,h3,h4,h5⟩
     exact ⟨h5,(h3.block _ (jL (jB Q3.out) h1.size) fun e=>NY.out _ e.symm HY3.out.2.2).trans ((h1.block _ (jB Q3.out)).trans Q3.out)⟩
    case hlo =>
     rintro wa ⟨g',e,hq',ba⟩
     obtain rfl:g=g':=by simpa using e
     clear e
     have hva:wa.ownsRow 0 52 5 (.slice ca S3.s.wher.length cc) S3.s.wher.length (S3.s.wher.flatMap condEnc):=by
      have:=owns_below HLS.out.wher.1 ba
      rwa [HCV.out] at this
     refine wpList_append_own_at _ rfl _ _ 31 rfl 0 52 i0 _ 5 56 Tryz.underlying31 hi0 hz0 hz1 hz2 rfl (by decide) _ S3.s.wher.length _ rfl hva ⟨g,0,none⟩ 1 1 #[.string nm,.int .i64 (1+k),.int .i64 vk,.int .i64 vn,.string vs].toList rfl rfl (fun j u hj=>by rw [addr_add,jC hq'];simpa using hj) (fun u hu=>by simp only [List.mem_cons,List.not_mem_nil,or_false] at hu;rcases hu with rfl|rfl|rfl|rfl|rfl <;> rfl) (by unfold maxLen;have:=HLE.out;omega) (by have:=HLE.out;omega) (Nat.zero_le _) ?_
     intro v1 w5 o1 g1 hx1 at1
     have hj:=TJ3.out.below ba
     have hbw:=(ba.block b P3.out.lt_box).trans HBX.out
     exact wpList_nil ⟨rfl,_,rfl,wa,ba,o1,g1,at1,(g1.block _ (jB hj.1) fun e=>NY.out _ e.symm HY3.out.2.1).trans hj.1,(World.cell?_of_block (w:=wa) (g1.block b (jL P3.out.lt_box ba.size) fun e=>row_not hbw hva (by decide) e)).trans hj.2.1,(World.frozen?_of_block (w:=wa) (g1.block b (jL P3.out.lt_box ba.size) fun e=>row_not hbw hva (by decide) e)).trans hj.2.2⟩
    case hrest =>
     rintro u5 w5 ⟨wa,-,o5,-,-,-⟩
     obtain ⟨ua,uc,rfl,_⟩:=owns_shape' o5
     clear o5
     simp only [Act.put,List.setIfInBounds_toArray,List.set_cons_succ,List.set_cons_zero]
     apply wpSegs_assign
     case hC=>exact fun w1 w2 ⟨wa,h1,h2,h3,h4,h5⟩ hb=>⟨wa,h1,owns_below h2 hb,grown_then h3 hb,h4,h5.below hb⟩
     case hCI =>
      rintro w' ⟨wa,h1,h2,h3,h4,h5⟩
      exact ⟨h5,(h3.block _ (jL (jB Q3.out) h1.size) fun e=>NY.out _ e.symm HY3.out.2.2).trans ((h1.block _ (jB Q3.out)).trans Q3.out)⟩
     case ho=>rfl
     case hop=>rfl
     case hw=>kernel_rfl
     case hj=>rfl
     case hrest =>
      rintro w6 ⟨wa,ba,o6,g6,at6,hj6⟩
      have c0:=jC hj6.1 0
      have c1:=hj6.2.1
      have f1:=hj6.2.2
      simp only [List.getElem?_toArray,List.getElem?_cons_zero] at c0
      have O6:=hid (show _/\_/\_/\_ from ⟨ba,o6,g6,at6⟩)
      have HPW6:=hid hj6.1
      clear ba o6 g6 at6 hj6
      go_wp2_with fail
      go_end0
      rw [HPST.out]
      obtain ⟨ba,o6,g6,at6⟩:=O6.out
      rw [<- HCV.out] at g6 at6
      obtain ⟨pf,kf⟩:=(P3.out.below ba).add_wher (x:=⟨nm,1+k,⟨vk,vn,vs⟩⟩) ((ba.block b P3.out.lt_box).trans HBX.out) (HSL.out.below ba) (HLS.out.below ba) o6 g6 at6
      refine Or.inl ⟨_,HE3.out,rfl,(kf.block qp HY3.out.2.1 (jL (jB HPW3.out) ba.size)).trans ((ba.block _ (jB HPW3.out)).trans HPW3.out),⟨Y3,pf,HY3.out.1,HY3.out.2.1⟩,(HK3.out.trans (Below.kept ba X)).trans (kf.weaken fun k _ hk=>HY3.out.1 k hk),?_⟩
      show (S3.s.wher ++ [_]).length<=i+1
      rw [List.length_append]
      have:=HLE.out
      simp
      omega
end
section
open Go.RowKit
theorem list_sj {X:Nat->Prop} {b en qp:Nat} {w0:World} {len:Stmt->Nat} {most n:Nat} {bt:ByteArray} {st:Tok->Bool} {one:PM Unit} {fs g:FuncId} {S:PS} {w:World}
 (hs:∀ t w1,EnvL w1->t.text.size<=4294967000->Calls Tryz.prog fs #[t.enc] w1 fun e w'=>e=.returned (.bool (st t))/\Below w1.heap.size w1 w')
 (es:∀ args w,(callFunc fs args).run Tryz.prog w=.ok (.enter fs args) w) (eg:∀ args w,(callFunc g args).run Tryz.prog w=.ok (.enter g args) w)
 (hone:∀ i S w,i<=1000->SJ X b en qp w0 len i S w->Calls Tryz.prog g #[.pointer (some ⟨qp,0,none⟩)] w fun e w'=>SPost X b en qp w0 len i (one S) e w')
 (hst:∀ S,(∀ t ∈ S.l,TokOk t)->st (nowT en S)=false->∃ er,one S=.error er) (hm:most<=100) (hn:n<=500) (hqp:qp ≠ b) (hX:¬ X b) (h:SJ X b en qp w0 len n S w) :
 Calls Tryz.prog 81 #[.pointer (some ⟨b,0,none⟩),.int .i64 most,.string bt,.func (.func fs) #[] #[],.func (.func g) #[] #[.pointer (some ⟨qp,0,none⟩)]] w fun e w' =>
  (∃ S',listM en bt st one most S=.ok ((),S')/\e=.returned (.tuple #[])/\SJ X b en qp w0 len (n+most+1) S' w') \/ ∃ er,listM en bt st one most S=.error er/\e=trouble er/\Kept X w0 w':=by
 refine (list_any (b:=b) (en:=en) (fun i=>SJ X b en qp w0 len (n+i)) (Z:=fun w'=>Kept X w0 w') (most:=most) (bt:=bt) (st:=st) (one:=one) (fs:=fs) (g:=g) (caps:=#[.pointer (some ⟨qp,0,none⟩)]) hs es eg
  (fun i T w1 hi hJ=>hone (n+i) T w1 (by omega) hJ)
  (fun i T w1 ⟨h1,⟨Y,h2,h3,h4⟩,h5,h6⟩=>⟨Y,h2,fun S' w' g p hs' _=>⟨(g.block _ (jB h1) (by simpa using hqp)).trans h1,⟨Y,p,h3,h4⟩,h5.leaf g hX,by rw [hs'];exact h6⟩⟩)
  (fun i T w1 hJ=>hJ.k) (fun i T w1 ⟨_,⟨Y,h2,_⟩,_,_⟩ hs'=>hst T h2.tok hs') (by omega) h).mono ?_
 rintro e w' (⟨S',i,h1,h2,h3,h4⟩|h1)
 · exact Or.inl ⟨S',h1,h2,⟨h4.p,h4.pat,h4.k,by have:=h4.len;omega⟩⟩
 · exact Or.inr h1
theorem SJ.start {X:Nat->Prop} {b en n:Nat} {len:Stmt->Nat} {S:PS} {w w0:World} (h:PAt X b en S w) (hk:Kept X w0 w) (hl:len S.s<=n) :
 SJ X b en w.heap.size w0 len n S (w.alloc (.cells #[.pointer (some ⟨b,0,none⟩)] 63)):=by
 have ba:Below w.heap.size w (w.alloc (.cells #[.pointer (some ⟨b,0,none⟩)] 63)):=(b0R).alloc (jR _) _
 exact ⟨heap_alloc_new _ _,⟨_,h.more (Y:=fun k=>X k \/ (w.heap.size<=k/\k<(w.alloc (.cells #[.pointer (some ⟨b,0,none⟩)] 63)).heap.size)) ba (fun _ h=>Or.inl h) (fun _ h=>h),fun _ h=>Or.inl h,Or.inr ⟨jR _,by simp⟩⟩,hk.trans (Below.kept ba X),hl⟩
theorem cond_start {en:Nat} {S:PS} (h:namedT (nowT en S)=false):∃ er,condOne en S=.error er:=by
 obtain ⟨er,he⟩:=named_start h
 exact ⟨er,(congrFun (condOne_eq en) S).trans (bind_error he)⟩
theorem where_any {X:Nat->Prop} {b en:Nat} {S:PS} {w:World} (h:PAt X b en S w) (hz:S.s.wher.length<=500) :
 Calls Tryz.prog 90 #[.pointer (some ⟨b,0,none⟩)] w fun e w'=>StepU X b en w (whereM en S) e w':=by
 have hmf:=hmf
 obtain ⟨Pst,hPst⟩:∃ Pst,Pst=StepU X b en w (whereM en S):=⟨_,rfl⟩
 have HPST:=hid hPst
 rw [<- hPst]
 have hsj:=SJ.start (len:=fun s=>s.wher.length) h (Kept.refl X w) hz
 obtain ⟨W,hW⟩:∃ W,w.alloc (.cells #[.pointer (some ⟨b,0,none⟩)] 63)=W:=⟨_,rfl⟩
 rw [hW] at hsj
 obtain ⟨hp1,⟨Y1,hP1,hXY1,hYp1⟩,hk1,hl1⟩:=hsj
 have HX:=hid (show (∀ k,k<b->X k)/\b<w.heap.size/\¬ X b/\w.heap.size ≠ b from ⟨h.old,h.lt_box,h.nb,fun e=>by have:=h.lt_box;omega⟩)
 have HP1:=hid hp1
 have P1:=hid hP1
 have HK1:=hid hk1
 have HY:=hid (show _/\_ from ⟨hXY1,hYp1⟩)
 have HL1:=hid hl1
 have HE:=hid (congrFun (whereM_eq en) S)
 have k1:=jC hp1 0
 simp only [List.getElem?_toArray,List.getElem?_cons_zero] at k1
 have con:=may_any (hP1.below ((b0R).alloc (jR _) (.cells #[.string w_where] 9))) (words_at W [w_where] (by simp))
 clear h hPst hp1 hP1 hXY1 hYp1 hk1 hl1 hz
 go_enter Tryz.func90,Tryz.ntmps90
 go_wp2_with fail
 refine con.mono ?_
 rintro e w2 ⟨g,h⟩
 have hg:=(World.grownBy_alloc W (.cells #[.string w_where] 9) (some b)).trans g.g
 have hq2:=(hg.block _ (jB HP1.out) (by have:=HX.out.2.2.2;simpa using this)).trans HP1.out
 have HK2:=hid (HK1.out.leaf hg HX.out.2.2.1)
 clear con g hg k1
 cases hi:isB [w_where] S.l with
 | false =>
  rw [may_miss hi] at h
  obtain ⟨_,_,h,rfl,p2⟩|⟨_,h,_⟩:=h
  · cases h
    have HR:=hid (show whereM en S=.ok ((),S) from HE.out.trans ((bind_ok (may_miss hi)).trans (congrFun (if_neg Bool.false_ne_true) S)))
    have P2:=hid p2
    clear p2 hq2
    go_wp2_with fail
    refine bodyPost_ret (v:=.tuple #[]) (results_none rfl _ _ _) rfl ?_
    rw [HPST.out]
    exact ⟨HK2.out,Or.inl ⟨S,HR.out,rfl,P2.out.fewer HY.out.1 HX.out.1⟩⟩
  · cases h
 | true =>
  rw [may_hit hi] at h
  obtain ⟨_,_,h,rfl,p2⟩|⟨_,h,_⟩:=h
  · cases h
    have HE2:=hid (HE.out.trans ((bind_ok (may_hit hi)).trans (congrFun (if_pos rfl) _)))
    have con:=list_sj (X:=X) (b:=b) (en:=en) (qp:=w.heap.size) (w0:=w) (len:=fun s=>s.wher.length) (most:=8) (n:=500) (bt:=w_and) (st:=namedT) (one:=condOne en) (fs:=82) (g:=126)
     (fun t w1 he hs=>named_any t he hs) (enters_of Tryz.func82 (by kernel_rfl) rfl) (enters_of Tryz.func126 (by kernel_rfl) rfl)
     (fun i T w1 hi hJ=>cond1_any hi hJ HX.out.2.1) (fun T _ hs=>cond_start hs) (by omega) (by omega) HX.out.2.2.2 HX.out.2.2.1 ⟨hq2,⟨Y1,p2,HY.out.1,HY.out.2⟩,HK2.out,HL1.out⟩
    have k2:=jC hq2 0
    simp only [List.getElem?_toArray,List.getElem?_cons_zero] at k2
    clear p2 hq2 hi
    go_wp2_with fail
    refine con.mono ?_
    rintro e w3 (⟨S3,h3,rfl,hJ⟩|⟨er,h3,rfl,hk3⟩)
    · have HR:=hid (show whereM en S=.ok ((),S3) from HE2.out.trans h3)
      have HJ:=hid hJ
      clear h3 hJ con
      go_wp2_with fail
      go_end0
      rw [HPST.out]
      obtain ⟨_,⟨Y3,hP3,hXY3,_⟩,hk3,_⟩:=HJ.out
      exact ⟨hk3,Or.inl ⟨S3,HR.out,rfl,hP3.fewer hXY3 HX.out.1⟩⟩
    · have HR:=hid (show whereM en S=.error er from HE2.out.trans h3)
      have HK3:=hid hk3
      clear h3 hk3 con
      go_wp2_with fail
      refine ⟨rfl,?_⟩
      rw [HPST.out]
      exact ⟨HK3.out,Or.inr ⟨er,HR.out,rfl⟩⟩
  · cases h
end
section
open Go.RowKit
theorem vacuum_eq (en:Nat):vacuumM en=PM.bind (nameM en) fun t=>modM fun s=>{ s with kind:=16,table:=t }:=rfl
theorem rename_any {X:Nat->Prop} {b en:Nat} {S:PS} {w:World} (h:PAt X b en S w) :
 Calls Tryz.prog 39 #[.pointer (some ⟨b,0,none⟩)] w fun e w'=>StepU X b en w (renameM en S) e w':=by
 obtain ⟨Pst,hPst⟩:∃ Pst,Pst=StepU X b en w (renameM en S):=⟨_,rfl⟩
 have HPST:=hid hPst
 rw [<- hPst]
 have NB:=hid (show ¬ X b from h.nb)
 have HK1:=hid (Kept.refl X w)
 have P1:=hid h
 obtain ⟨w1,hw1⟩:∃ x,x=w:=⟨_,rfl⟩
 obtain ⟨S1,hS1⟩:∃ x,x=S:=⟨_,rfl⟩
 have HK1:=hid (show Kept X w w1 by rw [hw1];exact HK1.out)
 have P1:=hid (show PAt X b en S1 w1 by rw [hw1,hS1];exact P1.out)
 have HE1:=hid ((congrArg (renameM en) hS1.symm).trans (congrFun (rename_eq en) S1))
 rw [<- hw1]
 have HS1:=hid hS1
 clear h hPst hw1
 go_enter Tryz.func39,Tryz.ntmps39
 have con:=name_any P1.out
 go_wp2_with fail
 refine con.mono ?_
 rintro e w2 ⟨g,h⟩
 have HK2:=hid (HK1.out.leaf g.g NB.out)
 clear con g
 obtain ⟨nm2,S2,h2,rfl,p2⟩|⟨er,h2,rfl⟩:=h
 case inr =>
  have HR:=hid (show renameM en S=.error er from HE1.out.trans (bind_error h2))
  clear h2
  go_wp2_with fail
  refine ⟨rfl,?_⟩
  rw [HPST.out]
  exact ⟨HK2.out,Or.inr ⟨er,HR.out,rfl⟩⟩
 have HS2:=hid (show S2.s=S1.s by rw [name_keeps h2])
 have HE2:=hid (HE1.out.trans (bind_ok h2))
 have P2:=hid p2
 clear h2 p2
 obtain ⟨_,_,L,hbx,_,_⟩:=P2.out.open
 have c2:=jC hbx 2
 have f2:=free_of hbx 2
 have c3:=jC hbx 3
 have f3:=free_of hbx 3
 simp only [boxC,List.getElem?_toArray,List.getElem?_cons_zero,List.getElem?_cons_succ] at c2 c3
 clear hbx
 have st0:=P2.out.store (j:=2) (v:=.int .i64 3) (s':={ S2.s with kind:=3 }) (fun _ _=>rfl) ⟨rfl,rfl,rfl,rfl,rfl,rfl⟩
 have st1:=st0.1.store (j:=3) (v:=.string nm2) (s':={ S2.s with kind:=3,table:=nm2 }) (fun _ _=>rfl) ⟨rfl,rfl,rfl,rfl,rfl,rfl⟩
 have P3:=hid (show PAt X b en ({ S2 with s:={ S2.s with kind:=3,table:=nm2 } }:PS) _ from st1.1)
 have HK3:=hid (HK2.out.leaf ((st0.2).trans st1.2) NB.out)
 have HE3:=hid (HE2.out.trans (bind_ok (a:=()) (S':=({ S2 with s:={ S2.s with kind:=3,table:=nm2 } }:PS)) rfl))
 clear st0 st1
 go_upto_region 1 with (fail)
 obtain ⟨w3,hw3⟩:∃ x,x=World.setCell (World.setCell (w2) ⟨b,2,none⟩ (.int .i64 3)) ⟨b,3,none⟩ (.string nm2):=⟨_,rfl⟩
 obtain ⟨S3,hS3⟩:∃ T,T=({ S2 with s:={ S2.s with kind:=3,table:=nm2 } }:PS):=⟨_,rfl⟩
 rw [<- hw3] at P3 HK3 ⊢
 rw [<- hS3] at P3 HE3
 have HS3:=hid hS3
 clear hw3 hS3 c2 f2 c3 f3
 have con:=name_any P3.out
 go_wp2_with fail
 refine con.mono ?_
 rintro e w4 ⟨g,h⟩
 have HK4:=hid (HK3.out.leaf g.g NB.out)
 clear con g
 obtain ⟨nm4,S4,h4,rfl,p4⟩|⟨er,h4,rfl⟩:=h
 case inr =>
  have HR:=hid (show renameM en S=.error er from HE3.out.trans (bind_error h4))
  clear h4
  go_wp2_with fail
  refine ⟨rfl,?_⟩
  rw [HPST.out]
  exact ⟨HK4.out,Or.inr ⟨er,HR.out,rfl⟩⟩
 have HS4:=hid (show S4.s=S3.s by rw [name_keeps h4])
 have HE4:=hid (HE3.out.trans (bind_ok h4))
 have P4:=hid p4
 clear h4 p4
 obtain ⟨_,_,L,hbx,_,_⟩:=P4.out.open
 have c4:=jC hbx 4
 have f4:=free_of hbx 4
 simp only [boxC,List.getElem?_toArray,List.getElem?_cons_zero,List.getElem?_cons_succ] at c4
 clear hbx
 have st0:=P4.out.store (j:=4) (v:=.string nm4) (s':={ S4.s with name:=nm4 }) (fun _ _=>rfl) ⟨rfl,rfl,rfl,rfl,rfl,rfl⟩
 have P5:=hid (show PAt X b en ({ S4 with s:={ S4.s with name:=nm4 } }:PS) _ from st0.1)
 have HK5:=hid (HK4.out.leaf st0.2 NB.out)
 have HE5:=hid (HE4.out.trans (bind_ok (a:=()) (S':=({ S4 with s:={ S4.s with name:=nm4 } }:PS)) rfl))
 clear st0
 go_upto_region 2 with (fail)
 obtain ⟨w5,hw5⟩:∃ x,x=World.setCell (w4) ⟨b,4,none⟩ (.string nm4):=⟨_,rfl⟩
 obtain ⟨S5,hS5⟩:∃ T,T=({ S4 with s:={ S4.s with name:=nm4 } }:PS):=⟨_,rfl⟩
 rw [<- hw5] at P5 HK5 ⊢
 rw [<- hS5] at P5 HE5
 have HS5:=hid hS5
 clear hw5 hS5 c4 f4
 have con:=must_any (P5.out.below ((b0R).alloc (jR _) (.cells #[.string w_to] 9))) (words_at w5 [w_to] (by simp)) (fun k hk=>by have:=P5.out.lt_box;omega)
 go_wp2_with fail
 refine con.mono ?_
 rintro e w6 ⟨g,h⟩
 have HK6:=hid (HK5.out.leaf ((World.grownBy_alloc w5 (.cells #[.string w_to] 9) (some b)).trans g.g) NB.out)
 clear con g
 obtain ⟨S6,h6,rfl,p6⟩|⟨er,h6,rfl⟩:=h
 case inr =>
  have HR:=hid (show renameM en S=.error er from HE5.out.trans (bind_error h6))
  clear h6
  go_wp2_with fail
  refine ⟨rfl,?_⟩
  rw [HPST.out]
  exact ⟨HK6.out,Or.inr ⟨er,HR.out,rfl⟩⟩
 have HS6:=hid (show S6.s=S5.s from (must_state h6).1)
 have HE6:=hid (HE5.out.trans (bind_ok h6))
 have P6:=hid p6
 clear h6 p6
 have con:=name_any P6.out
 go_wp2_with fail
 refine con.mono ?_
 rintro e w7 ⟨g,h⟩
 have HK7:=hid (HK6.out.leaf g.g NB.out)
 clear con g
 obtain ⟨nm7,S7,h7,rfl,p7⟩|⟨er,h7,rfl⟩:=h
 case inr =>
  have HR:=hid (show renameM en S=.error er from HE6.out.trans (bind_error h7))
  clear h7
  go_wp2_with fail
  refine ⟨rfl,?_⟩
  rw [HPST.out]
  exact ⟨HK7.out,Or.inr ⟨er,HR.out,rfl⟩⟩
 have HS7:=hid (show S7.s=S6.s by rw [name_keeps h7])
 have HE7:=hid (HE6.out.trans (bind_ok h7))
 have P7:=hid p7
 clear h7 p7
 obtain ⟨_,_,L,hbx,_,_⟩:=P7.out.open
 have c10:=jC hbx 10
 have f10:=free_of hbx 10
 simp only [boxC,List.getElem?_toArray,List.getElem?_cons_zero,List.getElem?_cons_succ] at c10
 clear hbx
 have st0:=P7.out.store (j:=10) (v:=.string nm7) (s':={ S7.s with join:=nm7 }) (fun _ _=>rfl) ⟨rfl,rfl,rfl,rfl,rfl,rfl⟩
 have P8:=hid (show PAt X b en ({ S7 with s:={ S7.s with join:=nm7 } }:PS) _ from st0.1)
 have HK8:=hid (HK7.out.leaf st0.2 NB.out)
 have HE8:=hid (show renameM en S=.ok ((),({ S7 with s:={ S7.s with join:=nm7 } }:PS)) from HE7.out)
 clear st0
 go_wp2_with fail
 go_end0
 rw [HPST.out]
 exact ⟨HK8.out,Or.inl ⟨_,HE8.out,rfl,P8.out⟩⟩
theorem check_any {X:Nat->Prop} {b en:Nat} {S:PS} {w:World} (h:PAt X b en S w) :
 Calls Tryz.prog 47 #[.pointer (some ⟨b,0,none⟩)] w fun e w'=>StepU X b en w (checkM S) e w':=by
 obtain ⟨Pst,hPst⟩:∃ Pst,Pst=StepU X b en w (checkM S):=⟨_,rfl⟩
 have HPST:=hid hPst
 rw [<- hPst]
 have NB:=hid (show ¬ X b from h.nb)
 have HK1:=hid (Kept.refl X w)
 have P1:=hid h
 obtain ⟨w1,hw1⟩:∃ x,x=w:=⟨_,rfl⟩
 obtain ⟨S1,hS1⟩:∃ x,x=S:=⟨_,rfl⟩
 have HK1:=hid (show Kept X w w1 by rw [hw1];exact HK1.out)
 have P1:=hid (show PAt X b en S1 w1 by rw [hw1,hS1];exact P1.out)
 have HE1:=hid ((congrArg (checkM) hS1.symm).trans (Eq.refl (checkM S1)))
 rw [<- hw1]
 have HS1:=hid hS1
 clear h hPst hw1
 go_enter Tryz.func47,Tryz.ntmps47
 obtain ⟨_,_,L,hbx,_,_⟩:=P1.out.open
 have c2:=jC hbx 2
 have f2:=free_of hbx 2
 simp only [boxC,List.getElem?_toArray,List.getElem?_cons_zero,List.getElem?_cons_succ] at c2
 clear hbx
 have st0:=P1.out.store (j:=2) (v:=.int .i64 17) (s':={ S1.s with kind:=17 }) (fun _ _=>rfl) ⟨rfl,rfl,rfl,rfl,rfl,rfl⟩
 have P2:=hid (show PAt X b en ({ S1 with s:={ S1.s with kind:=17 } }:PS) _ from st0.1)
 have HK2:=hid (HK1.out.leaf st0.2 NB.out)
 have HE2:=hid (show checkM S=.ok ((),({ S1 with s:={ S1.s with kind:=17 } }:PS)) from HE1.out)
 clear st0
 go_wp2_with fail
 go_end0
 rw [HPST.out]
 exact ⟨HK2.out,Or.inl ⟨_,HE2.out,rfl,P2.out⟩⟩
theorem save_any {X:Nat->Prop} {b en:Nat} {S:PS} {w:World} (h:PAt X b en S w) :
 Calls Tryz.prog 48 #[.pointer (some ⟨b,0,none⟩)] w fun e w'=>StepU X b en w (namedM en 11 S) e w':=by
 obtain ⟨Pst,hPst⟩:∃ Pst,Pst=StepU X b en w (namedM en 11 S):=⟨_,rfl⟩
 have HPST:=hid hPst
 rw [<- hPst]
 have NB:=hid (show ¬ X b from h.nb)
 have HK1:=hid (Kept.refl X w)
 have P1:=hid h
 obtain ⟨w1,hw1⟩:∃ x,x=w:=⟨_,rfl⟩
 obtain ⟨S1,hS1⟩:∃ x,x=S:=⟨_,rfl⟩
 have HK1:=hid (show Kept X w w1 by rw [hw1];exact HK1.out)
 have P1:=hid (show PAt X b en S1 w1 by rw [hw1,hS1];exact P1.out)
 have HE1:=hid ((congrArg (namedM en 11) hS1.symm).trans (congrFun (named_eq en 11) S1))
 rw [<- hw1]
 have HS1:=hid hS1
 clear h hPst hw1
 go_enter Tryz.func48,Tryz.ntmps48
 have con:=name_any P1.out
 go_wp2_with fail
 refine con.mono ?_
 rintro e w2 ⟨g,h⟩
 have HK2:=hid (HK1.out.leaf g.g NB.out)
 clear con g
 obtain ⟨nm2,S2,h2,rfl,p2⟩|⟨er,h2,rfl⟩:=h
 case inr =>
  have HR:=hid (show namedM en 11 S=.error er from HE1.out.trans (bind_error h2))
  clear h2
  go_wp2_with fail
  refine ⟨rfl,?_⟩
  rw [HPST.out]
  exact ⟨HK2.out,Or.inr ⟨er,HR.out,rfl⟩⟩
 have HS2:=hid (show S2.s=S1.s by rw [name_keeps h2])
 have HE2:=hid (HE1.out.trans (bind_ok h2))
 have P2:=hid p2
 clear h2 p2
 obtain ⟨_,_,L,hbx,_,_⟩:=P2.out.open
 have c2:=jC hbx 2
 have f2:=free_of hbx 2
 have c4:=jC hbx 4
 have f4:=free_of hbx 4
 simp only [boxC,List.getElem?_toArray,List.getElem?_cons_zero,List.getElem?_cons_succ] at c2 c4
 clear hbx
 have st0:=P2.out.store (j:=2) (v:=.int .i64 11) (s':={ S2.s with kind:=11 }) (fun _ _=>rfl) ⟨rfl,rfl,rfl,rfl,rfl,rfl⟩
 have st1:=st0.1.store (j:=4) (v:=.string nm2) (s':={ S2.s with kind:=11,name:=nm2 }) (fun _ _=>rfl) ⟨rfl,rfl,rfl,rfl,rfl,rfl⟩
 have P3:=hid (show PAt X b en ({ S2 with s:={ S2.s with kind:=11,name:=nm2 } }:PS) _ from st1.1)
 have HK3:=hid (HK2.out.leaf ((st0.2).trans st1.2) NB.out)
 have HE3:=hid (show namedM en 11 S=.ok ((),({ S2 with s:={ S2.s with kind:=11,name:=nm2 } }:PS)) from HE2.out)
 clear st0 st1
 go_wp2_with fail
 go_end0
 rw [HPST.out]
 exact ⟨HK3.out,Or.inl ⟨_,HE3.out,rfl,P3.out⟩⟩
theorem prep_any {X:Nat->Prop} {b en:Nat} {S:PS} {w:World} (h:PAt X b en S w) :
 Calls Tryz.prog 49 #[.pointer (some ⟨b,0,none⟩)] w fun e w'=>StepU X b en w (namedM en 13 S) e w':=by
 obtain ⟨Pst,hPst⟩:∃ Pst,Pst=StepU X b en w (namedM en 13 S):=⟨_,rfl⟩
 have HPST:=hid hPst
 rw [<- hPst]
 have NB:=hid (show ¬ X b from h.nb)
 have HK1:=hid (Kept.refl X w)
 have P1:=hid h
 obtain ⟨w1,hw1⟩:∃ x,x=w:=⟨_,rfl⟩
 obtain ⟨S1,hS1⟩:∃ x,x=S:=⟨_,rfl⟩
 have HK1:=hid (show Kept X w w1 by rw [hw1];exact HK1.out)
 have P1:=hid (show PAt X b en S1 w1 by rw [hw1,hS1];exact P1.out)
 have HE1:=hid ((congrArg (namedM en 13) hS1.symm).trans (congrFun (named_eq en 13) S1))
 rw [<- hw1]
 have HS1:=hid hS1
 clear h hPst hw1
 go_enter Tryz.func49,Tryz.ntmps49
 have con:=name_any P1.out
 go_wp2_with fail
 refine con.mono ?_
 rintro e w2 ⟨g,h⟩
 have HK2:=hid (HK1.out.leaf g.g NB.out)
 clear con g
 obtain ⟨nm2,S2,h2,rfl,p2⟩|⟨er,h2,rfl⟩:=h
 case inr =>
  have HR:=hid (show namedM en 13 S=.error er from HE1.out.trans (bind_error h2))
  clear h2
  go_wp2_with fail
  refine ⟨rfl,?_⟩
  rw [HPST.out]
  exact ⟨HK2.out,Or.inr ⟨er,HR.out,rfl⟩⟩
 have HS2:=hid (show S2.s=S1.s by rw [name_keeps h2])
 have HE2:=hid (HE1.out.trans (bind_ok h2))
 have P2:=hid p2
 clear h2 p2
 obtain ⟨_,_,L,hbx,_,_⟩:=P2.out.open
 have c2:=jC hbx 2
 have f2:=free_of hbx 2
 have c4:=jC hbx 4
 have f4:=free_of hbx 4
 simp only [boxC,List.getElem?_toArray,List.getElem?_cons_zero,List.getElem?_cons_succ] at c2 c4
 clear hbx
 have st0:=P2.out.store (j:=2) (v:=.int .i64 13) (s':={ S2.s with kind:=13 }) (fun _ _=>rfl) ⟨rfl,rfl,rfl,rfl,rfl,rfl⟩
 have st1:=st0.1.store (j:=4) (v:=.string nm2) (s':={ S2.s with kind:=13,name:=nm2 }) (fun _ _=>rfl) ⟨rfl,rfl,rfl,rfl,rfl,rfl⟩
 have P3:=hid (show PAt X b en ({ S2 with s:={ S2.s with kind:=13,name:=nm2 } }:PS) _ from st1.1)
 have HK3:=hid (HK2.out.leaf ((st0.2).trans st1.2) NB.out)
 have HE3:=hid (show namedM en 13 S=.ok ((),({ S2 with s:={ S2.s with kind:=13,name:=nm2 } }:PS)) from HE2.out)
 clear st0 st1
 go_wp2_with fail
 go_end0
 rw [HPST.out]
 exact ⟨HK3.out,Or.inl ⟨_,HE3.out,rfl,P3.out⟩⟩
theorem vacuum_any {X:Nat->Prop} {b en:Nat} {S:PS} {w:World} (h:PAt X b en S w) :
 Calls Tryz.prog 50 #[.pointer (some ⟨b,0,none⟩)] w fun e w'=>StepU X b en w (vacuumM en S) e w':=by
 obtain ⟨Pst,hPst⟩:∃ Pst,Pst=StepU X b en w (vacuumM en S):=⟨_,rfl⟩
 have HPST:=hid hPst
 rw [<- hPst]
 have NB:=hid (show ¬ X b from h.nb)
 have HK1:=hid (Kept.refl X w)
 have P1:=hid h
 obtain ⟨w1,hw1⟩:∃ x,x=w:=⟨_,rfl⟩
 obtain ⟨S1,hS1⟩:∃ x,x=S:=⟨_,rfl⟩
 have HK1:=hid (show Kept X w w1 by rw [hw1];exact HK1.out)
 have P1:=hid (show PAt X b en S1 w1 by rw [hw1,hS1];exact P1.out)
 have HE1:=hid ((congrArg (vacuumM en) hS1.symm).trans (congrFun (vacuum_eq en) S1))
 rw [<- hw1]
 have HS1:=hid hS1
 clear h hPst hw1
 go_enter Tryz.func50,Tryz.ntmps50
 have con:=name_any P1.out
 go_wp2_with fail
 refine con.mono ?_
 rintro e w2 ⟨g,h⟩
 have HK2:=hid (HK1.out.leaf g.g NB.out)
 clear con g
 obtain ⟨nm2,S2,h2,rfl,p2⟩|⟨er,h2,rfl⟩:=h
 case inr =>
  have HR:=hid (show vacuumM en S=.error er from HE1.out.trans (bind_error h2))
  clear h2
  go_wp2_with fail
  refine ⟨rfl,?_⟩
  rw [HPST.out]
  exact ⟨HK2.out,Or.inr ⟨er,HR.out,rfl⟩⟩
 have HS2:=hid (show S2.s=S1.s by rw [name_keeps h2])
 have HE2:=hid (HE1.out.trans (bind_ok h2))
 have P2:=hid p2
 clear h2 p2
 obtain ⟨_,_,L,hbx,_,_⟩:=P2.out.open
 have c2:=jC hbx 2
 have f2:=free_of hbx 2
 have c3:=jC hbx 3
 have f3:=free_of hbx 3
 simp only [boxC,List.getElem?_toArray,List.getElem?_cons_zero,List.getElem?_cons_succ] at c2 c3
 clear hbx
 have st0:=P2.out.store (j:=2) (v:=.int .i64 16) (s':={ S2.s with kind:=16 }) (fun _ _=>rfl) ⟨rfl,rfl,rfl,rfl,rfl,rfl⟩
 have st1:=st0.1.store (j:=3) (v:=.string nm2) (s':={ S2.s with kind:=16,table:=nm2 }) (fun _ _=>rfl) ⟨rfl,rfl,rfl,rfl,rfl,rfl⟩
 have P3:=hid (show PAt X b en ({ S2 with s:={ S2.s with kind:=16,table:=nm2 } }:PS) _ from st1.1)
 have HK3:=hid (HK2.out.leaf ((st0.2).trans st1.2) NB.out)
 have HE3:=hid (show vacuumM en S=.ok ((),({ S2 with s:={ S2.s with kind:=16,table:=nm2 } }:PS)) from HE2.out)
 clear st0 st1
 go_wp2_with fail
 go_end0
 rw [HPST.out]
 exact ⟨HK3.out,Or.inl ⟨_,HE3.out,rfl,P3.out⟩⟩
theorem delete_any {X:Nat->Prop} {b en:Nat} {S:PS} {w:World} (h:PAt X b en S w) (hz:S.s.wher.length<=500) :
 Calls Tryz.prog 42 #[.pointer (some ⟨b,0,none⟩)] w fun e w'=>StepU X b en w (deleteM en S) e w':=by
 obtain ⟨Pst,hPst⟩:∃ Pst,Pst=StepU X b en w (deleteM en S):=⟨_,rfl⟩
 have HPST:=hid hPst
 rw [<- hPst]
 have NB:=hid (show ¬ X b from h.nb)
 have HK1:=hid (Kept.refl X w)
 have P1:=hid h
 have HZ0:=hid hz
 clear hz
 obtain ⟨w1,hw1⟩:∃ x,x=w:=⟨_,rfl⟩
 obtain ⟨S1,hS1⟩:∃ x,x=S:=⟨_,rfl⟩
 have HK1:=hid (show Kept X w w1 by rw [hw1];exact HK1.out)
 have P1:=hid (show PAt X b en S1 w1 by rw [hw1,hS1];exact P1.out)
 have HE1:=hid ((congrArg (deleteM en) hS1.symm).trans (congrFun (delete_eq en) S1))
 rw [<- hw1]
 have HS1:=hid hS1
 clear h hPst hw1
 go_enter Tryz.func42,Tryz.ntmps42
 have con:=must_any (P1.out.below ((b0R).alloc (jR _) (.cells #[.string w_from] 9))) (words_at w1 [w_from] (by simp)) (fun k hk=>by have:=P1.out.lt_box;omega)
 go_wp2_with fail
 refine con.mono ?_
 rintro e w2 ⟨g,h⟩
 have HK2:=hid (HK1.out.leaf ((World.grownBy_alloc w1 (.cells #[.string w_from] 9) (some b)).trans g.g) NB.out)
 clear con g
 obtain ⟨S2,h2,rfl,p2⟩|⟨er,h2,rfl⟩:=h
 case inr =>
  have HR:=hid (show deleteM en S=.error er from HE1.out.trans (bind_error h2))
  clear h2
  go_wp2_with fail
  refine ⟨rfl,?_⟩
  rw [HPST.out]
  exact ⟨HK2.out,Or.inr ⟨er,HR.out,rfl⟩⟩
 have HS2:=hid (show S2.s=S1.s from (must_state h2).1)
 have HE2:=hid (HE1.out.trans (bind_ok h2))
 have P2:=hid p2
 clear h2 p2
 have con:=name_any P2.out
 go_wp2_with fail
 refine con.mono ?_
 rintro e w3 ⟨g,h⟩
 have HK3:=hid (HK2.out.leaf g.g NB.out)
 clear con g
 obtain ⟨nm3,S3,h3,rfl,p3⟩|⟨er,h3,rfl⟩:=h
 case inr =>
  have HR:=hid (show deleteM en S=.error er from HE2.out.trans (bind_error h3))
  clear h3
  go_wp2_with fail
  refine ⟨rfl,?_⟩
  rw [HPST.out]
  exact ⟨HK3.out,Or.inr ⟨er,HR.out,rfl⟩⟩
 have HS3:=hid (show S3.s=S2.s by rw [name_keeps h3])
 have HE3:=hid (HE2.out.trans (bind_ok h3))
 have P3:=hid p3
 clear h3 p3
 obtain ⟨_,_,L,hbx,_,_⟩:=P3.out.open
 have c2:=jC hbx 2
 have f2:=free_of hbx 2
 have c3:=jC hbx 3
 have f3:=free_of hbx 3
 simp only [boxC,List.getElem?_toArray,List.getElem?_cons_zero,List.getElem?_cons_succ] at c2 c3
 clear hbx
 have st0:=P3.out.store (j:=2) (v:=.int .i64 6) (s':={ S3.s with kind:=6 }) (fun _ _=>rfl) ⟨rfl,rfl,rfl,rfl,rfl,rfl⟩
 have st1:=st0.1.store (j:=3) (v:=.string nm3) (s':={ S3.s with kind:=6,table:=nm3 }) (fun _ _=>rfl) ⟨rfl,rfl,rfl,rfl,rfl,rfl⟩
 have P4:=hid (show PAt X b en ({ S3 with s:={ S3.s with kind:=6,table:=nm3 } }:PS) _ from st1.1)
 have HK4:=hid (HK3.out.leaf ((st0.2).trans st1.2) NB.out)
 have HE4:=hid (HE3.out.trans (bind_ok (a:=()) (S':=({ S3 with s:={ S3.s with kind:=6,table:=nm3 } }:PS)) rfl))
 clear st0 st1
 go_upto_region 2 with (fail)
 obtain ⟨w4,hw4⟩:∃ x,x=World.setCell (World.setCell (w3) ⟨b,2,none⟩ (.int .i64 6)) ⟨b,3,none⟩ (.string nm3):=⟨_,rfl⟩
 obtain ⟨S4,hS4⟩:∃ T,T=({ S3 with s:={ S3.s with kind:=6,table:=nm3 } }:PS):=⟨_,rfl⟩
 rw [<- hw4] at P4 HK4 ⊢
 rw [<- hS4] at P4 HE4
 have HS4:=hid hS4
 clear hw4 hS4 c2 f2 c3 f3
 have HZ4:=hid (show S4.s.wher.length<=500 by rw [HS4.out];show S3.s.wher.length<=500;rw [HS3.out,HS2.out,HS1.out];exact HZ0.out)
 have con:=where_any P4.out HZ4.out
 go_wp2_with fail
 refine con.mono ?_
 rintro e w5 ⟨g,h⟩
 have HK5:=hid (HK4.out.trans g)
 clear con g
 obtain ⟨S5,h5,rfl,p5⟩|⟨er,h5,rfl⟩:=h
 case inr =>
  have HR:=hid (show deleteM en S=.error er from HE4.out.trans h5)
  clear h5
  go_wp2_with fail
  refine ⟨rfl,?_⟩
  rw [HPST.out]
  exact ⟨HK5.out,Or.inr ⟨er,HR.out,rfl⟩⟩
 have HE5:=hid (HE4.out.trans h5)
 have P5:=hid p5
 clear h5 p5
 go_wp2_with fail
 go_end0
 rw [HPST.out]
 exact ⟨HK5.out,Or.inl ⟨_,HE5.out,rfl,P5.out⟩⟩
theorem commit_any {X:Nat->Prop} {b en:Nat} {S:PS} {w:World} (h:PAt X b en S w) :
 Calls Tryz.prog 45 #[.pointer (some ⟨b,0,none⟩)] w fun e w'=>StepU X b en w (commitM en S) e w':=by
 obtain ⟨Pst,hPst⟩:∃ Pst,Pst=StepU X b en w (commitM en S):=⟨_,rfl⟩
 have HPST:=hid hPst
 rw [<- hPst]
 have NB:=hid (show ¬ X b from h.nb)
 have HK1:=hid (Kept.refl X w)
 have P1:=hid h
 obtain ⟨w1,hw1⟩:∃ x,x=w:=⟨_,rfl⟩
 obtain ⟨S1,hS1⟩:∃ x,x=S:=⟨_,rfl⟩
 have HK1:=hid (show Kept X w w1 by rw [hw1];exact HK1.out)
 have P1:=hid (show PAt X b en S1 w1 by rw [hw1,hS1];exact P1.out)
 have HE1:=hid ((congrArg (commitM en) hS1.symm).trans (congrFun (commit_eq en) S1))
 rw [<- hw1]
 have HS1:=hid hS1
 clear h hPst hw1
 go_enter Tryz.func45,Tryz.ntmps45
 obtain ⟨_,_,L,hbx,_,_⟩:=P1.out.open
 have c2:=jC hbx 2
 have f2:=free_of hbx 2
 simp only [boxC,List.getElem?_toArray,List.getElem?_cons_zero,List.getElem?_cons_succ] at c2
 clear hbx
 have st0:=P1.out.store (j:=2) (v:=.int .i64 9) (s':={ S1.s with kind:=9 }) (fun _ _=>rfl) ⟨rfl,rfl,rfl,rfl,rfl,rfl⟩
 have P2:=hid (show PAt X b en ({ S1 with s:={ S1.s with kind:=9 } }:PS) _ from st0.1)
 have HK2:=hid (HK1.out.leaf st0.2 NB.out)
 have HE2:=hid (HE1.out.trans (bind_ok (a:=()) (S':=({ S1 with s:={ S1.s with kind:=9 } }:PS)) rfl))
 clear st0
 go_upto_region 1 with (fail)
 obtain ⟨w2,hw2⟩:∃ x,x=World.setCell (w1) ⟨b,2,none⟩ (.int .i64 9):=⟨_,rfl⟩
 obtain ⟨S2,hS2⟩:∃ T,T=({ S1 with s:={ S1.s with kind:=9 } }:PS):=⟨_,rfl⟩
 rw [<- hw2] at P2 HK2 ⊢
 rw [<- hS2] at P2 HE2
 have HS2:=hid hS2
 clear hw2 hS2 c2 f2
 have con:=may_any (P2.out.below ((b0R).alloc (jR _) (.cells #[.string w_prepared] 9))) (words_at w2 [w_prepared] (by simp))
 go_wp2_with fail
 refine con.mono ?_
 rintro e w3 ⟨g,h⟩
 have HK3:=hid (HK2.out.leaf ((World.grownBy_alloc w2 (.cells #[.string w_prepared] 9) (some b)).trans g.g) NB.out)
 clear con g
 cases hi:isB [w_prepared] S2.l with
 | false =>
  rw [may_miss hi] at h
  obtain ⟨_,_,h,rfl,p3⟩|⟨_,h,_⟩:=h
  rotate_left
  · cases h
  cases h
  have P3:=hid p3
  obtain ⟨S3,hS3⟩:∃ T,T=(S2:PS):=⟨_,rfl⟩
  have HE3:=hid ((HE2.out.trans (bind_ok (may_miss hi))).trans (congrFun (if_neg Bool.false_ne_true) _))
  rw [<- hS3] at P3 HE3
  have HS3:=hid (show S3.s=S2.s by rw [hS3])
  clear p3 hS3 hi
  go_wp2_with fail
  go_end0
  rw [HPST.out]
  exact ⟨HK3.out,Or.inl ⟨_,HE3.out,rfl,P3.out⟩⟩
 | true =>
  rw [may_hit hi] at h
  obtain ⟨_,_,h,rfl,p3⟩|⟨_,h,_⟩:=h
  rotate_left
  · cases h
  cases h
  have P3:=hid p3
  obtain ⟨S3,hS3⟩:∃ T,T=({ S2 with l:=S2.l.drop [w_prepared].length }:PS):=⟨_,rfl⟩
  have HE3:=hid ((HE2.out.trans (bind_ok (may_hit hi))).trans (congrFun (if_pos rfl) _))
  rw [<- hS3] at P3 HE3
  have HS3:=hid (show S3.s=S2.s by rw [hS3])
  clear p3 hS3 hi
  have HE3:=hid (HE3.out.trans (congrFun (named_eq en 14) S3))
  have con:=name_any P3.out
  go_wp2_with fail
  refine con.mono ?_
  rintro e w4 ⟨g,h⟩
  have HK4:=hid (HK3.out.leaf g.g NB.out)
  clear con g
  obtain ⟨nm4,S4,h4,rfl,p4⟩|⟨er,h4,rfl⟩:=h
  case inr =>
   have HR:=hid (show commitM en S=.error er from HE3.out.trans (bind_error h4))
   clear h4
   go_wp2_with fail
   refine ⟨rfl,?_⟩
   rw [HPST.out]
   exact ⟨HK4.out,Or.inr ⟨er,HR.out,rfl⟩⟩
  have HS4:=hid (show S4.s=S3.s by rw [name_keeps h4])
  have HE4:=hid (HE3.out.trans (bind_ok h4))
  have P4:=hid p4
  clear h4 p4
  obtain ⟨_,_,L,hbx,_,_⟩:=P4.out.open
  have c2:=jC hbx 2
  have f2:=free_of hbx 2
  have c4:=jC hbx 4
  have f4:=free_of hbx 4
  simp only [boxC,List.getElem?_toArray,List.getElem?_cons_zero,List.getElem?_cons_succ] at c2 c4
  clear hbx
  have st0:=P4.out.store (j:=2) (v:=.int .i64 14) (s':={ S4.s with kind:=14 }) (fun _ _=>rfl) ⟨rfl,rfl,rfl,rfl,rfl,rfl⟩
  have st1:=st0.1.store (j:=4) (v:=.string nm4) (s':={ S4.s with kind:=14,name:=nm4 }) (fun _ _=>rfl) ⟨rfl,rfl,rfl,rfl,rfl,rfl⟩
  have P5:=hid (show PAt X b en ({ S4 with s:={ S4.s with kind:=14,name:=nm4 } }:PS) _ from st1.1)
  have HK5:=hid (HK4.out.leaf ((st0.2).trans st1.2) NB.out)
  have HE5:=hid (show commitM en S=.ok ((),({ S4 with s:={ S4.s with kind:=14,name:=nm4 } }:PS)) from HE4.out)
  clear st0 st1
  go_wp2_with fail
  go_end0
  rw [HPST.out]
  exact ⟨HK5.out,Or.inl ⟨_,HE5.out,rfl,P5.out⟩⟩
theorem rollback_any {X:Nat->Prop} {b en:Nat} {S:PS} {w:World} (h:PAt X b en S w) :
 Calls Tryz.prog 46 #[.pointer (some ⟨b,0,none⟩)] w fun e w'=>StepU X b en w (rollbackM en S) e w':=by
 obtain ⟨Pst,hPst⟩:∃ Pst,Pst=StepU X b en w (rollbackM en S):=⟨_,rfl⟩
 have HPST:=hid hPst
 rw [<- hPst]
 have NB:=hid (show ¬ X b from h.nb)
 have HK1:=hid (Kept.refl X w)
 have P1:=hid h
 obtain ⟨w1,hw1⟩:∃ x,x=w:=⟨_,rfl⟩
 obtain ⟨S1,hS1⟩:∃ x,x=S:=⟨_,rfl⟩
 have HK1:=hid (show Kept X w w1 by rw [hw1];exact HK1.out)
 have P1:=hid (show PAt X b en S1 w1 by rw [hw1,hS1];exact P1.out)
 have HE1:=hid ((congrArg (rollbackM en) hS1.symm).trans (congrFun (rollback_eq en) S1))
 rw [<- hw1]
 have HS1:=hid hS1
 clear h hPst hw1
 go_enter Tryz.func46,Tryz.ntmps46
 obtain ⟨_,_,L,hbx,_,_⟩:=P1.out.open
 have c2:=jC hbx 2
 have f2:=free_of hbx 2
 simp only [boxC,List.getElem?_toArray,List.getElem?_cons_zero,List.getElem?_cons_succ] at c2
 clear hbx
 have st0:=P1.out.store (j:=2) (v:=.int .i64 10) (s':={ S1.s with kind:=10 }) (fun _ _=>rfl) ⟨rfl,rfl,rfl,rfl,rfl,rfl⟩
 have P2:=hid (show PAt X b en ({ S1 with s:={ S1.s with kind:=10 } }:PS) _ from st0.1)
 have HK2:=hid (HK1.out.leaf st0.2 NB.out)
 have HE2:=hid (HE1.out.trans (bind_ok (a:=()) (S':=({ S1 with s:={ S1.s with kind:=10 } }:PS)) rfl))
 clear st0
 go_upto_region 1 with (fail)
 obtain ⟨w2,hw2⟩:∃ x,x=World.setCell (w1) ⟨b,2,none⟩ (.int .i64 10):=⟨_,rfl⟩
 obtain ⟨S2,hS2⟩:∃ T,T=({ S1 with s:={ S1.s with kind:=10 } }:PS):=⟨_,rfl⟩
 rw [<- hw2] at P2 HK2 ⊢
 rw [<- hS2] at P2 HE2
 have HS2:=hid hS2
 clear hw2 hS2 c2 f2
 have con:=may_any (P2.out.below ((b0R).alloc (jR _) (.cells #[.string w_to] 9))) (words_at w2 [w_to] (by simp))
 go_wp2_with fail
 refine con.mono ?_
 rintro e w3 ⟨g,h⟩
 have HK3:=hid (HK2.out.leaf ((World.grownBy_alloc w2 (.cells #[.string w_to] 9) (some b)).trans g.g) NB.out)
 clear con g
 cases hi:isB [w_to] S2.l with
 | true =>
  rw [may_hit hi] at h
  obtain ⟨_,_,h,rfl,p3⟩|⟨_,h,_⟩:=h
  rotate_left
  · cases h
  cases h
  have P3:=hid p3
  obtain ⟨S3,hS3⟩:∃ T,T=({ S2 with l:=S2.l.drop [w_to].length }:PS):=⟨_,rfl⟩
  have HE3:=hid ((HE2.out.trans (bind_ok (may_hit hi))).trans (congrFun (if_pos rfl) _))
  rw [<- hS3] at P3 HE3
  have HS3:=hid (show S3.s=S2.s by rw [hS3])
  clear p3 hS3 hi
  have HE3:=hid (HE3.out.trans (congrFun (named_eq en 12) S3))
  have con:=name_any P3.out
  go_wp2_with fail
  refine con.mono ?_
  rintro e w4 ⟨g,h⟩
  have HK4:=hid (HK3.out.leaf g.g NB.out)
  clear con g
  obtain ⟨nm4,S4,h4,rfl,p4⟩|⟨er,h4,rfl⟩:=h
  case inr =>
   have HR:=hid (show rollbackM en S=.error er from HE3.out.trans (bind_error h4))
   clear h4
   go_wp2_with fail
   refine ⟨rfl,?_⟩
   rw [HPST.out]
   exact ⟨HK4.out,Or.inr ⟨er,HR.out,rfl⟩⟩
  have HS4:=hid (show S4.s=S3.s by rw [name_keeps h4])
  have HE4:=hid (HE3.out.trans (bind_ok h4))
  have P4:=hid p4
  clear h4 p4
  obtain ⟨_,_,L,hbx,_,_⟩:=P4.out.open
  have c2:=jC hbx 2
  have f2:=free_of hbx 2
  have c4:=jC hbx 4
  have f4:=free_of hbx 4
  simp only [boxC,List.getElem?_toArray,List.getElem?_cons_zero,List.getElem?_cons_succ] at c2 c4
  clear hbx
  have st0:=P4.out.store (j:=2) (v:=.int .i64 12) (s':={ S4.s with kind:=12 }) (fun _ _=>rfl) ⟨rfl,rfl,rfl,rfl,rfl,rfl⟩
  have st1:=st0.1.store (j:=4) (v:=.string nm4) (s':={ S4.s with kind:=12,name:=nm4 }) (fun _ _=>rfl) ⟨rfl,rfl,rfl,rfl,rfl,rfl⟩
  have P5:=hid (show PAt X b en ({ S4 with s:={ S4.s with kind:=12,name:=nm4 } }:PS) _ from st1.1)
  have HK5:=hid (HK4.out.leaf ((st0.2).trans st1.2) NB.out)
  have HE5:=hid (show rollbackM en S=.ok ((),({ S4 with s:={ S4.s with kind:=12,name:=nm4 } }:PS)) from HE4.out)
  clear st0 st1
  go_wp2_with fail
  go_end0
  rw [HPST.out]
  exact ⟨HK5.out,Or.inl ⟨_,HE5.out,rfl,P5.out⟩⟩
 | false =>
  rw [may_miss hi] at h
  obtain ⟨_,_,h,rfl,p3⟩|⟨_,h,_⟩:=h
  rotate_left
  · cases h
  cases h
  have P3:=hid p3
  obtain ⟨S3,hS3⟩:∃ T,T=(S2:PS):=⟨_,rfl⟩
  have HE3:=hid ((HE2.out.trans (bind_ok (may_miss hi))).trans (congrFun (if_neg Bool.false_ne_true) _))
  rw [<- hS3] at P3 HE3
  have HS3:=hid (show S3.s=S2.s by rw [hS3])
  clear p3 hS3 hi
  have con:=may_any (P3.out.below ((b0R).alloc (jR _) (.cells #[.string w_prepared] 9))) (words_at w3 [w_prepared] (by simp))
  go_wp2_with fail
  refine con.mono ?_
  rintro e w4 ⟨g,h⟩
  have HK4:=hid (HK3.out.leaf ((World.grownBy_alloc w3 (.cells #[.string w_prepared] 9) (some b)).trans g.g) NB.out)
  clear con g
  cases hi:isB [w_prepared] S3.l with
  | false =>
   rw [may_miss hi] at h
   obtain ⟨_,_,h,rfl,p4⟩|⟨_,h,_⟩:=h
   rotate_left
   · cases h
   cases h
   have P4:=hid p4
   obtain ⟨S4,hS4⟩:∃ T,T=(S3:PS):=⟨_,rfl⟩
   have HE4:=hid ((HE3.out.trans (bind_ok (may_miss hi))).trans (congrFun (if_neg Bool.false_ne_true) _))
   rw [<- hS4] at P4 HE4
   have HS4:=hid (show S4.s=S3.s by rw [hS4])
   clear p4 hS4 hi
   go_wp2_with fail
   go_end0
   rw [HPST.out]
   exact ⟨HK4.out,Or.inl ⟨_,HE4.out,rfl,P4.out⟩⟩
  | true =>
   rw [may_hit hi] at h
   obtain ⟨_,_,h,rfl,p4⟩|⟨_,h,_⟩:=h
   rotate_left
   · cases h
   cases h
   have P4:=hid p4
   obtain ⟨S4,hS4⟩:∃ T,T=({ S3 with l:=S3.l.drop [w_prepared].length }:PS):=⟨_,rfl⟩
   have HE4:=hid ((HE3.out.trans (bind_ok (may_hit hi))).trans (congrFun (if_pos rfl) _))
   rw [<- hS4] at P4 HE4
   have HS4:=hid (show S4.s=S3.s by rw [hS4])
   clear p4 hS4 hi
   have HE4:=hid (HE4.out.trans (congrFun (named_eq en 15) S4))
   have con:=name_any P4.out
   go_wp2_with fail
   refine con.mono ?_
   rintro e w5 ⟨g,h⟩
   have HK5:=hid (HK4.out.leaf g.g NB.out)
   clear con g
   obtain ⟨nm5,S5,h5,rfl,p5⟩|⟨er,h5,rfl⟩:=h
   case inr =>
    have HR:=hid (show rollbackM en S=.error er from HE4.out.trans (bind_error h5))
    clear h5
    go_wp2_with fail
    refine ⟨rfl,?_⟩
    rw [HPST.out]
    exact ⟨HK5.out,Or.inr ⟨er,HR.out,rfl⟩⟩
   have HS5:=hid (show S5.s=S4.s by rw [name_keeps h5])
   have HE5:=hid (HE4.out.trans (bind_ok h5))
   have P5:=hid p5
   clear h5 p5
   obtain ⟨_,_,L,hbx,_,_⟩:=P5.out.open
   have c2:=jC hbx 2
   have f2:=free_of hbx 2
   have c4:=jC hbx 4
   have f4:=free_of hbx 4
   simp only [boxC,List.getElem?_toArray,List.getElem?_cons_zero,List.getElem?_cons_succ] at c2 c4
   clear hbx
   have st0:=P5.out.store (j:=2) (v:=.int .i64 15) (s':={ S5.s with kind:=15 }) (fun _ _=>rfl) ⟨rfl,rfl,rfl,rfl,rfl,rfl⟩
   have st1:=st0.1.store (j:=4) (v:=.string nm5) (s':={ S5.s with kind:=15,name:=nm5 }) (fun _ _=>rfl) ⟨rfl,rfl,rfl,rfl,rfl,rfl⟩
   have P6:=hid (show PAt X b en ({ S5 with s:={ S5.s with kind:=15,name:=nm5 } }:PS) _ from st1.1)
   have HK6:=hid (HK5.out.leaf ((st0.2).trans st1.2) NB.out)
   have HE6:=hid (show rollbackM en S=.ok ((),({ S5 with s:={ S5.s with kind:=15,name:=nm5 } }:PS)) from HE5.out)
   clear st0 st1
   go_wp2_with fail
   go_end0
   rw [HPST.out]
   exact ⟨HK6.out,Or.inl ⟨_,HE6.out,rfl,P6.out⟩⟩
end
section
open Go.RowKit
theorem pm_assoc {α β γ:Type} (m:PM α) (f:α->PM β) (g:β->PM γ):PM.bind (PM.bind m f) g=PM.bind m fun a=>PM.bind (f a) g:=by
 funext S
 unfold PM.bind
 cases m S <;> rfl
theorem slot_flat (en:Nat) (S:PS):slotM en S=PM.bind (nameM en) (fun nm=>PM.bind (modM fun s=>{ s with kind:=18,name:=nm }) fun _=>PM.bind (mayM [w_get]) fun b=>if b=true then PM.bind (modM fun s=>{ s with kind:=19 }) fun _=>slotN en else PM.bind (mayM [w_ack]) fun b=>if b=true then PM.bind (modM fun s=>{ s with kind:=20 }) fun _=>slotN en else pure ()) S:=by
 rw [slot_eq,named_eq,pm_assoc]
theorem slot_any {X:Nat->Prop} {b en:Nat} {S:PS} {w:World} (h:PAt X b en S w) :
 Calls Tryz.prog 51 #[.pointer (some ⟨b,0,none⟩)] w fun e w'=>StepU X b en w (slotM en S) e w':=by
 obtain ⟨Pst,hPst⟩:∃ Pst,Pst=StepU X b en w (slotM en S):=⟨_,rfl⟩
 have HPST:=hid hPst
 rw [<- hPst]
 have NB:=hid (show ¬ X b from h.nb)
 have HK1:=hid (Kept.refl X w)
 have P1:=hid h
 obtain ⟨w1,hw1⟩:∃ x,x=w:=⟨_,rfl⟩
 obtain ⟨S1,hS1⟩:∃ x,x=S:=⟨_,rfl⟩
 have HK1:=hid (show Kept X w w1 by rw [hw1];exact HK1.out)
 have P1:=hid (show PAt X b en S1 w1 by rw [hw1,hS1];exact P1.out)
 have HE1:=hid ((congrArg (slotM en) hS1.symm).trans (slot_flat en S1))
 rw [<- hw1]
 have HS1:=hid hS1
 clear h hPst hw1
 go_enter Tryz.func51,Tryz.ntmps51
 have con:=name_any P1.out
 go_wp2_with fail
 refine con.mono ?_
 rintro e w2 ⟨g,h⟩
 have HK2:=hid (HK1.out.leaf g.g NB.out)
 clear con g
 obtain ⟨nm2,S2,h2,rfl,p2⟩|⟨er,h2,rfl⟩:=h
 case inr =>
  have HR:=hid (show slotM en S=.error er from HE1.out.trans (bind_error h2))
  clear h2
  go_wp2_with fail
  refine ⟨rfl,?_⟩
  rw [HPST.out]
  exact ⟨HK2.out,Or.inr ⟨er,HR.out,rfl⟩⟩
 have HS2:=hid (show S2.s=S1.s by rw [name_keeps h2])
 have HE2:=hid (HE1.out.trans (bind_ok h2))
 have P2:=hid p2
 clear h2 p2
 obtain ⟨_,_,L,hbx,_,_⟩:=P2.out.open
 have c2:=jC hbx 2
 have f2:=free_of hbx 2
 have c4:=jC hbx 4
 have f4:=free_of hbx 4
 simp only [boxC,List.getElem?_toArray,List.getElem?_cons_zero,List.getElem?_cons_succ] at c2 c4
 clear hbx
 have st0:=P2.out.store (j:=2) (v:=.int .i64 18) (s':={ S2.s with kind:=18 }) (fun _ _=>rfl) ⟨rfl,rfl,rfl,rfl,rfl,rfl⟩
 have st1:=st0.1.store (j:=4) (v:=.string nm2) (s':={ S2.s with kind:=18,name:=nm2 }) (fun _ _=>rfl) ⟨rfl,rfl,rfl,rfl,rfl,rfl⟩
 have P3:=hid (show PAt X b en ({ S2 with s:={ S2.s with kind:=18,name:=nm2 } }:PS) _ from st1.1)
 have HK3:=hid (HK2.out.leaf ((st0.2).trans st1.2) NB.out)
 have HE3:=hid (HE2.out.trans (bind_ok (a:=()) (S':=({ S2 with s:={ S2.s with kind:=18,name:=nm2 } }:PS)) rfl))
 clear st0 st1
 go_upto_block 0 with (fail)
 obtain ⟨w3,hw3⟩:∃ x,x=World.setCell (World.setCell (w2) ⟨b,2,none⟩ (.int .i64 18)) ⟨b,4,none⟩ (.string nm2):=⟨_,rfl⟩
 obtain ⟨S3,hS3⟩:∃ T,T=({ S2 with s:={ S2.s with kind:=18,name:=nm2 } }:PS):=⟨_,rfl⟩
 rw [<- hw3] at P3 HK3 ⊢
 rw [<- hS3] at P3 HE3
 have HS3:=hid hS3
 clear hw3 hS3 c2 f2 c4 f4
 have con:=may_any (P3.out.below ((b0R).alloc (jR _) (.cells #[.string w_get] 9))) (words_at w3 [w_get] (by simp))
 go_wp2_with fail
 refine con.mono ?_
 rintro e w4 ⟨g,h⟩
 have HK4:=hid (HK3.out.leaf ((World.grownBy_alloc w3 (.cells #[.string w_get] 9) (some b)).trans g.g) NB.out)
 clear con g
 cases hi:isB [w_get] S3.l with
 | true =>
  rw [may_hit hi] at h
  obtain ⟨_,_,h,rfl,p4⟩|⟨_,h,_⟩:=h
  rotate_left
  · cases h
  cases h
  have P4:=hid p4
  obtain ⟨S4,hS4⟩:∃ T,T=({ S3 with l:=S3.l.drop [w_get].length }:PS):=⟨_,rfl⟩
  have HE4:=hid ((HE3.out.trans (bind_ok (may_hit hi))).trans (congrFun (if_pos rfl) _))
  rw [<- hS4] at P4 HE4
  have HS4:=hid (show S4.s=S3.s by rw [hS4])
  clear p4 hS4 hi
  obtain ⟨_,_,L,hbx,_,_⟩:=P4.out.open
  have c2:=jC hbx 2
  have f2:=free_of hbx 2
  simp only [boxC,List.getElem?_toArray,List.getElem?_cons_zero,List.getElem?_cons_succ] at c2
  clear hbx
  have st0:=P4.out.store (j:=2) (v:=.int .i64 19) (s':={ S4.s with kind:=19 }) (fun _ _=>rfl) ⟨rfl,rfl,rfl,rfl,rfl,rfl⟩
  have P5:=hid (show PAt X b en ({ S4 with s:={ S4.s with kind:=19 } }:PS) _ from st0.1)
  have HK5:=hid (HK4.out.leaf st0.2 NB.out)
  have HE5:=hid (HE4.out.trans (bind_ok (a:=()) (S':=({ S4 with s:={ S4.s with kind:=19 } }:PS)) rfl))
  clear st0
  go_upto_region 5 with (fail)
  obtain ⟨w5,hw5⟩:∃ x,x=World.setCell (w4) ⟨b,2,none⟩ (.int .i64 19):=⟨_,rfl⟩
  obtain ⟨S5,hS5⟩:∃ T,T=({ S4 with s:={ S4.s with kind:=19 } }:PS):=⟨_,rfl⟩
  rw [<- hw5] at P5 HK5 ⊢
  rw [<- hS5] at P5 HE5
  have HS5:=hid hS5
  clear hw5 hS5 c2 f2
  have HE5:=hid (HE5.out.trans ((congrFun (slotN_eq en) S5).trans (bind_ok (m:=nowM en) (S:=S5) (S':=S5) (a:=nowT en S5) rfl)))
  have con:=now_any P5.out
  obtain ⟨t,ht⟩:∃ t,t=nowT en S5:=⟨_,rfl⟩
  rw [<- ht] at con HE5
  clear ht
  obtain ⟨tk,tp,tt,tn⟩:=t
  simp only [Tok.enc] at con HE5
  go_wp2_with fail
  refine con.mono ?_
  rintro e w6 ⟨rfl,hb⟩
  have hfd:=field_pos tk tp tt tn w6
  have HK6:=hid (HK5.out.trans (Below.kept hb X))
  have P6:=hid (P5.out.below hb)
  obtain ⟨S6,hS6⟩:∃ T,T=S5:=⟨_,rfl⟩
  have HE6:=HE5
  rw [<- hS6] at P6 HE6
  clear con hb hS6
  have con:=number_any P6.out
  go_wp2_with fail
  refine con.mono ?_
  rintro e w7 ⟨g,h⟩
  have HK7:=hid (HK6.out.leaf g.g NB.out)
  clear con g
  clear hfd
  obtain ⟨n7,S7,h7,rfl,p7⟩|⟨er,h7,rfl⟩:=h
  case inr =>
   have HR:=hid (show slotM en S=.error er from HE6.out.trans (bind_error h7))
   clear h7
   go_wp2_with fail
   refine ⟨rfl,?_⟩
   rw [HPST.out]
   exact ⟨HK7.out,Or.inr ⟨er,HR.out,rfl⟩⟩
  have HE7:=hid (HE6.out.trans (bind_ok h7))
  have P7:=hid p7
  clear h7 p7
  by_cases hn:n7<0 \/ 1073741824<n7
  case pos =>
   have HR:=hid (show slotM en S=.error (tp,61) from HE7.out.trans (congrFun (if_pos hn) S7))
   have con:=fail_any tp 61 w7
   by_cases h0:n7<0
   · have d0:decide (n7<0)=true:=decide_eq_true h0
     go_wp2_with fail
     refine con.mono ?_
     rintro e w6 ⟨rfl,rfl⟩
     go_wp2_with fail
     refine ⟨rfl,?_⟩
     rw [HPST.out]
     exact ⟨HK7.out,Or.inr ⟨_,HR.out,rfl⟩⟩
   · have d0:decide (n7<0)=false:=decide_eq_false h0
     have d1:decide (1073741824<n7)=true:=decide_eq_true (by omega)
     go_wp2_with fail
     refine con.mono ?_
     rintro e w6 ⟨rfl,rfl⟩
     go_wp2_with fail
     refine ⟨rfl,?_⟩
     rw [HPST.out]
     exact ⟨HK7.out,Or.inr ⟨_,HR.out,rfl⟩⟩
  have d0:decide (n7<0)=false:=decide_eq_false (by omega)
  have d1:decide (1073741824<n7)=false:=decide_eq_false (by omega)
  have h0:¬ n7<0:=by omega
  have HE7:=hid (HE7.out.trans (congrFun (if_neg hn) S7))
  clear hn
  obtain ⟨_,_,L,hbx,_,_⟩:=P7.out.open
  have c16:=jC hbx 16
  have f16:=free_of hbx 16
  simp only [boxC,List.getElem?_toArray,List.getElem?_cons_zero,List.getElem?_cons_succ] at c16
  clear hbx
  have st0:=P7.out.store (j:=16) (v:=.int .i64 n7) (s':={ S7.s with n:=n7 }) (fun _ _=>rfl) ⟨rfl,rfl,rfl,rfl,rfl,rfl⟩
  have P8:=hid (show PAt X b en ({ S7 with s:={ S7.s with n:=n7 } }:PS) _ from st0.1)
  have HK8:=hid (HK7.out.leaf st0.2 NB.out)
  have HE8:=hid (show slotM en S=.ok ((),({ S7 with s:={ S7.s with n:=n7 } }:PS)) from HE7.out)
  clear st0
  go_wp2_with fail
  go_end0
  rw [HPST.out]
  exact ⟨HK8.out,Or.inl ⟨_,HE8.out,rfl,P8.out⟩⟩
 | false =>
  rw [may_miss hi] at h
  obtain ⟨_,_,h,rfl,p4⟩|⟨_,h,_⟩:=h
  rotate_left
  · cases h
  cases h
  have P4:=hid p4
  obtain ⟨S4,hS4⟩:∃ T,T=(S3:PS):=⟨_,rfl⟩
  have HE4:=hid ((HE3.out.trans (bind_ok (may_miss hi))).trans (congrFun (if_neg Bool.false_ne_true) _))
  rw [<- hS4] at P4 HE4
  have HS4:=hid (show S4.s=S3.s by rw [hS4])
  clear p4 hS4 hi
  have con:=may_any (P4.out.below ((b0R).alloc (jR _) (.cells #[.string w_ack] 9))) (words_at w4 [w_ack] (by simp))
  go_wp2_with fail
  refine con.mono ?_
  rintro e w5 ⟨g,h⟩
  have HK5:=hid (HK4.out.leaf ((World.grownBy_alloc w4 (.cells #[.string w_ack] 9) (some b)).trans g.g) NB.out)
  clear con g
  cases hi:isB [w_ack] S4.l with
  | true =>
   rw [may_hit hi] at h
   obtain ⟨_,_,h,rfl,p5⟩|⟨_,h,_⟩:=h
   rotate_left
   · cases h
   cases h
   have P5:=hid p5
   obtain ⟨S5,hS5⟩:∃ T,T=({ S4 with l:=S4.l.drop [w_ack].length }:PS):=⟨_,rfl⟩
   have HE5:=hid ((HE4.out.trans (bind_ok (may_hit hi))).trans (congrFun (if_pos rfl) _))
   rw [<- hS5] at P5 HE5
   have HS5:=hid (show S5.s=S4.s by rw [hS5])
   clear p5 hS5 hi
   obtain ⟨_,_,L,hbx,_,_⟩:=P5.out.open
   have c2:=jC hbx 2
   have f2:=free_of hbx 2
   simp only [boxC,List.getElem?_toArray,List.getElem?_cons_zero,List.getElem?_cons_succ] at c2
   clear hbx
   have st0:=P5.out.store (j:=2) (v:=.int .i64 20) (s':={ S5.s with kind:=20 }) (fun _ _=>rfl) ⟨rfl,rfl,rfl,rfl,rfl,rfl⟩
   have P6:=hid (show PAt X b en ({ S5 with s:={ S5.s with kind:=20 } }:PS) _ from st0.1)
   have HK6:=hid (HK5.out.leaf st0.2 NB.out)
   have HE6:=hid (HE5.out.trans (bind_ok (a:=()) (S':=({ S5 with s:={ S5.s with kind:=20 } }:PS)) rfl))
   clear st0
   go_upto_region 5 with (fail)
   obtain ⟨w6,hw6⟩:∃ x,x=World.setCell (w5) ⟨b,2,none⟩ (.int .i64 20):=⟨_,rfl⟩
   obtain ⟨S6,hS6⟩:∃ T,T=({ S5 with s:={ S5.s with kind:=20 } }:PS):=⟨_,rfl⟩
   rw [<- hw6] at P6 HK6 ⊢
   rw [<- hS6] at P6 HE6
   have HS6:=hid hS6
   clear hw6 hS6 c2 f2
   have HE6:=hid (HE6.out.trans ((congrFun (slotN_eq en) S6).trans (bind_ok (m:=nowM en) (S:=S6) (S':=S6) (a:=nowT en S6) rfl)))
   have con:=now_any P6.out
   obtain ⟨t,ht⟩:∃ t,t=nowT en S6:=⟨_,rfl⟩
   rw [<- ht] at con HE6
   clear ht
   obtain ⟨tk,tp,tt,tn⟩:=t
   simp only [Tok.enc] at con HE6
   go_wp2_with fail
   refine con.mono ?_
   rintro e w7 ⟨rfl,hb⟩
   have hfd:=field_pos tk tp tt tn w7
   have HK7:=hid (HK6.out.trans (Below.kept hb X))
   have P7:=hid (P6.out.below hb)
   obtain ⟨S7,hS7⟩:∃ T,T=S6:=⟨_,rfl⟩
   have HE7:=HE6
   rw [<- hS7] at P7 HE7
   clear con hb hS7
   have con:=number_any P7.out
   go_wp2_with fail
   refine con.mono ?_
   rintro e w8 ⟨g,h⟩
   have HK8:=hid (HK7.out.leaf g.g NB.out)
   clear con g
   clear hfd
   obtain ⟨n8,S8,h8,rfl,p8⟩|⟨er,h8,rfl⟩:=h
   case inr =>
    have HR:=hid (show slotM en S=.error er from HE7.out.trans (bind_error h8))
    clear h8
    go_wp2_with fail
    refine ⟨rfl,?_⟩
    rw [HPST.out]
    exact ⟨HK8.out,Or.inr ⟨er,HR.out,rfl⟩⟩
   have HE8:=hid (HE7.out.trans (bind_ok h8))
   have P8:=hid p8
   clear h8 p8
   by_cases hn:n8<0 \/ 1073741824<n8
   case pos =>
    have HR:=hid (show slotM en S=.error (tp,61) from HE8.out.trans (congrFun (if_pos hn) S8))
    have con:=fail_any tp 61 w8
    by_cases h0:n8<0
    · have d0:decide (n8<0)=true:=decide_eq_true h0
      go_wp2_with fail
      refine con.mono ?_
      rintro e w6 ⟨rfl,rfl⟩
      go_wp2_with fail
      refine ⟨rfl,?_⟩
      rw [HPST.out]
      exact ⟨HK8.out,Or.inr ⟨_,HR.out,rfl⟩⟩
    · have d0:decide (n8<0)=false:=decide_eq_false h0
      have d1:decide (1073741824<n8)=true:=decide_eq_true (by omega)
      go_wp2_with fail
      refine con.mono ?_
      rintro e w6 ⟨rfl,rfl⟩
      go_wp2_with fail
      refine ⟨rfl,?_⟩
      rw [HPST.out]
      exact ⟨HK8.out,Or.inr ⟨_,HR.out,rfl⟩⟩
   have d0:decide (n8<0)=false:=decide_eq_false (by omega)
   have d1:decide (1073741824<n8)=false:=decide_eq_false (by omega)
   have h0:¬ n8<0:=by omega
   have HE8:=hid (HE8.out.trans (congrFun (if_neg hn) S8))
   clear hn
   obtain ⟨_,_,L,hbx,_,_⟩:=P8.out.open
   have c16:=jC hbx 16
   have f16:=free_of hbx 16
   simp only [boxC,List.getElem?_toArray,List.getElem?_cons_zero,List.getElem?_cons_succ] at c16
   clear hbx
   have st0:=P8.out.store (j:=16) (v:=.int .i64 n8) (s':={ S8.s with n:=n8 }) (fun _ _=>rfl) ⟨rfl,rfl,rfl,rfl,rfl,rfl⟩
   have P9:=hid (show PAt X b en ({ S8 with s:={ S8.s with n:=n8 } }:PS) _ from st0.1)
   have HK9:=hid (HK8.out.leaf st0.2 NB.out)
   have HE9:=hid (show slotM en S=.ok ((),({ S8 with s:={ S8.s with n:=n8 } }:PS)) from HE8.out)
   clear st0
   go_wp2_with fail
   go_end0
   rw [HPST.out]
   exact ⟨HK9.out,Or.inl ⟨_,HE9.out,rfl,P9.out⟩⟩
  | false =>
   rw [may_miss hi] at h
   obtain ⟨_,_,h,rfl,p5⟩|⟨_,h,_⟩:=h
   rotate_left
   · cases h
   cases h
   have P5:=hid p5
   obtain ⟨S5,hS5⟩:∃ T,T=(S4:PS):=⟨_,rfl⟩
   have HE5:=hid ((HE4.out.trans (bind_ok (may_miss hi))).trans (congrFun (if_neg Bool.false_ne_true) _))
   rw [<- hS5] at P5 HE5
   have HS5:=hid (show S5.s=S4.s by rw [hS5])
   clear p5 hS5 hi
   go_wp2_with fail
   refine bodyPost_ret (v:=.tuple #[]) (results_none rfl _ _ _) rfl ?_
   rw [HPST.out]
   exact ⟨HK5.out,Or.inl ⟨_,HE5.out,rfl,P5.out⟩⟩
end
end Go.Proofs.YtjcpccadmcglgaaGreatDoor
