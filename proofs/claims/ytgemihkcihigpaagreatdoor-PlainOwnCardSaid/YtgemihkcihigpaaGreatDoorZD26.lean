/- (*Catalog).index. -/
import Derived.Laws.EntriesVeiled
import Derived.Test.YtgemihkcihigpaaGreatDoorZD12
import Derived.Test.YtgemihkcihigpaaGreatDoorZD24
import Derived.Test.YtgemihkcihigpaaGreatDoorZD25
set_option linter.unusedVariables false
set_option linter.unusedSimpArgs false
set_option maxRecDepth 100000
set_option maxHeartbeats 64000000
namespace Go.Proofs.YtgemihkcihigpaaGreatDoor
open Go.Lib (hid)
section
open Go.RowKit
theorem ix1_any {q:Nat} {xn nm:ByteArray} {a:Option Addr} {n c:Nat} {r:Int} {w:World} (hq:w.cell? ⟨q,2,none⟩=some (.string nm)) :
 Calls Tryz.prog 169 #[.agg #[.string xn,.slice a n c,.int .i64 r],.pointer (some ⟨q,0,none⟩)] w fun e w'=>e=.returned (.bool (sEq xn nm))/\Below w.heap.size w w':=by
 have hb:Below w.heap.size w (w.alloc (.cells #[.string xn,.slice a n c,.int .i64 r] 114)):=(b0R).alloc (jR _) _
 have hlt:=World.block_lt_of_cell? w _ hq
 have hb1:=hid hb
 have q2:=(hb.cell (p:=⟨q,2,none⟩) hlt).trans hq
 clear hb
 go_enter Tryz.func169,Tryz.ntmps169
 go_wp2_with fail
 go_ret
 exact ⟨rfl,hb1.out⟩
theorem ix2_any {p:Nat->Prop} {q sm:Nat} {id:Int} {tn nm:ByteArray} {ac ai:Option Addr} {nc cc ci:Nat} {L:List Ix} {w:World} (hL:SlV ixR p w (.slice ai L.length ci) L) (hq:w.cell? ⟨q,2,none⟩=some (.string nm)) (hsm:w.cell? ⟨sm,0,none⟩=some (.func (.func 169) #[] #[.pointer (some ⟨q,0,none⟩)])) :
 Calls Tryz.prog 171 #[.agg #[.int .i64 id,.string tn,.slice ac nc cc,.slice ai L.length ci],.pointer (some ⟨sm,0,none⟩)] w fun e w'=>e=.returned (.bool (L.any fun i=>sEq i.name nm))/\Below w.heap.size w w':=by
 obtain ⟨W,hW⟩:∃ W,w.alloc (.cells #[.int .i64 id,.string tn,.slice ac nc cc,.slice ai L.length ci] 75)=W:=⟨_,rfl⟩
 have hb:Below w.heap.size w W:=by rw [<- hW];exact (b0R).alloc (jR _) _
 have hb1:=hid hb
 have hbq:W.heap[w.heap.size]? = some (.cells #[.int .i64 id,.string tn,.slice ac nc cc,.slice ai L.length ci] 75 (0,0)):=by rw [<- hW];exact heap_alloc_new _ _
 have t3:=jC hbq 3
 simp only [gT,gZ,gS] at t3
 have sm0:=(hb.cell (p:=⟨sm,0,none⟩) (World.block_lt_of_cell? w _ hsm)).trans hsm
 have q2:=(hb.cell (p:=⟨q,2,none⟩) (World.block_lt_of_cell? w _ hq)).trans hq
 have Q2:=hid q2
 have QL:=hid (World.block_lt_of_cell? W _ q2)
 have con:Calls Tryz.prog 172 #[.slice ai L.length ci,.func (.func 169) #[] #[.pointer (some ⟨q,0,none⟩)]] W fun e w'=>e=.returned (.bool (L.any fun i=>sEq i.name nm))/\Below W.heap.size W w':=by
  have HL:=hL.below hb
  obtain ⟨_,_,hl,hr⟩:=HL.row
  have hx:∀ t,∃ qq:Option Addr × Nat,∀ (ht:t<L.length),(∀ b off,ai=some ⟨b,off,none⟩->W.cell? ⟨b,off+t * 3+1,none⟩=some (.slice qq.1 L[t].cols.length qq.2)):=by
   intro t
   by_cases ht:t<L.length
   · obtain ⟨b,off,rfl,_⟩:=hr.addr (by intro e;rw [e] at ht;cases ht)
     obtain ⟨ia,ic,_,h1,_,_⟩:=hr.ix t ht
     refine ⟨(ia,ic),fun _ b' off' e=>?_⟩
     simp only [Option.some.injEq,Addr.mk.injEq] at e
     obtain ⟨rfl,rfl,_⟩:=e
     exact h1
   · exact ⟨(none,0),fun h=>absurd h ht⟩
  obtain ⟨qq,hqq⟩:=Classical.axiomOfChoice hx
  rw [<- anyN_list (fun i:Ix=>sEq i.name nm) L (fun t=>sEq (ixAt L t).name nm) (fun t ht=>by rw [ixAt_eq ht])]
  refine cf_ix (x0:=fun t=>.string (ixAt L t).name) (x1:=fun t=>.slice (qq t).1 (ixAt L t).cols.length (qq t).2) (x2:=fun t=>.int .i64 (ixAt L t).root) (fun t=>sEq (ixAt L t).name nm) (enters_of Tryz.func169 (by kernel_rfl) rfl) hl (fun h0=>?_) (fun t ht w1 b1=>ix1_any ((b1.cell (p:=⟨q,2,none⟩) QL.out).trans Q2.out))
  obtain ⟨b,off,rfl,_,hbl⟩:=hr.addr (by intro e;rw [e] at h0;cases h0)
  refine ⟨b,off,rfl,hbl,fun t ht=>?_⟩
  obtain ⟨_,_,g0,_,g2,_⟩:=hr.ix t ht
  rw [ixAt_eq ht]
  exact ⟨g0,hqq t ht b off rfl,g2⟩
 have HF:=hid (show (L.any fun i=>sEq i.name nm)=L.any fun i=>sEq i.name nm from rfl)
 generalize (L.any fun i=>sEq i.name nm)=f at con HF ⊢
 clear hb hL hbq HF Q2 QL hq hsm
 go_enter Tryz.func171,Tryz.ntmps171
 go_upto_region 1 with (fail)
 clear hW
 go_wp2_with fail
 refine con.mono ?_
 rintro e w2 ⟨rfl,b2⟩
 have B2:=hid (hb1.out.trans (b2.mono hb1.out.size))
 clear con b2
 go_wp2_with fail
 go_ret
 exact ⟨rfl,B2.out⟩
theorem dup_any {p:Nat->Prop} {q sm c:Nat} {nm:ByteArray} {a:Option Addr} {C:List Tab} {w:World} (h:SlV tabR p w (.slice a C.length c) C) (hq:w.cell? ⟨q,2,none⟩=some (.string nm)) (hsm:w.cell? ⟨sm,0,none⟩=some (.func (.func 169) #[] #[.pointer (some ⟨q,0,none⟩)])) :
 Calls Tryz.prog 170 #[.slice a C.length c,.func (.func 171) #[] #[.pointer (some ⟨sm,0,none⟩)]] w fun e w'=>e=.returned (.bool (C.any fun t=>t.idx.any fun i=>sEq i.name nm))/\Below w.heap.size w w':=by
 obtain ⟨_,_,hl,hr⟩:=h.row
 have hx:∀ t,∃ qq:(Option Addr × Nat) × (Option Addr × Nat),∀ (ht:t<C.length),(∀ b off,a=some ⟨b,off,none⟩->w.cell? ⟨b,off+t * 4+2,none⟩=some (.slice qq.1.1 C[t].cols.length qq.1.2)/\w.cell? ⟨b,off+t * 4+3,none⟩=some (.slice qq.2.1 C[t].idx.length qq.2.2))/\SlV ixR p w (.slice qq.2.1 C[t].idx.length qq.2.2) C[t].idx:=by
  intro t
  by_cases ht:t<C.length
  · obtain ⟨b,off,rfl,_⟩:=hr.addr (by intro e;rw [e] at ht;cases ht)
    obtain ⟨ac,cc,ai,ci,_,_,h2,h3,hv⟩:=hr.tab t ht
    obtain ⟨_,_,_,_,e,_,s2⟩:=hv
    cases e
    refine ⟨((ac,cc),(ai,ci)),fun _=>⟨fun b' off' e=>?_,s2⟩⟩
    simp only [Option.some.injEq,Addr.mk.injEq] at e
    obtain ⟨rfl,rfl,_⟩:=e
    exact ⟨h2,h3⟩
  · exact ⟨((none,0),(none,0)),fun h=>absurd h ht⟩
 obtain ⟨qq,hqq⟩:=Classical.axiomOfChoice hx
 rw [<- anyN_list (fun t:Tab=>t.idx.any fun i=>sEq i.name nm) C (fun t=>(tabAtN C t).idx.any fun i=>sEq i.name nm) (fun t ht=>by rw [tabAtN_eq ht])]
 refine cf_tab (x0:=fun t=>.int .i64 (tabAtN C t).id) (x1:=fun t=>.string (tabAtN C t).name) (x2:=fun t=>.slice (qq t).1.1 (tabAtN C t).cols.length (qq t).1.2) (x3:=fun t=>.slice (qq t).2.1 (tabAtN C t).idx.length (qq t).2.2) (fun t=>(tabAtN C t).idx.any fun i=>sEq i.name nm) (enters_of Tryz.func171 (by kernel_rfl) rfl) hl (fun h0=>?_) (fun t ht w1 b1=>?_)
 · obtain ⟨b,off,rfl,_,hbl⟩:=hr.addr (by intro e;rw [e] at h0;cases h0)
   refine ⟨b,off,rfl,hbl,fun t ht=>?_⟩
   obtain ⟨_,_,_,_,g0,g1,_,_,_⟩:=hr.tab t ht
   rw [tabAtN_eq ht]
   exact ⟨g0,g1,(hqq t ht).1 b off rfl⟩
 · rw [tabAtN_eq ht]
   exact ix2_any ((hqq t ht).2.below b1) ((b1.cell (p:=⟨q,2,none⟩) (World.block_lt_of_cell? w _ hq)).trans hq) ((b1.cell (p:=⟨sm,0,none⟩) (World.block_lt_of_cell? w _ hsm)).trans hsm)
end
section
open Go.RowKit
theorem CatAt.tab {B b:Nat} {X:Nat->Prop} {C:List Tab} {w:World} {K:Nat} (h:CatAt B X b C w) (hS:TabsSmall C) (hk:K<C.length):∃ (g c:Nat) (vs:List (Value × Value)) (ac:Option Addr) (cc:Nat) (ai:Option Addr) (ci:Nat),vs.length=C.length /\
 w.heap[b]? = some (.cells #[.slice (some ⟨g,0,none⟩) C.length c] 166 (0,0))/\w.ownsRow B 75 4 (.slice (some ⟨g,0,none⟩) C.length c) C.length ((C.zip vs).flatMap tabCells)/\TabParts B C vs w/\(Apart vs/\Free X b (.slice (some ⟨g,0,none⟩) C.length c) vs)/\g<w.heap.size /\
 (∀ h:K<vs.length,vs[K]=(.slice ac C[K].cols.length cc,.slice ai C[K].idx.length ci)) /\
 (w.cell? ⟨g,K * 4,none⟩=some (.int .i64 C[K].id)/\w.cell? ⟨g,K * 4+1,none⟩=some (.string C[K].name)/\w.cell? ⟨g,K * 4+2,none⟩=some (.slice ac C[K].cols.length cc)/\w.cell? ⟨g,K * 4+3,none⟩=some (.slice ai C[K].idx.length ci)) /\
 TabV (fun k=>B<=k) w (.agg #[.int .i64 C[K].id,.string C[K].name,.slice ac C[K].cols.length cc,.slice ai C[K].idx.length ci]) C[K]:=by
 obtain ⟨h0,v,vs,h1,h2,h3,h4,h5⟩:=h
 obtain ⟨g,c,cur,rfl,hbg⟩:∃ g c,∃ cur:Array Value,v=.slice (some ⟨g,0,none⟩) C.length c/\w.heap[g]? = some (.cells cur 75 (0,0)):=by
  rcases h3.2 with ⟨_,e⟩|⟨g,cap,cur,e,_,hg,_⟩
  · omega
  · exact ⟨g,cap,cur,e,hg⟩
 obtain ⟨s1,s2,s3⟩:=hS.2 _ (List.getElem_mem hk)
 obtain ⟨p1,p2⟩:=h4 K hk (by omega)
 obtain ⟨ac,cc,e1,_⟩:=owns_shape' p1
 obtain ⟨ai,ci,e2,_⟩:∃ ai ci,(vs[K]'(by omega)).2=.slice ai C[K].idx.length ci/\(ai=none->C[K].idx.length=0):=by
  obtain ⟨us,_,q2,_⟩:=p2
  exact owns_shape' q2
 have e3:vs[K]'(by omega)=(.slice ac C[K].cols.length cc,.slice ai C[K].idx.length ci):=by rw [<- e1,<- e2]
 have hz:K<(C.zip vs).length:=by rw [zip_flat h1];exact hk
 have hc:=flat_part (enc:=tabCells) (sz:=4) (fun _=>rfl) (C.zip vs) K hz
 rw [List.getElem_zip,e3] at hc
 have cell:∀ j,j<4->w.cell? ⟨g,K * 4+j,none⟩=(tabCells (C[K],.slice ac C[K].cols.length cc,.slice ai C[K].idx.length ci))[j]? := by
  intro j hj
  rw [World.ownsRow.cellAt h3 (K * 4+j) (by omega),<- hc,List.getElem?_take_of_lt hj,List.getElem?_drop]
 rw [e1] at p1
 rw [e2] at p2
 exact ⟨g,c,vs,ac,cc,ai,ci,h1,h2,h3,h4,h5,jB hbg,fun _=>e3,⟨cell 0 (by decide),cell 1 (by decide),cell 2 (by decide),cell 3 (by decide)⟩,ac,cc,ai,ci,rfl,colOwn_sl p1 (by omega),ixOwn_sl p2 (by omega) (fun x hx=>by have:=s3 x hx;omega)⟩
def NewInt (z:Int) (u:Value) (w:World):Prop:=∃ g,u=.slice (some ⟨g,0,none⟩) 1 1/\w.heap[g]? = some (.cells #[.int .i64 z] 3 (0,0))
theorem NewInt.below {z:Int} {u:Value} {w w':World} (h:NewInt z u w) (hb:Below w.heap.size w w'):NewInt z u w':=by
 obtain ⟨g,h1,h2⟩:=h
 exact ⟨g,h1,(hb.block _ (jB h2)).trans h2⟩
def NewIx (nm:ByteArray) (xc:Value) (u:Value) (w:World):Prop:=∃ g,u=.slice (some ⟨g,0,none⟩) 1 1/\w.heap[g]? = some (.cells #[.string nm,xc,.int .i64 0] 114 (0,0))
theorem NewIx.below {nm:ByteArray} {xc:Value} {u:Value} {w w':World} (h:NewIx nm xc u w) (hb:Below w.heap.size w w'):NewIx nm xc u w':=by
 obtain ⟨g,h1,h2⟩:=h
 exact ⟨g,h1,(hb.block _ (jB h2)).trans h2⟩
def XAt (W:World) (nm:ByteArray) (v:Value) (k:Nat) (xs:List Value) (w:World):Prop :=
 w.heap[W.heap.size]? = some (.cells #[.string nm,v,.int .i64 0] 114 (0,0))/\w.ownsRow (W.heap.size+1) 3 1 v k xs/\Below W.heap.size W w
theorem XAt.below {W:World} {nm:ByteArray} {v:Value} {k:Nat} {xs:List Value} {w w':World} (h:XAt W nm v k xs w) (hb:Below w.heap.size w w'):XAt W nm v k xs w' :=
 ⟨(hb.block _ (jB h.1)).trans h.1,owns_below h.2.1 hb,h.2.2.trans (hb.mono h.2.2.size)⟩
theorem ie_named {C:List Tab} {s:Stmt} (h:namedB s.name=false):indexE C s=1:=by unfold indexE;simp [h]
theorem ie_few {C:List Tab} {s:Stmt} (h:s.names.length<1):indexE C s=1:=by unfold indexE;simp [h]
theorem ie_many {C:List Tab} {s:Stmt} (h:6<s.names.length):indexE C s=1:=by unfold indexE;simp [h]
theorem ie_go {C:List Tab} {s:Stmt} (h1:namedB s.name=true) (h2:¬ s.names.length<1) (h3:¬ 6<s.names.length):indexE C s=if findT C s.table<0 then 50
 else if anyNeg (ixCols (tabAt C (findT C s.table)) s) then 50
 else if twiceB s.names || C.any (fun t=>t.idx.any (fun i=>sEq i.name s.name)) then 51
 else if (tabAt C (findT C s.table)).idx.length=4 then 2 else 0:=by
 unfold indexE anyNeg
 rw [h1,if_neg]
 simp only [Bool.not_true,Bool.false_or,Bool.or_eq_true,decide_eq_true_eq]
 omega
theorem index_any {p X:Nat->Prop} {B b:Nat} {C:List Tab} {s:Stmt} {sv:Value} {w:World} (hC:CatAt B X b C w) (hX:∀ k,X k->k<w.heap.size) (hS:TabsSmall C) (hs:StmtV p w sv s) (hnl:s.names.length<=1000000) (hnm:∀ t ∈ C,∀ c ∈ t.cols,c.1.size<=maxLen) (hB:B<=w.heap.size) :
 Calls Tryz.prog 151 #[.pointer (some ⟨b,0,none⟩),sv,.int .i64 0] w fun e w'=>CatPost B X b w (indexE C s,if indexE C s=0 then indexT C s else C) e w':=by
 obtain ⟨i0,hi,hz0,hz1,hz2⟩:=info_parts info_eix
 obtain ⟨i1,hi1,hz01,hz11,hz21⟩:=info_parts info_asi
 obtain ⟨a3,c3,a4,c4,a5,c5,a6,c6,a7,c7,a12,c12,rfl,_,hnam,_,_,_,_⟩:=hs
 have HC:=hid hC
 obtain ⟨a,c,hcb,hsl⟩:=hC.sl hS
 have HCB:=hid hcb
 have HSL:=hid hsl
 have HSM:=hid hS
 have HERR:=hid (fun (k:Int) (hk:indexE C s=k) (hk0:k ≠ 0) (w':World) (hb:Below w.heap.size w w')=>CatPost.err (r:=(indexE C s,if indexE C s=0 then indexT C s else C)) hC hX (by rw [if_neg (by rw [hk];exact hk0),hk]) hB hb)
 obtain ⟨Pst,hPst⟩:∃ Pst,Pst=CatPost B X b w (indexE C s,if indexE C s=0 then indexT C s else C):=⟨_,rfl⟩
 rw [<- hPst] at HERR ⊢
 have HPST:=hid hPst
 have HNM:=hid hnm
 have hlC:C.length<=1000000:=hS.1
 have HNAM:=hid hnam
 have HX0:=hid hX
 clear hPst hC hS hcb hsl hnam hnm hX
 go_enter Tryz.func151,Tryz.ntmps151
 go_upto_region 1 with (fail)
 generalize hW:World.alloc _ _=W1
 have hA':allocs w [_]=W1:=hW
 have hq:W1.heap[w.heap.size]? = some (.cells #[.int .i64 s.kind,.string s.table,.string s.name,.slice a3 s.cols.length c3,.slice a4 s.names.length c4,.slice a5 s.row.length c5,.slice a6 s.sets.length c6,.slice a7 s.wher.length c7,.string s.join,.string s.left,.string s.right,.int .i64 s.agg,.slice a12 s.order.length c12,.int .i64 s.mode,.int .i64 s.n] 39 (0,0)):=allocs_get hA' 0 rfl
 have hb:=allocs_self hA'
 have B1:=hid hb
 have HQ:=hid hq
 have q2:=jC hq 2
 have q4:=jC hq 4
 simp only [gT,gZ,gS] at q2 q4
 clear hA' hW hq hb
 go_wp2_with fail
 refine (named_any s.name _).mono ?_
 rintro e w2' ⟨rfl,rfl⟩
 cases h1:namedB s.name
 case false =>
  have HX:=hid (HERR.out 1 (ie_named h1) (by decide) _ B1.out)
  go_wp2_with fail
  exact HX.out
 by_cases h2:s.names.length<1
 · have HX:=hid (HERR.out 1 (ie_few h2) (by decide) _ B1.out)
   have d2:decide (s.names.length<1)=true:=decide_eq_true h2
   have d2':decide ((s.names.length:Int)<1)=true:=decide_eq_true (by omega)
   go_wp2_with fail
   exact HX.out
 have d2:decide (s.names.length<1)=false:=decide_eq_false h2
 have d2':decide ((s.names.length:Int)<1)=false:=decide_eq_false (by omega)
 by_cases h3:6<s.names.length
 · have HX:=hid (HERR.out 1 (ie_many h3) (by decide) _ B1.out)
   have d3:decide (6<s.names.length)=true:=decide_eq_true h3
   have d3':decide (6<(s.names.length:Int))=true:=decide_eq_true (by omega)
   go_wp2_with fail
   exact HX.out
 have d3:decide (6<s.names.length)=false:=decide_eq_false h3
 have d3':decide (6<(s.names.length:Int))=false:=decide_eq_false (by omega)
 have HGO:=hid (ie_go (C:=C) h1 h2 h3)
 clear h1
 go_upto_region 3 with (fail)
 have q1:=jC HQ.out 1
 simp only [gT,gZ,gS] at q1
 have HB1:=cy B1.out HCB
 obtain ⟨n,hn⟩:∃ n,findT C s.table=n:=⟨_,rfl⟩
 have con:=cfind_any HB1.out (HSL.out.below B1.out) s.table
 rw [hn] at con
 rw [hn] at HGO
 have HBD:=hid (hn ▸ findT_lt C s.table)
 have HN:=hid hn
 clear hn
 go_wp2_with fail
 refine con.mono ?_
 rintro e w2 ⟨rfl,b2⟩
 have B2:=hid (B1.out.trans (b2.mono B1.out.size))
 have hq2:=(b2.block _ (jB HQ.out)).trans HQ.out
 have HQ2:=hid hq2
 clear con b2 hq2 q1 q2 q4 HB1 d2 d2' d3 d3' h2 h3
 by_cases hn0:n<0
 · have HX:=hid (HERR.out 50 (by rw [HGO.out,if_pos hn0]) (by decide) _ B2.out)
   go_wp2_with fail
   exact HX.out
 obtain ⟨K,rfl⟩:∃ K:Nat,n=K:=⟨n.toNat,by omega⟩
 have hKC:K<C.length:=by have:=HBD.out.2;omega
 have hta:tabAt C (K:Int)=C[K]:=by
  unfold tabAt
  rw [Int.toNat_natCast,List.getD_eq_getElem?_getD,List.getElem?_eq_getElem hKC];rfl
 rw [hta] at HGO
 obtain ⟨g,cg,vs,ac,cc,ai,ci,hl,hcat,hown,hpar,hap,hgl,hvk,ht4,htv⟩:=(HC.out.below B2.out).tab HSM.out hKC
 have HCAT:=hid hcat
 have HT4:=hid ht4
 have HTV:=hid htv
 have HGL:=hid hgl
 have HREST:=hid (show _/\_/\_/\_/\_ from ⟨hl,hown,hpar,hap,hvk⟩)
 have HCL:=hid (HSM.out.2 _ (List.getElem_mem hKC)).1
 have cb:=jC hcat 0
 simp only [gT,gZ,gS] at cb
 clear hcat ht4 htv hgl hl hown hpar hap hvk hta HBD
 have hn1:¬ (K:Int)<0:=by omega
 go_upto_region 7 with (fail)
 obtain ⟨W,hWW⟩:∃ W,W=w2:=⟨_,rfl⟩
 rw [<- hWW] at HQ2 B2 HCAT HT4 HTV HGL HREST cb ⊢
 clear hWW
 have q2:=jC HQ2.out 2
 have q4:=jC HQ2.out 4
 simp only [gT,gZ,gS] at q2 q4
 clear cb
 go_upto_region 8 with (fail)
 generalize hX:World.alloc _ _=WX
 have hXB:XAt W s.name (.slice none 0 0) 0 [] WX:=by
  rw [<- hX]
  exact ⟨heap_alloc_new _ _,World.ownsRow_nil _ _ _ _,(b0R).alloc (jR _) _⟩
 have XA0:=hid hXB
 have q4x:=(hXB.2.2.cell (p:=⟨w.heap.size,4,none⟩) (World.block_lt_of_cell? W _ q4)).trans q4
 obtain ⟨NL,hNL⟩:∃ NL,NL=s.names:=⟨_,rfl⟩
 have HNL:=hid hNL
 rw [<- hNL] at HNAM q4x ⊢
 have hnl2:NL.length<=1000000:=by rw [hNL];exact hnl
 clear hX hXB q4 hNL
 go_wp2_with fail
 go_loopw [57] (fun ii wr=>∃ (k:Nat) (v:Value),k<=NL.length/\ii=.int .i64 k/\Hid (XAt W s.name v k (((NL.take k).map (colOf C[K])).map (.int .i64)) wr)) (fun ii _=>NL.length - (intOf ii).toNat)
 case atStart=>exact ⟨0,_,Nat.zero_le _,rfl,XA0.out⟩
 case round =>
  obtain ⟨k,v,hk,rfl,XR⟩:=hrel
  have XRS:=hid XR.out.2.2.size
  by_cases hlt:k<NL.length
  · obtain ⟨bb,oo,rfl,_,hbb⟩:=HNAM.out.row.2.2.2.addr (by intro e;rw [e] at hlt;cases hlt)
    have cn:=((B2.out.trans (XR.out.2.2.mono B2.out.size)).cell (p:=⟨bb,oo+k,none⟩) hbb).trans (strF_at HNAM.out.row.2.2.2 k hlt)
    have HTK:=hid (show (((NL.take (k+1)).map (colOf C[K])).map (Value.int .i64))=(((NL.take k).map (colOf C[K])).map (Value.int .i64)) ++ [.int .i64 (colOf C[K] NL[k])] by
     rw [List.take_succ_eq_append_getElem hlt,List.map_append,List.map_append];rfl)
    obtain ⟨nm,hnm⟩:∃ nm,nm=NL[k]:=⟨_,rfl⟩
    rw [<- hnm] at cn HTK
    clear hnm
    go_upto_region 11 with (fail)
    clear cn q2 q4x
    apply wp_region_growt 8 [61,62,63,64,65,66,67,68]
     [fun _ u _=>u=.pointer (some ⟨W.heap.size,1,none⟩),
      fun _ u _=>u=v,
      fun _ u _=>u=.pointer (some ⟨g,K * 4,none⟩),
      fun _ u _=>u=.pointer (some ⟨g,K * 4,none⟩),
      fun _ u _=>u=.agg #[.int .i64 C[K].id,.string C[K].name,.slice ac C[K].cols.length cc,.slice ai C[K].idx.length ci],
      fun _ u _=>u=.string nm,
      fun _ u _=>u=.int .i64 (colOf C[K] nm),
      fun _ u w'=>NewInt (colOf C[K] nm) u w']
     (Below wr.heap.size wr)
    case hF =>
     intro v
     simp only [setAll,List.foldl_cons,List.foldl_nil,Act.put,List.setIfInBounds_toArray,List.set_cons_succ,List.set_cons_zero]
     exact rfl
    case hm=>kernel_rfl
    case hB=>kernel_rfl
    case hsz=>kernel_rfl
    case hC=>exact fun w1 w2 h b=>h.trans (b.mono h.size)
    case hw=>exact Below.drew b0R
    case hS =>
     intro D hD v u
     simp only [List.mem_cons,List.not_mem_nil,or_false] at hD
     rcases hD with rfl|rfl|rfl|rfl|rfl|rfl|rfl|rfl
     · exact fun w1 w2 h _=>h
     · exact fun w1 w2 h _=>h
     · exact fun w1 w2 h _=>h
     · exact fun w1 w2 h _=>h
     · exact fun w1 w2 h _=>h
     · exact fun w1 w2 h _=>h
     · exact fun w1 w2 h _=>h
     · exact fun w1 w2 h hb=>h.below hb
    case hob =>
     simp only [List.take_succ_cons,List.take_zero]
     apply growt_cons
     · intro v1 w1 h1 hd
       clear hd
       clear h1
       go_wp2_with fail
       first|exact Below.refl _ _|exact ⟨Below.refl _ _,rfl⟩|exact ⟨rfl,Below.refl _ _⟩
     apply growt_cons
     · intro v1 w1 h1 hd
       have g61:v1 61=.pointer (some ⟨W.heap.size,1,none⟩):=hd 0 _ _ _ rfl rfl rfl rfl
       clear hd
       rw [g61]
       have cx:=jC ((h1.block _ (jB XR.out.1)).trans XR.out.1) 1
       simp only [gT,gZ,gS] at cx
       clear g61 h1
       go_wp2_with fail
       first|exact Below.refl _ _|exact ⟨Below.refl _ _,rfl⟩|exact ⟨rfl,Below.refl _ _⟩
     apply growt_cons
     · intro v1 w1 h1 hd
       clear hd
       clear h1
       go_wp2_with fail
       first|exact Below.refl _ _|exact ⟨Below.refl _ _,rfl⟩|exact ⟨rfl,Below.refl _ _⟩
     apply growt_cons
     · intro v1 w1 h1 hd
       have g63:v1 63=.pointer (some ⟨g,K * 4,none⟩):=hd 2 _ _ _ rfl rfl rfl rfl
       clear hd
       rw [g63]
       clear g63 h1
       go_wp2_with fail
       first|exact Below.refl _ _|exact ⟨Below.refl _ _,rfl⟩|exact ⟨rfl,Below.refl _ _⟩
     apply growt_cons
     · intro v1 w1 h1 hd
       have g64:v1 64=.pointer (some ⟨g,K * 4,none⟩):=hd 3 _ _ _ rfl rfl rfl rfl
       clear hd
       rw [g64]
       have t0:=((XR.out.2.2.trans (h1.mono XRS.out)).cell (p:=⟨g,K * 4,none⟩) HGL.out).trans HT4.out.1
       have t1:=((XR.out.2.2.trans (h1.mono XRS.out)).cell (p:=⟨g,K * 4+1,none⟩) HGL.out).trans HT4.out.2.1
       have t2:=((XR.out.2.2.trans (h1.mono XRS.out)).cell (p:=⟨g,K * 4+2,none⟩) HGL.out).trans HT4.out.2.2.1
       have t3:=((XR.out.2.2.trans (h1.mono XRS.out)).cell (p:=⟨g,K * 4+3,none⟩) HGL.out).trans HT4.out.2.2.2
       clear g64 h1
       go_wp2_with fail
       first|exact Below.refl _ _|exact ⟨Below.refl _ _,rfl⟩|exact ⟨rfl,Below.refl _ _⟩
     apply growt_cons
     · intro v1 w1 h1 hd
       clear hd
       clear h1
       go_wp2_with fail
       first|exact Below.refl _ _|exact ⟨Below.refl _ _,rfl⟩|exact ⟨rfl,Below.refl _ _⟩
     apply growt_cons
     · intro v1 w1 h1 hd
       have g65:v1 65=.agg #[.int .i64 C[K].id,.string C[K].name,.slice ac C[K].cols.length cc,.slice ai C[K].idx.length ci]:=hd 4 _ _ _ rfl rfl rfl rfl
       have g66:v1 66=.string nm:=hd 5 _ _ _ rfl rfl rfl rfl
       clear hd
       rw [g65,g66]
       have con:=pcol_any (HTV.out.below (XR.out.2.2.trans (h1.mono XRS.out))) HCL.out nm
       obtain ⟨z,hz⟩:∃ z,colOf C[K] nm=z:=⟨_,rfl⟩
       rw [hz] at con ⊢
       clear g65 g66 h1 hz
       go_wp2_with fail
       refine con.mono ?_
       rintro e w2 ⟨rfl,b2⟩
       have B2:=hid b2
       clear con b2
       go_wp2_with fail
       first|exact B2.out|exact ⟨B2.out,rfl⟩|exact ⟨rfl,B2.out⟩
     apply growt_cons
     · intro v1 w1 h1 hd
       have g67:v1 67=.int .i64 (colOf C[K] nm):=hd 6 _ _ _ rfl rfl rfl rfl
       clear hd
       rw [g67]
       obtain ⟨z,hz⟩:∃ z,colOf C[K] nm=z:=⟨_,rfl⟩
       rw [hz]
       clear g67 h1 hz
       go_wp2_with fail
       have hb3:Below w1.heap.size w1 (w1.alloc (.cells #[.int .i64 z] 3)):=(b0R).alloc (jR _) _
       first|exact ⟨hb3,w1.heap.size,rfl,heap_alloc_new _ _⟩|exact ⟨⟨w1.heap.size,rfl,heap_alloc_new _ _⟩,hb3⟩
     exact growt_nil
    case hend =>
     intro v1 w7 h1 hd
     have g62:v1 62=v:=hd 1 _ _ _ rfl rfl rfl
     obtain ⟨gn,g68,hgn⟩:NewInt (colOf C[K] nm) (v1 68) w7:=hd 7 _ _ _ rfl rfl rfl
     clear hd
     rw [g62,g68]
     have X7:=hid (XR.out.below h1)
     have hs7:=X7.out.2.2.size
     have HGN:=hid hgn
     have hsz1:W.heap.size+1<=w7.heap.size:=jB X7.out.1
     clear h1 g62 g68 hgn
     generalize v1 61=y1,v1 63=y2,v1 64=y3,v1 65=y4,v1 66=y5,v1 67=y6
     obtain ⟨xs,hxs⟩:∃ xs,xs=(((NL.take k).map (colOf C[K])).map (Value.int .i64)):=⟨_,rfl⟩
     rw [<- hxs] at X7 HTK
     obtain ⟨zc,hzc⟩:∃ zc,zc=colOf C[K] nm:=⟨_,rfl⟩
     rw [<- hzc] at HGN HTK
     clear hxs hzc
     simp only [List.drop_succ_cons,List.drop_zero]
     refine wpList_append_own_at _ rfl _ _ 22 rfl (W.heap.size+1) 3 i1 _ 1 8 Tryz.underlying22 hi1 hz01 hz11 hz21 rfl (by decide) v k xs rfl X7.out.2.1 ⟨gn,0,none⟩ 1 1 [.int .i64 zc] rfl rfl (fun j u hj=>by rw [addr_add,jC HGN.out];simpa using hj) (fun u hu=>by rw [List.mem_singleton.1 hu];rfl) (by unfold maxLen;omega) (by omega) (by omega) ?_
     intro v' w8 o1 g1 hx1 at1
     clear hx1 at1
     obtain ⟨va,vc,hv',_⟩:=owns_shape' o1
     subst hv'
     have hb8:=(g1.block _ (jB X7.out.1) (row_not X7.out.1 X7.out.2.1 (by decide))).trans X7.out.1
     have N8:=hid (show _/\_/\_ from ⟨o1,hb8,X7.out.2.2.grown g1 hs7 (fun j hj=>by have:=(X7.out.2.1.lt j hj).1;omega)⟩)
     have k8:=jC hb8 1
     have f8:=free_of hb8 1
     simp only [gT,gZ,gS] at k8
     clear o1 g1 hb8
     go_wp2_with fail
     go_roundw
     case rel =>
      refine ⟨k+1,.slice va (k+1) vc,by omega,by go_num,?_⟩
      rw [HTK.out]
      exact ⟨(heap_setCell_same _ _ _ _ _ _ N8.out.2.1).trans rfl,owns_set N8.out.1 (by simp),N8.out.2.2.setCell (p:=⟨W.heap.size,1,none⟩) (jR _) _⟩
     case measure=>simp [intOf];omega
  · have hkn:k=NL.length:=by omega
    subst hkn
    have XE:=hid (show XAt W s.name v NL.length ((NL.map (colOf C[K])).map (.int .i64)) wr from by have:=XR.out;rwa [List.take_length] at this)
    clear XR XRS
    obtain ⟨xa,xc,rfl,_⟩:=owns_shape' XE.out.2.1
    have HIC:=hid (show ixCols C[K] s=NL.map (colOf C[K]) by unfold ixCols;rw [HNL.out])
    go_upto_region 14 with (fail)
    generalize hY:World.alloc _ _=V
    have hbV:Below wr.heap.size wr V:=by rw [<- hY];exact (b0R).alloc (jR _) _
    have hsV:V.heap[wr.heap.size]? = some (.cells #[.func (.func 169) #[] #[.pointer (some ⟨w.heap.size,0,none⟩)]] 200 (0,0)):=by rw [<- hY];exact heap_alloc_new _ _
    have SMV:=hid hsV
    have XV:=hid (XE.out.below hbV)
    have x1:=jC XV.out.1 1
    simp only [gT,gZ,gS] at x1
    clear hY hbV hsV XE q2 q4x XA0
    have hcl:(NL.map (colOf C[K])).length=NL.length:=List.length_map _
    have con:=neg_any (c:=xc) (a:=xa) (ints_owned (L:=NL.map (colOf C[K])) (v:=.slice xa NL.length xc) (by rw [hcl];exact XV.out.2.1) (by rw [hcl];omega) |> fun h=>by rw [hcl];exact h)
    rw [hcl] at con
    go_wp2_with fail
    refine con.mono ?_
    rintro e w3 ⟨rfl,rfl⟩
    clear con
    have BV:=hid (B2.out.trans (XV.out.2.2.mono B2.out.size))
    cases h5:anyNeg (NL.map (colOf C[K]))
    case true =>
     have HX:=hid (HERR.out 50 (by rw [HGO.out,if_neg (by omega),HIC.out,if_pos h5]) (by decide) _ BV.out)
     go_wp2_with fail
     exact HX.out
    have SZ:=hid (show ∀ x ∈ NL,x.size<=maxLen from fun x hx=>by
     have h6:=(List.any_eq_false.1 h5) (colOf C[K] x) (List.mem_map.2 ⟨x,hx,rfl⟩)
     have h7:=colOf_lt C[K] x
     obtain ⟨i,hi,_,h8,_⟩:=idxOf_spec (fun c=>sEq c.1 x) C[K].cols (by simp at h6;unfold colOf at h6 h7;omega)
     rw [<- (sEq_iff _ _).1 h8]
     exact HNM.out _ (List.getElem_mem hKC) _ (List.getElem_mem hi))
    have HQV:=cy XV.out.2.2 HQ2
    have con:=twice_any (HNAM.out.below BV.out) SZ.out hnl2
    have q4:=jC HQV.out 4
    simp only [gT,gZ,gS] at q4
    rw [<- HNL.out] at q4
    clear x1 SZ
    go_wp2_with fail
    refine con.mono ?_
    rintro e w4 ⟨rfl,b4⟩
    have B4:=hid (BV.out.trans (b4.mono BV.out.size))
    have W4:=hid (XV.out.2.2.trans (b4.mono XV.out.2.2.size))
    have X4:=hid (XV.out.below b4)
    have S4:=cy b4 SMV
    clear con b4 q4 HQV SMV XV
    cases h6:twiceB NL
    case true =>
     have HX:=hid (HERR.out 51 (by rw [HGO.out,if_neg (by omega),HIC.out,h5,<- HNL.out,h6];rfl) (by decide) _ B4.out)
     go_wp2_with fail
     exact HX.out
    have HQ4:=cy W4.out HQ2
    have HB4:=cy W4.out HCAT
    have con:=dup_any (q:=w.heap.size) (sm:=wr.heap.size) (nm:=s.name) (c:=cg) (a:=some ⟨g,0,none⟩) (C:=C) (w:=w4) (p:=fun k=>B<=k) (by
     obtain ⟨a',c',e1,e2⟩:=(HC.out.below B4.out).sl HSM.out
     rw [HB4.out] at e1
     simp only [Option.some.injEq,Obj.cells.injEq,and_true,Array.mk.injEq,List.cons.injEq] at e1
     rw [e1]
     exact e2) (by have:=jC HQ4.out 2;simpa using this) (by have:=jC S4.out 0;simpa using this)
    have kb:=jC HB4.out 0
    have ks:=jC S4.out 0
    simp only [gT,gZ,gS] at kb ks
    obtain ⟨f,hf⟩:∃ f,(C.any fun t=>t.idx.any fun i=>sEq i.name s.name)=f:=⟨_,rfl⟩
    rw [hf] at con HGO
    clear hf
    go_wp2_with fail
    refine con.mono ?_
    rintro e w5 ⟨rfl,b5⟩
    have B5:=hid (B4.out.trans (b5.mono B4.out.size))
    have W5:=hid (W4.out.trans (b5.mono W4.out.size))
    have X5:=hid (X4.out.below b5)
    clear con b5 kb ks HQ4 HB4 S4 X4 W4 B4
    cases f
    case true =>
     have HX:=hid (HERR.out 51 (by rw [HGO.out,if_neg (by omega),HIC.out,h5,<- HNL.out,h6];rfl) (by decide) _ B5.out)
     go_wp2_with fail
     exact HX.out
    have HT3:=hid ((W5.out.cell (p:=⟨g,K * 4+3,none⟩) HGL.out).trans HT4.out.2.2.2)
    have t3:=HT3.out
    by_cases h8:C[K].idx.length=4
    · have HX:=hid (HERR.out 2 (by rw [HGO.out,if_neg (by omega),HIC.out,h5,<- HNL.out,h6,if_pos h8];rfl) (by decide) _ B5.out)
      have d8:decide (C[K].idx.length=4)=true:=decide_eq_true h8
      go_wp2_with fail
      exact HX.out
    have HOK:=hid (show indexE C s=0 by rw [HGO.out,if_neg (by omega),HIC.out,h5,<- HNL.out,h6,if_neg h8];rfl)
    have d8:decide (C[K].idx.length=4)=false:=decide_eq_false h8
    go_upto_region 20 with (fail)
    clear t3 d8 HERR HGO
    obtain ⟨V5,hV5⟩:∃ V5,V5=w5:=⟨_,rfl⟩
    rw [<- hV5] at B5 W5 X5 HT3 ⊢
    clear hV5
    have XW:=hid X5.out.1
    have HGW:=hid (jL HGL.out W5.out.size)
    apply wp_region_growt 6 [96,97,98,99,100,101]
     [fun _ u _=>u=.pointer (some ⟨g,K * 4,none⟩),
      fun _ u _=>u=.pointer (some ⟨g,K * 4,none⟩),
      fun _ u _=>u=.pointer (some ⟨g,K * 4+3,none⟩),
      fun _ u _=>u=.slice ai C[K].idx.length ci,
      fun _ u _=>u=.agg #[.string s.name,.slice xa NL.length xc,.int .i64 0],
      fun _ u w'=>NewIx s.name (.slice xa NL.length xc) u w']
     (Below V5.heap.size V5)
    case hF =>
     intro v
     simp only [setAll,List.foldl_cons,List.foldl_nil,Act.put,List.setIfInBounds_toArray,List.set_cons_succ,List.set_cons_zero]
     exact rfl
    case hm=>kernel_rfl
    case hB=>kernel_rfl
    case hsz=>kernel_rfl
    case hC=>exact fun w1 w2 h b=>h.trans (b.mono h.size)
    case hw=>exact Below.drew b0R
    case hS =>
     intro D hD v u
     simp only [List.mem_cons,List.not_mem_nil,or_false] at hD
     rcases hD with rfl|rfl|rfl|rfl|rfl|rfl
     · exact fun w1 w2 h _=>h
     · exact fun w1 w2 h _=>h
     · exact fun w1 w2 h _=>h
     · exact fun w1 w2 h _=>h
     · exact fun w1 w2 h _=>h
     · exact fun w1 w2 h hb=>h.below hb
    case hob =>
     simp only [List.take_succ_cons,List.take_zero]
     apply growt_cons
     · intro v1 w1 h1 hd
       clear hd
       clear h1
       go_wp2_with fail
       first|exact Below.refl _ _|exact ⟨Below.refl _ _,rfl⟩|exact ⟨rfl,Below.refl _ _⟩
     apply growt_cons
     · intro v1 w1 h1 hd
       have g96:v1 96=.pointer (some ⟨g,K * 4,none⟩):=hd 0 _ _ _ rfl rfl rfl rfl
       clear hd
       rw [g96]
       clear g96 h1
       go_wp2_with fail
       first|exact Below.refl _ _|exact ⟨Below.refl _ _,rfl⟩|exact ⟨rfl,Below.refl _ _⟩
     apply growt_cons
     · intro v1 w1 h1 hd
       have g97:v1 97=.pointer (some ⟨g,K * 4,none⟩):=hd 1 _ _ _ rfl rfl rfl rfl
       clear hd
       rw [g97]
       clear g97 h1
       go_wp2_with fail
       first|exact Below.refl _ _|exact ⟨Below.refl _ _,rfl⟩|exact ⟨rfl,Below.refl _ _⟩
     apply growt_cons
     · intro v1 w1 h1 hd
       have g98:v1 98=.pointer (some ⟨g,K * 4+3,none⟩):=hd 2 _ _ _ rfl rfl rfl rfl
       clear hd
       rw [g98]
       have t3:=(h1.cell (p:=⟨g,K * 4+3,none⟩) HGW.out).trans HT3.out
       clear g98 h1
       go_wp2_with fail
       first|exact Below.refl _ _|exact ⟨Below.refl _ _,rfl⟩|exact ⟨rfl,Below.refl _ _⟩
     apply growt_cons
     · intro v1 w1 h1 hd
       clear hd
       have hx:=(h1.block _ (jB XW.out)).trans XW.out
       have x0:=jC hx 0
       have x1:=jC hx 1
       have x2:=jC hx 2
       simp only [gT,gZ,gS] at x0 x1 x2
       clear hx
       clear h1
       go_wp2_with fail
       first|exact Below.refl _ _|exact ⟨Below.refl _ _,rfl⟩|exact ⟨rfl,Below.refl _ _⟩
     apply growt_cons
     · intro v1 w1 h1 hd
       have g100:v1 100=.agg #[.string s.name,.slice xa NL.length xc,.int .i64 0]:=hd 4 _ _ _ rfl rfl rfl rfl
       clear hd
       rw [g100]
       clear g100 h1
       go_wp2_with fail
       have hb3:Below w1.heap.size w1 (w1.alloc (.cells #[.string s.name,.slice xa NL.length xc,.int .i64 0] 114)):=(b0R).alloc (jR _) _
       first|exact ⟨hb3,w1.heap.size,rfl,heap_alloc_new _ _⟩|exact ⟨⟨w1.heap.size,rfl,heap_alloc_new _ _⟩,hb3⟩
     exact growt_nil
    case hend =>
     intro v1 w7 h1 hd
     have g99:v1 99=.slice ai C[K].idx.length ci:=hd 3 _ _ _ rfl rfl rfl
     obtain ⟨gn,g101,hgn⟩:NewIx s.name (.slice xa NL.length xc) (v1 101) w7:=hd 5 _ _ _ rfl rfl rfl
     clear hd
     rw [g99,g101]
     have H17:=hid (W5.out.trans (h1.mono W5.out.size))
     have B7:=hid (B5.out.trans (h1.mono B5.out.size))
     have X7:=hid (X5.out.below h1)
     have T7:=hid ((h1.cell (p:=⟨g,K * 4+3,none⟩) HGW.out).trans HT3.out)
     have HGN:=hid hgn
     clear h1 g99 g101 hgn
     generalize v1 96=y1,v1 97=y2,v1 98=y3,v1 100=y4
     obtain ⟨hl,hown,hpar,hap,hvk⟩:=HREST.out
     have hkv:K<vs.length:=by omega
     have hix:=(hpar K hKC hkv).2
     rw [hvk hkv] at hix
     obtain ⟨us,hul,hu,hup⟩:=hix
     have HCAT7:=cy H17.out HCAT
     have OW7:=hid (owns_below hown H17.out)
     have PA7:=hid (hpar.below H17.out)
     have HU7:=hid (owns_below hu H17.out)
     have UP7:=hid (hup.below H17.out)
     have AP:=hid hap
     have HL:=hid (show _/\_ from ⟨hl,hul⟩)
     have HVK:=hid (hvk hkv)
     have hs7:W.heap.size<=w7.heap.size:=H17.out.size
     have hsw:w.heap.size<=W.heap.size:=B2.out.size
     have hi4:C[K].idx.length<=1000000:=(HSM.out.2 _ (List.getElem_mem hKC)).2.1
     clear hl hown hpar hap hvk hul hu hup
     simp only [List.drop_succ_cons,List.drop_zero]
     refine wpList_append_own_at _ rfl _ _ 73 rfl B 114 i0 _ 3 48 Tryz.underlying73 hi hz0 hz1 hz2 rfl (by decide) (.slice ai C[K].idx.length ci) C[K].idx.length _ rfl HU7.out ⟨gn,0,none⟩ 1 1 [.string s.name,.slice xa NL.length xc,.int .i64 0] rfl rfl (fun j u hj=>by rw [addr_add,jC HGN.out];simpa using hj) (fun u hu=>by simp only [List.mem_cons,List.not_mem_nil,or_false] at hu;rcases hu with rfl|rfl|rfl <;> rfl) (by unfold maxLen;omega) (by omega) (by omega) ?_
     intro v' w8 o1 g1 hx1 at1
     clear hx1
     obtain ⟨va,vc,hv',_⟩:=owns_shape' o1
     subst hv'
     obtain ⟨cur,hgb⟩:∃ cur:Array Value,w7.heap[g]? = some (.cells cur 75 (0,0)):=by
      rcases OW7.out.2 with ⟨e,_⟩|⟨g',cap',cur,e,_,hg,_⟩
      · cases e
      · simp only [Value.slice.injEq,Option.some.injEq,Addr.mk.injEq] at e
        obtain ⟨⟨rfl,_⟩,_⟩:=e
        exact ⟨cur,hg⟩
     have hg8:=g1.block g (jB hgb) (row_not hgb HU7.out (by decide))
     have t8:=(World.cell?_of_block (a:=⟨g,K * 4+3,none⟩) hg8).trans T7.out
     have f8:=free_of (hg8.trans hgb) (K * 4+3)
     have N8:=hid (show _/\_/\_ from ⟨o1,g1,at1⟩)
     clear o1 g1 at1 hgb hg8
     go_wp2_with fail
     rw [HPST.out,HOK.out,if_pos rfl]
     have hx:=owns_base (base':=B) (owns_below X7.out.2.1 b0R) (show B<=W.heap.size+1 by omega)
     have e1:(NL.map (colOf C[K])).length=NL.length:=List.length_map _
     obtain ⟨r1,r2⟩:=catAt_ix (x:=⟨s.name,NL.map (colOf C[K]),0⟩) (xv:=.slice xa NL.length xc) (Nat.le_trans HC.out.1 (jR _)) HL.out.1 HCAT7.out OW7.out PA7.out AP.out.1 AP.out.2 (fun k hk hx=>by
      rcases N8.out.2.2 with e|e
      · exact AP.out.2.ix K hkv k (by rw [HVK.out];exact e ▸ hk) hx
      · rw [e] at hk
        have h1:=HX0.out k hx
        simp only [Option.some.injEq] at hk
        omega) hKC hkv HL.out.2 (by rw [HVK.out];exact HU7.out) UP7.out (by rw [e1];exact hx) N8.out.1 (by rw [HVK.out];exact N8.out.2.1) (by rw [HVK.out];exact N8.out.2.2)
     have e2:indexT C s=C.modify K fun t=>{ t with idx:=t.idx ++ [⟨s.name,NL.map (colOf C[K]),0⟩] }:=by
      unfold indexT
      rw [HN.out,Int.toNat_natCast,modify_eq_set _ hKC,modify_eq_set _ hKC]
      unfold ixCols
      rw [HNL.out]
     rw [e2]
     exact ⟨rfl,((B7.out.mono hB).grown N8.out.2.1 (by omega) (fun k hk=>(HU7.out.lt k hk).1)).setCell (p:=⟨g,K * 4+3,none⟩) r2 _,fun k hk=>by
      have hkw:=HX0.out k hk
      have e1:k ≠ g:=fun e=>AP.out.2.tab k (by rw [e];rfl) hk
      rw [heap_setCell_other _ _ _ _ (by exact e1),N8.out.2.1.block k (by omega) (fun e=>AP.out.2.ix K hkv k (by rw [HVK.out];exact e.symm) hk),B7.out.block k hkw],r1⟩
end
section
open Go.RowKit
theorem re_named {C:List Tab} {s:Stmt} (h:namedB s.join=false):renameE C s=1:=by unfold renameE;simp [h]
theorem re_go {C:List Tab} {s:Stmt} (h:namedB s.join=true):renameE C s=if findT C s.table<0 then 50
 else if colOf (tabAt C (findT C s.table)) s.name<0 then 50
 else if 0<=colOf (tabAt C (findT C s.table)) s.join then 51 else 0:=by
 unfold renameE
 rw [h,if_neg (by simp)]
theorem rename_any {p X:Nat->Prop} {B b:Nat} {C:List Tab} {s:Stmt} {sv:Value} {z:Int} {w:World} (hC:CatAt B X b C w) (hX:∀ k,X k->k<w.heap.size) (hS:TabsSmall C) (hs:StmtV p w sv s) (hB:B<=w.heap.size) :
 Calls Tryz.prog 152 #[.pointer (some ⟨b,0,none⟩),sv,.int .i64 z] w fun e w'=>CatPost B X b w (renameE C s,if renameE C s=0 then renameT C s else C) e w':=by
 obtain ⟨a3,c3,a4,c4,a5,c5,a6,c6,a7,c7,a12,c12,rfl,_,_,_,_,_,_⟩:=hs
 have HC:=hid hC
 obtain ⟨a,c,hcb,hsl⟩:=hC.sl hS
 have HCB:=hid hcb
 have HSL:=hid hsl
 have HSM:=hid hS
 have HERR:=hid (fun (k:Int) (hk:renameE C s=k) (hk0:k ≠ 0) (w':World) (hb:Below w.heap.size w w')=>CatPost.err (r:=(renameE C s,if renameE C s=0 then renameT C s else C)) hC hX (by rw [if_neg (by rw [hk];exact hk0),hk]) hB hb)
 obtain ⟨Pst,hPst⟩:∃ Pst,Pst=CatPost B X b w (renameE C s,if renameE C s=0 then renameT C s else C):=⟨_,rfl⟩
 rw [<- hPst] at HERR ⊢
 have HPST:=hid hPst
 have hlC:C.length<=1000000:=hS.1
 have HX0:=hid hX
 clear hPst hC hS hcb hsl hX
 go_enter Tryz.func152,Tryz.ntmps152
 go_upto_region 1 with (fail)
 generalize hW:World.alloc _ _=W1
 have hA':allocs w [_]=W1:=hW
 have hq:W1.heap[w.heap.size]? = some (.cells #[.int .i64 s.kind,.string s.table,.string s.name,.slice a3 s.cols.length c3,.slice a4 s.names.length c4,.slice a5 s.row.length c5,.slice a6 s.sets.length c6,.slice a7 s.wher.length c7,.string s.join,.string s.left,.string s.right,.int .i64 s.agg,.slice a12 s.order.length c12,.int .i64 s.mode,.int .i64 s.n] 39 (0,0)):=allocs_get hA' 0 rfl
 have hb:=allocs_self hA'
 have B1:=hid hb
 have HQ:=hid hq
 have q8:=jC hq 8
 simp only [gT,gZ,gS] at q8
 clear hA' hW hq hb
 go_wp2_with fail
 refine (named_any s.join _).mono ?_
 rintro e w2' ⟨rfl,rfl⟩
 cases h1:namedB s.join
 case false =>
  have HX:=hid (HERR.out 1 (re_named h1) (by decide) _ B1.out)
  go_wp2_with fail
  exact HX.out
 have HGO:=hid (re_go (C:=C) h1)
 clear h1
 go_upto_region 3 with (fail)
 have q1:=jC HQ.out 1
 simp only [gT,gZ,gS] at q1
 have HB1:=cy B1.out HCB
 obtain ⟨n,hn⟩:∃ n,findT C s.table=n:=⟨_,rfl⟩
 have con:=cfind_any HB1.out (HSL.out.below B1.out) s.table
 rw [hn] at con
 rw [hn] at HGO
 have HBD:=hid (hn ▸ findT_lt C s.table)
 have HN:=hid hn
 clear hn
 go_wp2_with fail
 refine con.mono ?_
 rintro e w2 ⟨rfl,b2⟩
 have B2:=hid (B1.out.trans (b2.mono B1.out.size))
 have hq2:=(b2.block _ (jB HQ.out)).trans HQ.out
 have HQ2:=hid hq2
 clear con b2 hq2 q1 q8 HB1
 by_cases hn0:n<0
 · have HX:=hid (HERR.out 50 (by rw [HGO.out,if_pos hn0]) (by decide) _ B2.out)
   go_wp2_with fail
   exact HX.out
 obtain ⟨K,rfl⟩:∃ K:Nat,n=K:=⟨n.toNat,by omega⟩
 have hKC:K<C.length:=by have:=HBD.out.2;omega
 have hta:tabAt C (K:Int)=C[K]:=by
  unfold tabAt
  rw [Int.toNat_natCast,List.getD_eq_getElem?_getD,List.getElem?_eq_getElem hKC];rfl
 rw [hta] at HGO
 obtain ⟨g,cg,vs,ac,cc,ai,ci,hl,hcat,hown,hpar,hap,hgl,hvk,ht4,htv⟩:=(HC.out.below B2.out).tab HSM.out hKC
 have HCAT:=hid hcat
 have HT4:=hid ht4
 have HTV:=hid htv
 have HGL:=hid hgl
 have HREST:=hid (show _/\_/\_/\_/\_ from ⟨hl,hown,hpar,hap,hvk⟩)
 have HCL:=hid (HSM.out.2 _ (List.getElem_mem hKC)).1
 have cb:=jC hcat 0
 simp only [gT,gZ,gS] at cb
 clear hcat ht4 htv hgl hl hown hpar hap hvk hta HBD
 have hn1:¬ (K:Int)<0:=by omega
 go_upto_region 7 with (fail)
 obtain ⟨W,hWW⟩:∃ W,W=w2:=⟨_,rfl⟩
 rw [<- hWW] at HQ2 B2 HCAT HT4 HTV HGL HREST cb ⊢
 clear hWW cb
 obtain ⟨z1,hz1⟩:∃ z1,colOf C[K] s.name=z1:=⟨_,rfl⟩
 have HZ1:=hid hz1
 have HZB:=hid (hz1 ▸ colOf_lt C[K] s.name)
 clear hz1
 refine wp_region_class (Below W.heap.size W) (by kernel_rfl) (by kernel_rfl) (Below.drew b0R) (fun ne=>?_)
 have t0:=fun x:Wld (Below W.heap.size W)=>(x.good.cell (p:=⟨g,K * 4,none⟩) HGL.out).trans HT4.out.1
 have t1:=fun x:Wld (Below W.heap.size W)=>(x.good.cell (p:=⟨g,K * 4+1,none⟩) HGL.out).trans HT4.out.2.1
 have t2:=fun x:Wld (Below W.heap.size W)=>(x.good.cell (p:=⟨g,K * 4+2,none⟩) HGL.out).trans HT4.out.2.2.1
 have t3:=fun x:Wld (Below W.heap.size W)=>(x.good.cell (p:=⟨g,K * 4+3,none⟩) HGL.out).trans HT4.out.2.2.2
 have q2:=fun x:Wld (Below W.heap.size W)=>jC ((x.good.block _ (jB HQ2.out)).trans HQ2.out) 2
 simp only [gT,gZ,gS] at q2
 repeat (go_big_quiet_step ((go_at_call 67;(with_reducible refine Calls.mono (pcol_any (HTV.out.below (Wld.good _)) HCL.out s.name) ?_);rintro e w3 ⟨rfl,b3⟩;exact ⟨congrArg (fun z=>Ending.returned (Value.int .i64 z)) HZ1.out,class_below _ b3 (jR _)⟩)))
 refine wpQuiet_nil ?_
 intro w3 b3
 have W3:=hid b3
 clear b3 t0 t1 t2 t3 q2 ne
 have B3:=hid (B2.out.trans (W3.out.mono B2.out.size))
 by_cases hz0:z1<0
 · have HX:=hid (HERR.out 50 (by rw [HGO.out,if_neg (by omega),HZ1.out,if_pos hz0]) (by decide) _ B3.out)
   have d0:decide (z1<0)=true:=decide_eq_true hz0
   go_wp2_with fail
   exact HX.out
 have d0:decide (z1<0)=false:=decide_eq_false hz0
 obtain ⟨N,rfl⟩:∃ N:Nat,z1=N:=⟨z1.toNat,by omega⟩
 go_upto_region 10 with (fail)
 obtain ⟨z2,hz2⟩:∃ z2,colOf C[K] s.join=z2:=⟨_,rfl⟩
 have HZ2:=hid hz2
 clear hz2
 refine wp_region_class (Below w3.heap.size w3) (by kernel_rfl) (by kernel_rfl) (Below.drew b0R) (fun ne=>?_)
 have wb:=fun x:Wld (Below w3.heap.size w3)=>W3.out.trans (x.good.mono W3.out.size)
 have WB:=hid wb
 have t0:=fun x:Wld (Below w3.heap.size w3)=>((WB.out x).cell (p:=⟨g,K * 4,none⟩) HGL.out).trans HT4.out.1
 have t1:=fun x:Wld (Below w3.heap.size w3)=>((WB.out x).cell (p:=⟨g,K * 4+1,none⟩) HGL.out).trans HT4.out.2.1
 have t2:=fun x:Wld (Below w3.heap.size w3)=>((WB.out x).cell (p:=⟨g,K * 4+2,none⟩) HGL.out).trans HT4.out.2.2.1
 have t3:=fun x:Wld (Below w3.heap.size w3)=>((WB.out x).cell (p:=⟨g,K * 4+3,none⟩) HGL.out).trans HT4.out.2.2.2
 have q8:=fun x:Wld (Below w3.heap.size w3)=>jC (((WB.out x).block _ (jB HQ2.out)).trans HQ2.out) 8
 simp only [gT,gZ,gS] at q8
 clear wb
 repeat (go_big_quiet_step ((go_at_call 67;(with_reducible refine Calls.mono (pcol_any (HTV.out.below (WB.out _)) HCL.out s.join) ?_);rintro e w3 ⟨rfl,b3⟩;exact ⟨congrArg (fun z=>Ending.returned (Value.int .i64 z)) HZ2.out,class_below _ b3 (jR _)⟩)))
 refine wpQuiet_nil ?_
 intro w4 b4
 have W4:=hid (W3.out.trans (b4.mono W3.out.size))
 clear b4 t0 t1 t2 t3 q8 ne WB
 have B4:=hid (B2.out.trans (W4.out.mono B2.out.size))
 by_cases hz3:0<=z2
 · have HX:=hid (HERR.out 51 (by rw [HGO.out,if_neg (by omega),HZ1.out,if_neg (by omega),HZ2.out,if_pos hz3]) (by decide) _ B4.out)
   have d3:decide (0<=z2)=true:=decide_eq_true hz3
   go_wp2_with fail
   exact HX.out
 have d3:decide (0<=z2)=false:=decide_eq_false hz3
 have HOK:=hid (show renameE C s=0 by rw [HGO.out,if_neg (by omega),HZ1.out,if_neg (by omega),HZ2.out,if_neg hz3])
 go_upto_region 12 with (fail)
 clear d0 d3 HERR HGO
 obtain ⟨V,hV⟩:∃ V,V=w4:=⟨_,rfl⟩
 rw [<- hV] at W4 B4 ⊢
 clear hV
 obtain ⟨hl,hown,hpar,hap,hvk⟩:=HREST.out
 have hkv:K<vs.length:=by omega
 have hcol:=(hpar K hKC hkv).1
 rw [hvk hkv] at hcol
 have hNC:N<C[K].cols.length:=by have:=HZB.out.2;omega
 obtain ⟨gc,rfl,hgcb⟩:∃ gc,ac=some ⟨gc,0,none⟩/\gc<W.heap.size:=by
  rcases World.ownsRow.lt hcol with hlt
  rcases hcol.2 with ⟨_,e⟩|⟨gc,cap,cur,e,_,hg,_⟩
  · omega
  · simp only [Value.slice.injEq] at e
    exact ⟨gc,e.1,jB hg⟩
 have HGV:=hid (jL HGL.out W4.out.size)
 have HT2:=hid ((W4.out.cell (p:=⟨g,K * 4+2,none⟩) HGL.out).trans HT4.out.2.2.1)
 have HQV:=cy W4.out HQ2
 have CO:=hid hcol
 have HL:=hid hl
 have HO:=hid hown
 have HPA:=hid hpar
 have HAP:=hid hap
 have HVK:=hid (hvk hkv)
 clear hl hown hpar hap hvk hcol
 apply wp_region_growt 9 [43,44,45,46,47,48,49,50,51]
  [fun _ u _=>u=.pointer (some ⟨g,K * 4,none⟩),
   fun _ u _=>u=.pointer (some ⟨g,K * 4,none⟩),
   fun _ u _=>u=.pointer (some ⟨g,K * 4+2,none⟩),
   fun _ u _=>u=.slice (some ⟨gc,0,none⟩) C[K].cols.length cc,
   fun _ u _=>u=.int .i64 (N:Int),
   fun _ u _=>u=.pointer (some ⟨w.heap.size,8,none⟩),
   fun _ u _=>u=.string s.join,
   fun _ u _=>u=.pointer (some ⟨gc,N * 2,none⟩),
   fun _ u _=>u=.pointer (some ⟨gc,N * 2,none⟩)]
  (Below V.heap.size V)
 case hF =>
  intro v
  simp only [setAll,List.foldl_cons,List.foldl_nil,Act.put,List.setIfInBounds_toArray,List.set_cons_succ,List.set_cons_zero]
  exact rfl
 case hm=>kernel_rfl
 case hB=>kernel_rfl
 case hsz=>kernel_rfl
 case hC=>exact fun w1 w2 h b=>h.trans (b.mono h.size)
 case hw=>exact Below.drew b0R
 case hS =>
  intro D hD v u
  simp only [List.mem_cons,List.not_mem_nil,or_false] at hD
  rcases hD with rfl|rfl|rfl|rfl|rfl|rfl|rfl|rfl|rfl
  · exact fun w1 w2 h _=>h
  · exact fun w1 w2 h _=>h
  · exact fun w1 w2 h _=>h
  · exact fun w1 w2 h _=>h
  · exact fun w1 w2 h _=>h
  · exact fun w1 w2 h _=>h
  · exact fun w1 w2 h _=>h
  · exact fun w1 w2 h _=>h
  · exact fun w1 w2 h _=>h
 case hob =>
  simp only [List.take_succ_cons,List.take_zero]
  apply growt_cons
  · intro v w1 h1 hd
    clear hd
    clear h1
    go_wp2_with fail
    first|exact Below.refl _ _|exact ⟨Below.refl _ _,rfl⟩|exact ⟨rfl,Below.refl _ _⟩
  apply growt_cons
  · intro v w1 h1 hd
    have g43:v 43=.pointer (some ⟨g,K * 4,none⟩):=hd 0 _ _ _ rfl rfl rfl rfl
    clear hd
    rw [g43]
    clear g43 h1
    go_wp2_with fail
    first|exact Below.refl _ _|exact ⟨Below.refl _ _,rfl⟩|exact ⟨rfl,Below.refl _ _⟩
  apply growt_cons
  · intro v w1 h1 hd
    have g44:v 44=.pointer (some ⟨g,K * 4,none⟩):=hd 1 _ _ _ rfl rfl rfl rfl
    clear hd
    rw [g44]
    clear g44 h1
    go_wp2_with fail
    first|exact Below.refl _ _|exact ⟨Below.refl _ _,rfl⟩|exact ⟨rfl,Below.refl _ _⟩
  apply growt_cons
  · intro v w1 h1 hd
    have g45:v 45=.pointer (some ⟨g,K * 4+2,none⟩):=hd 2 _ _ _ rfl rfl rfl rfl
    clear hd
    rw [g45]
    have t2:=(h1.cell (p:=⟨g,K * 4+2,none⟩) HGV.out).trans HT2.out
    clear g45 h1
    go_wp2_with fail
    first|exact Below.refl _ _|exact ⟨Below.refl _ _,rfl⟩|exact ⟨rfl,Below.refl _ _⟩
  apply growt_cons
  · intro v w1 h1 hd
    clear hd
    clear h1
    go_wp2_with fail
    first|exact Below.refl _ _|exact ⟨Below.refl _ _,rfl⟩|exact ⟨rfl,Below.refl _ _⟩
  apply growt_cons
  · intro v w1 h1 hd
    clear hd
    clear h1
    go_wp2_with fail
    first|exact Below.refl _ _|exact ⟨Below.refl _ _,rfl⟩|exact ⟨rfl,Below.refl _ _⟩
  apply growt_cons
  · intro v w1 h1 hd
    have g48:v 48=.pointer (some ⟨w.heap.size,8,none⟩):=hd 5 _ _ _ rfl rfl rfl rfl
    clear hd
    rw [g48]
    have q8:=jC ((h1.block _ (jB HQV.out)).trans HQV.out) 8
    simp only [gT,gZ,gS] at q8
    clear g48 h1
    go_wp2_with fail
    first|exact Below.refl _ _|exact ⟨Below.refl _ _,rfl⟩|exact ⟨rfl,Below.refl _ _⟩
  apply growt_cons
  · intro v w1 h1 hd
    have g46:v 46=.slice (some ⟨gc,0,none⟩) C[K].cols.length cc:=hd 3 _ _ _ rfl rfl rfl rfl
    have g47:v 47=.int .i64 (N:Int):=hd 4 _ _ _ rfl rfl rfl rfl
    clear hd
    rw [g46,g47]
    clear g46 g47 h1
    go_wp2_with fail
    first|exact Below.refl _ _|exact ⟨Below.refl _ _,rfl⟩|exact ⟨rfl,Below.refl _ _⟩
  apply growt_cons
  · intro v w1 h1 hd
    have g50:v 50=.pointer (some ⟨gc,N * 2,none⟩):=hd 7 _ _ _ rfl rfl rfl rfl
    clear hd
    rw [g50]
    clear g50 h1
    go_wp2_with fail
    first|exact Below.refl _ _|exact ⟨Below.refl _ _,rfl⟩|exact ⟨rfl,Below.refl _ _⟩
  exact growt_nil
 case hend =>
  intro v w7 h1 hd
  have g49:v 49=.string s.join:=hd 6 _ _ _ rfl rfl rfl
  have g51:v 51=.pointer (some ⟨gc,N * 2,none⟩):=hd 8 _ _ _ rfl rfl rfl
  clear hd
  rw [g49,g51]
  have W7:=hid (W4.out.trans (h1.mono W4.out.size))
  have B7:=hid (B4.out.trans (h1.mono B4.out.size))
  have CO7:=hid (owns_below CO.out W7.out)
  clear h1 g49 g51
  generalize v 43=y1,v 44=y2,v 45=y3,v 46=y4,v 47=y5,v 48=y6,v 50=y7
  have k7:=World.ownsRow.cellAt CO7.out (N * 2) (by omega)
  have f7:=World.ownsRow.frozenAt CO7.out (N * 2)
  have hk:(C[K].cols.flatMap colEnc)[N * 2]? = some (.string C[K].cols[N].1):=by
   have:=flat_part (enc:=colEnc) (sz:=2) (fun _=>rfl) C[K].cols N hNC
   have h2:(List.take 2 (List.drop (N * 2) (C[K].cols.flatMap colEnc)))[0]? = some (.string C[K].cols[N].1):=by rw [this];rfl
   rw [List.getElem?_take_of_lt (by decide),List.getElem?_drop] at h2
   simpa using h2
  rw [hk] at k7
  clear hk
  simp only [List.drop_succ_cons,List.drop_zero]
  go_wp2_with fail
  rw [HPST.out,HOK.out,if_pos rfl]
  obtain ⟨r1,r2⟩:=catAt_col (n:=N) (nm:=s.join) HC.out.1 HL.out ((W7.out.block _ (jB HCAT.out)).trans HCAT.out) (owns_below HO.out W7.out) (HPA.out.below W7.out) HAP.out.1 HAP.out.2 hKC hkv (by rw [HVK.out]) hNC
  have e2:renameT C s=C.modify K fun t=>{ t with cols:=t.cols.modify N fun c=>(s.join,c.2) }:=by
   unfold renameT
   rw [HN.out,Int.toNat_natCast,modify_eq_set _ hKC,modify_eq_set _ hKC,HZ1.out,Int.toNat_natCast]
  rw [e2]
  exact ⟨rfl,(B7.out.mono hB).setCell (p:=⟨gc,N * 2,none⟩) r2 _,fun k hk=>by
   have hkw:=HX0.out k hk
   have e1:k ≠ gc:=fun e=>HAP.out.2.col K hkv k (by rw [HVK.out,e];rfl) hk
   rw [heap_setCell_other _ _ _ _ (by exact e1),B7.out.block k hkw],r1⟩
end
section
open Go.RowKit Go.Maps
theorem law_int:Keyed Tryz.prog 3:=int_keyed Tryz.underlying3
theorem zero_dfn (w:World):(zeroValue 129).run Tryz.prog w=.ok .nilFunc w:=by kernel_rfl
def doersF (b:Nat):List Value:=[.nilFunc,.func (.func 150) #[.pointer (some ⟨b,0,none⟩)] #[],.func (.func 151) #[.pointer (some ⟨b,0,none⟩)] #[],.func (.func 152) #[.pointer (some ⟨b,0,none⟩)] #[]]
def D3:DataW Unit:=(((DataW.map []).put (.int .i64 1) (.lit (.int .i64 1))).put (.int .i64 2) (.lit (.int .i64 2))).put (.int .i64 3) (.lit (.int .i64 3))
theorem doersF_at (b:Nat):fnElem (doersF b) .nilFunc=some (.lit (.int .i64 0),[])/\fnElem (doersF b) (.func (.func 150) #[.pointer (some ⟨b,0,none⟩)] #[])=some (.lit (.int .i64 1),[])/\fnElem (doersF b) (.func (.func 151) #[.pointer (some ⟨b,0,none⟩)] #[])=some (.lit (.int .i64 2),[])/\fnElem (doersF b) (.func (.func 152) #[.pointer (some ⟨b,0,none⟩)] #[])=some (.lit (.int .i64 3),[]):=by
 refine ⟨fnElem_get (i:=0) (by simp [doersF]) rfl (fun j hj=>by omega),fnElem_get (i:=1) (by simp [doersF]) rfl (fun j hj=>?_),fnElem_get (i:=2) (by simp [doersF]) rfl (fun j hj=>?_),fnElem_get (i:=3) (by simp [doersF]) rfl (fun j hj=>?_)⟩
 all_goals
  rcases (show j=0 \/ j=1 \/ j=2 by omega) with rfl|rfl|rfl <;> simp [doersF] at * <;> try omega
theorem doers_any (b:Nat) (w:World) :
 Calls Tryz.prog 126 #[.pointer (some ⟨b,0,none⟩)] w fun e w'=>∃ g,e=.returned (.map (some g))/\Below w.heap.size w w'/\w'.ownsMap Tryz.prog 3 (fnElem (doersF b)) g 3 D3:=by
 have hmm:=@run_makeMap Tryz.prog
 obtain ⟨_,f1,f2,f3⟩:=doersF_at b
 have hb0:Below w.heap.size w (w.alloc (.map #[] 0)):=(b0R).alloc (jR _) _
 go_enter Tryz.func126,Tryz.ntmps126
 go_wp2_with (first
  | (refine wpList_insert_own _ rfl _ _ _ 168 rfl 3 129 law_int Tryz.underlying168 (fnElem (doersF b)) w.heap.size 0 (.map []) rfl (World.ownsMap_made _ _ _ _) (by decide) (.int .i64 1) _ (.int .i64 1) rfl rfl (keyOf_int_mk Tryz.underlying3 (by decide)) _ [] f1 ?_;intro w1 o1 g1)
  | (refine wpList_insert_own _ rfl _ _ _ 168 rfl 3 129 law_int Tryz.underlying168 (fnElem (doersF b)) w.heap.size 1 _ rfl o1 (by decide) (.int .i64 2) _ (.int .i64 2) rfl rfl (keyOf_int_mk Tryz.underlying3 (by decide)) _ [] f2 ?_;intro w2 o2 g2)
  | (refine wpList_insert_own _ rfl _ _ _ 168 rfl 3 129 law_int Tryz.underlying168 (fnElem (doersF b)) w.heap.size 2 _ rfl o2 (by decide) (.int .i64 3) _ (.int .i64 3) rfl rfl (keyOf_int_mk Tryz.underlying3 (by decide)) _ [] f3 ?_;intro w3 o3 g3))
 go_ret
 exact ⟨w.heap.size,rfl,((hb0.grown g1 hb0.size (fun j hj=>by cases hj;exact jR _)).grown g2 (Nat.le_trans hb0.size g1.size) (fun j hj=>by cases hj;exact jR _)).grown g3 (Nat.le_trans hb0.size (Nat.le_trans g1.size g2.size)) (fun j hj=>by cases hj;exact jR _),o3⟩
def DoersAt (b:Nat) (u:Value) (w:World):Prop:=∃ g,u=.map (some g)/\w.ownsMap Tryz.prog 3 (fnElem (doersF b)) g 3 D3
theorem map_below {H:Type} {P:Program} {k:TypeId} {R:Value->Option (DataW H × List MemPlace)} {b n:Nat} {D:DataW H} {w w':World} (h:w.ownsMap P k R b n D) (hb:Below w.heap.size w w'):w'.ownsMap P k R b n D:=h.kept (grown_below' hb) (by simp)
theorem DoersAt.below {b:Nat} {u:Value} {w w':World} (h:DoersAt b u w) (hb:Below w.heap.size w w'):DoersAt b u w':=by
 obtain ⟨g,h1,h2⟩:=h
 exact ⟨g,h1,map_below h2 hb⟩
theorem d3_at (k:Int):(D3.atKey (.int .i64 k) (.lit (.int .i64 0))=.lit (.int .i64 (if k=1 then 1 else if k=2 then 2 else if k=3 then 3 else 0)))/\Maps.has D3 (.int .i64 k)=decide (k=1 \/ k=2 \/ k=3):=by
 have h0:IsMap (DataW.map []:DataW Unit):=isMap_empty
 have h1:=h0.put (.int .i64 1) (.lit (.int .i64 1))
 have h2:=h1.put (.int .i64 2) (.lit (.int .i64 2))
 unfold D3
 by_cases e3:k=3
 · subst e3
   rw [atKey_put_same h2 (show WideAt.IsKeyLit (.int .i64 3) from trivial),has_put_same h2 (show WideAt.IsKeyLit (.int .i64 3) from trivial)]
   exact ⟨rfl,rfl⟩
 · rw [atKey_put_other (int_lit_ne e3),has_put_other (int_lit_ne e3)]
   by_cases e2:k=2
   · subst e2
     rw [atKey_put_same h1 (show WideAt.IsKeyLit (.int .i64 2) from trivial),has_put_same h1 (show WideAt.IsKeyLit (.int .i64 2) from trivial)]
     exact ⟨rfl,rfl⟩
   · rw [atKey_put_other (int_lit_ne e2),has_put_other (int_lit_ne e2)]
     by_cases e1:k=1
     · subst e1
       rw [atKey_put_same h0 (show WideAt.IsKeyLit (.int .i64 1) from trivial),has_put_same h0 (show WideAt.IsKeyLit (.int .i64 1) from trivial)]
       exact ⟨rfl,rfl⟩
     · rw [atKey_put_other (int_lit_ne e1),has_put_other (int_lit_ne e1)]
       refine ⟨?_,?_⟩
       · rw [if_neg e1,if_neg e2,if_neg e3];rfl
       · simp [e1,e2,e3,Maps.has]
theorem doers_run (b:Nat) (k:Int) (hw:(Lit.int .i64 k).wf=true) (w:World) (g:Nat) (h:w.ownsMap Tryz.prog 3 (fnElem (doersF b)) g 3 D3) :
 (Instr.lookup 168 (.map (some g)) (.int .i64 k) true).run Tryz.prog w=.ok (.tuple #[(if k=1 then .func (.func 150) #[.pointer (some ⟨b,0,none⟩)] #[] else if k=2 then .func (.func 151) #[.pointer (some ⟨b,0,none⟩)] #[] else if k=3 then .func (.func 152) #[.pointer (some ⟨b,0,none⟩)] #[] else .nilFunc),.bool (decide (k=1 \/ k=2 \/ k=3))]) w:=by
 obtain ⟨v,ps,h1,h2⟩:=h.look_ok law_int Tryz.underlying168 (zero_dfn w) (doersF_at b).1 (keyOf_int_mk Tryz.underlying3 hw)
 obtain ⟨e1,e2⟩:=d3_at k
 rw [e2] at h1
 obtain ⟨i,hi,h3,h4⟩:=fnElem_inv h2
 rw [e1] at h4
 simp only [Prod.mk.injEq,DataW.lit.injEq,Lit.int.injEq,true_and] at h4
 have h5:=h4.1
 have h6:i<4:=by simpa [doersF] using hi
 have hv:v=(if k=1 then .func (.func 150) #[.pointer (some ⟨b,0,none⟩)] #[] else if k=2 then .func (.func 151) #[.pointer (some ⟨b,0,none⟩)] #[] else if k=3 then .func (.func 152) #[.pointer (some ⟨b,0,none⟩)] #[] else .nilFunc):=by
  clear h1 h2 h4 e1 e2
  by_cases c1:k=1
  · rw [if_pos c1] at h5 ⊢
    obtain rfl:i=1:=by omega
    exact h3
  · rw [if_neg c1] at h5 ⊢
    by_cases c2:k=2
    · rw [if_pos c2] at h5 ⊢
      obtain rfl:i=2:=by omega
      exact h3
    · rw [if_neg c2] at h5 ⊢
      by_cases c3:k=3
      · rw [if_pos c3] at h5 ⊢
        obtain rfl:i=3:=by omega
        exact h3
      · rw [if_neg c3] at h5 ⊢
        obtain rfl:i=0:=by omega
        exact h3
 rw [<- hv]
 exact h1
theorem catdo_core {p:Nat->Prop} {b:Nat} {kd:Int} {s:Stmt} {sv fv:Value} {hb:Bool} {w:World} (Post:Ending->World->Prop) (hs:StmtV p w sv s) (hk:s.kind=kd)
 (hrun:∀ w1 g,w1.ownsMap Tryz.prog 3 (fnElem (doersF b)) g 3 D3->(Instr.lookup 168 (.map (some g)) (.int .i64 kd) true).run Tryz.prog w1=.ok (.tuple #[fv,.bool hb]) w1)
 (hf:hb=true->∃ f,fv=.func (.func f) #[.pointer (some ⟨b,0,none⟩)] #[]/\(∀ args w,(callFunc f args).run Tryz.prog w=.ok (.enter f args) w)/\∀ w1,Below w.heap.size w w1->Calls Tryz.prog f #[.pointer (some ⟨b,0,none⟩),sv,.int .i64 0] w1 fun e w2=>Post e w2/\∃ z,e=.returned (.int .i64 z))
 (hn:hb=false->fv=.nilFunc/\∀ w1,Below w.heap.size w w1->Post (.returned (.int .i64 1)) w1) :
 Calls Tryz.prog 83 #[.pointer (some ⟨b,0,none⟩),sv,.int .i64 0] w Post:=by
 obtain ⟨a3,c3,a4,c4,a5,c5,a6,c6,a7,c7,a12,c12,rfl,_,_,_,_,_,_⟩:=hs
 have HRUN:=hid hrun
 have HFN:=hid hf
 have HNO:=hid hn
 rw [hk] at HFN ⊢
 clear hrun hf hn hk
 go_enter Tryz.func83,Tryz.ntmps83
 go_upto_region 3 with (fail)
 generalize hW:World.alloc _ _=W
 have hA':allocs w [_]=W:=hW
 have hq:W.heap[w.heap.size]? = some (.cells #[.int .i64 kd,.string s.table,.string s.name,.slice a3 s.cols.length c3,.slice a4 s.names.length c4,.slice a5 s.row.length c5,.slice a6 s.sets.length c6,.slice a7 s.wher.length c7,.string s.join,.string s.left,.string s.right,.int .i64 s.agg,.slice a12 s.order.length c12,.int .i64 s.mode,.int .i64 s.n] 39 (0,0)):=allocs_get hA' 0 rfl
 have B1:=hid (allocs_self hA')
 have HQ:=hid hq
 clear hA' hW hq
 apply wp_region_growt 9 [12,13,14,15,16,11,17,18,7]
  [fun _ u _=>u=.pointer (some ⟨b,0,none⟩),
   fun _ u w'=>DoersAt b u w',
   fun _ u _=>u=.pointer (some ⟨w.heap.size,0,none⟩),
   fun _ u _=>u=.int .i64 kd,
   fun _ u _=>u=.tuple #[fv,.bool hb],
   fun _ u _=>u=.tuple #[fv,.bool hb],
   fun _ u _=>u=fv,
   fun _ u _=>u=.bool hb,
   fun _ u _=>u=fv]
  (Below W.heap.size W)
 case hF =>
  intro v
  simp only [setAll,List.foldl_cons,List.foldl_nil,Act.put,List.setIfInBounds_toArray,List.set_cons_succ,List.set_cons_zero]
  exact rfl
 case hm=>kernel_rfl
 case hB=>kernel_rfl
 case hsz=>kernel_rfl
 case hC=>exact fun w1 w2 h b=>h.trans (b.mono h.size)
 case hw=>exact Below.drew b0R
 case hS =>
  intro D hD v u
  simp only [List.mem_cons,List.not_mem_nil,or_false] at hD
  rcases hD with rfl|rfl|rfl|rfl|rfl|rfl|rfl|rfl|rfl
  · exact fun w1 w2 h _=>h
  · exact fun w1 w2 h hb=>h.below hb
  · exact fun w1 w2 h _=>h
  · exact fun w1 w2 h _=>h
  · exact fun w1 w2 h _=>h
  · exact fun w1 w2 h _=>h
  · exact fun w1 w2 h _=>h
  · exact fun w1 w2 h _=>h
  · exact fun w1 w2 h _=>h
 case hob =>
  simp only [List.take_succ_cons,List.take_zero]
  apply growt_cons
  · intro v w1 h1 hd
    clear hd
    clear h1
    go_wp2_with fail
    first|exact Below.refl _ _|exact ⟨Below.refl _ _,rfl⟩|exact ⟨rfl,Below.refl _ _⟩
  apply growt_cons
  · intro v w1 h1 hd
    have g12:v 12=.pointer (some ⟨b,0,none⟩):=hd 0 _ _ _ rfl rfl rfl rfl
    clear hd
    rw [g12]
    have con:=doers_any b w1
    clear g12 h1
    go_wp2_with fail
    refine con.mono ?_
    rintro e w2 ⟨g,rfl,b2,o2⟩
    have B2:=hid b2
    have O2:=hid (show DoersAt b (.map (some g)) w2 from ⟨g,rfl,o2⟩)
    clear con b2 o2
    go_wp2_with fail
    first|exact ⟨B2.out,O2.out⟩|exact ⟨O2.out,B2.out⟩
  apply growt_cons
  · intro v w1 h1 hd
    clear hd
    clear h1
    go_wp2_with fail
    first|exact Below.refl _ _|exact ⟨Below.refl _ _,rfl⟩|exact ⟨rfl,Below.refl _ _⟩
  apply growt_cons
  · intro v w1 h1 hd
    have g14:v 14=.pointer (some ⟨w.heap.size,0,none⟩):=hd 2 _ _ _ rfl rfl rfl rfl
    clear hd
    rw [g14]
    have q0:=jC ((h1.block _ (jB HQ.out)).trans HQ.out) 0
    simp only [gT,gZ,gS] at q0
    clear g14 h1
    go_wp2_with fail
    first|exact Below.refl _ _|exact ⟨Below.refl _ _,rfl⟩|exact ⟨rfl,Below.refl _ _⟩
  apply growt_cons
  · intro v w1 h1 hd
    have g15:v 15=.int .i64 kd:=hd 3 _ _ _ rfl rfl rfl rfl
    obtain ⟨g,g13,o13⟩:DoersAt b (v 13) w1:=hd 1 _ _ _ rfl rfl rfl rfl
    clear hd
    rw [g13,g15]
    have hr:=HRUN.out w1 g o13
    clear g13 g15 o13 h1
    go_wp2_with fail
    first|exact Below.refl _ _|exact ⟨Below.refl _ _,rfl⟩|exact ⟨rfl,Below.refl _ _⟩
  apply growt_cons
  · intro v w1 h1 hd
    have g16:v 16=.tuple #[fv,.bool hb]:=hd 4 _ _ _ rfl rfl rfl rfl
    clear hd
    rw [g16]
    clear g16 h1
    go_wp2_with fail
    first|exact Below.refl _ _|exact ⟨Below.refl _ _,rfl⟩|exact ⟨rfl,Below.refl _ _⟩
  apply growt_cons
  · intro v w1 h1 hd
    have g11:v 11=.tuple #[fv,.bool hb]:=hd 5 _ _ _ rfl rfl rfl rfl
    clear hd
    rw [g11]
    clear g11 h1
    go_wp2_with fail
    first|exact Below.refl _ _|exact ⟨Below.refl _ _,rfl⟩|exact ⟨rfl,Below.refl _ _⟩
  apply growt_cons
  · intro v w1 h1 hd
    have g11:v 11=.tuple #[fv,.bool hb]:=hd 5 _ _ _ rfl rfl rfl rfl
    clear hd
    rw [g11]
    clear g11 h1
    go_wp2_with fail
    first|exact Below.refl _ _|exact ⟨Below.refl _ _,rfl⟩|exact ⟨rfl,Below.refl _ _⟩
  apply growt_cons
  · intro v w1 h1 hd
    have g17:v 17=fv:=hd 6 _ _ _ rfl rfl rfl rfl
    clear hd
    rw [g17]
    clear g17 h1
    go_wp2_with fail
    first|exact Below.refl _ _|exact ⟨Below.refl _ _,rfl⟩|exact ⟨rfl,Below.refl _ _⟩
  exact growt_nil
 case hend =>
  intro v w7 h1 hd
  have g18:v 18=.bool hb:=hd 7 _ _ _ rfl rfl rfl
  have g7:v 7=fv:=hd 8 _ _ _ rfl rfl rfl
  clear hd
  rw [g18,g7]
  have B7:=hid (B1.out.trans (h1.mono B1.out.size))
  have HQ7:=cy h1 HQ
  clear h1 g18 g7
  generalize v 12=y1,v 13=y2,v 14=y3,v 15=y4,v 16=y5,v 11=y6,v 17=y7
  simp only [List.drop_succ_cons,List.drop_zero]
  cases hb
  · obtain ⟨rfl,hp⟩:=HNO.out rfl
    have HX:=hid (hp w7 B7.out)
    clear hp
    go_wp2_with fail
    exact HX.out
  · obtain ⟨f,rfl,eg,hc⟩:=HFN.out rfl
    have con:=hc w7 B7.out
    clear hc
    have k0:=jC HQ7.out 0
    have k1:=jC HQ7.out 1
    have k2:=jC HQ7.out 2
    have k3:=jC HQ7.out 3
    have k4:=jC HQ7.out 4
    have k5:=jC HQ7.out 5
    have k6:=jC HQ7.out 6
    have k7:=jC HQ7.out 7
    have k8:=jC HQ7.out 8
    have k9:=jC HQ7.out 9
    have k10:=jC HQ7.out 10
    have k11:=jC HQ7.out 11
    have k12:=jC HQ7.out 12
    have k13:=jC HQ7.out 13
    have k14:=jC HQ7.out 14
    simp only [gT,gZ,gS] at k0 k1 k2 k3 k4 k5 k6 k7 k8 k9 k10 k11 k12 k13 k14
    go_wp2_with fail
    refine con.mono ?_
    rintro e w8 ⟨hp,z,rfl⟩
    have HX:=hid hp
    clear hp con
    go_wp2_with fail
    exact HX.out
theorem catdo_any {p X:Nat->Prop} {B b:Nat} {C:List Tab} {s:Stmt} {sv:Value} {w:World} (hC:CatAt B X b C w) (hX:∀ k,X k->k<w.heap.size) (hS:TabsSmall C) (hs:StmtV p w sv s) (hw:(Lit.int .i64 s.kind).wf=true) (hcl:s.cols.length<=1000000) (hnl:s.names.length<=1000000) (hnm:∀ t ∈ C,∀ c ∈ t.cols,c.1.size<=maxLen) (hB:B<=w.heap.size) :
 Calls Tryz.prog 83 #[.pointer (some ⟨b,0,none⟩),sv,.int .i64 0] w fun e w'=>CatPost B X b w (catV C s) e w':=by
 have wk:∀ {r:Int × List Tab} {w1:World},Below w.heap.size w w1->∀ e w2,CatPost B X b w1 r e w2->CatPost B X b w r e w2/\∃ z,e=.returned (.int .i64 z):=fun hb e w2 h=>⟨⟨h.1,(hb.mono hB).trans h.2.1,fun k hk=>(h.2.2.1 k hk).trans (hb.block k (hX k hk)),h.2.2.2⟩,_,h.1⟩
 refine catdo_core (CatPost B X b w (catV C s)) hs rfl (fun w1 g h=>doers_run b s.kind hw w1 g h) (fun h=>?_) (fun h=>?_)
 · have h':=of_decide_eq_true h
   by_cases c1:s.kind=1
   · rw [if_pos c1]
     refine ⟨_,rfl,enters_of Tryz.func150 (by kernel_rfl) rfl,fun w1 hb=>?_⟩
     have e:catV C s=(createE C s,if createE C s=0 then createT C s else C):=by unfold catV;rw [if_pos c1]
     rw [e]
     exact (create_any (hC.below hb) (fun k hk=>jL (hX k hk) hb.size) hS (hs.below hb) hcl (Nat.le_trans hB hb.size)).mono fun e w2 h=>wk hb e w2 h
   · rw [if_neg c1]
     by_cases c2:s.kind=2
     · rw [if_pos c2]
       refine ⟨_,rfl,enters_of Tryz.func151 (by kernel_rfl) rfl,fun w1 hb=>?_⟩
       have e:catV C s=(indexE C s,if indexE C s=0 then indexT C s else C):=by unfold catV;rw [if_neg c1,if_pos c2]
       rw [e]
       exact (index_any (hC.below hb) (fun k hk=>jL (hX k hk) hb.size) hS (hs.below hb) hnl hnm (Nat.le_trans hB hb.size)).mono fun e w2 h=>wk hb e w2 h
     · rw [if_neg c2]
       have c3:s.kind=3:=by omega
       rw [if_pos c3]
       refine ⟨_,rfl,enters_of Tryz.func152 (by kernel_rfl) rfl,fun w1 hb=>?_⟩
       have e:catV C s=(renameE C s,if renameE C s=0 then renameT C s else C):=by unfold catV;rw [if_neg c1,if_neg c2,if_pos c3]
       rw [e]
       exact (rename_any (hC.below hb) (fun k hk=>jL (hX k hk) hb.size) hS (hs.below hb) (Nat.le_trans hB hb.size)).mono fun e w2 h=>wk hb e w2 h
 · have h':=of_decide_eq_false h
   have c1:¬ s.kind=1:=fun e=>h' (Or.inl e)
   have c2:¬ s.kind=2:=fun e=>h' (Or.inr (Or.inl e))
   have c3:¬ s.kind=3:=fun e=>h' (Or.inr (Or.inr e))
   rw [if_neg c1,if_neg c2,if_neg c3]
   refine ⟨rfl,fun w1 hb=>?_⟩
   have e:catV C s=(1,C):=by unfold catV;rw [if_neg c1,if_neg c2,if_neg c3]
   rw [e]
   exact ⟨rfl,hb.mono hB,fun k hk=>hb.block k (hX k hk),hC.below hb⟩
end
section
open Go.RowKit
theorem CatAt.set {B b:Nat} {X:Nat->Prop} {C:List Tab} {w:World} {p:Addr} {x:Value} (h:CatAt B X b C w) (hp:p.block<B):CatAt B X b C (w.setCell p x):=by
 obtain ⟨h0,v,vs,h1,h2,h3,h4,h5⟩:=h
 refine ⟨h0,v,vs,h1,(heap_setCell_other _ _ _ _ (by omega)).trans h2,owns_set h3 hp,fun t k1 k2=>⟨owns_set (h4 t k1 k2).1 hp,(h4 t k1 k2).2.set hp⟩,h5⟩
theorem Copies2.set {B:Nat} {L:List (List (List Val))} {k:Nat} {outs:List Value} {w:World} {p:Addr} {x:Value} (h:Copies2 B L k outs w) (hp:p.block<B):Copies2 B L k outs (w.setCell p x):=by
 refine ⟨h.1,fun t h1 h2=>?_⟩
 obtain ⟨xs,h3,h4,h5⟩:=h.2 t h1 h2
 exact ⟨xs,owns_set h3 hp,h4,fun i i1 i2=>owns_set (h5 i i1 i2) hp⟩
theorem Copies2.below {B:Nat} {L:List (List (List Val))} {k:Nat} {outs:List Value} {w w':World} (h:Copies2 B L k outs w) (hb:Below w.heap.size w w'):Copies2 B L k outs w':=by
 refine ⟨h.1,fun t h1 h2=>?_⟩
 obtain ⟨xs,h3,h4,h5⟩:=h.2 t h1 h2
 exact ⟨xs,owns_below h3 hb,h4,fun i i1 i2=>owns_below (h5 i i1 i2) hb⟩
def stored (w:World) (g1 g2:Nat) (x0 x1 y0 y1 y2:Value):World :=
 ((((w.setCell ⟨g1,0,none⟩ x0).setCell ⟨g1,1,none⟩ x1).setCell ⟨g2,0,none⟩ y0).setCell ⟨g2,1,none⟩ y1).setCell ⟨g2,2,none⟩ y2
theorem stored_at {w:World} {g1 g2:Nat} {u0 u1 v0 v1 v2 x0 x1 y0 y1 y2:Value} (h1:w.heap[g1]? = some (.cells #[u0,u1] 27 (0,0))) (h2:w.heap[g2]? = some (.cells #[v0,v1,v2] 43 (0,0))) :
 (stored w g1 g2 x0 x1 y0 y1 y2).heap[g1]? = some (.cells #[x0,x1] 27 (0,0))/\(stored w g1 g2 x0 x1 y0 y1 y2).heap[g2]? = some (.cells #[y0,y1,y2] 43 (0,0)):=by
 have hne:g1 ≠ g2:=by rintro rfl;rw [h1] at h2;simp at h2
 have a1:=heap_setCell_same w g1 0 _ _ x0 h1
 have a2:=heap_setCell_same _ g1 1 _ _ x1 a1
 have b2:((w.setCell ⟨g1,0,none⟩ x0).setCell ⟨g1,1,none⟩ x1).heap[g2]? = some (.cells #[v0,v1,v2] 43 (0,0)):=(heap_setCell_other _ _ _ _ (by exact hne.symm)).trans ((heap_setCell_other _ _ _ _ (by exact hne.symm)).trans h2)
 have b3:=heap_setCell_same _ g2 0 _ _ y0 b2
 have b4:=heap_setCell_same _ g2 1 _ _ y1 b3
 have b5:=heap_setCell_same _ g2 2 _ _ y2 b4
 exact ⟨(heap_setCell_other _ _ _ _ (by exact hne)).trans ((heap_setCell_other _ _ _ _ (by exact hne)).trans ((heap_setCell_other _ _ _ _ (by exact hne)).trans a2)),b5⟩
theorem stored_below {B:Nat} {a w:World} {g1 g2:Nat} {x0 x1 y0 y1 y2:Value} (h:Below B a w) (h1:B<=g1) (h2:B<=g2):Below B a (stored w g1 g2 x0 x1 y0 y1 y2) :=
 ((((h.setCell (p:=⟨g1,0,none⟩) h1 _).setCell (p:=⟨g1,1,none⟩) h1 _).setCell (p:=⟨g2,0,none⟩) h2 _).setCell (p:=⟨g2,1,none⟩) h2 _).setCell (p:=⟨g2,2,none⟩) h2 _
theorem stored_other {w:World} {g1 g2:Nat} {x0 x1 y0 y1 y2:Value} (k:Nat) (h1:k ≠ g1) (h2:k ≠ g2):(stored w g1 g2 x0 x1 y0 y1 y2).heap[k]? = w.heap[k]? :=
 (heap_setCell_other _ _ _ _ (by exact h2)).trans ((heap_setCell_other _ _ _ _ (by exact h2)).trans ((heap_setCell_other _ _ _ _ (by exact h2)).trans ((heap_setCell_other _ _ _ _ (by exact h1)).trans (heap_setCell_other _ _ _ _ (by exact h1)))))
theorem does_err {p:Nat->Prop} {w w':World} {old:Prop} {r:Int × StV × AnsV} {k:Int} {x1 l1 y1 x2 l2 y2 x3 l3 y3} {nn:Int} (hr:r.1=k) (hk:k ≠ 0) (hb:Below w.heap.size w w'):DoesPost p w old r (.returned (.tuple #[.agg #[.slice x1 l1 y1,.slice x2 l2 y2],.agg #[.int .i64 k,.slice x3 l3 y3,.int .i64 nn]])) w' :=
 ⟨x1,l1,y1,x2,l2,y2,x3,l3,y3,nn,by rw [hr],hb,fun h=>absurd (hr.symm.trans h) hk⟩
theorem does_ok {p:Nat->Prop} {w w':World} {old:Prop} {r:Int × StV × AnsV} {sv av:Value} (hr:r.1=0) (he:r.2.2.err=0) (hb:Below w.heap.size w w') (hs:StOut (fun k=>p k \/ w.heap.size<=k) (fun k=>(old/\p k) \/ w.heap.size<=k) w' sv r.2.1) (ha:AnsAt (fun k=>w.heap.size<=k) w' av r.2.2):DoesPost p w old r (.returned (.tuple #[sv,av])) w':=by
 obtain ⟨er,s,A⟩:=r
 simp only at *
 subst hr
 obtain ⟨a1,c1,a2,c2,rfl,h1,h2⟩:=hs
 obtain ⟨a,c,rfl,h3⟩:=ha
 exact ⟨a1,_,c1,a2,_,c2,a,_,c,A.n,by rw [he],hb,fun _=>⟨⟨a1,c1,a2,c2,rfl,h1,h2⟩,a,c,by rw [he],h3⟩⟩
theorem copies2_nil {B:Nat} {R:List (List (List Val))} {m:Nat} {outs:List Value} {w:World} (hm:R.length<=m) (h:Copies2 B (R ++ List.replicate (m - R.length) []) m outs w):Copies2 B (R ++ List.replicate (m+1 - R.length) []) (m+1) (outs ++ [.slice none 0 0]) w:=by
 refine ⟨by rw [List.length_append,h.1];rfl,fun t h1 h2=>?_⟩
 by_cases ht:t<m
 · rw [List.getElem_append_left (by rw [h.1];exact ht)]
   have h3:t<(R ++ List.replicate (m - R.length) ([]:List (List Val))).length:=by simp;omega
   have:=h.2 t (by rw [h.1];exact ht) h3
   have e:(R ++ List.replicate (m+1 - R.length) ([]:List (List Val)))[t]=(R ++ List.replicate (m - R.length) ([]:List (List Val)))[t]:=by
    by_cases hr:t<R.length
    · rw [List.getElem_append_left hr,List.getElem_append_left hr]
    · rw [List.getElem_append_right (by omega),List.getElem_append_right (by omega)]
      simp
   rw [e]
   exact this
 · have e0:t=m:=by rw [List.length_append,h.1] at h1;simp at h1;omega
   subst e0
   have e:(R ++ List.replicate (t+1 - R.length) ([]:List (List Val)))[t]=[]:=by
    rw [List.getElem_append_right hm]
    simp
   rw [e,List.getElem_append_right (by rw [h.1];exact jR _)]
   simp only [h.1,Nat.sub_self,List.getElem_cons_zero]
   exact ⟨[],World.ownsRow_nil _ _ _ _,rfl,fun t h1 h2=>by cases h2⟩
end
section
open Go.RowKit
theorem row_of_owns {α:Type} {R:Rep α} {w:World} {base:Nat} {e:TypeId} {v:Value} {xs:List Value} {L:List α} {p:Nat->Prop} (h:w.ownsRow base e R.sz v L.length xs) (hp:∀ g,v.ownBlock=some g->p g)
 (each:∀ t (ht:t<L.length),R.ok p w ((xs.drop (t * R.sz)).take R.sz) L[t]):∃ a cap,v=.slice a L.length cap/\L.length<=cap/\RowAt R p w a L:=by
 obtain ⟨hlen,⟨rfl,h0⟩|⟨g,cap,cur,rfl,hb,hg,hn,_,hsz,htk⟩⟩:=h
 · have:L=[]:=List.eq_nil_of_length_eq_zero h0
   subst this
   exact ⟨none,0,rfl,jR _,RowAt.nil⟩
 · refine ⟨some ⟨g,0,none⟩,cap,rfl,hn,Or.inr ⟨g,0,rfl,hp g rfl,Live.of_block hg,fun t ht=>⟨_,fun j hj=>?_,each t ht⟩⟩⟩
   have hlt:t * R.sz+j<L.length * R.sz:=by
    have:(t+1) * R.sz<=L.length * R.sz:=Nat.mul_le_mul_right _ ht
    have h2:(t+1) * R.sz=t * R.sz+R.sz:=by rw [Nat.add_mul,Nat.one_mul]
    omega
   have e1:w.cell? ⟨g,0+t * R.sz+j,none⟩=cur[t * R.sz+j]? := by simp [World.cell?,hg]
   rw [e1,List.getElem?_take_of_lt hj,List.getElem?_drop,<- htk,List.getElem?_take_of_lt hlt,Array.getElem?_toList]
theorem tabs_copied {p:Nat->Prop} {B c:Nat} {a:Option Addr} {v:Value} {C:List Tab} {xs:List Value} {w w':World} (h:SlV tabR p w (.slice a C.length c) C) (hraw:RawAt w a xs) (hlen:xs.length=C.length * 4) (hb:Below w.heap.size w w') (ho:w'.ownsRow B 75 4 v C.length xs):SlV tabR (fun k=>p k \/ v.ownBlock=some k) w' v C:=by
 obtain ⟨_,_,hl,hr⟩:=h.row
 obtain ⟨a',c',hv,h4,h5⟩:=row_of_owns (R:=tabR) (p:=fun k=>p k \/ v.ownBlock=some k) ho (fun _ h=>Or.inr h) (fun t ht=>by
  rcases hr with e|⟨b,off,rfl,_,_,hc⟩
  · rw [e] at ht;cases ht
  · obtain ⟨cs,h1,h2⟩:=hc t ht
    have hcl:cs.length=4:=tabR.len h2
    have e:List.take 4 (List.drop (t * 4) xs)=cs:=by
     apply List.ext_getElem?
     intro j
     by_cases hj:j<4
     · rw [List.getElem?_take_of_lt hj,List.getElem?_drop]
       have hx:t * 4+j<xs.length:=by omega
       have h3:=hraw _ rfl (t * 4+j) xs[t * 4+j] (List.getElem?_eq_getElem hx)
       rw [addr_add,<- Nat.add_assoc] at h3
       rw [List.getElem?_eq_getElem hx,<- h3]
       exact h1 j hj
     · rw [List.getElem?_eq_none (by rw [List.length_take];omega),List.getElem?_eq_none (by omega)]
    show tabR.ok _ w' (List.take 4 (List.drop (t * 4) xs)) C[t]
    rw [e]
    exact tabR.weaken (tabR.below h2 hb) fun k hk=>Or.inl hk)
 exact ⟨a',c',hv,h4,hl,h5⟩
theorem own_state {p q:Nat->Prop} {a1 a2:Option Addr} {c1 c2:Nat} {C:List Tab} {R:List (List (List Val))} {w:World} (hC:SlV tabR p w (.slice a1 C.length c1) C) (hR:SlV rowsR q w (.slice a2 R.length c2) R) (hCl:C.length<=1000000) (hS:RowsSmall R) :
 Calls Tryz.prog 87 #[.agg #[.slice a1 C.length c1,.slice a2 R.length c2]] w fun e w'=>∃ ta tc ra rc outs xs,e=.returned (.agg #[.slice ta C.length tc,.slice ra R.length rc])/\Below w.heap.size w w' /\
  SlV tabR (fun k=>p k \/ (Value.slice ta C.length tc).ownBlock=some k) w' (.slice ta C.length tc) C/\w'.ownsRow w.heap.size 75 4 (.slice ta C.length tc) C.length xs/\w'.ownsRow w.heap.size 41 1 (.slice ra R.length rc) R.length outs/\Copies2 w.heap.size R R.length outs w'/\OApart outs:=by
 obtain ⟨_,_,_,hrow⟩:=hC.row
 obtain ⟨xs,hraw,hlen,hone⟩:=tabs_raw hrow
 refine (own_any (w:=w) (c1:=c1) (row_nil hrow) hraw hlen hone (by omega) hR hS.1 hS.2.1 hS.2.2).mono ?_
 rintro e w3 ⟨v1,v2,outs,rfl,o1,o2,cp2,b3,ap⟩
 have ht:=tabs_copied hC hraw hlen b3 o1
 obtain ⟨ta,tc,rfl,_⟩:=owns_shape' o1
 obtain ⟨ra,rc,rfl,_⟩:=owns_shape' o2
 exact ⟨ta,tc,ra,rc,outs,xs,rfl,b3,ht,o1,o2,cp2,ap⟩
structure TabsCp (P:Nat->Prop) (Z:Nat) (v:Value) (C:List Tab) (w:World):Prop where
 sl:SlV tabR (fun k=>(P k/\k<Z) \/ v.ownBlock=some k) w v C
 own:∃ xs,w.ownsRow Z 75 4 v C.length xs
theorem TabsCp.lies {P:Nat->Prop} {Z:Nat} {v:Value} {C:List Tab} {w:World} (h:TabsCp P Z v C w):SlV tabR (fun k=>P k \/ Z<=k) w v C:=by
 obtain ⟨h1,xs,h2⟩:=h
 exact h1.weaken fun k hk=>hk.imp (fun h=>h.1) (fun h=>(h2.lt k h).1)
theorem TabsCp.below {P:Nat->Prop} {Z:Nat} {v:Value} {C:List Tab} {w w':World} (h:TabsCp P Z v C w) (hb:Below w.heap.size w w'):TabsCp P Z v C w':=by
 obtain ⟨h1,xs,h2⟩:=h
 exact ⟨h1.below hb,xs,owns_below h2 hb⟩
theorem TabsCp.grown {P:Nat->Prop} {Z:Nat} {v:Value} {C:List Tab} {w w':World} {r:Option Nat} (h:TabsCp P Z v C w) (hr:∀ b,r=some b->Z<=b/\∃ cs T fz,w.heap[b]? = some (.cells cs T fz)/\T ≠ 75) (hg:w.grownBy w' r):TabsCp P Z v C w':=by
 obtain ⟨h1,xs,h2⟩:=h
 have hne:∀ k,v.ownBlock=some k->some k ≠ r:=by
  intro k hk e
  obtain ⟨_,cs,T,fz,hb,hT⟩:=hr k e.symm
  have:=(own_tag h2 k hk).2 cs T fz hb
  exact hT this
 refine ⟨h1.keep fun k hk hl=>hg.block k hl fun e=>?_,xs,owns_other h2 hg fun g hg' e=>hne g hg' e.symm⟩
 rcases hk with hk|hk
 · have:=(hr k e.symm).1
   have:=hk.2
   omega
 · exact hne k hk e
theorem TabsCp.setc {P:Nat->Prop} {Z:Nat} {v:Value} {C:List Tab} {w:World} {g o:Nat} {x:Value} {cs:Array Value} {T:TypeId} {fz:Nat × Nat} (h:TabsCp P Z v C w) (hg:Z<=g) (hb:w.heap[g]? = some (.cells cs T fz)) (hT:T ≠ 75):TabsCp P Z v C (w.setCell ⟨g,o,none⟩ x) :=
 h.grown (r:=some g) (fun b e=>by cases e;exact ⟨hg,cs,T,fz,hb,hT⟩) (grown_cell w ⟨g,o,none⟩ x)
theorem keeps_copies {B B':Nat} {T:TypeId} {L:List (List Val)} {k:Nat} {outs:List Value} (hT:55 ≠ T):Keeps B' T (Copies B L k outs):=copies_keeps B B' L k outs T hT
theorem Copies.below {B:Nat} {L:List (List Val)} {k:Nat} {outs:List Value} {w w':World} (h:Copies B L k outs w) (hb:Below w.heap.size w w'):Copies B L k outs w':=⟨h.1,fun t h1 h2=>owns_below (h.2 t h1 h2) hb⟩
theorem Copies.snoc {B:Nat} {L:List (List Val)} {r:List Val} {k:Nat} {outs:List Value} {v:Value} {w:World} (h:Copies B L k outs w) (hk:L.length=k) (hv:w.ownsRow B 55 3 v r.length (r.flatMap valEnc)):Copies B (L ++ [r]) (k+1) (outs ++ [v]) w:=by
 refine ⟨by simp [h.1],fun t h1 h2=>?_⟩
 by_cases ht:t<k
 · simp only [List.getElem_append_left (show t<outs.length by rw [h.1];exact ht),List.getElem_append_left (show t<L.length by omega)]
   exact h.2 t (by rw [h.1];exact ht) (by omega)
 · have e0:t=k:=by rw [List.length_append] at h2;simp at h2;omega
   subst e0
   have e1:(outs ++ [v])[t]=v:=by rw [List.getElem_append_right (by rw [h.1];exact jR _)];simp [h.1]
   have e2:(L ++ [r])[t]=r:=by rw [List.getElem_append_right (by omega)];simp [hk]
   rw [e1,e2]
   exact hv
theorem copies2_put {B g n:Nat} {R:List (List (List Val))} {c:Nat} {outs:List Value} {L:List (List Val)} {u:Value} {ys:List Value} {w:World} (hn:n<R.length) (ho:w.ownsRow B 41 1 (.slice (some ⟨g,0,none⟩) R.length c) R.length outs) (hc:outs.length=R.length)
 (hoth:∀ t (h1:t<outs.length) (h2:t<R.length),t ≠ n->∃ xs,w.ownsRow B 35 1 outs[t] R[t].length xs/\Copies B R[t] R[t].length xs w) (hu:w.ownsRow B 35 1 u L.length ys) (hy:Copies B L L.length ys w) :
 (w.setCell ⟨g,n,none⟩ u).ownsRow B 41 1 (.slice (some ⟨g,0,none⟩) R.length c) (R.set n L).length (outs.set n u)/\Copies2 B (R.set n L) (R.set n L).length (outs.set n u) (w.setCell ⟨g,n,none⟩ u):=by
 have h1:=(World.ownsRow.stored ho n u).1
 have hg2:=grown_cell w ⟨g,n,none⟩ u
 have ht2:=own_tag ho
 have k1:∀ {v m xs},w.ownsRow B 35 1 v m xs->(w.setCell ⟨g,n,none⟩ u).ownsRow B 35 1 v m xs:=fun h=>keeps_owns (B':=B) (T:=41) (by decide) w _ (some g) h ht2 hg2
 have k2:∀ {L':List (List Val)} {m xs},Copies B L' m xs w->Copies B L' m xs (w.setCell ⟨g,n,none⟩ u):=fun h=>keeps_copies (B':=B) (T:=41) (by decide) w _ (some g) h ht2 hg2
 refine ⟨by rw [List.length_set];exact h1,by simp [hc],fun t i1 i2=>?_⟩
 by_cases e:n=t
 · subst e
   simp only [List.getElem_set_self]
   exact ⟨ys,k1 hu,k2 hy⟩
 · simp only [List.getElem_set,e,if_false]
   obtain ⟨xs,h3,h4⟩:=hoth t (by simpa using i1) (by simpa using i2) (Ne.symm e)
   exact ⟨xs,k1 h3,k2 h4⟩
theorem modify_set' {α:Type} {C:List α} {k:Nat} (f:α->α) (hk:k<C.length):C.modify k f=C.set k (f C[k]):=modify_eq_set f hk
theorem copies2_other {B n:Nat} {R:List (List (List Val))} {m:Nat} {outs:List Value} {w w1:World} (h:Copies2 B R m outs w) (hap:OApart outs) (hn:n<outs.length) (hnR:n<R.length) (hg:w.grownBy w1 outs[n].ownBlock) :
 (∀ t (h1:t<outs.length) (h2:t<R.length),t ≠ n->∃ xs,w1.ownsRow B 35 1 outs[t] R[t].length xs/\Copies B R[t] R[t].length xs w1):=by
 intro t h1 h2 htn
 obtain ⟨xs,h3,h4⟩:=h.2 t h1 h2
 obtain ⟨ys,h5,_⟩:=h.2 n hn hnR
 exact ⟨xs,owns_other h3 hg (fun g hg' e=>hap n t hn h1 (Ne.symm htn) g e hg'),keeps_copies (B':=B) (T:=35) (by decide) w w1 _ h4 (own_tag h5) hg⟩
end
section
open Go.RowKit
def Ret1 (Z:World) (g:Nat) (o:Obj) (w:World):Prop:=Z.grownBy w (some g)/\w.heap[g]? = some o
def Ret2 (Z:World) (g1 g2:Nat) (o1 o2:Obj) (w:World):Prop:=∃ w1,Ret1 Z g1 o1 w1/\w1.grownBy w (some g2)/\w.heap[g2]? = some o2
theorem grown_below {Z w w':World} {r:Option Nat} (h:Z.grownBy w r) (hb:Below w.heap.size w w'):Z.grownBy w' r :=
 ⟨hb.os.trans h.os,hb.tape.trans h.tape,hb.output.trans h.output,Nat.le_trans h.size hb.size,fun k hk hn=>(hb.block k (jL hk h.size)).trans (h.block k hk hn)⟩
theorem Ret1.below {Z:World} {g:Nat} {o:Obj} {w w':World} (h:Ret1 Z g o w) (hb:Below w.heap.size w w'):Ret1 Z g o w' :=
 ⟨grown_below h.1 hb,(hb.block _ (jB h.2)).trans h.2⟩
theorem Ret2.below {Z:World} {g1 g2:Nat} {o1 o2:Obj} {w w':World} (h:Ret2 Z g1 g2 o1 o2 w) (hb:Below w.heap.size w w'):Ret2 Z g1 g2 o1 o2 w':=by
 obtain ⟨w1,h1,h2,h3⟩:=h
 exact ⟨w1,h1,grown_below h2 hb,(hb.block _ (jB h3)).trans h3⟩
theorem Ret2.at1 {Z:World} {g1 g2:Nat} {o1 o2:Obj} {w:World} (h:Ret2 Z g1 g2 o1 o2 w) (hne:g1 ≠ g2):w.heap[g1]? = some o1:=by
 obtain ⟨w1,h1,h2,h3⟩:=h
 exact (h2.block _ (jB h1.2) (by simpa using hne)).trans h1.2
theorem Ret2.at2 {Z:World} {g1 g2:Nat} {o1 o2:Obj} {w:World} (h:Ret2 Z g1 g2 o1 o2 w):w.heap[g2]? = some o2:=by
 obtain ⟨w1,h1,h2,h3⟩:=h
 exact h3
theorem Ret2.other {Z:World} {g1 g2:Nat} {o1 o2:Obj} {w:World} (h:Ret2 Z g1 g2 o1 o2 w) (k:Nat) (hk:k<Z.heap.size) (n1:k ≠ g1) (n2:k ≠ g2):w.heap[k]? = Z.heap[k]? := by
 obtain ⟨w1,h1,h2,h3⟩:=h
 exact (h2.block _ (jL hk h1.1.size) (by simpa using n2)).trans (h1.1.block _ hk (by simpa using n1))
theorem Ret2.from {B:Nat} {a Z:World} {g1 g2:Nat} {o1 o2:Obj} {w:World} (h:Ret2 Z g1 g2 o1 o2 w) (hb:Below B a Z) (ha:B<=a.heap.size) (n1:B<=g1) (n2:B<=g2):Below B a w:=by
 obtain ⟨w1,h1,h2,h3⟩:=h
 exact (hb.grown h1.1 (Nat.le_trans ha hb.size) (fun k e=>by cases e;exact n1)).grown h2 (Nat.le_trans ha (Nat.le_trans hb.size h1.1.size)) (fun k e=>by cases e;exact n2)
theorem Ret2.tabs {P:Nat->Prop} {B:Nat} {v:Value} {C:List Tab} {Z:World} {g1 g2:Nat} {x1 x2:Array Value} {T1 T2:TypeId} {f1 f2:Nat × Nat} {w:World} (h:Ret2 Z g1 g2 (.cells x1 T1 f1) (.cells x2 T2 f2) w) {y1 y2:Array Value} {e1 e2:Nat × Nat}
 (hz1:Z.heap[g1]? = some (.cells y1 T1 e1)) (hz2:Z.heap[g2]? = some (.cells y2 T2 e2)) (hne:g1 ≠ g2) (ht1:T1 ≠ 75) (ht2:T2 ≠ 75) (n1:B<=g1) (n2:B<=g2) (ht:TabsCp P B v C Z):TabsCp P B v C w:=by
 obtain ⟨w1,h1,h2,h3⟩:=h
 have k1:TabsCp P B v C w1:=ht.grown (r:=some g1) (fun b e=>by cases e;exact ⟨n1,_,_,_,hz1,ht1⟩) h1.1
 exact k1.grown (r:=some g2) (fun b e=>by cases e;exact ⟨n2,_,_,_,(h1.1.block _ (jB hz2) (by simpa using Ne.symm hne)).trans hz2,ht2⟩) h2
theorem ret_first {Z w:World} {g:Nat} {u0 u1 x0 x1:Value} (hb:Below Z.heap.size Z w) (hg:Z.heap[g]? = some (.cells #[u0,u1] 27 (0,0))):Ret1 Z g (.cells #[x0,x1] 27 (0,0)) ((w.setCell ⟨g,0,none⟩ x0).setCell ⟨g,1,none⟩ x1):=by
 have h0:=(hb.block _ (jB hg)).trans hg
 refine ⟨⟨hb.os,hb.tape,hb.output,by simpa using hb.size,fun k hk hn=>?_⟩,(heap_setCell_same _ _ _ _ _ _ ((heap_setCell_same _ _ _ _ _ _ h0).trans rfl)).trans rfl⟩
 have hn':k ≠ g:=by simpa using hn
 exact (heap_setCell_other _ _ _ _ (by exact hn')).trans ((heap_setCell_other _ _ _ _ (by exact hn')).trans (hb.block k hk))
theorem ret_second {Z w:World} {g1 g:Nat} {o1:Obj} {u0 u1 u2 x0 x1 x2:Value} (hw:Ret1 Z g1 o1 w) (hne:g ≠ g1) (hg:Z.heap[g]? = some (.cells #[u0,u1,u2] 43 (0,0))):Ret2 Z g1 g o1 (.cells #[x0,x1,x2] 43 (0,0)) (((w.setCell ⟨g,0,none⟩ x0).setCell ⟨g,1,none⟩ x1).setCell ⟨g,2,none⟩ x2):=by
 have h0:=(hw.1.block _ (jB hg) (by simpa using hne)).trans hg
 refine ⟨w,hw,⟨rfl,rfl,rfl,by simp,fun k hk hn=>?_⟩,(heap_setCell_same _ _ _ _ _ _ ((heap_setCell_same _ _ _ _ _ _ ((heap_setCell_same _ _ _ _ _ _ h0).trans rfl)).trans rfl)).trans rfl⟩
 have hn':k ≠ g:=by simpa using hn
 exact (heap_setCell_other _ _ _ _ (by exact hn')).trans ((heap_setCell_other _ _ _ _ (by exact hn')).trans (heap_setCell_other _ _ _ _ (by exact hn')))
end
end Go.Proofs.YtgemihkcihigpaaGreatDoor
