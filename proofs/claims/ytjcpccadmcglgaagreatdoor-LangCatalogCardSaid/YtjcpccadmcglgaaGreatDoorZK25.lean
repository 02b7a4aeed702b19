/- (*Catalog).index. -/
import Derived.Test.YtjcpccadmcglgaaGreatDoorZK24
set_option linter.unusedVariables false
set_option linter.unusedSimpArgs false
set_option maxRecDepth 100000
set_option maxHeartbeats 64000000
namespace Go.Proofs.YtjcpccadmcglgaaGreatDoor
open Go.Lib (hid)
section
open Go.RowKit
theorem CatAt.tab {B b:Nat} {X:Nat->Prop} {C:List Tab} {w:World} {K:Nat} (h:CatAt B X b C w) (hS:TabsSmall C) (hk:K<C.length):∃ (g c:Nat) (vs:List (Value × Value)) (ac:Option Addr) (cc:Nat) (ai:Option Addr) (ci:Nat),vs.length=C.length /\
 w.heap[b]? = some (.cells #[.slice (some ⟨g,0,none⟩) C.length c] 60 (0,0))/\w.ownsRow B 90 4 (.slice (some ⟨g,0,none⟩) C.length c) C.length ((C.zip vs).flatMap tabCells)/\TabParts B C vs w/\(Apart vs/\Free X b (.slice (some ⟨g,0,none⟩) C.length c) vs)/\g<w.heap.size /\
 (∀ h:K<vs.length,vs[K]=(.slice ac C[K].cols.length cc,.slice ai C[K].idx.length ci)) /\
 (w.cell? ⟨g,K * 4,none⟩=some (.int .i64 C[K].id)/\w.cell? ⟨g,K * 4+1,none⟩=some (.string C[K].name)/\w.cell? ⟨g,K * 4+2,none⟩=some (.slice ac C[K].cols.length cc)/\w.cell? ⟨g,K * 4+3,none⟩=some (.slice ai C[K].idx.length ci)) /\
 TabV (fun k=>B<=k) w (.agg #[.int .i64 C[K].id,.string C[K].name,.slice ac C[K].cols.length cc,.slice ai C[K].idx.length ci]) C[K]:=by
 obtain ⟨h0,v,vs,h1,h2,h3,h4,h5⟩:=h
 obtain ⟨g,c,cur,rfl,hbg⟩:∃ g c,∃ cur:Array Value,v=.slice (some ⟨g,0,none⟩) C.length c/\w.heap[g]? = some (.cells cur 90 (0,0)):=by
  rcases h3.2 with ⟨_,e⟩|⟨g,cap,cur,e,_,hg,_⟩
  · omega
  · exact ⟨g,cap,cur,e,hg⟩
 obtain ⟨s1,s2,s3⟩:=hS.2 _ (List.getElem_mem hk)
 obtain ⟨p1,p2⟩:=h4 K hk (by omega)
 obtain ⟨ac,cc,e1,_⟩:=owns_shape' p1
 obtain ⟨ai,ci,e2,_⟩:∃ ai ci,(vs[K]'(by omega)).2=.slice ai C[K].idx.length ci/\(ai=none->C[K].idx.length=0):=by
  obtain ⟨us,_,q2,_⟩:=p2
  exact owns_shape' q2
 have e3:vs[K]'(by omega)=(.slice ac C[K].cols.length cc,.slice ai C[K].idx.length ci):=by rw [<- e1,<- e2]
 have hz:K<(C.zip vs).length:=by rw [zip_flat h1];exact hk
 have hc:=flat_part (enc:=tabCells) (sz:=4) (fun _=>rfl) (C.zip vs) K hz
 rw [List.getElem_zip,e3] at hc
 have cell:∀ j,j<4->w.cell? ⟨g,K * 4+j,none⟩=(tabCells (C[K],.slice ac C[K].cols.length cc,.slice ai C[K].idx.length ci))[j]? := by
  intro j hj
  rw [World.ownsRow.cellAt h3 (K * 4+j) (by omega),<- hc,List.getElem?_take_of_lt hj,List.getElem?_drop]
 rw [e1] at p1
 rw [e2] at p2
 exact ⟨g,c,vs,ac,cc,ai,ci,h1,h2,h3,h4,h5,jB hbg,fun _=>e3,⟨cell 0 (by decide),cell 1 (by decide),cell 2 (by decide),cell 3 (by decide)⟩,ac,cc,ai,ci,rfl,colOwn_sl p1 (by omega),ixOwn_sl p2 (by omega) (fun x hx=>by have:=s3 x hx;omega)⟩
def NewInt (z:Int) (u:Value) (w:World):Prop:=∃ g,u=.slice (some ⟨g,0,none⟩) 1 1/\w.heap[g]? = some (.cells #[.int .i64 z] 3 (0,0))
theorem NewInt.below {z:Int} {u:Value} {w w':World} (h:NewInt z u w) (hb:Below w.heap.size w w'):NewInt z u w':=by
 obtain ⟨g,h1,h2⟩:=h
 exact ⟨g,h1,(hb.block _ (jB h2)).trans h2⟩
def NewIx (nm:ByteArray) (xc:Value) (rt:Int) (u:Value) (w:World):Prop:=∃ g,u=.slice (some ⟨g,0,none⟩) 1 1/\w.heap[g]? = some (.cells #[.string nm,xc,.int .i64 rt] 93 (0,0))
theorem NewIx.below {nm:ByteArray} {xc:Value} {rt:Int} {u:Value} {w w':World} (h:NewIx nm xc rt u w) (hb:Below w.heap.size w w'):NewIx nm xc rt u w':=by
 obtain ⟨g,h1,h2⟩:=h
 exact ⟨g,h1,(hb.block _ (jB h2)).trans h2⟩
def XAt (W:World) (nm:ByteArray) (rt:Int) (v:Value) (k:Nat) (xs:List Value) (w:World):Prop :=
 w.heap[W.heap.size]? = some (.cells #[.string nm,v,.int .i64 rt] 93 (0,0))/\w.ownsRow (W.heap.size+1) 3 1 v k xs/\Below W.heap.size W w
theorem XAt.below {W:World} {nm:ByteArray} {rt:Int} {v:Value} {k:Nat} {xs:List Value} {w w':World} (h:XAt W nm rt v k xs w) (hb:Below w.heap.size w w'):XAt W nm rt v k xs w' :=
 ⟨(hb.block _ (jB h.1)).trans h.1,owns_below h.2.1 hb,h.2.2.trans (hb.mono h.2.2.size)⟩
theorem ie_named {C:List Tab} {s:Stmt} {rt:Int} (h:namedB s.name=false):indexE C s rt=1:=by unfold indexE;simp [h]
theorem ie_few {C:List Tab} {s:Stmt} {rt:Int} (h:s.names.length<1):indexE C s rt=1:=by unfold indexE;simp [h]
theorem ie_many {C:List Tab} {s:Stmt} {rt:Int} (h:6<s.names.length):indexE C s rt=1:=by unfold indexE;simp [h]
theorem ie_root {C:List Tab} {s:Stmt} {rt:Int} (h:rt<0 \/ 400<=rt):indexE C s rt=1:=by unfold indexE;rcases h with h|h <;> simp [h]
theorem ie_go {C:List Tab} {s:Stmt} {rt:Int} (h1:namedB s.name=true) (h2:¬ s.names.length<1) (h3:¬ 6<s.names.length) (h4:¬ rt<0) (h5:¬ 400<=rt):indexE C s rt=if findT C s.table<0 then 50
 else if anyNeg (ixCols (tabAt C (findT C s.table)) s) then 50
 else if twiceB s.names || C.any (fun t=>t.idx.any (fun i=>sEq i.name s.name)) then 51
 else if (tabAt C (findT C s.table)).idx.length=4 then 2 else 0:=by
 unfold indexE anyNeg
 rw [h1,if_neg]
 simp only [Bool.not_true,Bool.false_or,Bool.or_eq_true,decide_eq_true_eq]
 omega
theorem cindex_any {p X:Nat->Prop} {B b:Nat} {C:List Tab} {s:Stmt} {sv:Value} {rt:Int} {w:World} (hC:CatAt B X b C w) (hX:∀ k,X k->k<w.heap.size) (hS:TabsSmall C) (hs:StmtV p w sv s) (hnl:s.names.length<=1000000) (hnm:∀ t ∈ C,∀ c ∈ t.cols,c.1.size<=maxLen) (hB:B<=w.heap.size) :
 Calls Tryz.prog 53 #[.pointer (some ⟨b,0,none⟩),sv,.int .i64 rt] w fun e w'=>CatPost B X b w (indexE C s rt,if indexE C s rt=0 then indexT C s rt else C) e w':=by
 obtain ⟨i0,hi,hz0,hz1,hz2⟩:=info_parts info_eix
 obtain ⟨i1,hi1,hz01,hz11,hz21⟩:=info_parts info_asi
 obtain ⟨a3,c3,a4,c4,a5,c5,a6,c6,a7,c7,a12,c12,rfl,_,hnam,_,_,_,_⟩:=hs
 have HC:=hid hC
 obtain ⟨a,c,hcb,hsl⟩:=hC.sl hS
 have HCB:=hid hcb
 have HSL:=hid hsl
 have HSM:=hid hS
 have HERR:=hid (fun (k:Int) (hk:indexE C s rt=k) (hk0:k ≠ 0) (w':World) (hb:Below w.heap.size w w')=>CatPost.err (r:=(indexE C s rt,if indexE C s rt=0 then indexT C s rt else C)) hC hX (by rw [if_neg (by rw [hk];exact hk0),hk]) hB hb)
 obtain ⟨Pst,hPst⟩:∃ Pst,Pst=CatPost B X b w (indexE C s rt,if indexE C s rt=0 then indexT C s rt else C):=⟨_,rfl⟩
 rw [<- hPst] at HERR ⊢
 have HPST:=hid hPst
 have HNM:=hid hnm
 have hlC:C.length<=1000000:=hS.1
 have HNAM:=hid hnam
 have HX0:=hid hX
 clear hPst hC hS hcb hsl hnam hnm hX
 go_enter Tryz.func53,Tryz.ntmps53
 go_upto_region 1 with (fail)
 generalize hW:World.alloc _ _=W1
 have hA':allocs w [_]=W1:=hW
 have hq:W1.heap[w.heap.size]? = some (.cells #[.int .i64 s.kind,.string s.table,.string s.name,.slice a3 s.cols.length c3,.slice a4 s.names.length c4,.slice a5 s.row.length c5,.slice a6 s.sets.length c6,.slice a7 s.wher.length c7,.string s.join,.string s.left,.string s.right,.int .i64 s.agg,.slice a12 s.order.length c12,.int .i64 s.mode,.int .i64 s.n] 33 (0,0)):=allocs_get hA' 0 rfl
 have hb:=allocs_self hA'
 have B1:=hid hb
 have HQ:=hid hq
 have q2:=jC hq 2
 have q4:=jC hq 4
 simp only [gT,gZ,gS] at q2 q4
 clear hA' hW hq hb
 go_wp2_with fail
 refine (cnamed_any s.name _).mono ?_
 rintro e w2' ⟨rfl,rfl⟩
 cases h1:namedB s.name
 case false =>
  have HX:=hid (HERR.out 1 (ie_named h1) (by decide) _ B1.out)
  go_wp2_with fail
  exact HX.out
 by_cases h2:s.names.length<1
 · have HX:=hid (HERR.out 1 (ie_few h2) (by decide) _ B1.out)
   have d2:decide (s.names.length<1)=true:=decide_eq_true h2
   have d2':decide ((s.names.length:Int)<1)=true:=decide_eq_true (by omega)
   go_wp2_with fail
   exact HX.out
 have d2:decide (s.names.length<1)=false:=decide_eq_false h2
 have d2':decide ((s.names.length:Int)<1)=false:=decide_eq_false (by omega)
 by_cases h3:6<s.names.length
 · have HX:=hid (HERR.out 1 (ie_many h3) (by decide) _ B1.out)
   have d3:decide (6<s.names.length)=true:=decide_eq_true h3
   have d3':decide (6<(s.names.length:Int))=true:=decide_eq_true (by omega)
   go_wp2_with fail
   exact HX.out
 have d3:decide (6<s.names.length)=false:=decide_eq_false h3
 have d3':decide (6<(s.names.length:Int))=false:=decide_eq_false (by omega)
 by_cases h31:rt<0
 · have HX:=hid (HERR.out 1 (ie_root (Or.inl h31)) (by decide) _ B1.out)
   have d31:decide (rt<0)=true:=decide_eq_true h31
   go_wp2_with fail
   exact HX.out
 have d31:decide (rt<0)=false:=decide_eq_false h31
 by_cases h32:400<=rt
 · have HX:=hid (HERR.out 1 (ie_root (Or.inr h32)) (by decide) _ B1.out)
   have d32:decide (400<=rt)=true:=decide_eq_true h32
   have d33:decide (rt<400)=false:=decide_eq_false (by omega)
   go_wp2_with fail
   exact HX.out
 have d32:decide (400<=rt)=false:=decide_eq_false h32
 have d33:decide (rt<400)=true:=decide_eq_true (by omega)
 have HGO:=hid (ie_go (C:=C) (rt:=rt) h1 h2 h3 h31 h32)
 clear h1
 go_upto_region 3 with (fail)
 have q1:=jC HQ.out 1
 simp only [gT,gZ,gS] at q1
 have HB1:=cy B1.out HCB
 obtain ⟨n,hn⟩:∃ n,findT C s.table=n:=⟨_,rfl⟩
 have con:=cfind_any HB1.out (HSL.out.below B1.out) s.table
 rw [hn] at con
 rw [hn] at HGO
 have HBD:=hid (hn ▸ findT_lt C s.table)
 have HN:=hid hn
 clear hn
 go_wp2_with fail
 refine con.mono ?_
 rintro e w2 ⟨rfl,b2⟩
 have B2:=hid (B1.out.trans (b2.mono B1.out.size))
 have hq2:=(b2.block _ (jB HQ.out)).trans HQ.out
 have HQ2:=hid hq2
 clear con b2 hq2 q1 q2 q4 HB1 d2 d2' d3 d3' d31 d32 d33 h2 h3 h31 h32
 by_cases hn0:n<0
 · have HX:=hid (HERR.out 50 (by rw [HGO.out,if_pos hn0]) (by decide) _ B2.out)
   go_wp2_with fail
   exact HX.out
 obtain ⟨K,rfl⟩:∃ K:Nat,n=K:=⟨n.toNat,by omega⟩
 have hKC:K<C.length:=by have:=HBD.out.2;omega
 have hta:tabAt C (K:Int)=C[K]:=by
  unfold tabAt
  rw [Int.toNat_natCast,List.getD_eq_getElem?_getD,List.getElem?_eq_getElem hKC];rfl
 rw [hta] at HGO
 obtain ⟨g,cg,vs,ac,cc,ai,ci,hl,hcat,hown,hpar,hap,hgl,hvk,ht4,htv⟩:=(HC.out.below B2.out).tab HSM.out hKC
 have HCAT:=hid hcat
 have HT4:=hid ht4
 have HTV:=hid htv
 have HGL:=hid hgl
 have HREST:=hid (show _/\_/\_/\_/\_ from ⟨hl,hown,hpar,hap,hvk⟩)
 have HCL:=hid (HSM.out.2 _ (List.getElem_mem hKC)).1
 have cb:=jC hcat 0
 simp only [gT,gZ,gS] at cb
 clear hcat ht4 htv hgl hl hown hpar hap hvk hta HBD
 have hn1:¬ (K:Int)<0:=by omega
 go_upto_region 7 with (fail)
 obtain ⟨W,hWW⟩:∃ W,W=w2:=⟨_,rfl⟩
 rw [<- hWW] at HQ2 B2 HCAT HT4 HTV HGL HREST cb ⊢
 clear hWW
 have q2:=jC HQ2.out 2
 have q4:=jC HQ2.out 4
 simp only [gT,gZ,gS] at q2 q4
 clear cb
 go_upto_region 8 with (fail)
 generalize hX:World.alloc _ _=WX
 have hXB:XAt W s.name rt (.slice none 0 0) 0 [] WX:=by
  rw [<- hX]
  exact ⟨heap_alloc_new _ _,World.ownsRow_nil _ _ _ _,(b0R).alloc (jR _) _⟩
 have XA0:=hid hXB
 have q4x:=(hXB.2.2.cell (p:=⟨w.heap.size,4,none⟩) (World.block_lt_of_cell? W _ q4)).trans q4
 obtain ⟨NL,hNL⟩:∃ NL,NL=s.names:=⟨_,rfl⟩
 have HNL:=hid hNL
 rw [<- hNL] at HNAM q4x ⊢
 have hnl2:NL.length<=1000000:=by rw [hNL];exact hnl
 clear hX hXB q4 hNL
 go_wp2_with fail
 go_loopw [57] (fun ii wr=>∃ (k:Nat) (v:Value),k<=NL.length/\ii=.int .i64 k/\Hid (XAt W s.name rt v k (((NL.take k).map (colOf C[K])).map (.int .i64)) wr)) (fun ii _=>NL.length - (intOf ii).toNat)
 case atStart=>exact ⟨0,_,Nat.zero_le _,rfl,XA0.out⟩
 case round =>
  obtain ⟨k,v,hk,rfl,XR⟩:=hrel
  have XRS:=hid XR.out.2.2.size
  by_cases hlt:k<NL.length
  · obtain ⟨bb,oo,rfl,_,hbb⟩:=HNAM.out.row.2.2.2.addr (by intro e;rw [e] at hlt;cases hlt)
    have cn:=((B2.out.trans (XR.out.2.2.mono B2.out.size)).cell (p:=⟨bb,oo+k,none⟩) hbb).trans (strF_at HNAM.out.row.2.2.2 k hlt)
    have HTK:=hid (show (((NL.take (k+1)).map (colOf C[K])).map (Value.int .i64))=(((NL.take k).map (colOf C[K])).map (Value.int .i64)) ++ [.int .i64 (colOf C[K] NL[k])] by
     rw [List.take_succ_eq_append_getElem hlt,List.map_append,List.map_append];rfl)
    obtain ⟨nm,hnm⟩:∃ nm,nm=NL[k]:=⟨_,rfl⟩
    rw [<- hnm] at cn HTK
    clear hnm
    go_upto_region 11 with (fail)
    clear cn q2 q4x
    apply wp_region_growt 8 [61,62,63,64,65,66,67,68]
     [fun _ u _=>u=.pointer (some ⟨W.heap.size,1,none⟩),
      fun _ u _=>u=v,
      fun _ u _=>u=.pointer (some ⟨g,K * 4,none⟩),
      fun _ u _=>u=.pointer (some ⟨g,K * 4,none⟩),
      fun _ u _=>u=.agg #[.int .i64 C[K].id,.string C[K].name,.slice ac C[K].cols.length cc,.slice ai C[K].idx.length ci],
      fun _ u _=>u=.string nm,
      fun _ u _=>u=.int .i64 (colOf C[K] nm),
      fun _ u w'=>NewInt (colOf C[K] nm) u w']
     (Below wr.heap.size wr)
    case hF =>
     intro v
     simp only [setAll,List.foldl_cons,List.foldl_nil,Act.put,List.setIfInBounds_toArray,List.set_cons_succ,List.set_cons_zero]
     exact rfl
    case hm=>kernel_rfl
    case hB=>kernel_rfl
    case hsz=>kernel_rfl
    case hC=>exact fun w1 w2 h b=>h.trans (b.mono h.size)
    case hw=>exact Below.drew b0R
    case hS =>
     intro D hD v u
     simp only [List.mem_cons,List.not_mem_nil,or_false] at hD
     rcases hD with rfl|rfl|rfl|rfl|rfl|rfl|rfl|rfl
     · exact fun w1 w2 h _=>h
     · exact fun w1 w2 h _=>h
     · exact fun w1 w2 h _=>h
     · exact fun w1 w2 h _=>h
     · exact fun w1 w2 h _=>h
     · exact fun w1 w2 h _=>h
     · exact fun w1 w2 h _=>h
     · exact fun w1 w2 h hb=>h.below hb
    case hob =>
     simp only [List.take_succ_cons,List.take_zero]
     apply growt_cons
     · intro v1 w1 h1 hd
       clear hd
       clear h1
       go_wp2_with fail
       first|exact Below.refl _ _|exact ⟨Below.refl _ _,rfl⟩|exact ⟨rfl,Below.refl _ _⟩
     apply growt_cons
     · intro v1 w1 h1 hd
       have g61:v1 61=.pointer (some ⟨W.heap.size,1,none⟩):=hd 0 _ _ _ rfl rfl rfl rfl
       clear hd
       rw [g61]
       have cx:=jC ((h1.block _ (jB XR.out.1)).trans XR.out.1) 1
       simp only [gT,gZ,gS] at cx
       clear g61 h1
       go_wp2_with fail
       first|exact Below.refl _ _|exact ⟨Below.refl _ _,rfl⟩|exact ⟨rfl,Below.refl _ _⟩
     apply growt_cons
     · intro v1 w1 h1 hd
       clear hd
       clear h1
       go_wp2_with fail
       first|exact Below.refl _ _|exact ⟨Below.refl _ _,rfl⟩|exact ⟨rfl,Below.refl _ _⟩
     apply growt_cons
     · intro v1 w1 h1 hd
       have g63:v1 63=.pointer (some ⟨g,K * 4,none⟩):=hd 2 _ _ _ rfl rfl rfl rfl
       clear hd
       rw [g63]
       clear g63 h1
       go_wp2_with fail
       first|exact Below.refl _ _|exact ⟨Below.refl _ _,rfl⟩|exact ⟨rfl,Below.refl _ _⟩
     apply growt_cons
     · intro v1 w1 h1 hd
       have g64:v1 64=.pointer (some ⟨g,K * 4,none⟩):=hd 3 _ _ _ rfl rfl rfl rfl
       clear hd
       rw [g64]
       have t0:=((XR.out.2.2.trans (h1.mono XRS.out)).cell (p:=⟨g,K * 4,none⟩) HGL.out).trans HT4.out.1
       have t1:=((XR.out.2.2.trans (h1.mono XRS.out)).cell (p:=⟨g,K * 4+1,none⟩) HGL.out).trans HT4.out.2.1
       have t2:=((XR.out.2.2.trans (h1.mono XRS.out)).cell (p:=⟨g,K * 4+2,none⟩) HGL.out).trans HT4.out.2.2.1
       have t3:=((XR.out.2.2.trans (h1.mono XRS.out)).cell (p:=⟨g,K * 4+3,none⟩) HGL.out).trans HT4.out.2.2.2
       clear g64 h1
       go_wp2_with fail
       first|exact Below.refl _ _|exact ⟨Below.refl _ _,rfl⟩|exact ⟨rfl,Below.refl _ _⟩
     apply growt_cons
     · intro v1 w1 h1 hd
       clear hd
       clear h1
       go_wp2_with fail
       first|exact Below.refl _ _|exact ⟨Below.refl _ _,rfl⟩|exact ⟨rfl,Below.refl _ _⟩
     apply growt_cons
     · intro v1 w1 h1 hd
       have g65:v1 65=.agg #[.int .i64 C[K].id,.string C[K].name,.slice ac C[K].cols.length cc,.slice ai C[K].idx.length ci]:=hd 4 _ _ _ rfl rfl rfl rfl
       have g66:v1 66=.string nm:=hd 5 _ _ _ rfl rfl rfl rfl
       clear hd
       rw [g65,g66]
       have con:=pcol_any (HTV.out.below (XR.out.2.2.trans (h1.mono XRS.out))) HCL.out nm
       obtain ⟨z,hz⟩:∃ z,colOf C[K] nm=z:=⟨_,rfl⟩
       rw [hz] at con ⊢
       clear g65 g66 h1 hz
       go_wp2_with fail
       refine con.mono ?_
       rintro e w2 ⟨rfl,b2⟩
       have B2:=hid b2
       clear con b2
       go_wp2_with fail
       first|exact B2.out|exact ⟨B2.out,rfl⟩|exact ⟨rfl,B2.out⟩
     apply growt_cons
     · intro v1 w1 h1 hd
       have g67:v1 67=.int .i64 (colOf C[K] nm):=hd 6 _ _ _ rfl rfl rfl rfl
       clear hd
       rw [g67]
       obtain ⟨z,hz⟩:∃ z,colOf C[K] nm=z:=⟨_,rfl⟩
       rw [hz]
       clear g67 h1 hz
       go_wp2_with fail
       have hb3:Below w1.heap.size w1 (w1.alloc (.cells #[.int .i64 z] 3)):=(b0R).alloc (jR _) _
       first|exact ⟨hb3,w1.heap.size,rfl,heap_alloc_new _ _⟩|exact ⟨⟨w1.heap.size,rfl,heap_alloc_new _ _⟩,hb3⟩
     exact growt_nil
    case hend =>
     intro v1 w7 h1 hd
     have g62:v1 62=v:=hd 1 _ _ _ rfl rfl rfl
     obtain ⟨gn,g68,hgn⟩:NewInt (colOf C[K] nm) (v1 68) w7:=hd 7 _ _ _ rfl rfl rfl
     clear hd
     rw [g62,g68]
     have X7:=hid (XR.out.below h1)
     have hs7:=X7.out.2.2.size
     have HGN:=hid hgn
     have hsz1:W.heap.size+1<=w7.heap.size:=jB X7.out.1
     clear h1 g62 g68 hgn
     generalize v1 61=y1,v1 63=y2,v1 64=y3,v1 65=y4,v1 66=y5,v1 67=y6
     obtain ⟨xs,hxs⟩:∃ xs,xs=(((NL.take k).map (colOf C[K])).map (Value.int .i64)):=⟨_,rfl⟩
     rw [<- hxs] at X7 HTK
     obtain ⟨zc,hzc⟩:∃ zc,zc=colOf C[K] nm:=⟨_,rfl⟩
     rw [<- hzc] at HGN HTK
     clear hxs hzc
     simp only [List.drop_succ_cons,List.drop_zero]
     refine wpList_append_own_at _ rfl _ _ 37 rfl (W.heap.size+1) 3 i1 _ 1 8 Tryz.underlying37 hi1 hz01 hz11 hz21 rfl (by decide) v k xs rfl X7.out.2.1 ⟨gn,0,none⟩ 1 1 [.int .i64 zc] rfl rfl (fun j u hj=>by rw [addr_add,jC HGN.out];simpa using hj) (fun u hu=>by rw [List.mem_singleton.1 hu];rfl) (by unfold maxLen;omega) (by omega) (by omega) ?_
     intro v' w8 o1 g1 hx1 at1
     clear hx1 at1
     obtain ⟨va,vc,hv',_⟩:=owns_shape' o1
     subst hv'
     have hb8:=(g1.block _ (jB X7.out.1) (row_not X7.out.1 X7.out.2.1 (by decide))).trans X7.out.1
     have N8:=hid (show _/\_/\_ from ⟨o1,hb8,X7.out.2.2.grown g1 hs7 (fun j hj=>by have:=(X7.out.2.1.lt j hj).1;omega)⟩)
     have k8:=jC hb8 1
     have f8:=free_of hb8 1
     simp only [gT,gZ,gS] at k8
     clear o1 g1 hb8
     go_wp2_with fail
     go_roundw
     case rel =>
      refine ⟨k+1,.slice va (k+1) vc,by omega,by go_num,?_⟩
      rw [HTK.out]
      exact ⟨(heap_setCell_same _ _ _ _ _ _ N8.out.2.1).trans rfl,owns_set N8.out.1 (by simp),N8.out.2.2.setCell (p:=⟨W.heap.size,1,none⟩) (jR _) _⟩
     case measure=>simp [intOf];omega
  · have hkn:k=NL.length:=by omega
    subst hkn
    have XE:=hid (show XAt W s.name rt v NL.length ((NL.map (colOf C[K])).map (.int .i64)) wr from by have:=XR.out;rwa [List.take_length] at this)
    clear XR XRS
    obtain ⟨xa,xc,rfl,_⟩:=owns_shape' XE.out.2.1
    have HIC:=hid (show ixCols C[K] s=NL.map (colOf C[K]) by unfold ixCols;rw [HNL.out])
    go_upto_region 14 with (fail)
    generalize hY:World.alloc _ _=V
    have hbV:Below wr.heap.size wr V:=by rw [<- hY];exact (b0R).alloc (jR _) _
    have hsV:V.heap[wr.heap.size]? = some (.cells #[.func (.func 103) #[] #[.pointer (some ⟨w.heap.size,0,none⟩)]] 145 (0,0)):=by rw [<- hY];exact heap_alloc_new _ _
    have SMV:=hid hsV
    have XV:=hid (XE.out.below hbV)
    have x1:=jC XV.out.1 1
    simp only [gT,gZ,gS] at x1
    clear hY hbV hsV XE q2 q4x XA0
    have hcl:(NL.map (colOf C[K])).length=NL.length:=List.length_map _
    have con:=neg_any (c:=xc) (a:=xa) (ints_owned (L:=NL.map (colOf C[K])) (v:=.slice xa NL.length xc) (by rw [hcl];exact XV.out.2.1) (by rw [hcl];omega) |> fun h=>by rw [hcl];exact h)
    rw [hcl] at con
    go_wp2_with fail
    refine con.mono ?_
    rintro e w3 ⟨rfl,rfl⟩
    clear con
    have BV:=hid (B2.out.trans (XV.out.2.2.mono B2.out.size))
    cases h5:anyNeg (NL.map (colOf C[K]))
    case true =>
     have HX:=hid (HERR.out 50 (by rw [HGO.out,if_neg (by omega),HIC.out,if_pos h5]) (by decide) _ BV.out)
     go_wp2_with fail
     exact HX.out
    have SZ:=hid (show ∀ x ∈ NL,x.size<=maxLen from fun x hx=>by
     have h6:=(List.any_eq_false.1 h5) (colOf C[K] x) (List.mem_map.2 ⟨x,hx,rfl⟩)
     have h7:=colOf_lt C[K] x
     obtain ⟨i,hi,_,h8,_⟩:=idxOf_spec (fun c=>sEq c.1 x) C[K].cols (by simp at h6;unfold colOf at h6 h7;omega)
     rw [<- (sEq_iff _ _).1 h8]
     exact HNM.out _ (List.getElem_mem hKC) _ (List.getElem_mem hi))
    have HQV:=cy XV.out.2.2 HQ2
    have con:=twice_any (HNAM.out.below BV.out) SZ.out hnl2
    have q4:=jC HQV.out 4
    simp only [gT,gZ,gS] at q4
    rw [<- HNL.out] at q4
    clear x1 SZ
    go_wp2_with fail
    refine con.mono ?_
    rintro e w4 ⟨rfl,b4⟩
    have B4:=hid (BV.out.trans (b4.mono BV.out.size))
    have W4:=hid (XV.out.2.2.trans (b4.mono XV.out.2.2.size))
    have X4:=hid (XV.out.below b4)
    have S4:=cy b4 SMV
    clear con b4 q4 HQV SMV XV
    cases h6:twiceB NL
    case true =>
     have HX:=hid (HERR.out 51 (by rw [HGO.out,if_neg (by omega),HIC.out,h5,<- HNL.out,h6];rfl) (by decide) _ B4.out)
     go_wp2_with fail
     exact HX.out
    have HQ4:=cy W4.out HQ2
    have HB4:=cy W4.out HCAT
    have con:=dup_any (q:=w.heap.size) (sm:=wr.heap.size) (nm:=s.name) (c:=cg) (a:=some ⟨g,0,none⟩) (C:=C) (w:=w4) (p:=fun k=>B<=k) (by
     obtain ⟨a',c',e1,e2⟩:=(HC.out.below B4.out).sl HSM.out
     rw [HB4.out] at e1
     simp only [Option.some.injEq,Obj.cells.injEq,and_true,Array.mk.injEq,List.cons.injEq] at e1
     rw [e1]
     exact e2) (by have:=jC HQ4.out 2;simpa using this) (by have:=jC S4.out 0;simpa using this)
    have kb:=jC HB4.out 0
    have ks:=jC S4.out 0
    simp only [gT,gZ,gS] at kb ks
    obtain ⟨f,hf⟩:∃ f,(C.any fun t=>t.idx.any fun i=>sEq i.name s.name)=f:=⟨_,rfl⟩
    rw [hf] at con HGO
    clear hf
    go_wp2_with fail
    refine con.mono ?_
    rintro e w5 ⟨rfl,b5⟩
    have B5:=hid (B4.out.trans (b5.mono B4.out.size))
    have W5:=hid (W4.out.trans (b5.mono W4.out.size))
    have X5:=hid (X4.out.below b5)
    clear con b5 kb ks HQ4 HB4 S4 X4 W4 B4
    cases f
    case true =>
     have HX:=hid (HERR.out 51 (by rw [HGO.out,if_neg (by omega),HIC.out,h5,<- HNL.out,h6];rfl) (by decide) _ B5.out)
     go_wp2_with fail
     exact HX.out
    have HT3:=hid ((W5.out.cell (p:=⟨g,K * 4+3,none⟩) HGL.out).trans HT4.out.2.2.2)
    have t3:=HT3.out
    by_cases h8:C[K].idx.length=4
    · have HX:=hid (HERR.out 2 (by rw [HGO.out,if_neg (by omega),HIC.out,h5,<- HNL.out,h6,if_pos h8];rfl) (by decide) _ B5.out)
      have d8:decide (C[K].idx.length=4)=true:=decide_eq_true h8
      go_wp2_with fail
      exact HX.out
    have HOK:=hid (show indexE C s rt=0 by rw [HGO.out,if_neg (by omega),HIC.out,h5,<- HNL.out,h6,if_neg h8];rfl)
    have d8:decide (C[K].idx.length=4)=false:=decide_eq_false h8
    go_upto_region 20 with (fail)
    clear t3 d8 HERR HGO
    obtain ⟨V5,hV5⟩:∃ V5,V5=w5:=⟨_,rfl⟩
    rw [<- hV5] at B5 W5 X5 HT3 ⊢
    clear hV5
    have XW:=hid X5.out.1
    have HGW:=hid (jL HGL.out W5.out.size)
    apply wp_region_growt 6 [96,97,98,99,100,101]
     [fun _ u _=>u=.pointer (some ⟨g,K * 4,none⟩),
      fun _ u _=>u=.pointer (some ⟨g,K * 4,none⟩),
      fun _ u _=>u=.pointer (some ⟨g,K * 4+3,none⟩),
      fun _ u _=>u=.slice ai C[K].idx.length ci,
      fun _ u _=>u=.agg #[.string s.name,.slice xa NL.length xc,.int .i64 rt],
      fun _ u w'=>NewIx s.name (.slice xa NL.length xc) rt u w']
     (Below V5.heap.size V5)
    case hF =>
     intro v
     simp only [setAll,List.foldl_cons,List.foldl_nil,Act.put,List.setIfInBounds_toArray,List.set_cons_succ,List.set_cons_zero]
     exact rfl
    case hm=>kernel_rfl
    case hB=>kernel_rfl
    case hsz=>kernel_rfl
    case hC=>exact fun w1 w2 h b=>h.trans (b.mono h.size)
    case hw=>exact Below.drew b0R
    case hS =>
     intro D hD v u
     simp only [List.mem_cons,List.not_mem_nil,or_false] at hD
     rcases hD with rfl|rfl|rfl|rfl|rfl|rfl
     · exact fun w1 w2 h _=>h
     · exact fun w1 w2 h _=>h
     · exact fun w1 w2 h _=>h
     · exact fun w1 w2 h _=>h
     · exact fun w1 w2 h _=>h
     · exact fun w1 w2 h hb=>h.below hb
    case hob =>
     simp only [List.take_succ_cons,List.take_zero]
     apply growt_cons
     · intro v1 w1 h1 hd
       clear hd
       clear h1
       go_wp2_with fail
       first|exact Below.refl _ _|exact ⟨Below.refl _ _,rfl⟩|exact ⟨rfl,Below.refl _ _⟩
     apply growt_cons
     · intro v1 w1 h1 hd
       have g96:v1 96=.pointer (some ⟨g,K * 4,none⟩):=hd 0 _ _ _ rfl rfl rfl rfl
       clear hd
       rw [g96]
       clear g96 h1
       go_wp2_with fail
       first|exact Below.refl _ _|exact ⟨Below.refl _ _,rfl⟩|exact ⟨rfl,Below.refl _ _⟩
     apply growt_cons
     · intro v1 w1 h1 hd
       have g97:v1 97=.pointer (some ⟨g,K * 4,none⟩):=hd 1 _ _ _ rfl rfl rfl rfl
       clear hd
       rw [g97]
       clear g97 h1
       go_wp2_with fail
       first|exact Below.refl _ _|exact ⟨Below.refl _ _,rfl⟩|exact ⟨rfl,Below.refl _ _⟩
     apply growt_cons
     · intro v1 w1 h1 hd
       have g98:v1 98=.pointer (some ⟨g,K * 4+3,none⟩):=hd 2 _ _ _ rfl rfl rfl rfl
       clear hd
       rw [g98]
       have t3:=(h1.cell (p:=⟨g,K * 4+3,none⟩) HGW.out).trans HT3.out
       clear g98 h1
       go_wp2_with fail
       first|exact Below.refl _ _|exact ⟨Below.refl _ _,rfl⟩|exact ⟨rfl,Below.refl _ _⟩
     apply growt_cons
     · intro v1 w1 h1 hd
       clear hd
       have hx:=(h1.block _ (jB XW.out)).trans XW.out
       have x0:=jC hx 0
       have x1:=jC hx 1
       have x2:=jC hx 2
       simp only [gT,gZ,gS] at x0 x1 x2
       clear hx
       clear h1
       go_wp2_with fail
       first|exact Below.refl _ _|exact ⟨Below.refl _ _,rfl⟩|exact ⟨rfl,Below.refl _ _⟩
     apply growt_cons
     · intro v1 w1 h1 hd
       have g100:v1 100=.agg #[.string s.name,.slice xa NL.length xc,.int .i64 rt]:=hd 4 _ _ _ rfl rfl rfl rfl
       clear hd
       rw [g100]
       clear g100 h1
       go_wp2_with fail
       have hb3:Below w1.heap.size w1 (w1.alloc (.cells #[.string s.name,.slice xa NL.length xc,.int .i64 rt] 93)):=(b0R).alloc (jR _) _
       first|exact ⟨hb3,w1.heap.size,rfl,heap_alloc_new _ _⟩|exact ⟨⟨w1.heap.size,rfl,heap_alloc_new _ _⟩,hb3⟩
     exact growt_nil
    case hend =>
     intro v1 w7 h1 hd
     have g99:v1 99=.slice ai C[K].idx.length ci:=hd 3 _ _ _ rfl rfl rfl
     obtain ⟨gn,g101,hgn⟩:NewIx s.name (.slice xa NL.length xc) rt (v1 101) w7:=hd 5 _ _ _ rfl rfl rfl
     clear hd
     rw [g99,g101]
     have H17:=hid (W5.out.trans (h1.mono W5.out.size))
     have B7:=hid (B5.out.trans (h1.mono B5.out.size))
     have X7:=hid (X5.out.below h1)
     have T7:=hid ((h1.cell (p:=⟨g,K * 4+3,none⟩) HGW.out).trans HT3.out)
     have HGN:=hid hgn
     clear h1 g99 g101 hgn
     generalize v1 96=y1,v1 97=y2,v1 98=y3,v1 100=y4
     obtain ⟨hl,hown,hpar,hap,hvk⟩:=HREST.out
     have hkv:K<vs.length:=by omega
     have hix:=(hpar K hKC hkv).2
     rw [hvk hkv] at hix
     obtain ⟨us,hul,hu,hup⟩:=hix
     have HCAT7:=cy H17.out HCAT
     have OW7:=hid (owns_below hown H17.out)
     have PA7:=hid (hpar.below H17.out)
     have HU7:=hid (owns_below hu H17.out)
     have UP7:=hid (hup.below H17.out)
     have AP:=hid hap
     have HL:=hid (show _/\_ from ⟨hl,hul⟩)
     have HVK:=hid (hvk hkv)
     have hs7:W.heap.size<=w7.heap.size:=H17.out.size
     have hsw:w.heap.size<=W.heap.size:=B2.out.size
     have hi4:C[K].idx.length<=1000000:=(HSM.out.2 _ (List.getElem_mem hKC)).2.1
     clear hl hown hpar hap hvk hul hu hup
     simp only [List.drop_succ_cons,List.drop_zero]
     refine wpList_append_own_at _ rfl _ _ 88 rfl B 93 i0 _ 3 48 Tryz.underlying88 hi hz0 hz1 hz2 rfl (by decide) (.slice ai C[K].idx.length ci) C[K].idx.length _ rfl HU7.out ⟨gn,0,none⟩ 1 1 [.string s.name,.slice xa NL.length xc,.int .i64 rt] rfl rfl (fun j u hj=>by rw [addr_add,jC HGN.out];simpa using hj) (fun u hu=>by simp only [List.mem_cons,List.not_mem_nil,or_false] at hu;rcases hu with rfl|rfl|rfl <;> rfl) (by unfold maxLen;omega) (by omega) (by omega) ?_
     intro v' w8 o1 g1 hx1 at1
     clear hx1
     obtain ⟨va,vc,hv',_⟩:=owns_shape' o1
     subst hv'
     obtain ⟨cur,hgb⟩:∃ cur:Array Value,w7.heap[g]? = some (.cells cur 90 (0,0)):=by
      rcases OW7.out.2 with ⟨e,_⟩|⟨g',cap',cur,e,_,hg,_⟩
      · cases e
      · simp only [Value.slice.injEq,Option.some.injEq,Addr.mk.injEq] at e
        obtain ⟨⟨rfl,_⟩,_⟩:=e
        exact ⟨cur,hg⟩
     have hg8:=g1.block g (jB hgb) (row_not hgb HU7.out (by decide))
     have t8:=(World.cell?_of_block (a:=⟨g,K * 4+3,none⟩) hg8).trans T7.out
     have f8:=free_of (hg8.trans hgb) (K * 4+3)
     have N8:=hid (show _/\_/\_ from ⟨o1,g1,at1⟩)
     clear o1 g1 at1 hgb hg8
     go_wp2_with fail
     rw [HPST.out,HOK.out,if_pos rfl]
     have hx:=owns_base (base':=B) (owns_below X7.out.2.1 b0R) (show B<=W.heap.size+1 by omega)
     have e1:(NL.map (colOf C[K])).length=NL.length:=List.length_map _
     obtain ⟨r1,r2⟩:=catAt_ix (x:=⟨s.name,NL.map (colOf C[K]),rt⟩) (xv:=.slice xa NL.length xc) (Nat.le_trans HC.out.1 (jR _)) HL.out.1 HCAT7.out OW7.out PA7.out AP.out.1 AP.out.2 (fun k hk hx=>by
      rcases N8.out.2.2 with e|e
      · exact AP.out.2.ix K hkv k (by rw [HVK.out];exact e ▸ hk) hx
      · rw [e] at hk
        have h1:=HX0.out k hx
        simp only [Option.some.injEq] at hk
        omega) hKC hkv HL.out.2 (by rw [HVK.out];exact HU7.out) UP7.out (by rw [e1];exact hx) N8.out.1 (by rw [HVK.out];exact N8.out.2.1) (by rw [HVK.out];exact N8.out.2.2)
     have e2:indexT C s rt=C.modify K fun t=>{ t with idx:=t.idx ++ [⟨s.name,NL.map (colOf C[K]),rt⟩] }:=by
      unfold indexT
      rw [HN.out,Int.toNat_natCast,modify_eq_set _ hKC,modify_eq_set _ hKC]
      unfold ixCols
      rw [HNL.out]
     rw [e2]
     exact ⟨rfl,((B7.out.mono hB).grown N8.out.2.1 (by omega) (fun k hk=>(HU7.out.lt k hk).1)).setCell (p:=⟨g,K * 4+3,none⟩) r2 _,fun k hk=>by
      have hkw:=HX0.out k hk
      have e1:k ≠ g:=fun e=>AP.out.2.tab k (by rw [e];rfl) hk
      rw [heap_setCell_other _ _ _ _ (by exact e1),N8.out.2.1.block k (by omega) (fun e=>AP.out.2.ix K hkv k (by rw [HVK.out];exact e.symm) hk),B7.out.block k hkw],r1⟩
end
end Go.Proofs.YtjcpccadmcglgaaGreatDoor
