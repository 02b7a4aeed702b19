/- (*Catalog).rename. -/
import Derived.Test.YtjcpccadmcglgaaGreatDoorZK25
import Derived.Test.YtjcpccadmcglgaaGreatDoorZK22
import Derived.Test.YtjcpccadmcglgaaGreatDoorZK11
import Derived.Laws.EntriesVeiled
set_option linter.unusedVariables false
set_option linter.unusedSimpArgs false
set_option maxRecDepth 100000
set_option maxHeartbeats 64000000
namespace Go.Proofs.YtjcpccadmcglgaaGreatDoor
open Go.Lib (hid)
section
open Go.RowKit
theorem re_named {C:List Tab} {s:Stmt} (h:namedB s.join=false):renameE C s=1:=by unfold renameE;simp [h]
theorem re_go {C:List Tab} {s:Stmt} (h:namedB s.join=true):renameE C s=if findT C s.table<0 then 50
 else if colOf (tabAt C (findT C s.table)) s.name<0 then 50
 else if 0<=colOf (tabAt C (findT C s.table)) s.join then 51 else 0:=by
 unfold renameE
 rw [h,if_neg (by simp)]
theorem crename_any {p X:Nat->Prop} {B b:Nat} {C:List Tab} {s:Stmt} {sv:Value} {z:Int} {w:World} (hC:CatAt B X b C w) (hX:∀ k,X k->k<w.heap.size) (hS:TabsSmall C) (hs:StmtV p w sv s) (hB:B<=w.heap.size) :
 Calls Tryz.prog 54 #[.pointer (some ⟨b,0,none⟩),sv,.int .i64 z] w fun e w'=>CatPost B X b w (renameE C s,if renameE C s=0 then renameT C s else C) e w':=by
 obtain ⟨a3,c3,a4,c4,a5,c5,a6,c6,a7,c7,a12,c12,rfl,_,_,_,_,_,_⟩:=hs
 have HC:=hid hC
 obtain ⟨a,c,hcb,hsl⟩:=hC.sl hS
 have HCB:=hid hcb
 have HSL:=hid hsl
 have HSM:=hid hS
 have HERR:=hid (fun (k:Int) (hk:renameE C s=k) (hk0:k ≠ 0) (w':World) (hb:Below w.heap.size w w')=>CatPost.err (r:=(renameE C s,if renameE C s=0 then renameT C s else C)) hC hX (by rw [if_neg (by rw [hk];exact hk0),hk]) hB hb)
 obtain ⟨Pst,hPst⟩:∃ Pst,Pst=CatPost B X b w (renameE C s,if renameE C s=0 then renameT C s else C):=⟨_,rfl⟩
 rw [<- hPst] at HERR ⊢
 have HPST:=hid hPst
 have hlC:C.length<=1000000:=hS.1
 have HX0:=hid hX
 clear hPst hC hS hcb hsl hX
 go_enter Tryz.func54,Tryz.ntmps54
 go_upto_region 1 with (fail)
 generalize hW:World.alloc _ _=W1
 have hA':allocs w [_]=W1:=hW
 have hq:W1.heap[w.heap.size]? = some (.cells #[.int .i64 s.kind,.string s.table,.string s.name,.slice a3 s.cols.length c3,.slice a4 s.names.length c4,.slice a5 s.row.length c5,.slice a6 s.sets.length c6,.slice a7 s.wher.length c7,.string s.join,.string s.left,.string s.right,.int .i64 s.agg,.slice a12 s.order.length c12,.int .i64 s.mode,.int .i64 s.n] 33 (0,0)):=allocs_get hA' 0 rfl
 have hb:=allocs_self hA'
 have B1:=hid hb
 have HQ:=hid hq
 have q8:=jC hq 8
 simp only [gT,gZ,gS] at q8
 clear hA' hW hq hb
 go_wp2_with fail
 refine (cnamed_any s.join _).mono ?_
 rintro e w2' ⟨rfl,rfl⟩
 cases h1:namedB s.join
 case false =>
  have HX:=hid (HERR.out 1 (re_named h1) (by decide) _ B1.out)
  go_wp2_with fail
  exact HX.out
 have HGO:=hid (re_go (C:=C) h1)
 clear h1
 go_upto_region 3 with (fail)
 have q1:=jC HQ.out 1
 simp only [gT,gZ,gS] at q1
 have HB1:=cy B1.out HCB
 obtain ⟨n,hn⟩:∃ n,findT C s.table=n:=⟨_,rfl⟩
 have con:=cfind_any HB1.out (HSL.out.below B1.out) s.table
 rw [hn] at con
 rw [hn] at HGO
 have HBD:=hid (hn ▸ findT_lt C s.table)
 have HN:=hid hn
 clear hn
 go_wp2_with fail
 refine con.mono ?_
 rintro e w2 ⟨rfl,b2⟩
 have B2:=hid (B1.out.trans (b2.mono B1.out.size))
 have hq2:=(b2.block _ (jB HQ.out)).trans HQ.out
 have HQ2:=hid hq2
 clear con b2 hq2 q1 q8 HB1
 by_cases hn0:n<0
 · have HX:=hid (HERR.out 50 (by rw [HGO.out,if_pos hn0]) (by decide) _ B2.out)
   go_wp2_with fail
   exact HX.out
 obtain ⟨K,rfl⟩:∃ K:Nat,n=K:=⟨n.toNat,by omega⟩
 have hKC:K<C.length:=by have:=HBD.out.2;omega
 have hta:tabAt C (K:Int)=C[K]:=by
  unfold tabAt
  rw [Int.toNat_natCast,List.getD_eq_getElem?_getD,List.getElem?_eq_getElem hKC];rfl
 rw [hta] at HGO
 obtain ⟨g,cg,vs,ac,cc,ai,ci,hl,hcat,hown,hpar,hap,hgl,hvk,ht4,htv⟩:=(HC.out.below B2.out).tab HSM.out hKC
 have HCAT:=hid hcat
 have HT4:=hid ht4
 have HTV:=hid htv
 have HGL:=hid hgl
 have HREST:=hid (show _/\_/\_/\_/\_ from ⟨hl,hown,hpar,hap,hvk⟩)
 have HCL:=hid (HSM.out.2 _ (List.getElem_mem hKC)).1
 have cb:=jC hcat 0
 simp only [gT,gZ,gS] at cb
 clear hcat ht4 htv hgl hl hown hpar hap hvk hta HBD
 have hn1:¬ (K:Int)<0:=by omega
 go_upto_region 7 with (fail)
 obtain ⟨W,hWW⟩:∃ W,W=w2:=⟨_,rfl⟩
 rw [<- hWW] at HQ2 B2 HCAT HT4 HTV HGL HREST cb ⊢
 clear hWW cb
 obtain ⟨z1,hz1⟩:∃ z1,colOf C[K] s.name=z1:=⟨_,rfl⟩
 have HZ1:=hid hz1
 have HZB:=hid (hz1 ▸ colOf_lt C[K] s.name)
 clear hz1
 refine wp_region_class (Below W.heap.size W) (by kernel_rfl) (by kernel_rfl) (Below.drew b0R) (fun ne=>?_)
 have t0:=fun x:Wld (Below W.heap.size W)=>(x.good.cell (p:=⟨g,K * 4,none⟩) HGL.out).trans HT4.out.1
 have t1:=fun x:Wld (Below W.heap.size W)=>(x.good.cell (p:=⟨g,K * 4+1,none⟩) HGL.out).trans HT4.out.2.1
 have t2:=fun x:Wld (Below W.heap.size W)=>(x.good.cell (p:=⟨g,K * 4+2,none⟩) HGL.out).trans HT4.out.2.2.1
 have t3:=fun x:Wld (Below W.heap.size W)=>(x.good.cell (p:=⟨g,K * 4+3,none⟩) HGL.out).trans HT4.out.2.2.2
 have q2:=fun x:Wld (Below W.heap.size W)=>jC ((x.good.block _ (jB HQ2.out)).trans HQ2.out) 2
 simp only [gT,gZ,gS] at q2
 repeat (go_big_quiet_step ((go_at_call 102;(with_reducible refine Calls.mono (pcol_any (HTV.out.below (Wld.good _)) HCL.out s.name) ?_);rintro e w3 ⟨rfl,b3⟩;exact ⟨congrArg (fun z=>Ending.returned (Value.int .i64 z)) HZ1.out,class_below _ b3 (jR _)⟩)))
 refine wpQuiet_nil ?_
 intro w3 b3
 have W3:=hid b3
 clear b3 t0 t1 t2 t3 q2 ne
 have B3:=hid (B2.out.trans (W3.out.mono B2.out.size))
 by_cases hz0:z1<0
 · have HX:=hid (HERR.out 50 (by rw [HGO.out,if_neg (by omega),HZ1.out,if_pos hz0]) (by decide) _ B3.out)
   have d0:decide (z1<0)=true:=decide_eq_true hz0
   go_wp2_with fail
   exact HX.out
 have d0:decide (z1<0)=false:=decide_eq_false hz0
 obtain ⟨N,rfl⟩:∃ N:Nat,z1=N:=⟨z1.toNat,by omega⟩
 go_upto_region 10 with (fail)
 obtain ⟨z2,hz2⟩:∃ z2,colOf C[K] s.join=z2:=⟨_,rfl⟩
 have HZ2:=hid hz2
 clear hz2
 refine wp_region_class (Below w3.heap.size w3) (by kernel_rfl) (by kernel_rfl) (Below.drew b0R) (fun ne=>?_)
 have wb:=fun x:Wld (Below w3.heap.size w3)=>W3.out.trans (x.good.mono W3.out.size)
 have WB:=hid wb
 have t0:=fun x:Wld (Below w3.heap.size w3)=>((WB.out x).cell (p:=⟨g,K * 4,none⟩) HGL.out).trans HT4.out.1
 have t1:=fun x:Wld (Below w3.heap.size w3)=>((WB.out x).cell (p:=⟨g,K * 4+1,none⟩) HGL.out).trans HT4.out.2.1
 have t2:=fun x:Wld (Below w3.heap.size w3)=>((WB.out x).cell (p:=⟨g,K * 4+2,none⟩) HGL.out).trans HT4.out.2.2.1
 have t3:=fun x:Wld (Below w3.heap.size w3)=>((WB.out x).cell (p:=⟨g,K * 4+3,none⟩) HGL.out).trans HT4.out.2.2.2
 have q8:=fun x:Wld (Below w3.heap.size w3)=>jC (((WB.out x).block _ (jB HQ2.out)).trans HQ2.out) 8
 simp only [gT,gZ,gS] at q8
 clear wb
 repeat (go_big_quiet_step ((go_at_call 102;(with_reducible refine Calls.mono (pcol_any (HTV.out.below (WB.out _)) HCL.out s.join) ?_);rintro e w3 ⟨rfl,b3⟩;exact ⟨congrArg (fun z=>Ending.returned (Value.int .i64 z)) HZ2.out,class_below _ b3 (jR _)⟩)))
 refine wpQuiet_nil ?_
 intro w4 b4
 have W4:=hid (W3.out.trans (b4.mono W3.out.size))
 clear b4 t0 t1 t2 t3 q8 ne WB
 have B4:=hid (B2.out.trans (W4.out.mono B2.out.size))
 by_cases hz3:0<=z2
 · have HX:=hid (HERR.out 51 (by rw [HGO.out,if_neg (by omega),HZ1.out,if_neg (by omega),HZ2.out,if_pos hz3]) (by decide) _ B4.out)
   have d3:decide (0<=z2)=true:=decide_eq_true hz3
   go_wp2_with fail
   exact HX.out
 have d3:decide (0<=z2)=false:=decide_eq_false hz3
 have HOK:=hid (show renameE C s=0 by rw [HGO.out,if_neg (by omega),HZ1.out,if_neg (by omega),HZ2.out,if_neg hz3])
 go_upto_region 12 with (fail)
 clear d0 d3 HERR HGO
 obtain ⟨V,hV⟩:∃ V,V=w4:=⟨_,rfl⟩
 rw [<- hV] at W4 B4 ⊢
 clear hV
 obtain ⟨hl,hown,hpar,hap,hvk⟩:=HREST.out
 have hkv:K<vs.length:=by omega
 have hcol:=(hpar K hKC hkv).1
 rw [hvk hkv] at hcol
 have hNC:N<C[K].cols.length:=by have:=HZB.out.2;omega
 obtain ⟨gc,rfl,hgcb⟩:∃ gc,ac=some ⟨gc,0,none⟩/\gc<W.heap.size:=by
  rcases World.ownsRow.lt hcol with hlt
  rcases hcol.2 with ⟨_,e⟩|⟨gc,cap,cur,e,_,hg,_⟩
  · omega
  · simp only [Value.slice.injEq] at e
    exact ⟨gc,e.1,jB hg⟩
 have HGV:=hid (jL HGL.out W4.out.size)
 have HT2:=hid ((W4.out.cell (p:=⟨g,K * 4+2,none⟩) HGL.out).trans HT4.out.2.2.1)
 have HQV:=cy W4.out HQ2
 have CO:=hid hcol
 have HL:=hid hl
 have HO:=hid hown
 have HPA:=hid hpar
 have HAP:=hid hap
 have HVK:=hid (hvk hkv)
 clear hl hown hpar hap hvk hcol
 apply wp_region_growt 9 [43,44,45,46,47,48,49,50,51]
  [fun _ u _=>u=.pointer (some ⟨g,K * 4,none⟩),
   fun _ u _=>u=.pointer (some ⟨g,K * 4,none⟩),
   fun _ u _=>u=.pointer (some ⟨g,K * 4+2,none⟩),
   fun _ u _=>u=.slice (some ⟨gc,0,none⟩) C[K].cols.length cc,
   fun _ u _=>u=.int .i64 (N:Int),
   fun _ u _=>u=.pointer (some ⟨w.heap.size,8,none⟩),
   fun _ u _=>u=.string s.join,
   fun _ u _=>u=.pointer (some ⟨gc,N * 2,none⟩),
   fun _ u _=>u=.pointer (some ⟨gc,N * 2,none⟩)]
  (Below V.heap.size V)
 case hF =>
  intro v
  simp only [setAll,List.foldl_cons,List.foldl_nil,Act.put,List.setIfInBounds_toArray,List.set_cons_succ,List.set_cons_zero]
  exact rfl
 case hm=>kernel_rfl
 case hB=>kernel_rfl
 case hsz=>kernel_rfl
 case hC=>exact fun w1 w2 h b=>h.trans (b.mono h.size)
 case hw=>exact Below.drew b0R
 case hS =>
  intro D hD v u
  simp only [List.mem_cons,List.not_mem_nil,or_false] at hD
  rcases hD with rfl|rfl|rfl|rfl|rfl|rfl|rfl|rfl|rfl
  · exact fun w1 w2 h _=>h
  · exact fun w1 w2 h _=>h
  · exact fun w1 w2 h _=>h
  · exact fun w1 w2 h _=>h
  · exact fun w1 w2 h _=>h
  · exact fun w1 w2 h _=>h
  · exact fun w1 w2 h _=>h
  · exact fun w1 w2 h _=>h
  · exact fun w1 w2 h _=>h
 case hob =>
  simp only [List.take_succ_cons,List.take_zero]
  apply growt_cons
  · intro v w1 h1 hd
    clear hd
    clear h1
    go_wp2_with fail
    first|exact Below.refl _ _|exact ⟨Below.refl _ _,rfl⟩|exact ⟨rfl,Below.refl _ _⟩
  apply growt_cons
  · intro v w1 h1 hd
    have g43:v 43=.pointer (some ⟨g,K * 4,none⟩):=hd 0 _ _ _ rfl rfl rfl rfl
    clear hd
    rw [g43]
    clear g43 h1
    go_wp2_with fail
    first|exact Below.refl _ _|exact ⟨Below.refl _ _,rfl⟩|exact ⟨rfl,Below.refl _ _⟩
  apply growt_cons
  · intro v w1 h1 hd
    have g44:v 44=.pointer (some ⟨g,K * 4,none⟩):=hd 1 _ _ _ rfl rfl rfl rfl
    clear hd
    rw [g44]
    clear g44 h1
    go_wp2_with fail
    first|exact Below.refl _ _|exact ⟨Below.refl _ _,rfl⟩|exact ⟨rfl,Below.refl _ _⟩
  apply growt_cons
  · intro v w1 h1 hd
    have g45:v 45=.pointer (some ⟨g,K * 4+2,none⟩):=hd 2 _ _ _ rfl rfl rfl rfl
    clear hd
    rw [g45]
    have t2:=(h1.cell (p:=⟨g,K * 4+2,none⟩) HGV.out).trans HT2.out
    clear g45 h1
    go_wp2_with fail
    first|exact Below.refl _ _|exact ⟨Below.refl _ _,rfl⟩|exact ⟨rfl,Below.refl _ _⟩
  apply growt_cons
  · intro v w1 h1 hd
    clear hd
    clear h1
    go_wp2_with fail
    first|exact Below.refl _ _|exact ⟨Below.refl _ _,rfl⟩|exact ⟨rfl,Below.refl _ _⟩
  apply growt_cons
  · intro v w1 h1 hd
    clear hd
    clear h1
    go_wp2_with fail
    first|exact Below.refl _ _|exact ⟨Below.refl _ _,rfl⟩|exact ⟨rfl,Below.refl _ _⟩
  apply growt_cons
  · intro v w1 h1 hd
    have g48:v 48=.pointer (some ⟨w.heap.size,8,none⟩):=hd 5 _ _ _ rfl rfl rfl rfl
    clear hd
    rw [g48]
    have q8:=jC ((h1.block _ (jB HQV.out)).trans HQV.out) 8
    simp only [gT,gZ,gS] at q8
    clear g48 h1
    go_wp2_with fail
    first|exact Below.refl _ _|exact ⟨Below.refl _ _,rfl⟩|exact ⟨rfl,Below.refl _ _⟩
  apply growt_cons
  · intro v w1 h1 hd
    have g46:v 46=.slice (some ⟨gc,0,none⟩) C[K].cols.length cc:=hd 3 _ _ _ rfl rfl rfl rfl
    have g47:v 47=.int .i64 (N:Int):=hd 4 _ _ _ rfl rfl rfl rfl
    clear hd
    rw [g46,g47]
    clear g46 g47 h1
    go_wp2_with fail
    first|exact Below.refl _ _|exact ⟨Below.refl _ _,rfl⟩|exact ⟨rfl,Below.refl _ _⟩
  apply growt_cons
  · intro v w1 h1 hd
    have g50:v 50=.pointer (some ⟨gc,N * 2,none⟩):=hd 7 _ _ _ rfl rfl rfl rfl
    clear hd
    rw [g50]
    clear g50 h1
    go_wp2_with fail
    first|exact Below.refl _ _|exact ⟨Below.refl _ _,rfl⟩|exact ⟨rfl,Below.refl _ _⟩
  exact growt_nil
 case hend =>
  intro v w7 h1 hd
  have g49:v 49=.string s.join:=hd 6 _ _ _ rfl rfl rfl
  have g51:v 51=.pointer (some ⟨gc,N * 2,none⟩):=hd 8 _ _ _ rfl rfl rfl
  clear hd
  rw [g49,g51]
  have W7:=hid (W4.out.trans (h1.mono W4.out.size))
  have B7:=hid (B4.out.trans (h1.mono B4.out.size))
  have CO7:=hid (owns_below CO.out W7.out)
  clear h1 g49 g51
  generalize v 43=y1,v 44=y2,v 45=y3,v 46=y4,v 47=y5,v 48=y6,v 50=y7
  have k7:=World.ownsRow.cellAt CO7.out (N * 2) (by omega)
  have f7:=World.ownsRow.frozenAt CO7.out (N * 2)
  have hk:(C[K].cols.flatMap colEnc)[N * 2]? = some (.string C[K].cols[N].1):=by
   have:=flat_part (enc:=colEnc) (sz:=2) (fun _=>rfl) C[K].cols N hNC
   have h2:(List.take 2 (List.drop (N * 2) (C[K].cols.flatMap colEnc)))[0]? = some (.string C[K].cols[N].1):=by rw [this];rfl
   rw [List.getElem?_take_of_lt (by decide),List.getElem?_drop] at h2
   simpa using h2
  rw [hk] at k7
  clear hk
  simp only [List.drop_succ_cons,List.drop_zero]
  go_wp2_with fail
  rw [HPST.out,HOK.out,if_pos rfl]
  obtain ⟨r1,r2⟩:=catAt_col (n:=N) (nm:=s.join) HC.out.1 HL.out ((W7.out.block _ (jB HCAT.out)).trans HCAT.out) (owns_below HO.out W7.out) (HPA.out.below W7.out) HAP.out.1 HAP.out.2 hKC hkv (by rw [HVK.out]) hNC
  have e2:renameT C s=C.modify K fun t=>{ t with cols:=t.cols.modify N fun c=>(s.join,c.2) }:=by
   unfold renameT
   rw [HN.out,Int.toNat_natCast,modify_eq_set _ hKC,modify_eq_set _ hKC,HZ1.out,Int.toNat_natCast]
  rw [e2]
  exact ⟨rfl,(B7.out.mono hB).setCell (p:=⟨gc,N * 2,none⟩) r2 _,fun k hk=>by
   have hkw:=HX0.out k hk
   have e1:k ≠ gc:=fun e=>HAP.out.2.col K hkv k (by rw [HVK.out,e];rfl) hk
   rw [heap_setCell_other _ _ _ _ (by exact e1),B7.out.block k hkw],r1⟩
end
section
open Go.RowKit Go.Maps
theorem law_int:Keyed Tryz.prog 3:=int_keyed Tryz.underlying3
theorem zero_dfn (w:World):(zeroValue 43).run Tryz.prog w=.ok .nilFunc w:=by kernel_rfl
def doersF (b:Nat):List Value:=[.nilFunc,.func (.func 52) #[.pointer (some ⟨b,0,none⟩)] #[],.func (.func 53) #[.pointer (some ⟨b,0,none⟩)] #[],.func (.func 54) #[.pointer (some ⟨b,0,none⟩)] #[]]
def D3:DataW Unit:=(((DataW.map []).put (.int .i64 1) (.lit (.int .i64 1))).put (.int .i64 2) (.lit (.int .i64 2))).put (.int .i64 3) (.lit (.int .i64 3))
theorem doersF_at (b:Nat):fnElem (doersF b) .nilFunc=some (.lit (.int .i64 0),[])/\fnElem (doersF b) (.func (.func 52) #[.pointer (some ⟨b,0,none⟩)] #[])=some (.lit (.int .i64 1),[])/\fnElem (doersF b) (.func (.func 53) #[.pointer (some ⟨b,0,none⟩)] #[])=some (.lit (.int .i64 2),[])/\fnElem (doersF b) (.func (.func 54) #[.pointer (some ⟨b,0,none⟩)] #[])=some (.lit (.int .i64 3),[]):=by
 refine ⟨fnElem_get (i:=0) (by simp [doersF]) rfl (fun j hj=>by omega),fnElem_get (i:=1) (by simp [doersF]) rfl (fun j hj=>?_),fnElem_get (i:=2) (by simp [doersF]) rfl (fun j hj=>?_),fnElem_get (i:=3) (by simp [doersF]) rfl (fun j hj=>?_)⟩
 all_goals
  rcases (show j=0 \/ j=1 \/ j=2 by omega) with rfl|rfl|rfl <;> simp [doersF] at * <;> try omega
theorem doers_any (b:Nat) (w:World) :
 Calls Tryz.prog 20 #[.pointer (some ⟨b,0,none⟩)] w fun e w'=>∃ g,e=.returned (.map (some g))/\Below w.heap.size w w'/\w'.ownsMap Tryz.prog 3 (fnElem (doersF b)) g 3 D3:=by
 have hmm:=@run_makeMap Tryz.prog
 obtain ⟨_,f1,f2,f3⟩:=doersF_at b
 have hb0:Below w.heap.size w (w.alloc (.map #[] 0)):=(b0R).alloc (jR _) _
 go_enter Tryz.func20,Tryz.ntmps20
 go_wp2_with (first
  | (refine wpList_insert_own _ rfl _ _ _ 75 rfl 3 43 law_int Tryz.underlying75 (fnElem (doersF b)) w.heap.size 0 (.map []) rfl (World.ownsMap_made _ _ _ _) (by decide) (.int .i64 1) _ (.int .i64 1) rfl rfl (keyOf_int_mk Tryz.underlying3 (by decide)) _ [] f1 ?_;intro w1 o1 g1)
  | (refine wpList_insert_own _ rfl _ _ _ 75 rfl 3 43 law_int Tryz.underlying75 (fnElem (doersF b)) w.heap.size 1 _ rfl o1 (by decide) (.int .i64 2) _ (.int .i64 2) rfl rfl (keyOf_int_mk Tryz.underlying3 (by decide)) _ [] f2 ?_;intro w2 o2 g2)
  | (refine wpList_insert_own _ rfl _ _ _ 75 rfl 3 43 law_int Tryz.underlying75 (fnElem (doersF b)) w.heap.size 2 _ rfl o2 (by decide) (.int .i64 3) _ (.int .i64 3) rfl rfl (keyOf_int_mk Tryz.underlying3 (by decide)) _ [] f3 ?_;intro w3 o3 g3))
 go_ret
 exact ⟨w.heap.size,rfl,((hb0.grown g1 hb0.size (fun j hj=>by cases hj;exact jR _)).grown g2 (Nat.le_trans hb0.size g1.size) (fun j hj=>by cases hj;exact jR _)).grown g3 (Nat.le_trans hb0.size (Nat.le_trans g1.size g2.size)) (fun j hj=>by cases hj;exact jR _),o3⟩
def DoersAt (b:Nat) (u:Value) (w:World):Prop:=∃ g,u=.map (some g)/\w.ownsMap Tryz.prog 3 (fnElem (doersF b)) g 3 D3
theorem cmap_below {H:Type} {P:Program} {k:TypeId} {R:Value->Option (DataW H × List MemPlace)} {b n:Nat} {D:DataW H} {w w':World} (h:w.ownsMap P k R b n D) (hb:Below w.heap.size w w'):w'.ownsMap P k R b n D:=h.kept (grown_below' hb) (by simp)
theorem DoersAt.below {b:Nat} {u:Value} {w w':World} (h:DoersAt b u w) (hb:Below w.heap.size w w'):DoersAt b u w':=by
 obtain ⟨g,h1,h2⟩:=h
 exact ⟨g,h1,cmap_below h2 hb⟩
theorem d3_at (k:Int):(D3.atKey (.int .i64 k) (.lit (.int .i64 0))=.lit (.int .i64 (if k=1 then 1 else if k=2 then 2 else if k=3 then 3 else 0)))/\Maps.has D3 (.int .i64 k)=decide (k=1 \/ k=2 \/ k=3):=by
 have h0:IsMap (DataW.map []:DataW Unit):=isMap_empty
 have h1:=h0.put (.int .i64 1) (.lit (.int .i64 1))
 have h2:=h1.put (.int .i64 2) (.lit (.int .i64 2))
 unfold D3
 by_cases e3:k=3
 · subst e3
   rw [atKey_put_same h2 (show WideAt.IsKeyLit (.int .i64 3) from trivial),has_put_same h2 (show WideAt.IsKeyLit (.int .i64 3) from trivial)]
   exact ⟨rfl,rfl⟩
 · rw [atKey_put_other (int_lit_ne e3),has_put_other (int_lit_ne e3)]
   by_cases e2:k=2
   · subst e2
     rw [atKey_put_same h1 (show WideAt.IsKeyLit (.int .i64 2) from trivial),has_put_same h1 (show WideAt.IsKeyLit (.int .i64 2) from trivial)]
     exact ⟨rfl,rfl⟩
   · rw [atKey_put_other (int_lit_ne e2),has_put_other (int_lit_ne e2)]
     by_cases e1:k=1
     · subst e1
       rw [atKey_put_same h0 (show WideAt.IsKeyLit (.int .i64 1) from trivial),has_put_same h0 (show WideAt.IsKeyLit (.int .i64 1) from trivial)]
       exact ⟨rfl,rfl⟩
     · rw [atKey_put_other (int_lit_ne e1),has_put_other (int_lit_ne e1)]
       refine ⟨?_,?_⟩
       · rw [if_neg e1,if_neg e2,if_neg e3];rfl
       · simp [e1,e2,e3,Maps.has]
theorem doers_run (b:Nat) (k:Int) (hw:(Lit.int .i64 k).wf=true) (w:World) (g:Nat) (h:w.ownsMap Tryz.prog 3 (fnElem (doersF b)) g 3 D3) :
 (Instr.lookup 75 (.map (some g)) (.int .i64 k) true).run Tryz.prog w=.ok (.tuple #[(if k=1 then .func (.func 52) #[.pointer (some ⟨b,0,none⟩)] #[] else if k=2 then .func (.func 53) #[.pointer (some ⟨b,0,none⟩)] #[] else if k=3 then .func (.func 54) #[.pointer (some ⟨b,0,none⟩)] #[] else .nilFunc),.bool (decide (k=1 \/ k=2 \/ k=3))]) w:=by
 obtain ⟨v,ps,h1,h2⟩:=h.look_ok law_int Tryz.underlying75 (zero_dfn w) (doersF_at b).1 (keyOf_int_mk Tryz.underlying3 hw)
 obtain ⟨e1,e2⟩:=d3_at k
 rw [e2] at h1
 obtain ⟨i,hi,h3,h4⟩:=fnElem_inv h2
 rw [e1] at h4
 simp only [Prod.mk.injEq,DataW.lit.injEq,Lit.int.injEq,true_and] at h4
 have h5:=h4.1
 have h6:i<4:=by simpa [doersF] using hi
 have hv:v=(if k=1 then .func (.func 52) #[.pointer (some ⟨b,0,none⟩)] #[] else if k=2 then .func (.func 53) #[.pointer (some ⟨b,0,none⟩)] #[] else if k=3 then .func (.func 54) #[.pointer (some ⟨b,0,none⟩)] #[] else .nilFunc):=by
  clear h1 h2 h4 e1 e2
  by_cases c1:k=1
  · rw [if_pos c1] at h5 ⊢
    obtain rfl:i=1:=by omega
    exact h3
  · rw [if_neg c1] at h5 ⊢
    by_cases c2:k=2
    · rw [if_pos c2] at h5 ⊢
      obtain rfl:i=2:=by omega
      exact h3
    · rw [if_neg c2] at h5 ⊢
      by_cases c3:k=3
      · rw [if_pos c3] at h5 ⊢
        obtain rfl:i=3:=by omega
        exact h3
      · rw [if_neg c3] at h5 ⊢
        obtain rfl:i=0:=by omega
        exact h3
 rw [<- hv]
 exact h1
theorem catdo_core {p:Nat->Prop} {b:Nat} {kd:Int} {s:Stmt} {sv fv:Value} {rt:Int} {hb:Bool} {w:World} (Post:Ending->World->Prop) (hs:StmtV p w sv s) (hk:s.kind=kd)
 (hrun:∀ w1 g,w1.ownsMap Tryz.prog 3 (fnElem (doersF b)) g 3 D3->(Instr.lookup 75 (.map (some g)) (.int .i64 kd) true).run Tryz.prog w1=.ok (.tuple #[fv,.bool hb]) w1)
 (hf:hb=true->∃ f,fv=.func (.func f) #[.pointer (some ⟨b,0,none⟩)] #[]/\(∀ args w,(callFunc f args).run Tryz.prog w=.ok (.enter f args) w)/\∀ w1,Below w.heap.size w w1->Calls Tryz.prog f #[.pointer (some ⟨b,0,none⟩),sv,.int .i64 rt] w1 fun e w2=>Post e w2/\∃ z,e=.returned (.int .i64 z))
 (hn:hb=false->fv=.nilFunc/\∀ w1,Below w.heap.size w w1->Post (.returned (.int .i64 1)) w1) :
 Calls Tryz.prog 10 #[.pointer (some ⟨b,0,none⟩),sv,.int .i64 rt] w Post:=by
 obtain ⟨a3,c3,a4,c4,a5,c5,a6,c6,a7,c7,a12,c12,rfl,_,_,_,_,_,_⟩:=hs
 have HRUN:=hid hrun
 have HFN:=hid hf
 have HNO:=hid hn
 rw [hk] at HFN ⊢
 clear hrun hf hn hk
 go_enter Tryz.func10,Tryz.ntmps10
 go_upto_region 3 with (fail)
 generalize hW:World.alloc _ _=W
 have hA':allocs w [_]=W:=hW
 have hq:W.heap[w.heap.size]? = some (.cells #[.int .i64 kd,.string s.table,.string s.name,.slice a3 s.cols.length c3,.slice a4 s.names.length c4,.slice a5 s.row.length c5,.slice a6 s.sets.length c6,.slice a7 s.wher.length c7,.string s.join,.string s.left,.string s.right,.int .i64 s.agg,.slice a12 s.order.length c12,.int .i64 s.mode,.int .i64 s.n] 33 (0,0)):=allocs_get hA' 0 rfl
 have B1:=hid (allocs_self hA')
 have HQ:=hid hq
 clear hA' hW hq
 apply wp_region_growt 9 [12,13,14,15,16,11,17,18,7]
  [fun _ u _=>u=.pointer (some ⟨b,0,none⟩),
   fun _ u w'=>DoersAt b u w',
   fun _ u _=>u=.pointer (some ⟨w.heap.size,0,none⟩),
   fun _ u _=>u=.int .i64 kd,
   fun _ u _=>u=.tuple #[fv,.bool hb],
   fun _ u _=>u=.tuple #[fv,.bool hb],
   fun _ u _=>u=fv,
   fun _ u _=>u=.bool hb,
   fun _ u _=>u=fv]
  (Below W.heap.size W)
 case hF =>
  intro v
  simp only [setAll,List.foldl_cons,List.foldl_nil,Act.put,List.setIfInBounds_toArray,List.set_cons_succ,List.set_cons_zero]
  exact rfl
 case hm=>kernel_rfl
 case hB=>kernel_rfl
 case hsz=>kernel_rfl
 case hC=>exact fun w1 w2 h b=>h.trans (b.mono h.size)
 case hw=>exact Below.drew b0R
 case hS =>
  intro D hD v u
  simp only [List.mem_cons,List.not_mem_nil,or_false] at hD
  rcases hD with rfl|rfl|rfl|rfl|rfl|rfl|rfl|rfl|rfl
  · exact fun w1 w2 h _=>h
  · exact fun w1 w2 h hb=>h.below hb
  · exact fun w1 w2 h _=>h
  · exact fun w1 w2 h _=>h
  · exact fun w1 w2 h _=>h
  · exact fun w1 w2 h _=>h
  · exact fun w1 w2 h _=>h
  · exact fun w1 w2 h _=>h
  · exact fun w1 w2 h _=>h
 case hob =>
  simp only [List.take_succ_cons,List.take_zero]
  apply growt_cons
  · intro v w1 h1 hd
    clear hd
    clear h1
    go_wp2_with fail
    first|exact Below.refl _ _|exact ⟨Below.refl _ _,rfl⟩|exact ⟨rfl,Below.refl _ _⟩
  apply growt_cons
  · intro v w1 h1 hd
    have g12:v 12=.pointer (some ⟨b,0,none⟩):=hd 0 _ _ _ rfl rfl rfl rfl
    clear hd
    rw [g12]
    have con:=doers_any b w1
    clear g12 h1
    go_wp2_with fail
    refine con.mono ?_
    rintro e w2 ⟨g,rfl,b2,o2⟩
    have B2:=hid b2
    have O2:=hid (show DoersAt b (.map (some g)) w2 from ⟨g,rfl,o2⟩)
    clear con b2 o2
    go_wp2_with fail
    first|exact ⟨B2.out,O2.out⟩|exact ⟨O2.out,B2.out⟩
  apply growt_cons
  · intro v w1 h1 hd
    clear hd
    clear h1
    go_wp2_with fail
    first|exact Below.refl _ _|exact ⟨Below.refl _ _,rfl⟩|exact ⟨rfl,Below.refl _ _⟩
  apply growt_cons
  · intro v w1 h1 hd
    have g14:v 14=.pointer (some ⟨w.heap.size,0,none⟩):=hd 2 _ _ _ rfl rfl rfl rfl
    clear hd
    rw [g14]
    have q0:=jC ((h1.block _ (jB HQ.out)).trans HQ.out) 0
    simp only [gT,gZ,gS] at q0
    clear g14 h1
    go_wp2_with fail
    first|exact Below.refl _ _|exact ⟨Below.refl _ _,rfl⟩|exact ⟨rfl,Below.refl _ _⟩
  apply growt_cons
  · intro v w1 h1 hd
    have g15:v 15=.int .i64 kd:=hd 3 _ _ _ rfl rfl rfl rfl
    obtain ⟨g,g13,o13⟩:DoersAt b (v 13) w1:=hd 1 _ _ _ rfl rfl rfl rfl
    clear hd
    rw [g13,g15]
    have hr:=HRUN.out w1 g o13
    clear g13 g15 o13 h1
    go_wp2_with fail
    first|exact Below.refl _ _|exact ⟨Below.refl _ _,rfl⟩|exact ⟨rfl,Below.refl _ _⟩
  apply growt_cons
  · intro v w1 h1 hd
    have g16:v 16=.tuple #[fv,.bool hb]:=hd 4 _ _ _ rfl rfl rfl rfl
    clear hd
    rw [g16]
    clear g16 h1
    go_wp2_with fail
    first|exact Below.refl _ _|exact ⟨Below.refl _ _,rfl⟩|exact ⟨rfl,Below.refl _ _⟩
  apply growt_cons
  · intro v w1 h1 hd
    have g11:v 11=.tuple #[fv,.bool hb]:=hd 5 _ _ _ rfl rfl rfl rfl
    clear hd
    rw [g11]
    clear g11 h1
    go_wp2_with fail
    first|exact Below.refl _ _|exact ⟨Below.refl _ _,rfl⟩|exact ⟨rfl,Below.refl _ _⟩
  apply growt_cons
  · intro v w1 h1 hd
    have g11:v 11=.tuple #[fv,.bool hb]:=hd 5 _ _ _ rfl rfl rfl rfl
    clear hd
    rw [g11]
    clear g11 h1
    go_wp2_with fail
    first|exact Below.refl _ _|exact ⟨Below.refl _ _,rfl⟩|exact ⟨rfl,Below.refl _ _⟩
  apply growt_cons
  · intro v w1 h1 hd
    have g17:v 17=fv:=hd 6 _ _ _ rfl rfl rfl rfl
    clear hd
    rw [g17]
    clear g17 h1
    go_wp2_with fail
    first|exact Below.refl _ _|exact ⟨Below.refl _ _,rfl⟩|exact ⟨rfl,Below.refl _ _⟩
  exact growt_nil
 case hend =>
  intro v w7 h1 hd
  have g18:v 18=.bool hb:=hd 7 _ _ _ rfl rfl rfl
  have g7:v 7=fv:=hd 8 _ _ _ rfl rfl rfl
  clear hd
  rw [g18,g7]
  have B7:=hid (B1.out.trans (h1.mono B1.out.size))
  have HQ7:=cy h1 HQ
  clear h1 g18 g7
  generalize v 12=y1,v 13=y2,v 14=y3,v 15=y4,v 16=y5,v 11=y6,v 17=y7
  simp only [List.drop_succ_cons,List.drop_zero]
  cases hb
  · obtain ⟨rfl,hp⟩:=HNO.out rfl
    have HX:=hid (hp w7 B7.out)
    clear hp
    go_wp2_with fail
    exact HX.out
  · obtain ⟨f,rfl,eg,hc⟩:=HFN.out rfl
    have con:=hc w7 B7.out
    clear hc
    have k0:=jC HQ7.out 0
    have k1:=jC HQ7.out 1
    have k2:=jC HQ7.out 2
    have k3:=jC HQ7.out 3
    have k4:=jC HQ7.out 4
    have k5:=jC HQ7.out 5
    have k6:=jC HQ7.out 6
    have k7:=jC HQ7.out 7
    have k8:=jC HQ7.out 8
    have k9:=jC HQ7.out 9
    have k10:=jC HQ7.out 10
    have k11:=jC HQ7.out 11
    have k12:=jC HQ7.out 12
    have k13:=jC HQ7.out 13
    have k14:=jC HQ7.out 14
    simp only [gT,gZ,gS] at k0 k1 k2 k3 k4 k5 k6 k7 k8 k9 k10 k11 k12 k13 k14
    go_wp2_with fail
    refine con.mono ?_
    rintro e w8 ⟨hp,z,rfl⟩
    have HX:=hid hp
    clear hp con
    go_wp2_with fail
    exact HX.out
theorem catdo_any {p X:Nat->Prop} {B b:Nat} {C:List Tab} {s:Stmt} {sv:Value} {rt:Int} {w:World} (hC:CatAt B X b C w) (hX:∀ k,X k->k<w.heap.size) (hS:TabsSmall C) (hs:StmtV p w sv s) (hw:(Lit.int .i64 s.kind).wf=true) (hcl:s.cols.length<=1000000) (hnl:s.names.length<=1000000) (hnm:∀ t ∈ C,∀ c ∈ t.cols,c.1.size<=maxLen) (hB:B<=w.heap.size) :
 Calls Tryz.prog 10 #[.pointer (some ⟨b,0,none⟩),sv,.int .i64 rt] w fun e w'=>CatPost B X b w (catV C s rt) e w':=by
 have wk:∀ {r:Int × List Tab} {w1:World},Below w.heap.size w w1->∀ e w2,CatPost B X b w1 r e w2->CatPost B X b w r e w2/\∃ z,e=.returned (.int .i64 z):=fun hb e w2 h=>⟨⟨h.1,(hb.mono hB).trans h.2.1,fun k hk=>(h.2.2.1 k hk).trans (hb.block k (hX k hk)),h.2.2.2⟩,_,h.1⟩
 refine catdo_core (CatPost B X b w (catV C s rt)) hs rfl (fun w1 g h=>doers_run b s.kind hw w1 g h) (fun h=>?_) (fun h=>?_)
 · have h':=of_decide_eq_true h
   by_cases c1:s.kind=1
   · rw [if_pos c1]
     refine ⟨_,rfl,enters_of Tryz.func52 (by kernel_rfl) rfl,fun w1 hb=>?_⟩
     have e:catV C s rt=(createE C s,if createE C s=0 then createT C s else C):=by unfold catV;rw [if_pos c1]
     rw [e]
     exact (ccreate_any (hC.below hb) (fun k hk=>jL (hX k hk) hb.size) hS (hs.below hb) hcl (Nat.le_trans hB hb.size)).mono fun e w2 h=>wk hb e w2 h
   · rw [if_neg c1]
     by_cases c2:s.kind=2
     · rw [if_pos c2]
       refine ⟨_,rfl,enters_of Tryz.func53 (by kernel_rfl) rfl,fun w1 hb=>?_⟩
       have e:catV C s rt=(indexE C s rt,if indexE C s rt=0 then indexT C s rt else C):=by unfold catV;rw [if_neg c1,if_pos c2]
       rw [e]
       exact (cindex_any (hC.below hb) (fun k hk=>jL (hX k hk) hb.size) hS (hs.below hb) hnl hnm (Nat.le_trans hB hb.size)).mono fun e w2 h=>wk hb e w2 h
     · rw [if_neg c2]
       have c3:s.kind=3:=by omega
       rw [if_pos c3]
       refine ⟨_,rfl,enters_of Tryz.func54 (by kernel_rfl) rfl,fun w1 hb=>?_⟩
       have e:catV C s rt=(renameE C s,if renameE C s=0 then renameT C s else C):=by unfold catV;rw [if_neg c1,if_neg c2,if_pos c3]
       rw [e]
       exact (crename_any (hC.below hb) (fun k hk=>jL (hX k hk) hb.size) hS (hs.below hb) (Nat.le_trans hB hb.size)).mono fun e w2 h=>wk hb e w2 h
 · have h':=of_decide_eq_false h
   have c1:¬ s.kind=1:=fun e=>h' (Or.inl e)
   have c2:¬ s.kind=2:=fun e=>h' (Or.inr (Or.inl e))
   have c3:¬ s.kind=3:=fun e=>h' (Or.inr (Or.inr e))
   rw [if_neg c1,if_neg c2,if_neg c3]
   refine ⟨rfl,fun w1 hb=>?_⟩
   have e:catV C s rt=(1,C):=by unfold catV;rw [if_neg c1,if_neg c2,if_neg c3]
   rw [e]
   exact ⟨rfl,hb.mono hB,fun k hk=>hb.block k (hX k hk),hC.below hb⟩
end
section
open Go.RowKit
theorem owns_same {w w':World} {B:Nat} {e:TypeId} {sz:Nat} {v:Value} {n:Nat} {xs:List Value} (h:w.ownsRow B e sz v n xs) (hk:∀ g,v.ownBlock=some g->w'.heap[g]? = w.heap[g]?):w'.ownsRow B e sz v n xs:=by
 refine ⟨h.1,?_⟩
 rcases h.2 with h0|⟨g,cap,cur,h1,h2,h3,h4⟩
 · exact Or.inl h0
 · exact Or.inr ⟨g,cap,cur,h1,h2,(hk g (by rw [h1];rfl)).trans h3,h4⟩
theorem owns_type {w:World} {B:Nat} {e:TypeId} {sz:Nat} {v:Value} {n:Nat} {xs:List Value} (h:w.ownsRow B e sz v n xs) {k:Nat} (hk:v.ownBlock=some k):∃ cs fz,w.heap[k]? = some (.cells cs e fz):=by
 rcases h.2 with ⟨rfl,_⟩|⟨g,cap,cur,rfl,h2,h3,h4⟩
 · cases hk
 · obtain rfl:g=k:=by simpa [Value.ownBlock] using hk
   exact ⟨_,_,h3⟩
def OwnB (b:Nat) (v:Value) (vs:List (Value × Value)) (k:Nat):Prop:=k=b \/ v.ownBlock=some k \/ ∃ t,∃ h:t<vs.length,vs[t].1.ownBlock=some k \/ vs[t].2.ownBlock=some k
structure CatRaw (B b:Nat) (C:List Tab) (v:Value) (vs:List (Value × Value)) (w:World):Prop where
 le:B<=b
 len:vs.length=C.length
 box:w.heap[b]? = some (.cells #[v] 60 (0,0))
 own:w.ownsRow B 90 4 v C.length ((C.zip vs).flatMap tabCells)
 parts:TabParts B C vs w
 apart:Apart vs
theorem CatAt.raw {B b:Nat} {X:Nat->Prop} {C:List Tab} {w:World} (h:CatAt B X b C w):∃ v vs,CatRaw B b C v vs w/\∀ k,OwnB b v vs k->¬ X k:=by
 obtain ⟨h0,v,vs,h1,h2,h3,h4,h5,h6⟩:=h
 refine ⟨v,vs,⟨h0,h1,h2,h3,h4,h5⟩,?_⟩
 rintro k (rfl|h|⟨t,ht,h|h⟩)
 · exact h6.blk
 · exact h6.tab k h
 · exact h6.col t ht k h
 · exact h6.ix t ht k h
theorem CatRaw.at {B b:Nat} {X:Nat->Prop} {C:List Tab} {v:Value} {vs:List (Value × Value)} {w:World} (h:CatRaw B b C v vs w) (hX:∀ k,OwnB b v vs k->¬ X k):CatAt B X b C w :=
 ⟨h.le,v,vs,h.len,h.box,h.own,h.parts,h.apart,hX b (Or.inl rfl),fun k e=>hX k (Or.inr (Or.inl e)),fun t ht k e=>hX k (Or.inr (Or.inr ⟨t,ht,Or.inl e⟩)),fun t ht k e=>hX k (Or.inr (Or.inr ⟨t,ht,Or.inr e⟩))⟩
theorem CatRaw.type {B b:Nat} {C:List Tab} {v:Value} {vs:List (Value × Value)} {w:World} (h:CatRaw B b C v vs w) {k:Nat} (hk:OwnB b v vs k):∃ cs T fz,w.heap[k]? = some (.cells cs T fz)/\T ≠ 3:=by
 rcases hk with rfl|hk|⟨t,ht,hk|hk⟩
 · exact ⟨_,_,_,h.box,by decide⟩
 · obtain ⟨cs,fz,e⟩:=owns_type h.own hk
   exact ⟨_,_,_,e,by decide⟩
 · obtain ⟨cs,fz,e⟩:=owns_type (h.parts t (by rw [<- h.len];exact ht) ht).1 hk
   exact ⟨_,_,_,e,by decide⟩
 · obtain ⟨us,_,q,_⟩:=(h.parts t (by rw [<- h.len];exact ht) ht).2
   obtain ⟨cs,fz,e⟩:=owns_type q hk
   exact ⟨_,_,_,e,by decide⟩
theorem CatRaw.lt {B b:Nat} {C:List Tab} {v:Value} {vs:List (Value × Value)} {w:World} (h:CatRaw B b C v vs w) {k:Nat} (hk:OwnB b v vs k):k<w.heap.size:=by
 obtain ⟨cs,T,fz,e,_⟩:=h.type hk
 exact jB e
theorem CatRaw.kept {B b:Nat} {C:List Tab} {v:Value} {vs:List (Value × Value)} {w w':World} (h:CatRaw B b C v vs w) (hk:∀ (k:Nat),OwnB b v vs k->w'.heap[k]? = w.heap[k]?) (hi:∀ (k:Nat) (cs:Array Value) (fz:Nat × Nat),w.heap[k]? = some (.cells cs 3 fz)->w'.heap[k]? = w.heap[k]?):CatRaw B b C v vs w':=by
 refine ⟨h.le,h.len,(hk b (Or.inl rfl)).trans h.box,owns_same h.own (fun g e=>hk g (Or.inr (Or.inl e))),fun t h1 h2=>⟨owns_same (h.parts t h1 h2).1 (fun g e=>hk g (Or.inr (Or.inr ⟨t,h2,Or.inl e⟩))),?_⟩,h.apart⟩
 obtain ⟨us,q1,q2,q3⟩:=(h.parts t h1 h2).2
 refine ⟨us,q1,owns_same q2 (fun g e=>hk g (Or.inr (Or.inr ⟨t,h2,Or.inr e⟩))),fun s k1 k2=>owns_same (q3 s k1 k2) fun g e=>?_⟩
 obtain ⟨cs,fz,e'⟩:=owns_type (q3 s k1 k2) e
 exact hi _ _ _ e'
theorem CatRaw.below {B b:Nat} {C:List Tab} {v:Value} {vs:List (Value × Value)} {w w':World} (h:CatRaw B b C v vs w) (hb:Below w.heap.size w w'):CatRaw B b C v vs w' :=
 h.kept (fun k hk=>hb.block k (h.lt hk)) (fun k cs fz e=>hb.block k (jB e))
def Odd (B a b:Nat) (D C:List Tab) (Y:Nat->Prop) (w:World):Prop:=∃ u us v vs,CatRaw B a D u us w/\CatRaw B b C v vs w/\(∀ k,OwnB a u us k->¬ OwnB b v vs k)/\∀ k,Y k->k<w.heap.size/\¬ OwnB a u us k/\¬ OwnB b v vs k
theorem Odd.below {B a b:Nat} {D C:List Tab} {Y:Nat->Prop} {w w':World} (h:Odd B a b D C Y w) (hb:Below w.heap.size w w'):Odd B a b D C Y w':=by
 obtain ⟨u,us,v,vs,h1,h2,h3,h4⟩:=h
 exact ⟨u,us,v,vs,h1.below hb,h2.below hb,h3,fun k hk=>⟨jL (h4 k hk).1 hb.size,(h4 k hk).2⟩⟩
theorem Odd.swap {B a b:Nat} {D C:List Tab} {Y:Nat->Prop} {w:World} (h:Odd B a b D C Y w):Odd B b a C D Y w:=by
 obtain ⟨u,us,v,vs,h1,h2,h3,h4⟩:=h
 exact ⟨v,vs,u,us,h2,h1,fun k k1 k2=>h3 k k2 k1,fun k hk=>⟨(h4 k hk).1,(h4 k hk).2.2,(h4 k hk).2.1⟩⟩
theorem Odd.fresh {B a b:Nat} {D C:List Tab} {Y:Nat->Prop} {w w':World} (h:Odd B a b D C Y w) (hb:Below w.heap.size w w'):Odd B a b D C (fun k=>w.heap.size<=k/\k<w'.heap.size) w':=by
 obtain ⟨u,us,v,vs,h1,h2,h3,h4⟩:=h
 exact ⟨u,us,v,vs,h1.below hb,h2.below hb,h3,fun k hk=>⟨hk.2,fun h=>(by have:=h1.lt h;omega),fun h=>(by have:=h2.lt h;omega)⟩⟩
theorem Odd.none {B a b:Nat} {D C:List Tab} {Y:Nat->Prop} {w:World} (h:Odd B a b D C Y w):Odd B a b D C (fun _=>False) w:=by
 obtain ⟨u,us,v,vs,h1,h2,h3,h4⟩:=h
 exact ⟨u,us,v,vs,h1,h2,h3,fun k hk=>hk.elim⟩
theorem Odd.one {B a b:Nat} {D C:List Tab} {Y:Nat->Prop} {w:World} (h:Odd B a b D C Y w):CatAt B (fun _=>False) a D w:=by
 obtain ⟨u,us,v,vs,h1,h2,h3,h4⟩:=h
 exact h1.at fun _ _ h=>h
theorem odd_new {B a b:Nat} {w:World} (ha:B<=a) (hb:B<=b) (hab:a ≠ b) (h1:w.heap[a]? = some (.cells #[.slice none 0 0] 60 (0,0))) (h2:w.heap[b]? = some (.cells #[.slice none 0 0] 60 (0,0))):Odd B a b [] [] (fun _=>False) w:=by
 have raw:∀ {c:Nat},B<=c->w.heap[c]? = some (.cells #[.slice none 0 0] 60 (0,0))->CatRaw B c [] (.slice none 0 0) [] w:=fun hc h=>⟨hc,rfl,h,World.ownsRow_nil _ _ _ _,fun t h _=>absurd h (Nat.not_lt_zero _),fun s t h _=>absurd h (Nat.not_lt_zero _)⟩
 have own:∀ {c k:Nat},OwnB c (.slice none 0 0) [] k->k=c:=by
  rintro c k (h|h|⟨t,h,-⟩)
  · exact h
  · cases h
  · cases h
 exact ⟨_,_,_,_,raw ha h1,raw hb h2,fun k k1 k2=>hab ((own k1).symm.trans (own k2)),fun k hk=>hk.elim⟩
theorem odd_do {p Y:Nat->Prop} {B a b:Nat} {D C:List Tab} {s:Stmt} {sv:Value} {rt:Int} {w:World} (h:Odd B a b D C Y w) (hS:TabsSmall D) (hs:StmtV p w sv s) (hw:(Lit.int .i64 s.kind).wf=true) (hcl:s.cols.length<=1000000) (hnl:s.names.length<=1000000) (hnm:∀ t ∈ D,∀ c ∈ t.cols,c.1.size<=maxLen) (hB:B<=w.heap.size) :
 Calls Tryz.prog 10 #[.pointer (some ⟨a,0,none⟩),sv,.int .i64 rt] w fun e w'=>e=.returned (.int .i64 (catV D s rt).1)/\Below B w w'/\Odd B a b (catV D s rt).2 C Y w'/\∀ k,Y k->w'.heap[k]? = w.heap[k]? := by
 obtain ⟨u,us,v,vs,h1,h2,h3,h4⟩:=h
 refine (catdo_any (X:=fun k=>k<w.heap.size/\¬ OwnB a u us k) (h1.at fun k hk hx=>hx.2 hk) (fun k hk=>hk.1) hS hs hw hcl hnl hnm hB).mono ?_
 rintro e w' ⟨he,hb,hk,hC⟩
 obtain ⟨u',us',r1,r2⟩:=hC.raw
 refine ⟨he,hb,⟨u',us',v,vs,r1,h2.kept (fun k ho=>hk k ⟨h2.lt ho,fun h=>h3 k h ho⟩) (fun k cs fz e=>hk k ⟨jB e,fun h=>?_⟩),fun k ho hv=>r2 k ho ⟨h2.lt hv,fun h=>h3 k h hv⟩,fun k hy=>⟨jL (h4 k hy).1 hb.size,fun h=>r2 k h ⟨(h4 k hy).1,(h4 k hy).2.1⟩,(h4 k hy).2.2⟩⟩,fun k hy=>hk k ⟨(h4 k hy).1,(h4 k hy).2.1⟩⟩
 obtain ⟨cs',T,fz',e',hT⟩:=h1.type h
 rw [e] at e'
 simp only [Option.some.injEq,Obj.cells.injEq] at e'
 exact hT e'.2.1.symm
end
end Go.Proofs.YtjcpccadmcglgaaGreatDoor
