/- the closures of plain.query. -/
import Derived.Test.YtgemihkcihigpaaGreatDoorZD29
import Derived.Test.YtgemihkcihigpaaGreatDoorZD30
set_option linter.unusedVariables false
set_option linter.unusedSimpArgs false
set_option maxRecDepth 100000
set_option maxHeartbeats 64000000
namespace Go.Proofs.YtgemihkcihigpaaGreatDoor
open Go.Lib (hid)
section
open Go.RowKit
theorem q1_any {p:Nat->Prop} {ac ai:Option Addr} {cc ci bt:Nat} {T:Tab} {w:World} (hT:TabV p w (.agg #[.int .i64 T.id,.string T.name,.slice ac T.cols.length cc,.slice ai T.idx.length ci]) T) (hC:T.cols.length<=1000000)
 (hbt:w.heap[bt]? = some (.cells #[.int .i64 T.id,.string T.name,.slice ac T.cols.length cc,.slice ai T.idx.length ci] 75 (0,0))) (name:ByteArray) :
 Calls Tryz.prog 94 #[.string name,.pointer (some ⟨bt,0,none⟩)] w fun e w'=>e=.returned (.int .i64 (colOf T name))/\Below w.heap.size w w':=by
 have con:=pcol_any hT hC name
 obtain ⟨n,hn⟩:∃ n,colOf T name=n:=⟨_,rfl⟩
 rw [hn] at con ⊢
 have t0:=jC hbt 0
 have t1:=jC hbt 1
 have t2:=jC hbt 2
 have t3:=jC hbt 3
 simp only [gT,gZ,gS] at t0 t1 t2 t3
 clear hT hbt hn
 go_enter Tryz.func94,Tryz.ntmps94
 go_wp2_with fail
 refine con.mono ?_
 rintro e w2 ⟨rfl,b2⟩
 have B2:=hid b2
 clear con b2 t0 t1 t2 t3
 go_wp2_with fail
 go_ret
 exact ⟨rfl,B2.out⟩
theorem q2_any {p q s:Nat->Prop} {ac ai ar aw:Option Addr} {cc ci cr cw bt bs:Nat} {T:Tab} {r:List Val} {L:List Cond} {w:World} {cs:Array Value} (hT:TabV p w (.agg #[.int .i64 T.id,.string T.name,.slice ac T.cols.length cc,.slice ai T.idx.length ci]) T) (hC:T.cols.length<=1000000)
 (hr:SlV valR q w (.slice ar r.length cr) r) (hL:SlV condR s w (.slice aw L.length cw) L) (hK:KindsAt w)
 (hbt:w.heap[bt]? = some (.cells #[.int .i64 T.id,.string T.name,.slice ac T.cols.length cc,.slice ai T.idx.length ci] 75 (0,0))) (hbs:w.cell? ⟨bs,7,none⟩=some (.slice aw L.length cw)) :
 Calls Tryz.prog 99 #[.slice ar r.length cr,.pointer (some ⟨bt,0,none⟩),.pointer (some ⟨bs,0,none⟩)] w fun e w'=>e=.returned (.bool (!fitsW T L r))/\Below w.heap.size w w':=by
 have con:=fits_any hT hC hr hL hK
 obtain ⟨f,hf⟩:∃ f,fitsW T L r=f:=⟨_,rfl⟩
 rw [hf] at con ⊢
 have t0:=jC hbt 0
 have t1:=jC hbt 1
 have t2:=jC hbt 2
 have t3:=jC hbt 3
 simp only [gT,gZ,gS] at t0 t1 t2 t3
 clear hT hbt hf hr hL hK
 go_enter Tryz.func99,Tryz.ntmps99
 go_wp2_with fail
 refine con.mono ?_
 rintro e w2 ⟨rfl,b2⟩
 have B2:=hid b2
 clear con b2 t0 t1 t2 t3 hbs
 go_wp2_with fail
 go_ret
 exact ⟨rfl,B2.out⟩
theorem results_cell1 {P:Program} {fn:Func} {p:Tmp} {tp:TypeId} (h:fn.results=#[.cell p tp]) (tmps:Array Value) (w:World) (g1:Nat) (t1:TypeId) (cs1:Array Value) (fr1:Nat × Nat) (d1:TypeDesc)
 (hp:tmps.getD p undef=.pointer (some ⟨g1,0,none⟩)) (hg1:w.heap[g1]? = some (.cells cs1 t1 fr1))
 (hu1:P.underlying tp=some d1) (hd1:(match d1 with | .struct _ | .array _ _=>true|_=>false)=true) (hi1:(P.info? tp).map (·.size)=some cs1.size) :
 (results fn tmps).run P w=.ok (.agg cs1) w:=by
 have hp':tmps[p]?.getD undef=.pointer (some ⟨g1,0,none⟩):=by simpa using hp
 simp [results,h,hp',asAddr,Sem.run_bind,Result.andThen,run_loadVar_row w g1 t1 tp cs1 fr1 d1 hg1 hu1 hd1 hi1]
theorem q31_any {q:Nat->Prop} {ar:Option Addr} {cr br:Nat} {r:List Val} {w:World} (hr:SlV valR q w (.slice ar r.length cr) r) (hbr:w.heap[br]? = some (.cells #[.slice ar r.length cr] 35 (0,0))) (n:Nat) (hn:n<r.length) :
 Calls Tryz.prog 104 #[.int .i64 n,.pointer (some ⟨br,0,none⟩)] w fun e w'=>e=.returned (.agg #[.int .i64 r[n].kind,.int .i64 r[n].n,.string r[n].s])/\Below w.heap.size w w':=by
 obtain ⟨_,_,hmx,hrow⟩:=hr.row
 obtain ⟨bb,oo,rfl,_,hbb⟩:=hrow.addr (by intro e;rw [e] at hn;cases hn)
 obtain ⟨x0,x1,x2⟩:=hrow.val n hn
 obtain ⟨x,hx⟩:∃ x,x=r[n]:=⟨_,rfl⟩
 rw [<- hx] at x0 x1 x2 ⊢
 have HBR:=hid hbr
 have HX:=hid (show _/\_/\_ from ⟨x0,x1,x2⟩)
 clear hrow hr hx hbr x0 x1 x2
 go_enter Tryz.func104,Tryz.ntmps104
 go_upto_region 1 with (fail)
 generalize hW:World.alloc _ _=W
 have hb:Below w.heap.size w W:=by rw [<- hW];exact (b0R).alloc (jR _) _
 have hq:W.heap[w.heap.size]? = some (.cells #[.int .i64 0,.int .i64 0,.string ⟨#[]⟩] 55 (0,0)):=by rw [<- hW];exact heap_alloc_new _ _
 have HQ:=hid hq
 have BW:=hid hb
 have t0:=jC ((hb.block _ (jB HBR.out)).trans HBR.out) 0
 have g0:=jC hq 0
 have g1:=jC hq 1
 have g2:=jC hq 2
 have e0:=free_of hq 0
 have e1:=free_of hq 1
 have e2:=free_of hq 2
 simp only [gT,gZ,gS] at t0 g0 g1 g2
 have x0:=(hb.cell (p:=⟨bb,oo+n * 3,none⟩) hbb).trans HX.out.1
 have x1:=(hb.cell (p:=⟨bb,oo+n * 3+1,none⟩) hbb).trans HX.out.2.1
 have x2:=(hb.cell (p:=⟨bb,oo+n * 3+2,none⟩) hbb).trans HX.out.2.2
 clear hW hq hb
 go_wp2_with fail
 have hf:(((W.setCell ⟨w.heap.size,0,none⟩ (.int .i64 x.kind)).setCell ⟨w.heap.size,1,none⟩ (.int .i64 x.n)).setCell ⟨w.heap.size,2,none⟩ (.string x.s)).heap[w.heap.size]? = some (.cells #[.int .i64 x.kind,.int .i64 x.n,.string x.s] 55 (0,0)) :=
  (heap_setCell_same _ _ _ _ _ _ ((heap_setCell_same _ _ _ _ _ _ ((heap_setCell_same _ _ _ _ _ _ HQ.out).trans rfl)).trans rfl)).trans rfl
 refine bodyPost_ret (results_cell1 rfl _ _ w.heap.size 55 _ (0,0) _ rfl hf Tryz.underlying55 rfl (by kernel_rfl)) rfl ?_
 exact ⟨rfl,((BW.out.setCell (p:=⟨w.heap.size,0,none⟩) (jR _) _).setCell (p:=⟨w.heap.size,1,none⟩) (jR _) _).setCell (p:=⟨w.heap.size,2,none⟩) (jR _) _⟩
theorem RowAt.drop3 {p:Nat->Prop} {w:World} {b off:Nat} {L:List Val} (h:RowAt valR p w (some ⟨b,off,none⟩) L) (k:Nat):RowAt valR p w (some ⟨b,off+k * 3,none⟩) (L.drop k):=by
 rcases h with rfl|⟨b',off',e,hp,hb,h⟩
 · exact Or.inl (by simp)
 · cases e
   by_cases hk:L.length<=k
   · exact Or.inl (List.drop_eq_nil_of_le hk)
   refine Or.inr ⟨b,off+k * 3,rfl,hp,hb.sub (Nat.le_add_right _ _) (by rw [List.length_drop];show off+k * 3+(L.length - k) * 3<=off+L.length * 3;omega),fun t ht=>?_⟩
   rw [List.length_drop] at ht
   obtain ⟨cs,h1,h2⟩:=h (k+t) (by omega)
   refine ⟨cs,fun j hj=>?_,by rw [List.getElem_drop];exact h2⟩
   have h3:=h1 j hj
   have e3:valR.sz=3:=rfl
   rw [e3] at h3 ⊢
   rw [show off+k * 3+t * 3+j=off+(k+t) * 3+j by omega]
   exact h3
theorem q4_any {q:Nat->Prop} {ar ab:Option Addr} {cr cb bb m:Nat} {r:List Val} {w:World} (hr:SlV valR q w (.slice ar r.length cr) r) (hb:w.heap[bb]? = some (.cells #[.slice ab m cb] 22 (0,0))) (hm:m<=r.length) (hsp:∀ ad,ar=some ad->ad.spot=none) :
 Calls Tryz.prog 105 #[.slice ar r.length cr,.pointer (some ⟨bb,0,none⟩)] w fun e w'=>∃ a' c',e=.returned (.slice a' (r.drop m).length c')/\SlV valR q w (.slice a' (r.drop m).length c') (r.drop m)/\w'=w:=by
 obtain ⟨_,hcap,hmx,hrow⟩:=hr.row
 have t0:=jC hb 0
 simp only [gT,gZ,gS] at t0
 cases ar with
 | none =>
  have h0:=row_nil hrow rfl
  have hr0:r=[]:=List.eq_nil_of_length_eq_zero h0
  subst hr0
  obtain rfl:m=0:=by simpa using hm
  clear hr hb hrow
  go_enter Tryz.func105,Tryz.ntmps105
  go_wp2_with fail
  go_ret
  exact ⟨_,_,rfl,⟨_,_,rfl,by simp,by simp,RowAt.nil⟩,rfl⟩
 | some ad =>
  obtain ⟨b,off,sp⟩:=ad
  obtain rfl:sp=none:=hsp _ rfl
  have HD:=hid (hrow.drop3 m)
  have hld:(r.drop m).length=r.length - m:=List.length_drop
  rw [hld]
  clear hr hb hrow hld hsp
  by_cases hcm:cr=m
  · have h0:r.drop m=[]:=List.drop_eq_nil_of_le (by omega)
    have H0:=hid h0
    clear h0
    go_enter Tryz.func105,Tryz.ntmps105
    go_wp2_with fail
    all_goals (go_ret;have hz:r.length - m=0:=by omega
               rw [H0.out,hz];exact ⟨_,_,rfl,⟨_,_,rfl,by simp,by simp,RowAt.nil⟩,rfl⟩)
  · go_enter Tryz.func105,Tryz.ntmps105
    go_wp2_with fail
    go_ret
    exact ⟨_,_,rfl,⟨_,_,by rw [List.length_drop],by rw [List.length_drop];omega,by rw [List.length_drop];omega,HD.out⟩,rfl⟩
end
section
open Go.RowKit
def aggF (agg:Int) (k:Nat) (L:List (List Val)):Val:=L.foldl (fun out r=>aggStep agg out (valAt r (k:Int))) val0
theorem aggF_take {agg:Int} {k:Nat} {L:List (List Val)} {t:Nat} (ht:t<L.length):aggF agg k (L.take (t+1))=aggStep agg (aggF agg k (L.take t)) (valAt L[t] (k:Int)):=by
 unfold aggF
 rw [List.take_succ_eq_append_getElem ht,List.foldl_append]
 rfl
theorem aggc_any {ar at_:Option Addr} {cr n ct:Nat} {L:List (List Val)} {told:List Int} {w:World} (hL:L.length<=1000000000000) :
 Calls Tryz.prog 100 #[.int .i64 1,.slice ar L.length cr,.slice at_ n ct] w fun e w'=>e=.returned (.agg #[.int .i64 (aggV 1 L told).kind,.int .i64 (aggV 1 L told).n,.string (aggV 1 L told).s])/\Below w.heap.size w w':=by
 go_enter Tryz.func100,Tryz.ntmps100
 go_upto_region 1 with (fail)
 generalize hW:World.alloc _ _=W
 have hb:Below w.heap.size w W:=by rw [<- hW];exact (b0R).alloc (jR _) _
 have hq:W.heap[w.heap.size]? = some (.cells #[.int .i64 0,.int .i64 0,.string ⟨#[]⟩] 55 (0,0)):=by rw [<- hW];exact heap_alloc_new _ _
 have HQ:=hid hq
 have BW:=hid hb
 have g0:=jC hq 0
 have g1:=jC hq 1
 have g2:=jC hq 2
 have e0:=free_of hq 0
 have e1:=free_of hq 1
 have e2:=free_of hq 2
 simp only [gT,gZ,gS] at g0 g1 g2
 clear hW hq hb
 go_wp2_with fail
 have hf:(((W.setCell ⟨w.heap.size,0,none⟩ (.int .i64 1)).setCell ⟨w.heap.size,1,none⟩ (.int .i64 (L.length:Int))).setCell ⟨w.heap.size,2,none⟩ (.string ⟨#[]⟩)).heap[w.heap.size]? = some (.cells #[.int .i64 1,.int .i64 (L.length:Int),.string ⟨#[]⟩] 55 (0,0)) :=
  (heap_setCell_same _ _ _ _ _ _ ((heap_setCell_same _ _ _ _ _ _ ((heap_setCell_same _ _ _ _ _ _ HQ.out).trans rfl)).trans rfl)).trans rfl
 refine bodyPost_ret (results_cell1 rfl _ _ w.heap.size 55 _ (0,0) _ rfl hf Tryz.underlying55 rfl (by kernel_rfl)) rfl ?_
 exact ⟨rfl,((BW.out.setCell (p:=⟨w.heap.size,0,none⟩) (jR _) _).setCell (p:=⟨w.heap.size,1,none⟩) (jR _) _).setCell (p:=⟨w.heap.size,2,none⟩) (jR _) _⟩
theorem vstored_at {w:World} {g:Nat} {y0 y1 y2 x0 x1 x2:Value} (h:w.heap[g]? = some (.cells #[y0,y1,y2] 55 (0,0))):(((w.setCell ⟨g,0,none⟩ x0).setCell ⟨g,1,none⟩ x1).setCell ⟨g,2,none⟩ x2).heap[g]? = some (.cells #[x0,x1,x2] 55 (0,0)) :=
 (heap_setCell_same _ _ _ _ _ _ ((heap_setCell_same _ _ _ _ _ _ ((heap_setCell_same _ _ _ _ _ _ h).trans rfl)).trans rfl)).trans rfl
def AggAt (w:World) (o:Val) (wr:World):Prop:=wr.heap[w.heap.size]? = some (.cells #[.int .i64 o.kind,.int .i64 o.n,.string o.s] 55 (0,0))/\Below w.heap.size w wr
theorem AggAt.put {w wr:World} {o:Val} (h:AggAt w o wr) (v:Val):AggAt w v (((wr.setCell ⟨w.heap.size,0,none⟩ (.int .i64 v.kind)).setCell ⟨w.heap.size,1,none⟩ (.int .i64 v.n)).setCell ⟨w.heap.size,2,none⟩ (.string v.s)) :=
 ⟨vstored_at h.1,((h.2.setCell (p:=⟨w.heap.size,0,none⟩) (jR _) _).setCell (p:=⟨w.heap.size,1,none⟩) (jR _) _).setCell (p:=⟨w.heap.size,2,none⟩) (jR _) _⟩
theorem agg_any {q:Nat->Prop} {ar:Option Addr} {cr n ct bt ot k agg:Nat} {L:List (List Val)} {w:World} (hR:SlV rowR q w (.slice ar L.length cr) L) (hL:L.length<=1000000000000) (hn:0<n) (hbt:bt<w.heap.size)
 (ht:w.cell? ⟨bt,ot,none⟩=some (.int .i64 (k:Int))) (hk:∀ r ∈ L,k<r.length) (hag:(agg:Int) ≠ 1) (hK:KindsAt w) :
 Calls Tryz.prog 100 #[.int .i64 (agg:Int),.slice ar L.length cr,.slice (some ⟨bt,ot,none⟩) n ct] w fun e w'=>e=.returned (.agg #[.int .i64 (aggF agg k L).kind,.int .i64 (aggF agg k L).n,.string (aggF agg k L).s])/\Below w.heap.size w w':=by
 have HR:=hid hR
 have HT:=hid ht
 have HK:=hid hk
 have HKI:=hid hK
 have d0:((agg:Int) == 1)=false:=by simpa using hag
 clear hR ht hk hK hag
 go_enter Tryz.func100,Tryz.ntmps100
 go_upto_region 1 with (fail)
 generalize hW:World.alloc _ _=W
 have A0:=hid (show AggAt w val0 W from ⟨by rw [<- hW];exact heap_alloc_new _ _,by rw [<- hW];exact (b0R).alloc (jR _) _⟩)
 clear hW
 go_wp2_with fail
 go_loopw [18] (fun x18 wr=>∃ t:Nat,t<=L.length/\x18=.int .i64 t/\Hid (AggAt w (aggF agg k (L.take t)) wr)) (fun x18 _=>L.length - (intOf x18).toNat)
 case atStart=>exact ⟨0,Nat.zero_le _,rfl,A0.out⟩
 case round =>
  obtain ⟨t,htl,rfl,HA⟩:=hrel
  clear A0
  by_cases hlt:t<L.length
  · obtain ⟨ba,oa,rfl,_,hba⟩:=HR.out.row.2.2.2.addr (by intro e;rw [e] at hlt;cases hlt)
    obtain ⟨rr,rc,hr0,hrv⟩:=HR.out.row.2.2.2.lst t hlt
    have hkr:=HK.out _ (List.getElem_mem hlt)
    obtain ⟨br,orr,hrr,_,hbr⟩:=hrv.row.2.2.2.addr (by intro e;rw [e] at hkr;cases hkr)
    subst hrr
    obtain ⟨v0,v1,v2⟩:=hrv.row.2.2.2.val k hkr
    obtain ⟨v,hv⟩:∃ v,v=L[t][k]:=⟨_,rfl⟩
    rw [<- hv] at v0 v1 v2
    obtain ⟨o,ho⟩:∃ o,o=aggF agg k (L.take t):=⟨_,rfl⟩
    have HST:=hid (show aggF agg k (L.take (t+1))=aggStep agg o v from by rw [aggF_take hlt,valAt_nat hkr,<- hv,<- ho])
    rw [<- ho] at HA
    have r0:=(HA.out.2.cell (p:=⟨ba,oa+t,none⟩) hba).trans hr0
    have c0:=(HA.out.2.cell (p:=⟨br,orr+k * 3,none⟩) hbr).trans v0
    have c1:=(HA.out.2.cell (p:=⟨br,orr+k * 3+1,none⟩) hbr).trans v1
    have c2:=(HA.out.2.cell (p:=⟨br,orr+k * 3+2,none⟩) hbr).trans v2
    have tt:=(HA.out.2.cell (p:=⟨bt,ot,none⟩) hbt).trans HT.out
    clear hr0 hrv v0 v1 v2 hv ho
    go_upto_region 7 with (fail)
    generalize hW2:World.alloc _ _=W2
    have hb2:Below wr.heap.size wr W2:=by rw [<- hW2];exact (b0R).alloc (jR _) _
    have HV:=hid (show W2.heap[wr.heap.size]? = some (.cells #[.int .i64 v.kind,.int .i64 v.n,.string v.s] 55 (0,0)) by rw [<- hW2];exact heap_alloc_new _ _)
    have HA2:=hid (show AggAt w o W2 from ⟨(hb2.block _ (jB HA.out.1)).trans HA.out.1,HA.out.2.trans (hb2.mono HA.out.2.size)⟩)
    have HS:=hid (show w.heap.size<wr.heap.size from jB HA.out.1)
    have x0:=jC HV.out 0
    have x1:=jC HV.out 1
    have x2:=jC HV.out 2
    have y0:=jC HA2.out.1 0
    have y1:=jC HA2.out.1 1
    have y2:=jC HA2.out.1 2
    simp only [gT,gZ,gS] at x0 x1 x2 y0 y1 y2
    have con:=vcmp_any v o W2 (HKI.out.below HA2.out.2)
    obtain ⟨c,hc⟩:∃ c,cmpV v o=c:=⟨_,rfl⟩
    rw [hc] at con
    have HCC:=hid hc
    clear hW2 hb2 r0 c0 c1 c2 tt hc
    go_wp2_with fail
    refine con.mono ?_
    rintro e w3 ⟨rfl,b3⟩
    have HV3:=cy b3 HV
    have HA3:=hid (show AggAt w o w3 from ⟨(b3.block _ (jB HA2.out.1)).trans HA2.out.1,HA2.out.2.trans (b3.mono HA2.out.2.size)⟩)
    clear con b3 x0 x1 x2 y0 y1 y2
    have x0:=jC HV3.out 0
    have x1:=jC HV3.out 1
    have x2:=jC HV3.out 2
    have y0:=jC HA3.out.1 0
    have y1:=jC HA3.out.1 1
    have y2:=jC HA3.out.1 2
    have e0:=free_of HA3.out.1 0
    have e1:=free_of HA3.out.1 1
    have e2:=free_of HA3.out.1 2
    simp only [gT,gZ,gS] at x0 x1 x2 y0 y1 y2
    by_cases hv0:v.kind=0
    · have d1:(v.kind == 0)=true:=by simpa using hv0
      have HE:=hid (show aggStep agg o v=o from by unfold aggStep;rw [if_pos hv0])
      clear hv0
      go_wp2_with fail
      go_roundw
      case rel=>exact ⟨t+1,by omega,by go_num,hid (by rw [HST.out,HE.out];exact HA3.out)⟩
      case measure=>simp [intOf];omega
    have d1:(v.kind == 0)=false:=by simpa using hv0
    by_cases ho0:o.kind=0
    · have d2:(o.kind == 0)=true:=by simpa using ho0
      have HE:=hid (show aggStep agg o v=v from by unfold aggStep;rw [if_neg hv0,if_pos ho0])
      clear hv0 ho0
      go_wp2_with fail
      go_roundw
      case rel=>exact ⟨t+1,by omega,by go_num,hid (by rw [HST.out,HE.out];exact HA3.out.put v)⟩
      case measure=>simp [intOf];omega
    have d2:(o.kind == 0)=false:=by simpa using ho0
    by_cases h2:(agg:Int)=2
    · have d3:((agg:Int) == 2)=true:=by simpa using h2
      have HE:=hid (show aggStep agg o v={ o with n:=wrap64 (o.n+v.n) } from by unfold aggStep;rw [if_neg hv0,if_neg ho0,if_pos h2])
      clear hv0 ho0 h2
      go_wp2_with fail
      go_roundw
      case rel=>exact ⟨t+1,by omega,by go_num,hid (by rw [HST.out,HE.out];exact ⟨(heap_setCell_same _ _ _ _ _ _ HA3.out.1).trans rfl,HA3.out.2.setCell (p:=⟨w.heap.size,1,none⟩) (jR _) _⟩)⟩
      case measure=>simp [intOf];omega
    have d3:((agg:Int) == 2)=false:=by simpa using h2
    by_cases h3:(agg:Int)=3
    · have h4:¬ (agg:Int)=4:=by omega
      have d5:((agg:Int) == 3)=true:=by simpa using h3
      have d7:((agg:Int) == 4)=false:=by simpa using h4
      by_cases hc0:c<0
      · have d6:decide (c<0)=true:=decide_eq_true hc0
        have HE:=hid (show aggStep agg o v=v from by unfold aggStep;rw [if_neg hv0,if_neg ho0,if_neg h2,HCC.out,if_pos (by omega)])
        clear hv0 ho0 h2 h3 h4 hc0
        go_wp2_with fail
        go_roundw
        case rel=>exact ⟨t+1,by omega,by go_num,hid (by rw [HST.out,HE.out];exact HA3.out.put v)⟩
        case measure=>simp [intOf];omega
      · have d6:decide (c<0)=false:=decide_eq_false hc0
        have HE:=hid (show aggStep agg o v=o from by unfold aggStep;rw [if_neg hv0,if_neg ho0,if_neg h2,HCC.out,if_neg (by omega)])
        clear hv0 ho0 h2 h3 h4 hc0
        go_wp2_with fail
        go_roundw
        case rel=>exact ⟨t+1,by omega,by go_num,hid (by rw [HST.out,HE.out];exact HA3.out)⟩
        case measure=>simp [intOf];omega
    · have d5:((agg:Int) == 3)=false:=by simpa using h3
      by_cases h4:(agg:Int)=4
      · have d7:((agg:Int) == 4)=true:=by simpa using h4
        by_cases hc0:c > 0
        · have d6:decide (c > 0)=true:=decide_eq_true hc0
          have HE:=hid (show aggStep agg o v=v from by unfold aggStep;rw [if_neg hv0,if_neg ho0,if_neg h2,HCC.out,if_pos (by omega)])
          clear hv0 ho0 h2 h3 h4 hc0
          go_wp2_with fail
          go_roundw
          case rel=>exact ⟨t+1,by omega,by go_num,hid (by rw [HST.out,HE.out];exact HA3.out.put v)⟩
          case measure=>simp [intOf];omega
        · have d6:decide (c > 0)=false:=decide_eq_false hc0
          have HE:=hid (show aggStep agg o v=o from by unfold aggStep;rw [if_neg hv0,if_neg ho0,if_neg h2,HCC.out,if_neg (by omega)])
          clear hv0 ho0 h2 h3 h4 hc0
          go_wp2_with fail
          go_roundw
          case rel=>exact ⟨t+1,by omega,by go_num,hid (by rw [HST.out,HE.out];exact HA3.out)⟩
          case measure=>simp [intOf];omega
      · have d7:((agg:Int) == 4)=false:=by simpa using h4
        have hc0:True:=trivial
        have HE:=hid (show aggStep agg o v=o from by unfold aggStep;rw [if_neg hv0,if_neg ho0,if_neg h2,HCC.out,if_neg (by omega)])
        clear hv0 ho0 h2 h3 h4 hc0
        go_wp2_with fail
        go_roundw
        case rel=>exact ⟨t+1,by omega,by go_num,hid (by rw [HST.out,HE.out];exact HA3.out)⟩
        case measure=>simp [intOf];omega
  · have htn:t=L.length:=by omega
    have HF:=hid (show AggAt w (aggF agg k L) wr from by have:=HA.out;rwa [htn,List.take_length] at this)
    have g0:=jC HF.out.1 0
    have g1:=jC HF.out.1 1
    have g2:=jC HF.out.1 2
    have e0:=free_of HF.out.1 0
    have e1:=free_of HF.out.1 1
    have e2:=free_of HF.out.1 2
    simp only [gT,gZ,gS] at g0 g1 g2
    go_wp2_with fail
    refine bodyPost_ret (results_cell1 rfl _ _ w.heap.size 55 _ (0,0) _ rfl (vstored_at HF.out.1) Tryz.underlying55 rfl (by kernel_rfl)) rfl ?_
    exact ⟨rfl,((HF.out.2.setCell (p:=⟨w.heap.size,0,none⟩) (jR _) _).setCell (p:=⟨w.heap.size,1,none⟩) (jR _) _).setCell (p:=⟨w.heap.size,2,none⟩) (jR _) _⟩
end
section
open Go.RowKit
theorem agg_all {q s:Nat->Prop} {ar at_:Option Addr} {cr ct:Nat} {agg:Int} {L:List (List Val)} {N:List Int} {w:World} (hR:SlV rowR q w (.slice ar L.length cr) L) (hL:L.length<=1000000000000) (hN:SlV intR s w (.slice at_ N.length ct) N) (h1:agg=1 \/ 0<N.length) (ha:0<=agg)
 (hN0:∀ n ∈ N,0<=n) (hrng:∀ r ∈ L,∀ n ∈ N,n<(r.length:Int)) (hK:KindsAt w) :
 Calls Tryz.prog 100 #[.int .i64 agg,.slice ar L.length cr,.slice at_ N.length ct] w fun e w'=>e=.returned (.agg #[.int .i64 (aggV agg L N).kind,.int .i64 (aggV agg L N).n,.string (aggV agg L N).s])/\Below w.heap.size w w':=by
 by_cases ha1:agg=1
 · subst ha1
   exact aggc_any hL
 · have h0:0<N.length:=h1.resolve_left ha1
   obtain ⟨g,rfl⟩:∃ g:Nat,agg=g:=⟨agg.toNat,by omega⟩
   obtain ⟨b,off,rfl,_,hb⟩:=hN.row.2.2.2.addr (by intro e;rw [e] at h0;cases h0)
   have c0:=hN.row.2.2.2.int 0 h0
   rw [Nat.add_zero] at c0
   have hm:N[0] ∈ N:=List.getElem_mem h0
   have hn:=hN0 _ hm
   obtain ⟨k,hk⟩:∃ k:Nat,N[0]=(k:Int):=⟨N[0].toNat,by omega⟩
   rw [hk] at c0
   have e:aggV (g:Int) L N=aggF g k L:=by
    unfold aggV aggF
    rw [if_neg ha1]
    have:N.headD 0=(k:Int):=by
     cases N with
     | nil=>cases h0
     | cons a l=>simpa using hk
    rw [this]
   rw [e]
   exact agg_any hR hL h0 hb c0 (fun r hr=>by have:=hrng r hr _ hm;omega) ha1 hK
def NewVal1 (S:Nat) (A:Val) (u:Value) (w:World):Prop:=∃ g,u=.slice (some ⟨g,0,none⟩) 1 1/\S<=g/\w.heap[g]? = some (.cells #[.int .i64 A.kind,.int .i64 A.n,.string A.s] 55 (0,0))
def NewRow1 (S:Nat) (A:Val) (u:Value) (w:World):Prop:=∃ g g2,u=.slice (some ⟨g2,0,none⟩) 1 1/\S<=g/\S<=g2/\w.heap[g]? = some (.cells #[.int .i64 A.kind,.int .i64 A.n,.string A.s] 55 (0,0))/\w.heap[g2]? = some (.cells #[.slice (some ⟨g,0,none⟩) 1 1] 35 (0,0))
theorem NewVal1.grown {S:Nat} {A:Val} {u:Value} {w w':World} {r:Nat} (h:NewVal1 S A u w) (hr:r<S) (hg:w.grownBy w' (some r)):NewVal1 S A u w':=by
 obtain ⟨g,h1,h2,h3⟩:=h
 exact ⟨g,h1,h2,(hg.block g (jB h3) (by intro e;have:=jI e;omega)).trans h3⟩
theorem NewRow1.grown {S:Nat} {A:Val} {u:Value} {w w':World} {r:Nat} (h:NewRow1 S A u w) (hr:r<S) (hg:w.grownBy w' (some r)):NewRow1 S A u w':=by
 obtain ⟨g,g2,h1,h2,h3,h4,h5⟩:=h
 exact ⟨g,g2,h1,h2,h3,(hg.block g (jB h4) (by intro e;have:=jI e;omega)).trans h4,(hg.block g2 (jB h5) (by intro e;have:=jI e;omega)).trans h5⟩
theorem NewRow1.sl {S:Nat} {A:Val} {u:Value} {w:World} (h:NewRow1 S A u w):SlV rowR (fun k=>S<=k) w u [[A]]:=by
 obtain ⟨g,g2,rfl,h2,h3,h4,h5⟩:=h
 refine ⟨some ⟨g2,0,none⟩,1,rfl,jR _,by simp,Or.inr ⟨g2,0,rfl,h3,Live.of_block h5,fun t ht=>?_⟩⟩
 obtain rfl:t=0:=by simp at ht;omega
 refine ⟨[.slice (some ⟨g,0,none⟩) 1 1],fun j hj=>?_,some ⟨g,0,none⟩,1,rfl,jR _,by simp,Or.inr ⟨g,0,rfl,h2,Live.of_block h4,fun i hi=>?_⟩⟩
 · obtain rfl:j=0:=by have e:rowR.sz=1:=rfl;omega
   simpa using jC h5 0
 · obtain rfl:i=0:=by simp at hi;omega
   refine ⟨valEnc A,fun j hj=>?_,rfl⟩
   have e:valR.sz=3:=rfl
   rw [e] at hj ⊢
   have:=jC h4 j
   simp only [Nat.zero_mul,Nat.zero_add]
   rw [this]
   simp [valEnc]
end
section
open Go.RowKit
end
end Go.Proofs.YtgemihkcihigpaaGreatDoor
