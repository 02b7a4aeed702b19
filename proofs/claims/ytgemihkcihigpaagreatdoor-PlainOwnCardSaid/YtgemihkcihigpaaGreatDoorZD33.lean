/- plain.query. -/
import Derived.Test.YtgemihkcihigpaaGreatDoorZD32
set_option linter.unusedVariables false
set_option linter.unusedSimpArgs false
set_option maxRecDepth 100000
set_option maxHeartbeats 64000000
namespace Go.Proofs.YtgemihkcihigpaaGreatDoor
open Go.Lib (hid)
section
open Go.RowKit
theorem query_any {p p':Nat->Prop} {s:StV} {st:Stmt} {sv stv:Value} {w:World} (hs:StAt p w sv s) (hst:StmtV p' w stv st) (hC:CatOk s.tabs) (hR:RowsSmall s.rows) (hl:s.rows.length=s.tabs.length)
 (hw:∀ n (h1:n<s.rows.length) (h2:n<s.tabs.length),∀ r ∈ s.rows[n],r.length=s.tabs[n].cols.length) (hK:KindsAt w) (hnl:st.names.length<=500000) (hol:st.order.length<=500000) :
 Calls Tryz.prog 43 #[sv,stv] w fun e w'=>DoesPost p w True (queryE s st,s,queryA s st) e w':=by
 obtain ⟨i0,hi,hz0,hz1,hz2⟩:=info_parts info_arr
 have HSA:=hid hs
 have HST:=hid hst
 obtain ⟨a1,c1,a2,c2,rfl,htabs,hrows⟩:=hs
 obtain ⟨C,R⟩:=s
 simp only at *
 have HC:=hid hC
 have HR:=hid hR
 have HRC1:=hid hl
 have HW:=hid hw
 have HKI:=hid hK
 have HNL:=hid (Nat.le_trans hnl (show 500000<=1000000 by decide))
 have HOL:=hid (Nat.le_trans hol (show 500000<=1000000 by decide))
 have HN5:=hid hnl
 have HO5:=hid hol
 obtain ⟨a3,c3,a4,c4,a5,c5,a6,c6,a7,c7,a12,c12,rfl,_,hnames,_,_,hwher,horder⟩:=hst
 have HNAMES:=hid hnames.bound
 have HWHER:=hid hwher.bound
 have HORDER:=hid horder.bound
 obtain ⟨Pst,hPst⟩:∃ Pst,Pst=DoesPost p w True (queryE ⟨C,R⟩ st,⟨C,R⟩,queryA ⟨C,R⟩ st):=⟨_,rfl⟩
 have HPST:=hid hPst
 rw [<- hPst]
 clear htabs hrows hC hR hPst hl hw hK hnl hol hnames hwher horder
 go_enter Tryz.func43,Tryz.ntmps43
 go_upto_region 1 with (fail)
 generalize hW:World.alloc _ _=W0
 have hA':allocs w [_,_,_,_]=W0:=hW
 have hq0:W0.heap[w.heap.size]? = some (.cells #[.slice a1 C.length c1,.slice a2 R.length c2] 27 (0,0)):=allocs_get hA' 0 rfl
 have hq1:W0.heap[w.heap.size+1]? = some (.cells #[.int .i64 st.kind,.string st.table,.string st.name,.slice a3 st.cols.length c3,.slice a4 st.names.length c4,.slice a5 st.row.length c5,.slice a6 st.sets.length c6,.slice a7 st.wher.length c7,.string st.join,.string st.left,.string st.right,.int .i64 st.agg,.slice a12 st.order.length c12,.int .i64 st.mode,.int .i64 st.n] 39 (0,0)):=allocs_get hA' 1 rfl
 have hq2:W0.heap[w.heap.size+1+1]? = some (.cells #[.slice none 0 0,.slice none 0 0] 27 (0,0)):=allocs_get hA' 2 rfl
 have hq3:W0.heap[w.heap.size+1+1+1]? = some (.cells #[.int .i64 0,.slice none 0 0,.int .i64 0] 43 (0,0)):=allocs_get hA' 3 rfl
 have B0:=hid (allocs_self hA')
 have HS0:=hid (show W0.heap.size=w.heap.size+4 by rw [<- hA',allocs_size];rfl)
 have Q0:=hid hq0
 have Q1:=hid hq1
 have Q2:=hid hq2
 have Q3:=hid hq3
 clear hA' hW hq0 hq1 hq2 hq3
 have s11:=jC Q1.out 11
 simp only [gT,gZ,gS] at s11
 go_upto_if 15 with (fail)
 generalize hgb:decide (st.agg > 1)=gb
 have HGB:=hid hgb
 clear hgb
 go_cut [6] from 13 to 15 (fun x6 wx=>∃ nd:Int,x6=.int .i64 nd/\Hid (nd=if 1<st.agg then 1 else 0)/\W0=wx)
 case first =>
  cases gb
  case true =>
   have hg:1<st.agg:=by simpa using HGB.out
   have HG:=hid (show (1:Int)=if 1<st.agg then 1 else 0 from by rw [if_pos hg])
   clear hg
   go_wp2_with fail
   go_meet
   exact ⟨1,rfl,HG,rfl⟩
  case false =>
   have hg:¬ 1<st.agg:=by simpa using HGB.out
   have HG:=hid (show (0:Int)=if 1<st.agg then 1 else 0 from by rw [if_neg hg])
   clear hg
   go_wp2_with fail
   go_meet
   exact ⟨0,rfl,HG,rfl⟩
 case rest =>
 obtain ⟨nd,rfl,HND,rfl⟩:=hcut
 have s4:=jC Q1.out 4
 simp only [gT,gZ,gS] at s4
 go_upto_region 4 with (fail)
 go_cut [35] from 16 to 35 (fun x35 wx=>x35=.bool (badArg st nd)/\W0=wx)
 case first =>
  by_cases h1:st.agg<0
  · have d1:decide (st.agg<0)=true:=decide_eq_true h1
    have HE:=hid (show badArg st nd=true from by simp [badArg,h1])
    clear h1
    go_wp2_with fail
    go_meet
    exact ⟨by rw [HE.out],rfl⟩
  have d1:decide (st.agg<0)=false:=decide_eq_false h1
  by_cases h2:st.agg > 4
  · have d2:decide (st.agg > 4)=true:=decide_eq_true h2
    have HE:=hid (show badArg st nd=true from by simp [badArg];omega)
    clear h1 h2
    go_wp2_with fail
    go_meet
    exact ⟨by rw [HE.out],rfl⟩
  have d2:decide (st.agg > 4)=false:=decide_eq_false h2
  by_cases h3:st.agg > 0
  · have d3:decide (st.agg > 0)=true:=decide_eq_true h3
    cases hq:(st.names.length:Int) != nd
    · have HE:=hid (show badArg st nd=false from by simp only [badArg,hq];simp;omega)
      clear h1 h2 h3
      go_wp2_with fail
      go_meet
      exact ⟨by rw [HE.out],rfl⟩
    · have HE:=hid (show badArg st nd=true from by simp only [badArg,hq];simp;omega)
      clear h1 h2 h3
      go_wp2_with fail
      go_meet
      exact ⟨by rw [HE.out],rfl⟩
  · have d3:decide (st.agg > 0)=false:=decide_eq_false h3
    have HE:=hid (show badArg st nd=false from by simp [badArg];omega)
    clear h1 h2 h3
    go_wp2_with fail
    go_meet
    exact ⟨by rw [HE.out],rfl⟩
 case rest =>
 obtain ⟨rfl,rfl⟩:=hcut
 clear s11 s4
 cases hba:badArg st nd
 case true =>
  have hse:(1:Int) ≠ 0:=by decide
  have HBA:=hid hba
  clear hba
  go_wp2_with fail
  refine (wrong_any 1 _).mono ?_
  rintro e wx ⟨rfl,bx⟩
  have BX:=hid (B0.out.trans (bx.mono B0.out.size))
  have hx2:=(bx.block _ (jB Q2.out)).trans Q2.out
  have hx3:=(bx.block _ (jB Q3.out)).trans Q3.out
  have xg0:=jC hx2 0
  have xg1:=jC hx2 1
  have xf0:=free_of hx2 0
  have xf1:=free_of hx2 1
  have xm0:=jC hx3 0
  have xm1:=jC hx3 1
  have xm2:=jC hx3 2
  have xn0:=free_of hx3 0
  have xn1:=free_of hx3 1
  have xn2:=free_of hx3 2
  simp only [gT,gZ,gS] at xg0 xg1 xm0 xm1 xm2
  unfold emptyS
  have HW3:=hid (stored_at (x0:=.slice none 0 0) (x1:=.slice none 0 0) (y0:=.int .i64 (1)) (y1:=.slice none 0 0) (y2:=.int .i64 0) hx2 hx3)
  have HBF:=hid (stored_below (x0:=.slice none 0 0) (x1:=.slice none 0 0) (y0:=.int .i64 (1)) (y1:=.slice none 0 0) (y2:=.int .i64 0) BX.out (show w.heap.size<=w.heap.size+1+1 by omega) (show w.heap.size<=w.heap.size+1+1+1 by omega))
  clear bx hx2 hx3
  go_wp2_with fail
  refine bodyPost_ret (results_cells2 rfl _ _ (w.heap.size+1+1) (w.heap.size+1+1+1) 27 43 _ _ (0,0) (0,0) _ _ rfl rfl HW3.out.1 HW3.out.2 Tryz.underlying27 rfl (by kernel_rfl) Tryz.underlying43 rfl (by kernel_rfl)) rfl ?_
  rw [HPST.out]
  exact does_err (by show queryE _ _=_;exact queryE_arg HND.out HBA.out) (by first|decide|exact hse) HBF.out
 case false =>
 have HBA:=hid hba
 clear hba
 have x0:=jC Q0.out 0
 have x1:=jC Q0.out 1
 have y0:=jC Q1.out 0
 have y1:=jC Q1.out 1
 have y2:=jC Q1.out 2
 have y3:=jC Q1.out 3
 have y4:=jC Q1.out 4
 have y5:=jC Q1.out 5
 have y6:=jC Q1.out 6
 have y7:=jC Q1.out 7
 have y8:=jC Q1.out 8
 have y9:=jC Q1.out 9
 have y10:=jC Q1.out 10
 have y11:=jC Q1.out 11
 have y12:=jC Q1.out 12
 have y13:=jC Q1.out 13
 have y14:=jC Q1.out 14
 simp only [gT,gZ,gS] at x0 x1 y0 y1 y2 y3 y4 y5 y6 y7 y8 y9 y10 y11 y12 y13 y14
 have con:=from_any (s:=⟨C,R⟩) (st:=st) (HSA.out.below B0.out) (HST.out.below B0.out) HC.out HR.out HRC1.out HW.out (HKI.out.below B0.out)
 have HPL:=hid (from_fine (s:=⟨C,R⟩) (st:=st) HC.out HR.out HRC1.out HW.out)
 obtain ⟨fe,hfe⟩:∃ fe,fromE ⟨C,R⟩ st=fe:=⟨_,rfl⟩
 obtain ⟨T,hT⟩:∃ T,fromT ⟨C,R⟩ st=T:=⟨_,rfl⟩
 obtain ⟨L,hL⟩:∃ L,fromR ⟨C,R⟩ st=L:=⟨_,rfl⟩
 rw [hfe,hT,hL] at con HPL
 have HFE:=hid hfe
 have HT:=hid hT
 have HL:=hid hL
 clear hfe hT hL
 go_wp2_with fail
 refine con.mono ?_
 rintro e w1 ⟨ti,tn,xa1,xn1,xc1,xa2,xn2,xc2,xa3,xn3,xc3,rfl,b1,hfp⟩
 have HFP:=hid hfp
 have B1:=hid (B0.out.trans (b1.mono B0.out.size))
 have HQ2:=cy b1 Q2
 have HQ3:=cy b1 Q3
 have HQ0:=cy b1 Q0
 have HQ1:=cy b1 Q1
 have HS1:=hid (show w.heap.size+4<=w1.heap.size from Nat.le_trans (Nat.le_of_eq HS0.out.symm) b1.size)
 clear con b1 hfp x0 x1 y0 y1 y2 y3 y4 y5 y6 y7 y8 y9 y10 y11 y12 y13 y14 Q0 Q1 Q2 Q3
 go_upto_region 7 with (fail)
 generalize hA:World.alloc _ _=W2
 have hbA:Below w1.heap.size w1 W2:=by rw [<- hA];exact (b0R).alloc (jR _) _
 have QT0:=hid (show W2.heap[w1.heap.size]? = some (.cells #[.int .i64 ti,.string tn,.slice xa1 xn1 xc1,.slice xa2 xn2 xc2] 75 (0,0)) by rw [<- hA];exact heap_alloc_new _ _)
 have B2:=hid (B1.out.trans (hbA.mono B1.out.size))
 have QW0:=cy hbA HQ0
 have QW1:=cy hbA HQ1
 have QW2:=cy hbA HQ2
 have QW3:=cy hbA HQ3
 have HS2:=hid (show w.heap.size+4<=W2.heap.size from Nat.le_trans HS1.out hbA.size)
 have BA:=hid hbA
 have QF:=hid (show QFine ⟨C,R⟩ st nd from ⟨HND.out,HBA.out⟩)
 clear hA hbA HQ0 HQ1 HQ2 HQ3
 by_cases hfe0:fe ≠ 0
 · have hse:fe ≠ 0:=hfe0
   have d47:(fe != 0)=true:=by simpa using hfe0
   clear hfe0
   go_wp2_with fail
   refine (wrong_any fe _).mono ?_
   rintro e wx ⟨rfl,bx⟩
   have BX:=hid (B2.out.trans (bx.mono B2.out.size))
   have hx2:=(bx.block _ (jB QW2.out)).trans QW2.out
   have hx3:=(bx.block _ (jB QW3.out)).trans QW3.out
   have xg0:=jC hx2 0
   have xg1:=jC hx2 1
   have xf0:=free_of hx2 0
   have xf1:=free_of hx2 1
   have xm0:=jC hx3 0
   have xm1:=jC hx3 1
   have xm2:=jC hx3 2
   have xn0:=free_of hx3 0
   have xn1:=free_of hx3 1
   have xn2:=free_of hx3 2
   simp only [gT,gZ,gS] at xg0 xg1 xm0 xm1 xm2
   unfold emptyS
   have HW3:=hid (stored_at (x0:=.slice none 0 0) (x1:=.slice none 0 0) (y0:=.int .i64 (fe)) (y1:=.slice none 0 0) (y2:=.int .i64 0) hx2 hx3)
   have HBF:=hid (stored_below (x0:=.slice none 0 0) (x1:=.slice none 0 0) (y0:=.int .i64 (fe)) (y1:=.slice none 0 0) (y2:=.int .i64 0) BX.out (show w.heap.size<=w.heap.size+1+1 by omega) (show w.heap.size<=w.heap.size+1+1+1 by omega))
   clear bx hx2 hx3
   go_wp2_with fail
   refine bodyPost_ret (results_cells2 rfl _ _ (w.heap.size+1+1) (w.heap.size+1+1+1) 27 43 _ _ (0,0) (0,0) _ _ rfl rfl HW3.out.1 HW3.out.2 Tryz.underlying27 rfl (by kernel_rfl) Tryz.underlying43 rfl (by kernel_rfl)) rfl ?_
   rw [HPST.out]
   exact does_err (by show queryE _ _=_;rw [QF.out.e,HFE.out,if_pos hse]) (by first|decide|exact hse) HBF.out
 obtain rfl:fe=0:=by simpa using hfe0
 have d47:((0:Int) != 0)=false:=rfl
 obtain ⟨hTV,hLV⟩:=HFP.out rfl
 obtain ⟨hTC0,hLC,hWD⟩:=HPL.out rfl
 have HTV1:=hid hTV
 obtain ⟨ac,cc,ai,ci,htv0,_,_⟩:=hTV
 simp only [Value.agg.injEq,Array.mk.injEq,List.cons.injEq,Value.int.injEq,Value.string.injEq,Value.slice.injEq,and_true,true_and] at htv0
 obtain ⟨rfl,rfl,⟨rfl,rfl,rfl⟩,rfl,rfl,rfl⟩:=htv0
 obtain ⟨rfl,_⟩:=hLV.row
 have HTV:=hid (HTV1.out.below BA.out).bound
 have HLV:=hid (hLV.below BA.out).bound
 have hTC:T.cols.length<=1000000:=by omega
 have HLC:=hid hLC
 have HWD:=hid hWD
 have HE2:=hid (show queryE ⟨C,R⟩ st=if anyNeg (st.names.map (colOf T)) then 50
  else if st.agg=2/\kindAt T.cols ((st.names.map (colOf T)).headD 0) ≠ 1 then 52
  else if lacksB T st.wher then 50
  else if 0<st.agg then 0
  else if anyNeg (st.order.map (colOf T)) then 50
  else if 400<(L.filter (fitsW T st.wher)).length then 2 else 0 from by rw [QF.out.e,HFE.out,HT.out,HL.out,if_neg (by simp)])
 clear hLV hfe0 HTV1 HFP HPL hLC hWD
 have s4:=jC QW1.out 4
 simp only [gT,gZ,gS] at s4
 obtain ⟨TL,hTL⟩:∃ TL,st.names.map (colOf T)=TL:=⟨_,rfl⟩
 have con:=told_any' HTV.out hTC QT0.out (HNAMES.out.below B2.out) HNL.out hTL
 have HTL:=hid hTL
 clear hTL
 go_wp2_with fail
 refine con.mono ?_
 rintro e w3 ⟨va,vc,rfl,b3,o3⟩
 have O3:=hid o3
 have BB3:=hid b3
 clear con b3 o3 s4
 go_upto_region 11 with (fail)
 generalize hA:World.alloc _ _=W4
 have hbA:Below w3.heap.size w3 W4:=by rw [<- hA];exact (b0R).alloc (jR _) _
 have hb4:Below W2.heap.size W2 W4:=BB3.out.trans (hbA.mono BB3.out.size)
 have QN4:=hid (show W4.heap[w3.heap.size]? = some (.cells #[.slice va TL.length vc] 22 (0,0)) by rw [<- hA];exact heap_alloc_new _ _)
 have HTL4:=hid (O3.out.below hbA)
 have B4:=hid (B2.out.trans (hb4.mono B2.out.size))
 have BD:=hid hb4
 have X2:=cy hb4 QW2
 have X3:=cy hb4 QW3
 clear hA hbA
 have u0:=jC QN4.out 0
 simp only [gT,gZ,gS] at u0
 have con:=neg_any HTL4.out
 obtain ⟨ng,hng⟩:∃ ng,anyNeg TL=ng:=⟨_,rfl⟩
 rw [hng] at con
 have HNG:=hid hng
 clear hng hb4
 go_wp2_with fail
 refine con.mono ?_
 rintro e W4 ⟨rfl,rfl⟩
 clear con
 cases ng
 case true =>
  have hse:(50:Int) ≠ 0:=by decide
  go_wp2_with fail
  refine (wrong_any 50 _).mono ?_
  rintro e wx ⟨rfl,bx⟩
  have BX:=hid (B4.out.trans (bx.mono B4.out.size))
  have hx2:=(bx.block _ (jB X2.out)).trans X2.out
  have hx3:=(bx.block _ (jB X3.out)).trans X3.out
  have xg0:=jC hx2 0
  have xg1:=jC hx2 1
  have xf0:=free_of hx2 0
  have xf1:=free_of hx2 1
  have xm0:=jC hx3 0
  have xm1:=jC hx3 1
  have xm2:=jC hx3 2
  have xn0:=free_of hx3 0
  have xn1:=free_of hx3 1
  have xn2:=free_of hx3 2
  simp only [gT,gZ,gS] at xg0 xg1 xm0 xm1 xm2
  unfold emptyS
  have HW3:=hid (stored_at (x0:=.slice none 0 0) (x1:=.slice none 0 0) (y0:=.int .i64 (50)) (y1:=.slice none 0 0) (y2:=.int .i64 0) hx2 hx3)
  have HBF:=hid (stored_below (x0:=.slice none 0 0) (x1:=.slice none 0 0) (y0:=.int .i64 (50)) (y1:=.slice none 0 0) (y2:=.int .i64 0) BX.out (show w.heap.size<=w.heap.size+1+1 by omega) (show w.heap.size<=w.heap.size+1+1+1 by omega))
  clear bx hx2 hx3
  go_wp2_with fail
  refine bodyPost_ret (results_cells2 rfl _ _ (w.heap.size+1+1) (w.heap.size+1+1+1) 27 43 _ _ (0,0) (0,0) _ _ rfl rfl HW3.out.1 HW3.out.2 Tryz.underlying27 rfl (by kernel_rfl) Tryz.underlying43 rfl (by kernel_rfl)) rfl ?_
  rw [HPST.out]
  exact does_err (by show queryE _ _=_;rw [HE2.out,HTL.out,HNG.out];rfl) (by first|decide|exact hse) HBF.out
 case false =>
 have HRG:=hid (told_rng HTL.out HNG.out)
 have HE3:=hid (show queryE ⟨C,R⟩ st=if st.agg=2/\kindAt T.cols (TL.headD 0) ≠ 1 then 52
  else if lacksB T st.wher then 50
  else if 0<st.agg then 0
  else if anyNeg (st.order.map (colOf T)) then 50
  else if 400<(L.filter (fitsW T st.wher)).length then 2 else 0 from by rw [HE2.out,HTL.out,HNG.out,if_neg (by simp)])
 have HB13:=hid (show ∃ sb,decide (st.agg=2/\kindAt T.cols (TL.headD 0) ≠ 1)=sb from ⟨_,rfl⟩)
 obtain ⟨sb,hsb⟩:=HB13.out
 have HSB:=hid hsb
 clear hsb HB13
 have s11:=jC ((BD.out.block _ (jB QW1.out)).trans QW1.out) 11
 have t2:=jC ((BD.out.block _ (jB QT0.out)).trans QT0.out) 2
 simp only [gT,gZ,gS] at s11 t2
 go_upto_region 13 with (fail)
 go_cut [63] from 63 to 77 (fun x63 wx=>x63=.bool sb/\Hid (Below W4.heap.size W4 wx))
 case first =>
  by_cases h2:st.agg=2
  · have d1:(st.agg == 2)=true:=by simpa using h2
    have hn1:=(QF.out.agg).2.2.1 (by omega)
    have htl:0<TL.length:=by rw [<- HTL.out,List.length_map];omega
    obtain ⟨bn,on,rfl,_,hbn⟩:=HTL4.out.row.2.2.2.addr (by intro e;rw [e] at htl;cases htl)
    have v0:=HTL4.out.row.2.2.2.int 0 htl
    obtain ⟨h0,h1⟩:=HRG.out _ (List.getElem_mem htl)
    obtain ⟨k,hk⟩:∃ k:Nat,TL[0]=(k:Int):=⟨TL[0].toNat,by omega⟩
    rw [hk] at v0 h1
    have hkc:k<T.cols.length:=by omega
    obtain ⟨bc,oc,rfl,_,hbc⟩:=HTV.out.parts.1.row.2.2.2.addr (by intro e;rw [e] at hkc;cases hkc)
    have c0:=((HTV.out.below BD.out).parts.1.row.2.2.2.col k hkc).2
    obtain ⟨kd,hkd⟩:∃ kd,T.cols[k].2=kd:=⟨_,rfl⟩
    rw [hkd] at c0
    have HSBE:=hid (show sb=(kd != 1) from by
     have e1:TL.headD 0=(k:Int):=by
      cases hTLc:TL with
      | nil=>rw [hTLc] at htl;cases htl
      | cons a l=>simp only [hTLc,List.getElem_cons_zero] at hk;simpa using hk
     rw [<- HSB.out,e1,kind_at hkc,hkd]
     by_cases h:kd=1
     · simp [h]
     · simp [h,h2])
    rw [Nat.add_zero] at v0
    have i1:(0:Int)<(TL.length:Int):=by omega
    have i2:(k:Int)<(T.cols.length:Int):=by omega
    have i3:(0:Int)<=(k:Int):=by omega
    clear h0 h1 hk hkd h2 hn1
    go_quiet (fail)
    go_wp2_with fail
    go_meet
    exact ⟨by rw [HSBE.out],below_drewN b0R _⟩
  · have d1:(st.agg == 2)=false:=by simpa using h2
    have HSBE:=hid (show sb=false from by rw [<- HSB.out];simp [h2])
    clear h2
    go_quiet (fail)
    go_wp2_with fail
    go_meet
    exact ⟨by rw [HSBE.out],below_drewN b0R _⟩
 case rest =>
 obtain ⟨rfl,W5⟩:=hcut
 clear s11 t2 u0
 have B5:=hid (B4.out.trans (W5.out.mono B4.out.size))
 have BD5:=hid (BD.out.trans (W5.out.mono BD.out.size))
 have X2b:=cy W5.out X2
 have X3b:=cy W5.out X3
 cases sb
 case true =>
  have hse:(52:Int) ≠ 0:=by decide
  go_wp2_with fail
  refine (wrong_any 52 _).mono ?_
  rintro e wx ⟨rfl,bx⟩
  have BX:=hid (B5.out.trans (bx.mono B5.out.size))
  have hx2:=(bx.block _ (jB X2b.out)).trans X2b.out
  have hx3:=(bx.block _ (jB X3b.out)).trans X3b.out
  have xg0:=jC hx2 0
  have xg1:=jC hx2 1
  have xf0:=free_of hx2 0
  have xf1:=free_of hx2 1
  have xm0:=jC hx3 0
  have xm1:=jC hx3 1
  have xm2:=jC hx3 2
  have xn0:=free_of hx3 0
  have xn1:=free_of hx3 1
  have xn2:=free_of hx3 2
  simp only [gT,gZ,gS] at xg0 xg1 xm0 xm1 xm2
  unfold emptyS
  have HW3:=hid (stored_at (x0:=.slice none 0 0) (x1:=.slice none 0 0) (y0:=.int .i64 (52)) (y1:=.slice none 0 0) (y2:=.int .i64 0) hx2 hx3)
  have HBF:=hid (stored_below (x0:=.slice none 0 0) (x1:=.slice none 0 0) (y0:=.int .i64 (52)) (y1:=.slice none 0 0) (y2:=.int .i64 0) BX.out (show w.heap.size<=w.heap.size+1+1 by omega) (show w.heap.size<=w.heap.size+1+1+1 by omega))
  clear bx hx2 hx3
  go_wp2_with fail
  refine bodyPost_ret (results_cells2 rfl _ _ (w.heap.size+1+1) (w.heap.size+1+1+1) 27 43 _ _ (0,0) (0,0) _ _ rfl rfl HW3.out.1 HW3.out.2 Tryz.underlying27 rfl (by kernel_rfl) Tryz.underlying43 rfl (by kernel_rfl)) rfl ?_
  rw [HPST.out]
  exact does_err (by show queryE _ _=_;rw [HE3.out,if_pos (of_decide_eq_true HSB.out)]) (by first|decide|exact hse) HBF.out
 case false =>
 have HE4:=hid (show queryE ⟨C,R⟩ st=if lacksB T st.wher then 50
  else if 0<st.agg then 0
  else if anyNeg (st.order.map (colOf T)) then 50
  else if 400<(L.filter (fitsW T st.wher)).length then 2 else 0 from by rw [HE3.out,if_neg (of_decide_eq_false HSB.out)])
 have hq:=(BD5.out.block _ (jB QT0.out)).trans QT0.out
 have t0:=jC hq 0
 have t1:=jC hq 1
 have t2:=jC hq 2
 have t3:=jC hq 3
 have s7:=jC ((BD5.out.block _ (jB QW1.out)).trans QW1.out) 7
 simp only [gT,gZ,gS] at t0 t1 t2 t3 s7
 have con:=lacks_any (HTV.out.below BD5.out) hTC (HWHER.out.below B5.out)
 obtain ⟨lk,hlk⟩:∃ lk,lacksV T st.wher=lk:=⟨_,rfl⟩
 rw [hlk] at con
 have HLK:=hid (show lacksB T st.wher=lk from hlk)
 clear hlk hq
 go_wp2_with fail
 refine con.mono ?_
 rintro e w6 ⟨rfl,b6⟩
 have B6:=hid (B5.out.trans (b6.mono B5.out.size))
 have BD6:=hid (BD5.out.trans (b6.mono BD5.out.size))
 have W6:=hid (W5.out.trans (b6.mono W5.out.size))
 have Y2:=cy b6 X2b
 have Y3:=cy b6 X3b
 clear con b6 t0 t1 t2 t3 s7 X2b X3b
 cases lk
 case true =>
  have hse:(50:Int) ≠ 0:=by decide
  go_wp2_with fail
  refine (wrong_any 50 _).mono ?_
  rintro e wx ⟨rfl,bx⟩
  have BX:=hid (B6.out.trans (bx.mono B6.out.size))
  have hx2:=(bx.block _ (jB Y2.out)).trans Y2.out
  have hx3:=(bx.block _ (jB Y3.out)).trans Y3.out
  have xg0:=jC hx2 0
  have xg1:=jC hx2 1
  have xf0:=free_of hx2 0
  have xf1:=free_of hx2 1
  have xm0:=jC hx3 0
  have xm1:=jC hx3 1
  have xm2:=jC hx3 2
  have xn0:=free_of hx3 0
  have xn1:=free_of hx3 1
  have xn2:=free_of hx3 2
  simp only [gT,gZ,gS] at xg0 xg1 xm0 xm1 xm2
  unfold emptyS
  have HW3:=hid (stored_at (x0:=.slice none 0 0) (x1:=.slice none 0 0) (y0:=.int .i64 (50)) (y1:=.slice none 0 0) (y2:=.int .i64 0) hx2 hx3)
  have HBF:=hid (stored_below (x0:=.slice none 0 0) (x1:=.slice none 0 0) (y0:=.int .i64 (50)) (y1:=.slice none 0 0) (y2:=.int .i64 0) BX.out (show w.heap.size<=w.heap.size+1+1 by omega) (show w.heap.size<=w.heap.size+1+1+1 by omega))
  clear bx hx2 hx3
  go_wp2_with fail
  refine bodyPost_ret (results_cells2 rfl _ _ (w.heap.size+1+1) (w.heap.size+1+1+1) 27 43 _ _ (0,0) (0,0) _ _ rfl rfl HW3.out.1 HW3.out.2 Tryz.underlying27 rfl (by kernel_rfl) Tryz.underlying43 rfl (by kernel_rfl)) rfl ?_
  rw [HPST.out]
  exact does_err (by show queryE _ _=_;rw [HE4.out,HLK.out];rfl) (by first|decide|exact hse) HBF.out
 case false =>
 have HE5:=hid (show queryE ⟨C,R⟩ st=if 0<st.agg then 0
  else if anyNeg (st.order.map (colOf T)) then 50
  else if 400<(L.filter (fitsW T st.wher)).length then 2 else 0 from by rw [HE4.out,HLK.out,if_neg (by simp)])
 obtain ⟨ins,hin1,hin2,hin3⟩:=rows_raw (HLV.out.below BD6.out).row.2.2.2
 have con:=clone_rows (c:=xc3) (row_nil HLV.out.row.2.2.2) hin2 (by rw [hin1,Nat.mul_one]) (fun u hu=>by
  obtain ⟨t,ht,rfl⟩:=List.getElem_of_mem hu
  obtain ⟨ra,rc,e,_⟩:=hin3 t (by omega) ht
  rw [e];rfl) (by have:=HLC.out;omega)
 have HIN:=hid hin3
 clear hin1 hin2 hin3
 go_wp2_with fail
 refine con.mono ?_
 rintro e w7 ⟨cv,rfl,o7,b7⟩
 have hB7:=b7.size
 have con2:=kept_any (bt:=w1.heap.size) (bs:=w.heap.size+1) hB7 o7 (fun t h1 h2=>by
  obtain ⟨ra,rc,e,s⟩:=HIN.out t h1 h2
  exact ⟨ra,rc,e,(s.weaken (fun k h=>(show k<w6.heap.size from jL h.2 BD6.out.size))).below b7⟩)
  (((HTV.out.below BD6.out).weaken (fun k h=>jL h.2 BD6.out.size)).below b7) hTC
  (((HWHER.out.below B6.out).weaken (fun k h=>jL h.2 B6.out.size)).below b7)
  (fun wz hz=>HKI.out.below (B6.out.trans ((b7.trans hz).mono B6.out.size))) HLC.out
  ((b7.block _ (jB ((BD6.out.block _ (jB QT0.out)).trans QT0.out))).trans ((BD6.out.block _ (jB QT0.out)).trans QT0.out)) (jL (jB QT0.out) BD6.out.size)
  (jC ((b7.block _ (jB ((BD6.out.block _ (jB QW1.out)).trans QW1.out))).trans ((BD6.out.block _ (jB QW1.out)).trans QW1.out)) 7) (jL (jB QW1.out) BD6.out.size)
 have B7:=hid b7
 obtain ⟨F,hF⟩:∃ F,L.filter (fitsW T st.wher)=F:=⟨_,rfl⟩
 rw [hF] at con2
 have HF:=hid hF
 clear con o7 b7 hB7 hF HIN
 go_wp2_with fail
 refine con2.mono ?_
 rintro e w8 ⟨fa,fc,rfl,b8,s8⟩
 have b78:=B7.out.trans b8
 have B8:=hid (B6.out.trans (b78.mono B6.out.size))
 have BD8:=hid (BD6.out.trans (b78.mono BD6.out.size))
 have Z2:=cy b78 Y2
 have Z3:=cy b78 Y3
 have W8:=hid (W6.out.trans (b78.mono W6.out.size))
 have HFS:=hid s8
 have HFL:=hid (show F.length<=1000000000000 from by rw [<- HF.out];exact Nat.le_trans (List.length_filter_le _ _) HLC.out)
 have HFW:=hid (show ∀ r ∈ F,r.length=T.cols.length from fun r hr=>HWD.out r (by rw [<- HF.out] at hr;exact (List.mem_filter.1 hr).1))
 have HE6:=hid (show queryE ⟨C,R⟩ st=if 0<st.agg then 0
  else if anyNeg (st.order.map (colOf T)) then 50
  else if 400<F.length then 2 else 0 from by rw [HE5.out,HF.out])
 have V0:=cy BD8.out QW0
 have V1:=cy BD8.out QW1
 have VN:=cy W8.out QN4
 have HTN:=hid (HTL4.out.below W8.out)
 have HN3:=hid (show w.heap.size+4<=w3.heap.size from Nat.le_trans HS2.out BB3.out.size)
 have HA:=hid QF.out.agg
 have s11:=jC V1.out 11
 simp only [gT,gZ,gS] at s11
 clear b78 b8 s8 con2 Y2 Y3 QW0 QW1 QW2 QW3
 by_cases hag:st.agg > 0
 · have d95:decide (st.agg > 0)=true:=decide_eq_true hag
   have HAG:=hid hag
   obtain ⟨A,hA⟩:∃ A,aggV st.agg F TL=A:=⟨_,rfl⟩
   have HAV:=hid hA
   clear hag hA
   go_upto_region 19 with (fail)
   clear s11
   apply wp_region_grows 10 9 (some (w.heap.size+1+1)) [96,97,98,99,100,101,102,103,104]
    [fun _ u _=>u=.agg #[.slice a1 C.length c1,.slice a2 R.length c2],
     fun _ u _=>u=.pointer (some ⟨w.heap.size+1,11,none⟩),
     fun _ u _=>u=.int .i64 st.agg,
     fun _ u _=>u=.slice fa F.length fc,
     fun _ u _=>u=.slice va TL.length vc,
     fun _ u _=>u=.agg #[.int .i64 A.kind,.int .i64 A.n,.string A.s],
     fun _ u w'=>NewVal1 w8.heap.size A u w',
     fun _ u w'=>NewRow1 w8.heap.size A u w',
     fun _ u w'=>∃ x,u=.agg #[.int .i64 0,x,.int .i64 1]/\NewRow1 w8.heap.size A x w',
     fun _ _ _=>True]
    (fun w'=>w8.grownBy w' (some (w.heap.size+1+1))) (Below w8.heap.size w8) (fun w'=>w'.heap[w.heap.size+1+1]? = some (.cells #[.slice a1 C.length c1,.slice a2 R.length c2] 27 (0,0)))
   case hF =>
    intro v
    simp only [setAll,List.foldl_cons,List.foldl_nil,Act.put,List.setIfInBounds_toArray,List.set_cons_succ,List.set_cons_zero]
    exact rfl
   case hm=>kernel_rfl
   case hB=>kernel_rfl
   case hsz=>kernel_rfl
   case hC=>exact fun w1 w2 h b=>grown_tra h b
   case hCp=>exact fun w1 w2 h b=>h.trans (b.mono h.size)
   case hDm=>exact fun w1 w2 h b=>(b.block _ (jB h)).trans h
   case hw=>exact grownBy_of_below _ (Below.drew b0R)
   case hwp=>exact Below.drew b0R
   case hS =>
    intro D hD v u
    simp only [List.mem_cons,List.not_mem_nil,or_false] at hD
    rcases hD with rfl|rfl|rfl|rfl|rfl|rfl|rfl|rfl|rfl|rfl
    · exact fun w1 w2 h _=>h
    · exact fun w1 w2 h _=>h
    · exact fun w1 w2 h _=>h
    · exact fun w1 w2 h _=>h
    · exact fun w1 w2 h _=>h
    · exact fun w1 w2 h _=>h
    · exact fun w1 w2 h hb=>h.grown (jL (show w.heap.size+1+1<W2.heap.size by have:=HS2.out;omega) BD8.out.size) hb
    · exact fun w1 w2 h hb=>h.grown (jL (show w.heap.size+1+1<W2.heap.size by have:=HS2.out;omega) BD8.out.size) hb
    · exact fun w1 w2 ⟨x,h0,h⟩ hb=>⟨x,h0,h.grown (jL (show w.heap.size+1+1<W2.heap.size by have:=HS2.out;omega) BD8.out.size) hb⟩
    · exact fun w1 w2 h _=>h
   case hob =>
    simp only [List.take_succ_cons,List.take_zero]
    apply grows_cons rfl
    · intro v w1 h1 hd
      clear hd
      have q0:=(h1.block _ (jB V0.out) (by intro e;have e1:=jI e;have e2:=HN3.out;omega)).trans V0.out
      have x0:=jC q0 0
      have x1:=jC q0 1
      simp only [gT,gZ,gS] at x0 x1
      clear q0
      clear h1
      go_wp2_with fail
      first|exact Below.refl _ _|exact ⟨Below.refl _ _,rfl⟩|exact ⟨rfl,Below.refl _ _⟩
    apply grows_cons rfl
    · intro v w1 h1 hd
      clear hd
      clear h1
      go_wp2_with fail
      first|exact Below.refl _ _|exact ⟨Below.refl _ _,rfl⟩|exact ⟨rfl,Below.refl _ _⟩
    apply grows_cons rfl
    · intro v w1 h1 hd
      have g97:v 97=.pointer (some ⟨w.heap.size+1,11,none⟩):=hd 1 _ _ _ rfl rfl rfl rfl
      clear hd
      rw [g97]
      have q0:=(h1.block _ (jB V1.out) (by intro e;have e1:=jI e;have e2:=HN3.out;omega)).trans V1.out
      have x0:=jC q0 11
      simp only [gT,gZ,gS] at x0
      clear q0
      clear g97 h1
      go_wp2_with fail
      first|exact Below.refl _ _|exact ⟨Below.refl _ _,rfl⟩|exact ⟨rfl,Below.refl _ _⟩
    apply grows_cons rfl
    · intro v w1 h1 hd
      clear hd
      clear h1
      go_wp2_with fail
      first|exact Below.refl _ _|exact ⟨Below.refl _ _,rfl⟩|exact ⟨rfl,Below.refl _ _⟩
    apply grows_cons rfl
    · intro v w1 h1 hd
      clear hd
      have q0:=(h1.block _ (jB VN.out) (by intro e;have e1:=jI e;have e2:=HN3.out;omega)).trans VN.out
      have x0:=jC q0 0
      simp only [gT,gZ,gS] at x0
      clear q0
      clear h1
      go_wp2_with fail
      first|exact Below.refl _ _|exact ⟨Below.refl _ _,rfl⟩|exact ⟨rfl,Below.refl _ _⟩
    apply grows_ahead rfl (by kernel_rfl)
    · intro v w1 h1 hp hd
      have g98:v 98=.int .i64 st.agg:=hd 2 _ _ _ rfl rfl rfl rfl
      have g99:v 99=.slice fa F.length fc:=hd 3 _ _ _ rfl rfl rfl rfl
      have g100:v 100=.slice va TL.length vc:=hd 4 _ _ _ rfl rfl rfl rfl
      clear hd
      rw [g98,g99,g100]
      have con:=agg_all (agg:=st.agg) (HFS.out.below hp) HFL.out (HTN.out.below hp) (by
       by_cases h:st.agg=1
       · exact .inl h
       · have h1:=HA.out.2.2.1 (by have:=HAG.out;omega)
         exact .inr (by rw [<- HTL.out,List.length_map];omega)) (by have:=HAG.out;omega) (fun n hn=>(HRG.out n hn).1) (fun r hr n hn=>by rw [HFW.out r hr];exact (HRG.out n hn).2) (HKI.out.below (B8.out.trans (hp.mono B8.out.size)))
      rw [HAV.out] at con
      clear g98 g99 g100 h1 hp
      go_wp2_with fail
      refine con.mono ?_
      rintro e w2 ⟨rfl,b2⟩
      have B:=hid b2
      clear con b2
      go_wp2_with fail
      first|exact ⟨B.out,rfl⟩|exact ⟨rfl,B.out⟩|exact B.out
    apply grows_cons rfl
    · intro v w1 h1 hd
      have g101:v 101=.agg #[.int .i64 A.kind,.int .i64 A.n,.string A.s]:=hd 5 _ _ _ rfl rfl rfl rfl
      clear hd
      rw [g101]
      have HSW:=hid h1.size
      clear g101 h1
      go_wp2_with fail
      have hb3:Below w1.heap.size w1 (w1.alloc (.cells #[.int .i64 A.kind,.int .i64 A.n,.string A.s] 55)):=(b0R).alloc (jR _) _
      first|exact ⟨hb3,w1.heap.size,rfl,HSW.out,heap_alloc_new _ _⟩|exact ⟨⟨w1.heap.size,rfl,HSW.out,heap_alloc_new _ _⟩,hb3⟩
    apply grows_cons rfl
    · intro v w1 h1 hd
      obtain ⟨g,g102,hg1,hg2⟩:NewVal1 w8.heap.size A (v 102) w1:=hd 6 _ _ _ rfl rfl rfl rfl
      clear hd
      rw [g102]
      have HSW:=hid h1.size
      have HG:=hid (show _/\_ from ⟨hg1,hg2⟩)
      clear g102 h1 hg1 hg2
      go_wp2_with fail
      have hb3:Below w1.heap.size w1 (w1.alloc (.cells #[.slice (some ⟨g,0,none⟩) 1 1] 35)):=(b0R).alloc (jR _) _
      first|exact ⟨hb3,g,w1.heap.size,rfl,HG.out.1,HSW.out,(hb3.block _ (jB HG.out.2)).trans HG.out.2,heap_alloc_new _ _⟩|exact ⟨⟨g,w1.heap.size,rfl,HG.out.1,HSW.out,(hb3.block _ (jB HG.out.2)).trans HG.out.2,heap_alloc_new _ _⟩,hb3⟩
    apply grows_cons rfl
    · intro v w1 h1 hd
      have hnr:NewRow1 w8.heap.size A (v 103) w1:=hd 7 _ _ _ rfl rfl rfl rfl
      have HNR:=hid hnr
      obtain ⟨g,g2,g103,_,_,_,_⟩:=hnr
      rw [g103] at HNR
      clear hd
      rw [g103]
      clear g103 h1
      go_wp2_with fail
      first|exact HNR.out|exact ⟨Below.refl _ _,HNR.out⟩|exact ⟨HNR.out,Below.refl _ _⟩|exact ⟨Below.refl _ _,_,rfl,HNR.out⟩|exact ⟨⟨_,rfl,HNR.out⟩,Below.refl _ _⟩
    apply grows_one rfl
    · intro v w1 h1 hp hd
      have g96:v 96=.agg #[.slice a1 C.length c1,.slice a2 R.length c2]:=hd 0 _ _ _ rfl rfl rfl rfl
      clear hd
      rw [g96]
      have hz:=(hp.block _ (jB Z2.out)).trans Z2.out
      have m0:=jC hz 0
      have m1:=jC hz 1
      have n0:=free_of hz 0
      have n1:=free_of hz 1
      simp only [gT,gZ,gS] at m0 m1
      have RR:=hid (ret_first (x0:=.slice a1 C.length c1) (x1:=.slice a2 R.length c2) b0R hz)
      clear g96 h1 hp hz
      go_wp2_with fail
      first|exact RR.out|exact ⟨RR.out.1,RR.out.2⟩|exact ⟨RR.out.2,RR.out.1⟩
    exact grows_nil
   case hend =>
    intro v w9 h1 hdm hd
    obtain ⟨xa,g104,hnr⟩:∃ x,v 104=.agg #[.int .i64 0,x,.int .i64 1]/\NewRow1 w8.heap.size A x w9:=hd 8 _ _ _ rfl rfl rfl
    clear hd
    rw [g104]
    have hz3:=(h1.block _ (jB Z3.out) (by simp)).trans Z3.out
    have HNR:=hid hnr
    obtain ⟨g,g2,rfl,_,_,_,_⟩:=hnr
    have m0:=jC hz3 0
    have m1:=jC hz3 1
    have m2:=jC hz3 2
    have n0:=free_of hz3 0
    have n1:=free_of hz3 1
    have n2:=free_of hz3 2
    simp only [gT,gZ,gS] at m0 m1 m2
    have RF:=hid (show Ret2 w8 (w.heap.size+1+1) (w.heap.size+1+1+1) _ _ _ from ret_second (x0:=.int .i64 0) (x1:=.slice (some ⟨g2,0,none⟩) 1 1) (x2:=.int .i64 1) (show Ret1 w8 (w.heap.size+1+1) (.cells #[.slice a1 C.length c1,.slice a2 R.length c2] 27 (0,0)) w9 from ⟨h1,hdm⟩) (by simp) Z3.out)
    have HSZ:=hid (show w.heap.size+4<=w8.heap.size from Nat.le_trans HS2.out BD8.out.size)
    have NRF:=hid (((HNR.out.grown (w':=w9.setCell ⟨w.heap.size+1+1+1,0,none⟩ (.int .i64 0)) (r:=w.heap.size+1+1+1) (by have:=HSZ.out;omega) (grown_cell _ _ _)).grown (r:=w.heap.size+1+1+1) (by have:=HSZ.out;omega) (grown_cell _ ⟨w.heap.size+1+1+1,1,none⟩ (.slice (some ⟨g2,0,none⟩) 1 1))).grown (r:=w.heap.size+1+1+1) (by have:=HSZ.out;omega) (grown_cell _ ⟨w.heap.size+1+1+1,2,none⟩ (.int .i64 1)))
    clear h1 hdm hz3 g104 HNR
    go_wp2_with fail
    refine bodyPost_ret (results_cells2 rfl _ _ (w.heap.size+1+1) (w.heap.size+1+1+1) 27 43 _ _ (0,0) (0,0) _ _ rfl rfl (RF.out.at1 (by simp)) RF.out.at2 Tryz.underlying27 rfl (by kernel_rfl) Tryz.underlying43 rfl (by kernel_rfl)) rfl ?_
    rw [HPST.out]
    have hbf:=RF.out.from B8.out (jR _) (show w.heap.size<=w.heap.size+1+1 by omega) (show w.heap.size<=w.heap.size+1+1+1 by omega)
    have hq:queryA ⟨C,R⟩ st=⟨0,[[A]],1⟩:=by
     unfold queryA
     rw [if_pos HAG.out,HT.out,HL.out,HTL.out,HF.out,HAV.out]
    refine does_ok (by show queryE _ _=0;rw [HE6.out,if_pos HAG.out]) (by rw [hq]) hbf ?_ ?_
    · obtain ⟨z1,z2,z3,z4,e,h3,h4⟩:=HSA.out.below hbf
      exact ⟨z1,z2,z3,z4,e,h3.weaken (fun _ h=>Or.inl h),h4.weaken (fun _ h=>Or.inl ⟨trivial,h⟩)⟩
    · rw [hq]
      exact ⟨_,_,rfl,NRF.out.sl.weaken fun k h=>by have:=HSZ.out;omega⟩
 have d95:decide (st.agg > 0)=false:=decide_eq_false hag
 have HAG:=hid hag
 have HE7:=hid (show queryE ⟨C,R⟩ st=if anyNeg (st.order.map (colOf T)) then 50 else if 400<F.length then 2 else 0 from by rw [HE6.out,if_neg hag])
 clear hag
 have s12:=jC V1.out 12
 simp only [gT,gZ,gS] at s12
 obtain ⟨BL,hBL⟩:∃ BL,st.order.map (colOf T)=BL:=⟨_,rfl⟩
 have con:=told_any' (HTV.out.below BD8.out) hTC ((BD8.out.block _ (jB QT0.out)).trans QT0.out) (HORDER.out.below B8.out) HOL.out hBL
 have HBL:=hid hBL
 clear hBL
 go_wp2_with fail
 refine con.mono ?_
 rintro e w9 ⟨ba,bc,rfl,b9,o9⟩
 have O9:=hid o9
 have BB9:=hid b9
 clear con b9 o9 s11 s12
 go_upto_region 21 with (fail)
 generalize hA:World.alloc _ _=WA
 have hbA:Below w9.heap.size w9 WA:=by rw [<- hA];exact (b0R).alloc (jR _) _
 have hbb:Below w8.heap.size w8 WA:=BB9.out.trans (hbA.mono BB9.out.size)
 have QB:=hid (show WA.heap[w9.heap.size]? = some (.cells #[.slice ba BL.length bc] 22 (0,0)) by rw [<- hA];exact heap_alloc_new _ _)
 have HBA:=hid (O9.out.below hbA)
 have BA8:=hid hbb
 have B10:=hid (B8.out.trans (hbb.mono B8.out.size))
 have E2:=cy hbb Z2
 have E3:=cy hbb Z3
 have VN2:=cy hbb VN
 clear hA hbA hbb
 have u0:=jC QB.out 0
 simp only [gT,gZ,gS] at u0
 have con:=neg_any HBA.out
 obtain ⟨nb,hnb⟩:∃ nb,anyNeg BL=nb:=⟨_,rfl⟩
 rw [hnb] at con
 have HNB:=hid hnb
 clear hnb
 go_wp2_with fail
 refine con.mono ?_
 rintro e WA ⟨rfl,rfl⟩
 clear con u0
 cases nb
 case true =>
  have hse:(50:Int) ≠ 0:=by decide
  go_wp2_with fail
  refine (wrong_any 50 _).mono ?_
  rintro e wx ⟨rfl,bx⟩
  have BX:=hid (B10.out.trans (bx.mono B10.out.size))
  have hx2:=(bx.block _ (jB E2.out)).trans E2.out
  have hx3:=(bx.block _ (jB E3.out)).trans E3.out
  have xg0:=jC hx2 0
  have xg1:=jC hx2 1
  have xf0:=free_of hx2 0
  have xf1:=free_of hx2 1
  have xm0:=jC hx3 0
  have xm1:=jC hx3 1
  have xm2:=jC hx3 2
  have xn0:=free_of hx3 0
  have xn1:=free_of hx3 1
  have xn2:=free_of hx3 2
  simp only [gT,gZ,gS] at xg0 xg1 xm0 xm1 xm2
  unfold emptyS
  have HW3:=hid (stored_at (x0:=.slice none 0 0) (x1:=.slice none 0 0) (y0:=.int .i64 (50)) (y1:=.slice none 0 0) (y2:=.int .i64 0) hx2 hx3)
  have HBF:=hid (stored_below (x0:=.slice none 0 0) (x1:=.slice none 0 0) (y0:=.int .i64 (50)) (y1:=.slice none 0 0) (y2:=.int .i64 0) BX.out (show w.heap.size<=w.heap.size+1+1 by omega) (show w.heap.size<=w.heap.size+1+1+1 by omega))
  clear bx hx2 hx3
  go_wp2_with fail
  refine bodyPost_ret (results_cells2 rfl _ _ (w.heap.size+1+1) (w.heap.size+1+1+1) 27 43 _ _ (0,0) (0,0) _ _ rfl rfl HW3.out.1 HW3.out.2 Tryz.underlying27 rfl (by kernel_rfl) Tryz.underlying43 rfl (by kernel_rfl)) rfl ?_
  rw [HPST.out]
  exact does_err (by show queryE _ _=_;rw [HE7.out,HBL.out,HNB.out];rfl) (by first|decide|exact hse) HBF.out
 case false =>
 have HRB:=hid (told_rng HBL.out HNB.out)
 by_cases h400:400<F.length
 · have d116:decide ((F.length:Int) > 400)=true:=decide_eq_true (by omega)
   have hse:(2:Int) ≠ 0:=by decide
   have HE8:=hid (show queryE ⟨C,R⟩ st=2 from by rw [HE7.out,HBL.out,HNB.out,if_neg (by simp),if_pos h400])
   clear h400
   go_wp2_with fail
   refine (wrong_any 2 _).mono ?_
   rintro e wx ⟨rfl,bx⟩
   have BX:=hid (B10.out.trans (bx.mono B10.out.size))
   have hx2:=(bx.block _ (jB E2.out)).trans E2.out
   have hx3:=(bx.block _ (jB E3.out)).trans E3.out
   have xg0:=jC hx2 0
   have xg1:=jC hx2 1
   have xf0:=free_of hx2 0
   have xf1:=free_of hx2 1
   have xm0:=jC hx3 0
   have xm1:=jC hx3 1
   have xm2:=jC hx3 2
   have xn0:=free_of hx3 0
   have xn1:=free_of hx3 1
   have xn2:=free_of hx3 2
   simp only [gT,gZ,gS] at xg0 xg1 xm0 xm1 xm2
   unfold emptyS
   have HW3:=hid (stored_at (x0:=.slice none 0 0) (x1:=.slice none 0 0) (y0:=.int .i64 (2)) (y1:=.slice none 0 0) (y2:=.int .i64 0) hx2 hx3)
   have HBF:=hid (stored_below (x0:=.slice none 0 0) (x1:=.slice none 0 0) (y0:=.int .i64 (2)) (y1:=.slice none 0 0) (y2:=.int .i64 0) BX.out (show w.heap.size<=w.heap.size+1+1 by omega) (show w.heap.size<=w.heap.size+1+1+1 by omega))
   clear bx hx2 hx3
   go_wp2_with fail
   refine bodyPost_ret (results_cells2 rfl _ _ (w.heap.size+1+1) (w.heap.size+1+1+1) 27 43 _ _ (0,0) (0,0) _ _ rfl rfl HW3.out.1 HW3.out.2 Tryz.underlying27 rfl (by kernel_rfl) Tryz.underlying43 rfl (by kernel_rfl)) rfl ?_
   rw [HPST.out]
   exact does_err (by show queryE _ _=_;rw [HE8.out]) (by first|decide|exact hse) HBF.out
 have d116:decide ((F.length:Int) > 400)=false:=decide_eq_false (by omega)
 have HE8:=hid (show queryE ⟨C,R⟩ st=0 from by rw [HE7.out,HBL.out,HNB.out,if_neg (by simp),if_neg h400])
 have hFl:F.length<=1000000:=by omega
 have hln:TL.length=st.names.length:=by rw [<- HTL.out,List.length_map]
 have hlo:BL.length=st.order.length:=by rw [<- HBL.out,List.length_map]
 have con:=rows_told (HFS.out.below BA8.out) HBA.out (HTN.out.below BA8.out) QB.out VN2.out (fun r hr n hn=>by
  rw [HFW.out r hr]
  rcases List.mem_append.1 hn with h|h
  · exact HRB.out n h
  · exact HRG.out n h) ⟨by rw [hlo];exact HOL.out,by rw [hln];exact HNL.out⟩ hFl
 obtain ⟨F2,hF2⟩:∃ F2,F.map (toldRow BL TL)=F2:=⟨_,rfl⟩
 rw [hF2] at con
 have HF2:=hid hF2
 have HF2L:=hid (show F2.length=F.length from by rw [<- hF2,List.length_map])
 have HF2W:=hid (show ∀ r ∈ F2,r.length=BL.length+TL.length from fun r hr=>by
  rw [<- hF2] at hr
  obtain ⟨x,_,rfl⟩:=List.mem_map.1 hr
  simp [toldRow])
 have HLT:=hid (show BL.length+TL.length<=1000000 from by have:=HO5.out;have:=HN5.out;omega)
 clear hF2 hln hlo h400
 go_wp2_with fail
 refine con.mono ?_
 rintro e w11 ⟨ga,gc,rfl,b11,s11⟩
 have B11:=hid (B10.out.trans (b11.mono B10.out.size))
 have BA11:=hid (BA8.out.trans (b11.mono BA8.out.size))
 have G2:=cy b11 E2
 have G3:=cy b11 E3
 have QB1:=cy b11 QB
 have con2:=sorted_any (N:=[]) (ay:=none) (cy:=0) (r:=fun _=>True) (by rw [HF2L.out];exact s11) ⟨none,0,rfl,jR _,Nat.zero_le _,RowAt.nil⟩ (by rw [HF2L.out];exact hFl) (fun x hx=>by rw [HF2W.out x hx];exact HLT.out) (HKI.out.below B11.out)
 rw [HF2L.out] at con2
 clear con b11 s11
 go_wp2_with fail
 refine con2.mono ?_
 rintro e w12 ⟨ha,hc,M,rfl,b12,hML,sM,stM⟩
 have hMe:M=sortBy cmpR F2:=stab_eq tot_cmpR stM
 have HME:=hid hMe
 have HML:=hid hML
 have HMW:=hid (show ∀ r ∈ M,BL.length<=r.length from fun r hr=>by
  rw [hMe] at hr
  have:=HF2W.out r (List.mem_mergeSort.1 hr)
  omega)
 have B12:=hid (B11.out.trans (b12.mono B11.out.size))
 have BA12:=hid (BA11.out.trans (b12.mono BA11.out.size))
 have I2:=cy b12 G2
 have I3:=cy b12 G3
 have con3:=rows_cut (lo:=w11.heap.size) (m:=BL.length) (by rw [HML.out];exact sM) ((b12.block _ (jB QB1.out)).trans QB1.out) HMW.out (by rw [HML.out];exact hFl) b12.size
 rw [HML.out] at con3
 clear con2 b12 sM stM hMe hML
 go_wp2_with fail
 refine con3.mono ?_
 rintro e w13 ⟨ja,jc,rfl,b13,s13⟩
 have B13:=hid (B12.out.trans (b13.mono B12.out.size))
 have BA13:=hid (BA12.out.trans (b13.mono BA12.out.size))
 have hx2:=(b13.block _ (jB I2.out)).trans I2.out
 have hx3:=(b13.block _ (jB I3.out)).trans I3.out
 have hx0:=(BA13.out.block _ (jB V0.out)).trans V0.out
 have S13:=hid s13
 have HSZ:=hid (show w.heap.size+4<=w11.heap.size from Nat.le_trans HS2.out (Nat.le_trans BD8.out.size BA11.out.size))
 have z0:=jC hx0 0
 have z1:=jC hx0 1
 have xg0:=jC hx2 0
 have xg1:=jC hx2 1
 have xf0:=free_of hx2 0
 have xf1:=free_of hx2 1
 have xm0:=jC hx3 0
 have xm1:=jC hx3 1
 have xm2:=jC hx3 2
 have xn0:=free_of hx3 0
 have xn1:=free_of hx3 1
 have xn2:=free_of hx3 2
 simp only [gT,gZ,gS] at z0 z1 xg0 xg1 xm0 xm1 xm2
 have HW3:=hid (stored_at (x0:=.slice a1 C.length c1) (x1:=.slice a2 R.length c2) (y0:=.int .i64 0) (y1:=.slice ja F.length jc) (y2:=.int .i64 (F.length:Int)) hx2 hx3)
 have HBF:=hid (stored_below (x0:=.slice a1 C.length c1) (x1:=.slice a2 R.length c2) (y0:=.int .i64 0) (y1:=.slice ja F.length jc) (y2:=.int .i64 (F.length:Int)) B13.out (show w.heap.size<=w.heap.size+1+1 by omega) (show w.heap.size<=w.heap.size+1+1+1 by omega))
 have HKP:=hid (fun k (h:w11.heap.size<=k)=>stored_other (w:=w13) (x0:=.slice a1 C.length c1) (x1:=.slice a2 R.length c2) (y0:=.int .i64 0) (y1:=.slice ja F.length jc) (y2:=.int .i64 (F.length:Int)) k (show k ≠ w.heap.size+1+1 by have:=HSZ.out;omega) (show k ≠ w.heap.size+1+1+1 by have:=HSZ.out;omega))
 clear con3 b13 s13 hx0 hx2 hx3
 go_wp2_with fail
 refine bodyPost_ret (results_cells2 rfl _ _ (w.heap.size+1+1) (w.heap.size+1+1+1) 27 43 _ _ (0,0) (0,0) _ _ rfl rfl HW3.out.1 HW3.out.2 Tryz.underlying27 rfl (by kernel_rfl) Tryz.underlying43 rfl (by kernel_rfl)) rfl ?_
 rw [HPST.out]
 have hq:queryA ⟨C,R⟩ st=⟨0,M.map (·.drop BL.length),F.length⟩:=by
  unfold queryA
  rw [if_neg (by have:=HAG.out;omega),HT.out,HL.out,HF.out]
  unfold queryRows
  have e1:F.map (fun r=>(st.order.map (colOf T) ++ st.names.map (colOf T)).map (valAt r))=F2:=by
   rw [HBL.out,HTL.out];exact HF2.out
  rw [e1,<- HME.out,<- HBL.out,List.length_map]
 refine does_ok (by show queryE _ _=0;exact HE8.out) (by rw [hq]) HBF.out ?_ ?_
 · obtain ⟨z1,z2,z3,z4,e,h3,h4⟩:=HSA.out.below HBF.out
   exact ⟨z1,z2,z3,z4,e,h3.weaken (fun _ h=>Or.inl h),h4.weaken (fun _ h=>Or.inl ⟨trivial,h⟩)⟩
 · rw [hq]
   have hml:(M.map (·.drop BL.length)).length=F.length:=by rw [List.length_map,HML.out]
   refine ⟨ja,jc,by rw [hml],?_⟩
   simp only [hml]
   exact (S13.out.keep fun k h _=>HKP.out k h).weaken fun k h=>by have:=HSZ.out;omega
end
end Go.Proofs.YtgemihkcihigpaaGreatDoor
