/- plain.insert. -/
import Derived.Test.YtgemihkcihigpaaGreatDoorZD26
set_option linter.unusedVariables false
set_option linter.unusedSimpArgs false
set_option maxRecDepth 100000
set_option maxHeartbeats 64000000
namespace Go.Proofs.YtgemihkcihigpaaGreatDoor
open Go.Lib (hid)
section
open Go.RowKit
def NewRow (B:Nat) (r:List Val) (u:Value) (w:World):Prop:=∃ ua uc,u=.slice ua r.length uc/\w.ownsRow B 55 3 (.slice ua r.length uc) r.length (r.flatMap valEnc)
theorem NewRow.grown {B:Nat} {r:List Val} {u:Value} {w w':World} {o:Option Nat} (h:NewRow B r u w) (ho:∀ b,o=some b->b<B) (hg:w.grownBy w' o):NewRow B r u w':=by
 obtain ⟨ua,uc,h1,h2⟩:=h
 exact ⟨ua,uc,h1,owns_other h2 hg fun g hg' e=>by have:=ho g e;have:=(h2.lt g hg').1;omega⟩
def NewRowB (B:Nat) (r:List Val) (u:Value) (w:World):Prop:=∃ ua uc g,u=.slice (some ⟨g,0,none⟩) 1 1/\B<=g/\w.heap[g]? = some (.cells #[.slice ua r.length uc] 35 (0,0))/\w.ownsRow B 55 3 (.slice ua r.length uc) r.length (r.flatMap valEnc)
theorem NewRowB.grown {B:Nat} {r:List Val} {u:Value} {w w':World} {o:Option Nat} (h:NewRowB B r u w) (ho:∀ b,o=some b->b<B) (hg:w.grownBy w' o):NewRowB B r u w':=by
 obtain ⟨ua,uc,g,h1,h0,h2,h3⟩:=h
 exact ⟨ua,uc,g,h1,h0,(hg.block _ (jB h2) (fun e=>by have:=ho g e.symm;omega)).trans h2,owns_other h3 hg fun g hg' e=>by have:=ho g e;have:=(h3.lt g hg').1;omega⟩
def NewApp (B B':Nat) (k:Nat) (xs:List Value) (r:List Val) (u:Value) (w:World):Prop:=∃ ua uc va vc,u=.slice va (k+1) vc/\w.ownsRow B 35 1 (.slice va (k+1) vc) (k+1) (xs ++ [.slice ua r.length uc])/\w.ownsRow B' 55 3 (.slice ua r.length uc) r.length (r.flatMap valEnc)
theorem NewApp.below {B B' k:Nat} {xs:List Value} {r:List Val} {u:Value} {w w':World} (h:NewApp B B' k xs r u w) (hb:Below w.heap.size w w'):NewApp B B' k xs r u w':=by
 obtain ⟨ua,uc,va,vc,h1,h2,h3⟩:=h
 exact ⟨ua,uc,va,vc,h1,owns_below h2 hb,owns_below h3 hb⟩
theorem rows_at' {R:List (List (List Val))} {n:Nat} (hn:n<R.length):rowsAt R (n:Int)=R[n]:=by
 unfold rowsAt
 rw [Int.toNat_natCast,List.getD_eq_getElem?_getD,List.getElem?_eq_getElem hn];rfl
theorem tab_at' {C:List Tab} {n:Nat} (hn:n<C.length):tabAt C (n:Int)=C[n]:=by
 unfold tabAt
 rw [Int.toNat_natCast,List.getD_eq_getElem?_getD,List.getElem?_eq_getElem hn];rfl
theorem insert_any {p p':Nat->Prop} {s:StV} {st:Stmt} {sv stv:Value} {w:World} (hs:StAt p w sv s) (hst:StmtV p' w stv st) (hC:TabsSmall s.tabs) (hR:RowsSmall s.rows) (hl:s.rows.length=s.tabs.length) (hrl:st.row.length<=1000000) (hR1:∀ x ∈ s.rows,x.length+1<=1000000) :
 Calls Tryz.prog 41 #[sv,stv] w fun e w'=>DoesPost p w False (insertE s st,insertS s st,⟨0,[],1⟩) e w':=by
 obtain ⟨i0,hi,hz0,hz1,hz2⟩:=info_parts info_arr
 obtain ⟨a1,c1,a2,c2,rfl,htabs,hrows⟩:=hs
 obtain ⟨C,R⟩:=s
 simp only at *
 have HST:=hid hst
 have HTABS:=hid htabs
 have HROWS:=hid hrows
 have HC:=hid hC
 have HR:=hid hR
 have HRC1:=hid hl
 obtain ⟨a3,c3,a4,c4,a5,c5,a6,c6,a7,c7,a12,c12,rfl,_,_,hrow,_⟩:=hst
 have HROW0:=hid hrow
 obtain ⟨Pst,hPst⟩:∃ Pst,Pst=DoesPost p w False (insertE ⟨C,R⟩ st,insertS ⟨C,R⟩ st,(⟨0,[],1⟩:AnsV)):=⟨_,rfl⟩
 have HPST:=hid hPst
 rw [<- hPst]
 have HR1:=hid hR1
 clear htabs hrows hC hR hPst hl hrow hR1
 go_enter Tryz.func41,Tryz.ntmps41
 go_upto_region 1 with (fail)
 generalize hW:World.alloc _ _=W0
 have hA':allocs w [_,_,_,_]=W0:=hW
 have hq0:W0.heap[w.heap.size]? = some (.cells #[.slice a1 C.length c1,.slice a2 R.length c2] 27 (0,0)):=allocs_get hA' 0 rfl
 have hq1:W0.heap[w.heap.size+1]? = some (.cells #[.int .i64 st.kind,.string st.table,.string st.name,.slice a3 st.cols.length c3,.slice a4 st.names.length c4,.slice a5 st.row.length c5,.slice a6 st.sets.length c6,.slice a7 st.wher.length c7,.string st.join,.string st.left,.string st.right,.int .i64 st.agg,.slice a12 st.order.length c12,.int .i64 st.mode,.int .i64 st.n] 39 (0,0)):=allocs_get hA' 1 rfl
 have hq2:W0.heap[w.heap.size+1+1]? = some (.cells #[.slice none 0 0,.slice none 0 0] 27 (0,0)):=allocs_get hA' 2 rfl
 have hq3:W0.heap[w.heap.size+1+1+1]? = some (.cells #[.int .i64 0,.slice none 0 0,.int .i64 0] 43 (0,0)):=allocs_get hA' 3 rfl
 have B0:=hid (allocs_self hA')
 have HS0:=hid (show W0.heap.size=w.heap.size+4 by rw [<- hA',allocs_size];rfl)
 have Q0:=hid hq0
 have Q1:=hid hq1
 have Q2:=hid hq2
 have Q3:=hid hq3
 clear hA' hW hq0 hq1 hq2 hq3
 have t0:=jC Q0.out 0
 have t1:=jC Q0.out 1
 have s1:=jC Q1.out 1
 simp only [gT,gZ,gS] at t0 t1 s1
 have con:=find_any (R:=R) (a2:=a2) (c2:=c2) (n2:=R.length) (HTABS.out.below B0.out) st.table
 obtain ⟨n,hn⟩:∃ n,findV ⟨C,R⟩ st.table=n:=⟨_,rfl⟩
 rw [hn] at con
 have HN:=hid hn
 have HBD:=hid (show -1<=n/\n<C.length from by rw [<- hn];exact findT_lt C st.table)
 clear hn
 go_wp2_with fail
 refine con.mono ?_
 rintro e w1 ⟨rfl,b1⟩
 have B1:=hid (B0.out.trans (b1.mono B0.out.size))
 have HQ2:=cy b1 Q2
 have HQ3:=cy b1 Q3
 have HQ0:=cy b1 Q0
 have HQ1:=cy b1 Q1
 have HW01:=hid b1.size
 clear con b1 t0 t1 s1 Q0 Q1 Q2 Q3
 by_cases hn0:n<0
 · have d0:decide (n<0)=true:=decide_eq_true hn0
   go_wp2_with fail
   refine (wrong_any 50 _).mono ?_
   rintro e wx ⟨rfl,bx⟩
   have BX:=hid (B1.out.trans (bx.mono B1.out.size))
   have hx2:=(bx.block _ (jB HQ2.out)).trans HQ2.out
   have hx3:=(bx.block _ (jB HQ3.out)).trans HQ3.out
   have xg0:=jC hx2 0
   have xg1:=jC hx2 1
   have xf0:=free_of hx2 0
   have xf1:=free_of hx2 1
   have xm0:=jC hx3 0
   have xm1:=jC hx3 1
   have xm2:=jC hx3 2
   have xn0:=free_of hx3 0
   have xn1:=free_of hx3 1
   have xn2:=free_of hx3 2
   simp only [gT,gZ,gS] at xg0 xg1 xm0 xm1 xm2
   unfold emptyS
   have HW3:=hid (stored_at (x0:=.slice none 0 0) (x1:=.slice none 0 0) (y0:=.int .i64 (50)) (y1:=.slice none 0 0) (y2:=.int .i64 0) hx2 hx3)
   have HBF:=hid (stored_below (x0:=.slice none 0 0) (x1:=.slice none 0 0) (y0:=.int .i64 (50)) (y1:=.slice none 0 0) (y2:=.int .i64 0) BX.out (show w.heap.size<=w.heap.size+1+1 by omega) (show w.heap.size<=w.heap.size+1+1+1 by omega))
   clear bx hx2 hx3
   go_wp2_with fail
   refine bodyPost_ret (results_cells2 rfl _ _ (w.heap.size+1+1) (w.heap.size+1+1+1) 27 43 _ _ (0,0) (0,0) _ _ rfl rfl HW3.out.1 HW3.out.2 Tryz.underlying27 rfl (by kernel_rfl) Tryz.underlying43 rfl (by kernel_rfl)) rfl ?_
   rw [HPST.out]
   exact does_err (by show insertE _ _=_;unfold insertE;rw [if_pos (by rw [HN.out];exact hn0)]) (by decide) HBF.out
 obtain ⟨n,rfl⟩:∃ k:Nat,n=k:=⟨n.toNat,by omega⟩
 have hnC:n<C.length:=by have:=HBD.out.2;omega
 have hnR:n<R.length:=by have:=HRC1.out;omega
 have d0:decide ((n:Int)<0)=false:=decide_eq_false hn0
 obtain ⟨bb,oo,rfl,_,hbb⟩:=HTABS.out.row.2.2.2.addr (by intro e;rw [e] at hnC;cases hnC)
 obtain ⟨ac,cc,ai,ci,g0,g1,g2,g3,htv⟩:=HTABS.out.row.2.2.2.tab n hnC
 have G:=hid (show _/\_/\_/\_ from ⟨g0,g1,g2,g3⟩)
 have HTV:=hid htv
 obtain ⟨er,her0⟩:∃ er,checkV C[n] st.row=er:=⟨_,rfl⟩
 have HCK:=hid her0
 have HER:=hid (show insertE ⟨C,R⟩ st=er by unfold insertE;rw [HN.out,if_neg (by omega),tab_at' hnC];exact her0)
 clear g0 g1 g2 g3 htv her0 HBD
 go_upto_region 4 with (fail)
 refine wp_region_class (Below w1.heap.size w1) (by kernel_rfl) (by kernel_rfl) (Below.drew b0R) (fun ne=>?_)
 have WB:=hid (fun x:Wld (Below w1.heap.size w1)=>B1.out.trans (x.good.mono B1.out.size))
 have t0:=fun x:Wld (Below w1.heap.size w1)=>((WB.out x).cell (p:=⟨bb,oo+n * 4,none⟩) hbb).trans G.out.1
 have t1:=fun x:Wld (Below w1.heap.size w1)=>((WB.out x).cell (p:=⟨bb,oo+n * 4+1,none⟩) hbb).trans G.out.2.1
 have t2:=fun x:Wld (Below w1.heap.size w1)=>((WB.out x).cell (p:=⟨bb,oo+n * 4+2,none⟩) hbb).trans G.out.2.2.1
 have t3:=fun x:Wld (Below w1.heap.size w1)=>((WB.out x).cell (p:=⟨bb,oo+n * 4+3,none⟩) hbb).trans G.out.2.2.2
 have z0:=fun x:Wld (Below w1.heap.size w1)=>jC ((x.good.block _ (jB HQ0.out)).trans HQ0.out) 0
 have z5:=fun x:Wld (Below w1.heap.size w1)=>jC ((x.good.block _ (jB HQ1.out)).trans HQ1.out) 5
 simp only [gT,gZ,gS] at z0 z5
 repeat (go_big_quiet_step ((go_at_call 89;(with_reducible refine Calls.mono (check_any (HTV.out.below (WB.out _)) (HROW0.out.below (WB.out _))) ?_);rintro e w3 ⟨rfl,b3⟩;exact ⟨congrArg (fun z=>Ending.returned (Value.int .i64 z)) HCK.out,class_below _ b3 (jR _)⟩)))
 refine wpQuiet_nil ?_
 intro w2 b2
 have B2:=hid (B1.out.trans (b2.mono B1.out.size))
 have HQ4:=cy b2 HQ2
 have HQ5:=cy b2 HQ3
 have HQ6:=cy b2 HQ0
 have HQ7:=cy b2 HQ1
 have HS2:=hid (show w.heap.size+4<=w2.heap.size from Nat.le_trans (Nat.le_of_eq HS0.out.symm) (Nat.le_trans HW01.out b2.size))
 clear b2 t0 t1 t2 t3 z0 z5 ne WB HQ0 HQ1 HQ2 HQ3
 by_cases her:er ≠ 0
 · have d1:(er != 0)=true:=by simpa using her
   go_wp2_with fail
   refine (wrong_any er _).mono ?_
   rintro e wx ⟨rfl,bx⟩
   have BX:=hid (B2.out.trans (bx.mono B2.out.size))
   have hx2:=(bx.block _ (jB HQ4.out)).trans HQ4.out
   have hx3:=(bx.block _ (jB HQ5.out)).trans HQ5.out
   have xg0:=jC hx2 0
   have xg1:=jC hx2 1
   have xf0:=free_of hx2 0
   have xf1:=free_of hx2 1
   have xm0:=jC hx3 0
   have xm1:=jC hx3 1
   have xm2:=jC hx3 2
   have xn0:=free_of hx3 0
   have xn1:=free_of hx3 1
   have xn2:=free_of hx3 2
   simp only [gT,gZ,gS] at xg0 xg1 xm0 xm1 xm2
   unfold emptyS
   have HW3:=hid (stored_at (x0:=.slice none 0 0) (x1:=.slice none 0 0) (y0:=.int .i64 (er)) (y1:=.slice none 0 0) (y2:=.int .i64 0) hx2 hx3)
   have HBF:=hid (stored_below (x0:=.slice none 0 0) (x1:=.slice none 0 0) (y0:=.int .i64 (er)) (y1:=.slice none 0 0) (y2:=.int .i64 0) BX.out (show w.heap.size<=w.heap.size+1+1 by omega) (show w.heap.size<=w.heap.size+1+1+1 by omega))
   clear bx hx2 hx3
   go_wp2_with fail
   refine bodyPost_ret (results_cells2 rfl _ _ (w.heap.size+1+1) (w.heap.size+1+1+1) 27 43 _ _ (0,0) (0,0) _ _ rfl rfl HW3.out.1 HW3.out.2 Tryz.underlying27 rfl (by kernel_rfl) Tryz.underlying43 rfl (by kernel_rfl)) rfl ?_
   rw [HPST.out]
   exact does_err (by show insertE _ _=_;rw [HER.out]) her HBF.out
 obtain rfl:er=0:=by simpa using her
 have d1:((0:Int) != 0)=false:=rfl
 have con:=own_state (HTABS.out.bound.below B2.out) (HROWS.out.below B2.out) HC.out.1 HR.out
 have t0:=jC HQ6.out 0
 have t1:=jC HQ6.out 1
 simp only [gT,gZ,gS] at t0 t1
 go_wp2_with fail
 refine con.mono ?_
 rintro e w3 ⟨ta,tc,ra,rc,outs,txs,rfl,b3,st3,to3,o3,cp3,ap3⟩
 obtain ⟨gr,rfl⟩:∃ gr,ra=some ⟨gr,0,none⟩:=by
  rcases o3.2 with ⟨_,e⟩|⟨g,cap,cur,e,_⟩
  · omega
  · simp only [Value.slice.injEq] at e
    exact ⟨g,e.1⟩
 have B3:=hid (B2.out.trans (b3.mono B2.out.size))
 have HS3:=hid b3.size
 have hx0:=(b3.block _ (jB HQ6.out)).trans HQ6.out
 have k0:=jC hx0 0
 have k1:=jC hx0 1
 have f0:=free_of hx0 0
 have f1:=free_of hx0 1
 simp only [gT,gZ,gS] at k0 k1
 have hy1:=(b3.block _ (jB HQ7.out)).trans HQ7.out
 have hy2:=(b3.block _ (jB HQ4.out)).trans HQ4.out
 have hy3:=(b3.block _ (jB HQ5.out)).trans HQ5.out
 have hs2:=HS2.out
 clear con b3 t0 t1
 go_upto_region 8 with (fail)
 generalize hV:World.setCell _ _ _=V
 have HV0:=hid (show V.heap[w.heap.size]? = some (.cells #[.slice ta C.length tc,.slice (some ⟨gr,0,none⟩) R.length rc] 27 (0,0)) by
  rw [<- hV]
  exact (heap_setCell_same _ _ _ _ _ _ ((heap_setCell_same _ _ _ _ _ _ hx0).trans rfl)).trans rfl)
 have ho2:∀ k,k ≠ w.heap.size->V.heap[k]? = w3.heap[k]? := fun k hk=>by rw [<- hV];exact (heap_setCell_other _ _ _ _ (by exact hk)).trans (heap_setCell_other _ _ _ _ (by exact hk))
 have HV1:=hid ((ho2 _ (by omega)).trans hy1)
 have HV2:=hid ((ho2 _ (by omega)).trans hy2)
 have HV3:=hid ((ho2 _ (by omega)).trans hy3)
 have hszV:V.heap.size=w3.heap.size:=by rw [<- hV];simp
 have BV:=hid (show Below w.heap.size w V from by rw [<- hV];exact (B3.out.setCell (p:=⟨w.heap.size,0,none⟩) (jR _) _).setCell (p:=⟨w.heap.size,1,none⟩) (jR _) _)
 have OV:=hid (show V.ownsRow w2.heap.size 41 1 (.slice (some ⟨gr,0,none⟩) R.length rc) R.length outs/\Copies2 w2.heap.size R R.length outs V from by
  rw [<- hV]
  exact ⟨owns_set (owns_set o3 (p:=⟨w.heap.size,0,none⟩) (by simp;omega)) (p:=⟨w.heap.size,1,none⟩) (by simp;omega),(cp3.set (p:=⟨w.heap.size,0,none⟩) (by simp;omega)).set (p:=⟨w.heap.size,1,none⟩) (by simp;omega)⟩)
 have AP:=hid ap3
 have TV:=hid (show TabsCp p w.heap.size (.slice ta C.length tc) C V from by
  have h3:TabsCp p w.heap.size (.slice ta C.length tc) C w3:=⟨st3.weaken fun k hk=>hk,_,owns_base to3 B2.out.size⟩
  rw [<- hV]
  exact (h3.setc (jR _) hx0 (by decide)).setc (jR _) (heap_setCell_same _ _ _ _ _ _ hx0) (by decide))
 have SZV:=hid (show w2.heap.size<=V.heap.size from Nat.le_trans HS3.out (Nat.le_of_eq hszV.symm))
 have hno:n<outs.length:=by rw [OV.out.2.1];exact hnR
 obtain ⟨xs,hou,hcp⟩:=OV.out.2.2 n hno hnR
 obtain ⟨oa,oc,hon,_⟩:=owns_shape' hou
 rw [hon] at hou
 have HON:=hid hon
 have HOU:=hid hou
 have HCP:=hid hcp
 have HRB:=hid (fun b (e:(Value.slice oa R[n].length oc).ownBlock=some b)=>hou.lt b e)
 have HNE0:=hid (row_not HV0.out hou (by decide))
 have HNE1:=hid (row_not HV1.out hou (by decide))
 have HNE2:=hid (row_not HV2.out hou (by decide))
 have HNE3:=hid (row_not HV3.out hou (by decide))
 obtain ⟨cu,hcu⟩:∃ cu:Array Value,V.heap[gr]? = some (.cells cu 41 (0,0)):=by
  rcases OV.out.1.2 with ⟨e,_⟩|⟨g',cap',cur,e,_,hg,_⟩
  · cases e
  · simp only [Value.slice.injEq,Option.some.injEq,Addr.mk.injEq] at e
    obtain ⟨⟨rfl,_⟩,_⟩:=e
    exact ⟨cur,hg⟩
 have HCU:=hid hcu
 have HNEG:=hid (row_not hcu hou (by decide))
 have hR1n:=HR1.out _ (List.getElem_mem hnR)
 have HRC:=hid (show V.cell? ⟨gr,n,none⟩=some (.slice oa R[n].length oc) from by rw [World.ownsRow.cellAt OV.out.1 n (by omega),List.getElem?_eq_getElem hno,hon])
 have HGL:=hid (show gr<V.heap.size from (World.ownsRow.lt OV.out.1 gr rfl).2)
 have HROW:=hid (HROW0.out.bound.below BV.out)
 clear hV ho2 hx0 hy1 hy2 hy3 hszV o3 cp3 ap3 st3 to3 k0 k1 f0 f1 hon hou hcp hcu HQ4 HQ5 HQ6 HQ7
 apply wp_region_growg 13 12 (Value.slice oa R[n].length oc).ownBlock [33,34,35,36,37,38,39,40,41,42,43,44,45]
  [fun _ u _=>u=.pointer (some ⟨w.heap.size,1,none⟩),
   fun _ u _=>u=.slice (some ⟨gr,0,none⟩) R.length rc,
   fun _ u _=>u=.int .i64 (n:Int),
   fun _ u _=>u=.pointer (some ⟨w.heap.size,1,none⟩),
   fun _ u _=>u=.slice (some ⟨gr,0,none⟩) R.length rc,
   fun _ u _=>u=.int .i64 (n:Int),
   fun _ u _=>u=.pointer (some ⟨gr,n,none⟩),
   fun _ u _=>u=.slice oa R[n].length oc,
   fun _ u _=>u=.pointer (some ⟨w.heap.size+1,5,none⟩),
   fun _ u _=>u=.slice a5 st.row.length c5,
   fun _ u w'=>NewRow V.heap.size st.row u w',
   fun _ u w'=>NewRowB V.heap.size st.row u w',
   fun _ u w'=>NewApp w2.heap.size V.heap.size R[n].length xs st.row u w']
  (fun w'=>V.grownBy w' (Value.slice oa R[n].length oc).ownBlock) (Below V.heap.size V)
 case hF =>
  intro v
  simp only [setAll,List.foldl_cons,List.foldl_nil,Act.put,List.setIfInBounds_toArray,List.set_cons_succ,List.set_cons_zero]
  exact rfl
 case hm=>kernel_rfl
 case hB=>kernel_rfl
 case hsz=>kernel_rfl
 case hC=>exact fun w1 w2 h b=>h.trans b
 case hCp=>exact fun w1 w2 h b=>h.trans (b.mono h.size)
 case hw=>exact grownBy_of_below _ (Below.drew b0R)
 case hwp=>exact Below.drew b0R
 case hS =>
  intro j D hD v u
  obtain ⟨hj,rfl⟩:=List.getElem?_eq_some_iff.1 hD
  simp only [List.length_cons,List.length_nil] at hj
  rcases (show j=0 \/ j=1 \/ j=2 \/ j=3 \/ j=4 \/ j=5 \/ j=6 \/ j=7 \/ j=8 \/ j=9 \/ j=10 \/ j=11 \/ j=12 by omega) with rfl|rfl|rfl|rfl|rfl|rfl|rfl|rfl|rfl|rfl|rfl|rfl|rfl
  · show StableG (Value.slice oa R[n].length oc).ownBlock _
    exact fun w1 w2 h _=>h
  · show StableG (Value.slice oa R[n].length oc).ownBlock _
    exact fun w1 w2 h _=>h
  · show StableG (Value.slice oa R[n].length oc).ownBlock _
    exact fun w1 w2 h _=>h
  · show StableG (Value.slice oa R[n].length oc).ownBlock _
    exact fun w1 w2 h _=>h
  · show StableG (Value.slice oa R[n].length oc).ownBlock _
    exact fun w1 w2 h _=>h
  · show StableG (Value.slice oa R[n].length oc).ownBlock _
    exact fun w1 w2 h _=>h
  · show StableG (Value.slice oa R[n].length oc).ownBlock _
    exact fun w1 w2 h _=>h
  · show StableG (Value.slice oa R[n].length oc).ownBlock _
    exact fun w1 w2 h _=>h
  · show StableG (Value.slice oa R[n].length oc).ownBlock _
    exact fun w1 w2 h _=>h
  · show StableG (Value.slice oa R[n].length oc).ownBlock _
    exact fun w1 w2 h _=>h
  · show StableG (Value.slice oa R[n].length oc).ownBlock _
    exact fun w1 w2 h hb=>h.grown (fun b e=>(HRB.out b e).2) hb
  · show StableG (Value.slice oa R[n].length oc).ownBlock _
    exact fun w1 w2 h hb=>h.grown (fun b e=>(HRB.out b e).2) hb
  · show Stable _
    exact fun w1 w2 h hb=>h.below hb
 case hob =>
  simp only [List.take_succ_cons,List.take_zero]
  apply growg_cons rfl
  · intro v w1 h1 hd
    clear hd
    clear h1
    go_wp2_with fail
    first|exact Below.refl _ _|exact ⟨Below.refl _ _,rfl⟩|exact ⟨rfl,Below.refl _ _⟩
  apply growg_cons rfl
  · intro v w1 h1 hd
    have g33:v 33=.pointer (some ⟨w.heap.size,1,none⟩):=hd 0 _ _ _ rfl rfl rfl rfl
    clear hd
    rw [g33]
    have qc:=jC ((h1.block _ (jB HV0.out) HNE0.out).trans HV0.out) 1
    simp only [gT,gZ,gS] at qc
    clear g33 h1
    go_wp2_with fail
    first|exact Below.refl _ _|exact ⟨Below.refl _ _,rfl⟩|exact ⟨rfl,Below.refl _ _⟩
  apply growg_cons rfl
  · intro v w1 h1 hd
    clear hd
    clear h1
    go_wp2_with fail
    first|exact Below.refl _ _|exact ⟨Below.refl _ _,rfl⟩|exact ⟨rfl,Below.refl _ _⟩
  apply growg_cons rfl
  · intro v w1 h1 hd
    clear hd
    clear h1
    go_wp2_with fail
    first|exact Below.refl _ _|exact ⟨Below.refl _ _,rfl⟩|exact ⟨rfl,Below.refl _ _⟩
  apply growg_cons rfl
  · intro v w1 h1 hd
    have g36:v 36=.pointer (some ⟨w.heap.size,1,none⟩):=hd 3 _ _ _ rfl rfl rfl rfl
    clear hd
    rw [g36]
    have qc:=jC ((h1.block _ (jB HV0.out) HNE0.out).trans HV0.out) 1
    simp only [gT,gZ,gS] at qc
    clear g36 h1
    go_wp2_with fail
    first|exact Below.refl _ _|exact ⟨Below.refl _ _,rfl⟩|exact ⟨rfl,Below.refl _ _⟩
  apply growg_cons rfl
  · intro v w1 h1 hd
    clear hd
    clear h1
    go_wp2_with fail
    first|exact Below.refl _ _|exact ⟨Below.refl _ _,rfl⟩|exact ⟨rfl,Below.refl _ _⟩
  apply growg_cons rfl
  · intro v w1 h1 hd
    have g37:v 37=.slice (some ⟨gr,0,none⟩) R.length rc:=hd 4 _ _ _ rfl rfl rfl rfl
    have g38:v 38=.int .i64 (n:Int):=hd 5 _ _ _ rfl rfl rfl rfl
    clear hd
    rw [g37,g38]
    clear g37 g38 h1
    go_wp2_with fail
    first|exact Below.refl _ _|exact ⟨Below.refl _ _,rfl⟩|exact ⟨rfl,Below.refl _ _⟩
  apply growg_cons rfl
  · intro v w1 h1 hd
    have g39:v 39=.pointer (some ⟨gr,n,none⟩):=hd 6 _ _ _ rfl rfl rfl rfl
    clear hd
    rw [g39]
    have rc0:=(World.cell?_of_block (a:=⟨gr,n,none⟩) (h1.block gr HGL.out HNEG.out)).trans HRC.out
    clear g39 h1
    go_wp2_with fail
    first|exact Below.refl _ _|exact ⟨Below.refl _ _,rfl⟩|exact ⟨rfl,Below.refl _ _⟩
  apply growg_cons rfl
  · intro v w1 h1 hd
    clear hd
    clear h1
    go_wp2_with fail
    first|exact Below.refl _ _|exact ⟨Below.refl _ _,rfl⟩|exact ⟨rfl,Below.refl _ _⟩
  apply growg_cons rfl
  · intro v w1 h1 hd
    have g41:v 41=.pointer (some ⟨w.heap.size+1,5,none⟩):=hd 8 _ _ _ rfl rfl rfl rfl
    clear hd
    rw [g41]
    have qc:=jC ((h1.block _ (jB HV1.out) HNE1.out).trans HV1.out) 5
    simp only [gT,gZ,gS] at qc
    clear g41 h1
    go_wp2_with fail
    first|exact Below.refl _ _|exact ⟨Below.refl _ _,rfl⟩|exact ⟨rfl,Below.refl _ _⟩
  apply growg_cons rfl
  · intro v w1 h1 hd
    have g42:v 42=.slice a5 st.row.length c5:=hd 9 _ _ _ rfl rfl rfl rfl
    clear hd
    rw [g42]
    have H1W:=hid h1
    obtain ⟨_,_,_,hrow⟩:=(HROW.out.keep fun k hk hl=>h1.block k hl fun e=>by have:=(HRB.out k e.symm).1;have:=hk.2;omega).row
    have con:=clone_row (w:=w1) (c:=c5) (n:=st.row.length) (row_nil hrow) (row_raw hrow) (flat_len (enc:=valEnc) (sz:=3) (fun _=>rfl) st.row) (val_cells st.row) (by omega)
    clear g42 h1 hrow
    go_wp2_with fail
    refine con.mono ?_
    rintro e w2 ⟨v',rfl,o2,b2⟩
    obtain ⟨ua,uc,hv,_⟩:=owns_shape' o2
    subst hv
    have T2:=hid (show NewRow V.heap.size st.row (.slice ua st.row.length uc) w2 from ⟨ua,uc,rfl,owns_base o2 H1W.out.size⟩)
    have B2:=hid b2
    clear con o2 b2
    go_wp2_with fail
    first|exact ⟨B2.out,T2.out⟩|exact ⟨T2.out,B2.out⟩
  apply growg_cons rfl
  · intro v w1 h1 hd
    obtain ⟨ua,uc,g43,o43⟩:NewRow V.heap.size st.row (v 43) w1:=hd 10 _ _ _ rfl rfl rfl rfl
    clear hd
    rw [g43]
    have O:=hid o43
    have HSW:=hid h1.size
    clear g43 o43 h1
    go_wp2_with fail
    have hb3:Below w1.heap.size w1 (w1.alloc (.cells #[.slice ua st.row.length uc] 35)):=(b0R).alloc (jR _) _
    first|exact ⟨hb3,ua,uc,w1.heap.size,rfl,HSW.out,heap_alloc_new _ _,owns_below O.out hb3⟩|exact ⟨⟨ua,uc,w1.heap.size,rfl,HSW.out,heap_alloc_new _ _,owns_below O.out hb3⟩,hb3⟩
  apply growg_one rfl
  · intro v w1 h1 hp hd
    have g40:v 40=.slice oa R[n].length oc:=hd 7 _ _ _ rfl rfl rfl rfl
    obtain ⟨ua,uc,gn,g44,_,hgn,on⟩:NewRowB V.heap.size st.row (v 44) w1:=hd 11 _ _ _ rfl rfl rfl rfl
    clear hd
    rw [g40,g44]
    have HOU1:=hid (owns_below HOU.out hp)
    have hs1:=Nat.le_trans SZV.out hp.size
    refine wpList_append_own_at _ rfl _ _ 41 rfl w2.heap.size 35 i0 _ 1 24 Tryz.underlying41 hi hz0 hz1 hz2 rfl (by decide) (.slice oa R[n].length oc) R[n].length xs rfl HOU1.out ⟨gn,0,none⟩ 1 1 [.slice ua st.row.length uc] rfl rfl (fun j u hj=>by rw [addr_add,jC hgn];simpa using hj) (fun u hu=>by rw [List.mem_singleton.1 hu];rfl) (by unfold maxLen;omega) (by omega) (by omega) ?_
    intro v' w8 o1 g1 hx1 at1
    obtain ⟨va,vc,hv',_⟩:=owns_shape' o1
    subst hv'
    exact wpList_nil ⟨rfl,_,rfl,g1,ua,uc,va,vc,rfl,o1,keeps_owns (B':=w2.heap.size) (T:=35) (by decide) w1 w8 _ on (own_tag HOU1.out) g1⟩
  exact growg_nil
 case hend =>
  intro v w7 h1 hd
  have g34:v 34=.slice (some ⟨gr,0,none⟩) R.length rc:=hd 1 _ _ _ rfl rfl rfl
  have g35:v 35=.int .i64 (n:Int):=hd 2 _ _ _ rfl rfl rfl
  obtain ⟨ua,uc,va,vc,g45,oapp,oval⟩:NewApp w2.heap.size V.heap.size R[n].length xs st.row (v 45) w7:=hd 12 _ _ _ rfl rfl rfl
  clear hd
  rw [g34,g35,g45]
  have N8:=hid (show _/\_/\_ from ⟨oapp,h1,oval⟩)
  have OW8:=hid (keeps_owns (B':=w2.heap.size) (T:=35) (by decide) V w7 _ OV.out.1 (own_tag HOU.out) h1)
  have k8:=World.ownsRow.cellAt OW8.out n (by omega)
  rw [List.getElem?_eq_getElem hno] at k8
  have f8:=World.ownsRow.frozenAt OW8.out n
  have Y0:=hid ((h1.block _ (jB HV0.out) HNE0.out).trans HV0.out)
  have Y2:=hid ((h1.block _ (jB HV2.out) HNE2.out).trans HV2.out)
  have Y3:=hid ((h1.block _ (jB HV3.out) HNE3.out).trans HV3.out)
  have HCU8:=hid ((h1.block _ (jB HCU.out) HNEG.out).trans HCU.out)
  have hsv:=SZV.out
  have HS7:=hid h1.size
  have hs7:=HS7.out
  clear h1 g34 g35 g45 oapp oval
  generalize v 33=y1,v 36=y2,v 37=y3,v 38=y4,v 39=y5,v 40=y9,v 41=y6,v 42=y7,v 43=y8,v 44=y10
  simp only [List.drop_succ_cons,List.drop_zero]
  go_upto_region 9 with (fail)
  generalize hZ:World.setCell _ _ _=Z
  have HZ:=hid hZ
  have hgn:∀ {k:Nat} {cs:Array Value} {T:TypeId},w7.heap[k]? = some (.cells cs T (0,0))->T ≠ 41->Z.heap[k]? = some (.cells cs T (0,0)):=fun {k cs T} hk hT=>by
   rw [<- HZ.out]
   exact (heap_setCell_other _ _ _ _ (fun e=>row_not hk OW8.out hT (by rw [e];rfl))).trans hk
  have Z0:=hid (hgn Y0.out (by decide))
  have Z2:=hid (hgn Y2.out (by decide))
  have Z3:=hid (hgn Y3.out (by decide))
  have z0:=jC Z0.out 0
  have z1:=jC Z0.out 1
  have g0:=jC Z2.out 0
  have g1:=jC Z2.out 1
  have e0:=free_of Z2.out 0
  have e1:=free_of Z2.out 1
  have m0:=jC Z3.out 0
  have m1:=jC Z3.out 1
  have m2:=jC Z3.out 2
  have n0:=free_of Z3.out 0
  have n1:=free_of Z3.out 1
  have n2:=free_of Z3.out 2
  simp only [gT,gZ,gS] at z0 z1 g0 g1 m0 m1 m2
  clear hZ hgn k8 f8
  go_wp2_with fail
  have HW3:=stored_at (x0:=.slice ta C.length tc) (x1:=.slice (some ⟨gr,0,none⟩) R.length rc) (y0:=.int .i64 0) (y1:=.slice none 0 0) (y2:=.int .i64 1) Z2.out Z3.out
  refine bodyPost_ret (results_cells2 rfl _ _ (w.heap.size+1+1) (w.heap.size+1+1+1) 27 43 _ _ (0,0) (0,0) _ _ rfl rfl HW3.1 HW3.2 Tryz.underlying27 rfl (by kernel_rfl) Tryz.underlying43 rfl (by kernel_rfl)) rfl ?_
  rw [HPST.out]
  have hsnoc:Copies w2.heap.size (R[n] ++ [st.row]) (R[n].length+1) (xs ++ [.slice ua st.row.length uc]) w7 :=
   (keeps_copies (B':=w2.heap.size) (T:=35) (by decide) V w7 _ HCP.out (own_tag HOU.out) N8.out.2.1).snoc rfl (owns_base N8.out.2.2 hsv)
  have hlen1:(R[n] ++ [st.row]).length=R[n].length+1:=by simp
  obtain ⟨q1,q2⟩:=copies2_put (g:=gr) (n:=n) (R:=R) (c:=rc) (outs:=outs) (L:=R[n] ++ [st.row]) (u:=.slice va (R[n].length+1) vc) hnR OW8.out OV.out.2.1 (copies2_other OV.out.2 AP.out hno hnR (by rw [HON.out];exact N8.out.2.1)) (by rw [hlen1];exact N8.out.1) (by rw [hlen1];exact hsnoc)
  rw [HZ.out] at q1 q2
  have hRS:RowsSmall (R.set n (R[n] ++ [st.row])):=by
   refine ⟨by rw [List.length_set];exact HR.out.1,fun x hx=>?_,fun x hx y hy=>?_⟩
   · rcases mem_set_cases hx with rfl|hx
     · rw [hlen1];omega
     · exact HR.out.2.1 x hx
   · rcases mem_set_cases hx with rfl|hx
     · rcases List.mem_append.1 hy with hy|hy
       · exact HR.out.2.2 _ (List.getElem_mem hnR) y hy
       · rw [List.mem_singleton.1 hy];exact hrl
     · exact HR.out.2.2 x hx y hy
  have hsl:=copies2_sl (v:=.slice (some ⟨gr,0,none⟩) R.length rc) q1 q2 hRS
  have eS:insertS ⟨C,R⟩ st=⟨C,R.set n (R[n] ++ [st.row])⟩:=by
   unfold insertS
   rw [HN.out,Int.toNat_natCast,modify_set' _ hnR]
  rw [eS,HER.out]
  have BZ:Below w.heap.size w Z:=by
   rw [<- HZ.out]
   exact ((BV.out.grown N8.out.2.1 (by have:=BV.out.size;omega) (fun k hk=>by have:=(HOU.out.lt k hk).1;omega))).setCell (p:=⟨gr,n,none⟩) (by have:=(World.ownsRow.lt OW8.out gr rfl).1;simp;omega) _
  refine does_ok rfl rfl (stored_below BZ (by omega) (by omega)) ⟨ta,tc,some ⟨gr,0,none⟩,rc,by rw [List.length_set],?_,?_⟩ (ansAt_none _ _ _)
  · have t8:TabsCp p w.heap.size (.slice ta C.length tc) C w7:=TV.out.grown (fun b hb=>⟨by have:=(HOU.out.lt b hb).1;omega,by
     rcases HOU.out.2 with ⟨e,_⟩|⟨g',cap',cur,e,_,hg,_⟩
     · rw [e] at hb;cases hb
     · rw [e] at hb
       cases hb
       exact ⟨cur,_,_,hg,by decide⟩⟩) N8.out.2.1
    have tz:TabsCp p w.heap.size (.slice ta C.length tc) C Z:=by
     rw [<- HZ.out]
     exact t8.setc (by have:=(World.ownsRow.lt OW8.out gr rfl).1;omega) HCU8.out (by decide)
    have tf:=((((tz.setc (x:=.slice ta C.length tc) (o:=0) (by omega) Z2.out (by decide)).setc (x:=.slice (some ⟨gr,0,none⟩) R.length rc) (o:=1) (by omega) (heap_setCell_same _ _ _ _ _ _ Z2.out) (by decide)).setc (g:=w.heap.size+1+1+1) (x:=.int .i64 0) (o:=0) (by omega) ((heap_setCell_other _ _ _ _ (by simp)).trans ((heap_setCell_other _ _ _ _ (by simp)).trans Z3.out)) (by decide)).setc (g:=w.heap.size+1+1+1) (x:=.slice none 0 0) (o:=1) (by omega) (heap_setCell_same _ _ _ _ _ _ ((heap_setCell_other _ _ _ _ (by simp)).trans ((heap_setCell_other _ _ _ _ (by simp)).trans Z3.out))) (by decide)).setc (g:=w.heap.size+1+1+1) (x:=.int .i64 1) (o:=2) (by omega) (heap_setCell_same _ _ _ _ _ _ (heap_setCell_same _ _ _ _ _ _ ((heap_setCell_other _ _ _ _ (by simp)).trans ((heap_setCell_other _ _ _ _ (by simp)).trans Z3.out)))) (by decide)
    exact tf.lies
  · show SlV rowsR _ _ (.slice (some ⟨gr,0,none⟩) (R.set n (R[n] ++ [st.row])).length rc) _
    rw [List.length_set]
    exact (hsl.keep fun k hk hl=>stored_other k (by omega) (by omega)).weaken fun k hk=>Or.inr (by omega)
end
section
open Go.RowKit
theorem nil_iff (s:ByteArray):s.toList.isEmpty=strNil s:=by
 unfold strNil
 rw [toList_data]
 obtain ⟨⟨l⟩⟩:=s
 cases l <;> simp [ByteArray.size]
theorem sets1_any {q:Nat} {yc y2 xs ys:ByteArray} {yk yn:Int} {w:World} (hq:w.cell? ⟨q,0,none⟩=some (.string xs)) :
 Calls Tryz.prog 135 #[.agg #[.string yc,.string y2,.int .i64 yk,.int .i64 yn,.string ys],.pointer (some ⟨q,0,none⟩)] w fun e w'=>e=.returned (.bool (sEq yc xs))/\Below w.heap.size w w':=by
 have hb:Below w.heap.size w (w.alloc (.cells #[.string yc,.string y2,.int .i64 yk,.int .i64 yn,.string ys] 81)):=(b0R).alloc (jR _) _
 have hlt:=World.block_lt_of_cell? w _ hq
 have hb1:=hid hb
 have q2:=(hb.cell (p:=⟨q,0,none⟩) hlt).trans hq
 clear hb
 go_enter Tryz.func135,Tryz.ntmps135
 go_wp2_with fail
 go_ret
 exact ⟨rfl,hb1.out⟩
def setAt (L:List SetV) (t:Nat):SetV:=(L[t]?).getD ⟨noStr,noStr,val0⟩
theorem setAt_eq {L:List SetV} {t:Nat} (h:t<L.length):setAt L t=L[t]:=by
 unfold setAt
 rw [List.getElem?_eq_getElem h];rfl
theorem sets_seen {p:Nat->Prop} {q k c:Nat} {xs:ByteArray} {a:Option Addr} {L:List SetV} {w:World} (h:SlV setR p w (.slice a L.length c) L) (hk:k<=L.length) (hq:w.cell? ⟨q,0,none⟩=some (.string xs)) :
 Calls Tryz.prog 134 #[.slice a k c,.func (.func 135) #[] #[.pointer (some ⟨q,0,none⟩)]] w fun e w'=>e=.returned (.bool ((L.take k).any fun y=>sEq y.col xs))/\Below w.heap.size w w':=by
 obtain ⟨_,_,hl,hr⟩:=h.row
 have hlt:=World.block_lt_of_cell? w _ hq
 have hkl:(L.take k).length=k:=by rw [List.length_take];omega
 have key:=anyN_list (fun y:SetV=>sEq y.col xs) (L.take k) (fun t=>sEq (setAt L t).col xs) (fun t ht=>by rw [List.getElem_take,setAt_eq (by omega)])
 rw [hkl] at key
 rw [<- key]
 refine cf_set (x0:=fun t=>.string (setAt L t).col) (x1:=fun t=>.string (setAt L t).col2) (x2:=fun t=>.int .i64 (setAt L t).val.kind) (x3:=fun t=>.int .i64 (setAt L t).val.n) (x4:=fun t=>.string (setAt L t).val.s) (fun t=>sEq (setAt L t).col xs) (enters_of Tryz.func135 (by kernel_rfl) rfl) (by omega) (fun h0=>?_) (fun t ht w1 b1=>sets1_any ((b1.cell (p:=⟨q,0,none⟩) hlt).trans hq))
 obtain ⟨b,off,rfl,_,hbl⟩:=hr.addr (by intro e;rw [e] at hk;simp at hk;omega)
 refine ⟨b,off,rfl,hbl,fun t ht=>?_⟩
 have:=hr.set t (by omega)
 rw [setAt_eq (by omega)]
 exact this
theorem se_col {T:Tab} {P:List SetV} {x:SetV} (h:colOf T x.col<0):setE T P x=50:=by unfold setE;rw [if_pos h]
structure SeFine (T:Tab) (P:List SetV) (x:SetV):Prop where
 c:¬ colOf T x.col<0
 t:P.any (fun y=>sEq y.col x.col)=false
theorem se_twice {T:Tab} {P:List SetV} {x:SetV} (h:¬ colOf T x.col<0) (h2:P.any (fun y=>sEq y.col x.col)=true):setE T P x=51:=by unfold setE;rw [if_neg h,if_pos h2]
theorem SeFine.one {T:Tab} {P:List SetV} {x:SetV} (h:SeFine T P x) (h1:strNil x.col2=true):setE T P x=if !rightB x.val || (decide (x.val.kind ≠ 0) && decide (x.val.kind ≠ kindAt T.cols (colOf T x.col))) then 52 else 0:=by
 unfold setE
 rw [if_neg h.c,if_neg (by rw [h.t];simp),if_neg (by rw [h1];simp),if_neg (by rw [h1];simp)]
theorem SeFine.two {T:Tab} {P:List SetV} {x:SetV} (h:SeFine T P x) (h1:strNil x.col2=false):setE T P x=if colOf T x.col2<0 then 50 else
 if decide (kindAt T.cols (colOf T x.col) ≠ 1) || decide (kindAt T.cols (colOf T x.col2) ≠ 1) || decide (x.val.kind ≠ 1) then 52 else
 if !rightB x.val || (decide (x.val.kind ≠ 0) && decide (x.val.kind ≠ kindAt T.cols (colOf T x.col))) then 52 else 0:=by
 unfold setE
 rw [if_neg h.c,if_neg (by rw [h.t];simp),h1]
 simp only [Bool.not_false,Bool.true_and,decide_eq_true_eq]
theorem setsFrom_err {T:Tab} {P L:List SetV} {x:SetV} {e:Int} (h:setE T P x=e) (he:e ≠ 0):setsFrom T P (x :: L)=e:=by
 unfold setsFrom
 rw [h,if_pos he]
theorem setsFrom_go {T:Tab} {P L:List SetV} {x:SetV} (h:setE T P x=0):setsFrom T P (x :: L)=setsFrom T (P ++ [x]) L:=by
 rw [setsFrom,h]
 simp
theorem kind_at {T:Tab} {i:Nat} (hi:i<T.cols.length):kindAt T.cols (i:Int)=T.cols[i].2:=by
 unfold kindAt
 rw [Int.toNat_natCast,List.getD_eq_getElem?_getD,List.getElem?_eq_getElem hi];rfl
theorem sets_any {p q:Nat->Prop} {ac ai aw:Option Addr} {cc ci cw:Nat} {T:Tab} {L:List SetV} {w:World} (hT:TabV p w (.agg #[.int .i64 T.id,.string T.name,.slice ac T.cols.length cc,.slice ai T.idx.length ci]) T) (hC:T.cols.length<=1000000) (hL:SlV setR q w (.slice aw L.length cw) L) :
 Calls Tryz.prog 90 #[.agg #[.int .i64 T.id,.string T.name,.slice ac T.cols.length cc,.slice ai T.idx.length ci],.slice aw L.length cw] w fun e w'=>e=.returned (.int .i64 (setsE T L))/\Below w.heap.size w w':=by
 obtain ⟨W1,hW1⟩:∃ W1,w.alloc (.cells #[.int .i64 T.id,.string T.name,.slice ac T.cols.length cc,.slice ai T.idx.length ci] 75)=W1:=⟨_,rfl⟩
 have hb1:Below w.heap.size w W1:=by rw [<- hW1];exact (b0R).alloc (jR _) _
 have hq:W1.heap[w.heap.size]? = some (.cells #[.int .i64 T.id,.string T.name,.slice ac T.cols.length cc,.slice ai T.idx.length ci] 75 (0,0)):=by rw [<- hW1];exact heap_alloc_new _ _
 have HT:=hid (hT.below hb1)
 have HL:=hid (hL.below hb1)
 have HBT:=hid hq
 have B1:=hid hb1
 have HCOL:=hid (show SlV colR p W1 (.slice ac T.cols.length cc) T.cols from by
  obtain ⟨_,_,_,_,e,h2,_⟩:=HT.out
  cases e
  exact h2)
 have hlm:L.length<=140737488355328:=hL.row.2.2.1
 have hlc:L.length<=cw:=hL.row.2.1
 clear hT hL hq hb1
 go_enter Tryz.func90,Tryz.ntmps90
 go_upto_region 1 with (fail)
 clear hW1
 go_wp2_with fail
 go_loopw [12] (fun i wr=>∃ k:Nat,k<=L.length/\i=.int .i64 k/\Hid (setsE T L=setsFrom T (L.take k) (L.drop k))/\Hid (Below W1.heap.size W1 wr)) (fun i _=>L.length - (intOf i).toNat)
 case atStart=>exact ⟨0,Nat.zero_le _,rfl,rfl,Below.refl _ _⟩
 case round =>
  obtain ⟨k,hk,rfl,HF,HB⟩:=hrel
  by_cases hlt:k<L.length
  · obtain ⟨bb,oo,rfl,_,hbb⟩:=HL.out.row.2.2.2.addr (by intro e;rw [e] at hlt;cases hlt)
    have hst:=HF.out
    rw [List.drop_eq_getElem_cons hlt] at hst
    have HTK:=hid (show L.take (k+1)=L.take k ++ [L[k]] from List.take_succ_eq_append_getElem hlt)
    obtain ⟨e0,e1,e2,e3,e4⟩:=HL.out.row.2.2.2.set k hlt
    have c0:=(HB.out.cell (p:=⟨bb,oo+k * 5,none⟩) hbb).trans e0
    have c1:=(HB.out.cell (p:=⟨bb,oo+k * 5+1,none⟩) hbb).trans e1
    have c2:=(HB.out.cell (p:=⟨bb,oo+k * 5+2,none⟩) hbb).trans e2
    have c3:=(HB.out.cell (p:=⟨bb,oo+k * 5+3,none⟩) hbb).trans e3
    have c4:=(HB.out.cell (p:=⟨bb,oo+k * 5+4,none⟩) hbb).trans e4
    obtain ⟨x,hx⟩:∃ x,x=L[k]:=⟨_,rfl⟩
    rw [<- hx] at hst HTK c0 c1 c2 c3 c4
    obtain ⟨xc,x2,⟨vk,vn,vs⟩⟩:=x
    simp only at c0 c1 c2 c3 c4
    have HST:=hid hst
    clear hst hx e0 e1 e2 e3 e4
    go_upto_region 4 with (fail)
    generalize hX:World.alloc _ _=X
    have hbX:Below wr.heap.size wr X:=by rw [<- hX];exact (b0R).alloc (jR _) _
    have hqX:X.heap[wr.heap.size]? = some (.cells #[.string xc,.string x2,.int .i64 vk,.int .i64 vn,.string vs] 81 (0,0)):=by rw [<- hX];exact heap_alloc_new _ _
    have BX:=hid (HB.out.trans (hbX.mono HB.out.size))
    have QX:=hid hqX
    have HSX:=hid (show wr.heap.size<X.heap.size from jB hqX)
    have x0:=jC hqX 0
    have hbt:=(BX.out.block _ (jB HBT.out)).trans HBT.out
    have t0:=jC hbt 0
    have t1:=jC hbt 1
    have t2:=jC hbt 2
    have t3:=jC hbt 3
    simp only [gT,gZ,gS] at x0 t0 t1 t2 t3
    clear hX hbX hqX hbt c0 c1 c2 c3 c4
    obtain ⟨n,hn⟩:∃ n,colOf T xc=n:=⟨_,rfl⟩
    have con:=pcol_any (HT.out.below BX.out) hC xc
    rw [hn] at con
    have HN:=hid hn
    have HNB:=hid (show -1<=n/\n<T.cols.length by rw [<- hn];exact colOf_lt T xc)
    clear hn
    go_wp2_with fail
    refine con.mono ?_
    rintro e w2 ⟨rfl,b2⟩
    have BY:=hid (show _/\_ from ⟨BX.out.trans (b2.mono BX.out.size),(b2.block _ (jB QX.out)).trans QX.out⟩)
    clear con b2 x0 t0 t1 t2 t3 QX BX
    by_cases hn0:n<0
    · have HX:=hid (HST.out.trans (setsFrom_err (se_col (by rw [HN.out];omega)) (by decide)))
      go_wp2_with fail
      go_ret
      exact ⟨by rw [HX.out];rfl,B1.out.trans (BY.out.1.mono B1.out.size)⟩
    obtain ⟨n,rfl⟩:∃ j:Nat,n=j:=⟨n.toNat,by omega⟩
    have hnT:n<T.cols.length:=by have:=HNB.out.2;omega
    have hn1:¬ (n:Int)<0:=hn0
    have x0:=jC BY.out.2 0
    simp only [gT,gZ,gS] at x0
    have con:=sets_seen (k:=k) (HL.out.below BY.out.1) hk x0
    obtain ⟨f,hf⟩:∃ f,((L.take k).any fun y=>sEq y.col xc)=f:=⟨_,rfl⟩
    rw [hf] at con
    have HFF:=hid hf
    clear hf x0 HNB
    go_wp2_with fail
    refine con.mono ?_
    rintro e w3 ⟨rfl,b3⟩
    have BZ:=hid (show _/\_ from ⟨BY.out.1.trans (b3.mono BY.out.1.size),(b3.block _ (jB BY.out.2)).trans BY.out.2⟩)
    clear con b3 BY
    cases f
    case true =>
     have HX:=hid (HST.out.trans (setsFrom_err (se_twice (x:=⟨xc,x2,⟨vk,vn,vs⟩⟩) (by rw [HN.out];omega) HFF.out) (by decide)))
     go_wp2_with fail
     go_ret
     exact ⟨by rw [HX.out];rfl,B1.out.trans (BZ.out.1.mono B1.out.size)⟩
    have FINE:=hid (show SeFine T (L.take k) ⟨xc,x2,⟨vk,vn,vs⟩⟩ from ⟨by rw [HN.out];omega,HFF.out⟩)
    have hbt:=(BZ.out.1.block _ (jB HBT.out)).trans HBT.out
    have t0:=jC hbt 0
    have t1:=jC hbt 1
    have t2:=jC hbt 2
    have t3:=jC hbt 3
    have x1:=jC BZ.out.2 1
    simp only [gT,gZ,gS] at t0 t1 t2 t3 x1
    obtain ⟨bc,oc,rfl,_,hbc⟩:=HCOL.out.row.2.2.2.addr (by intro e;rw [e] at hnT;cases hnT)
    have y1:=(BZ.out.1.cell (p:=⟨bc,oc+n * 2+1,none⟩) hbc).trans (HCOL.out.row.2.2.2.col n hnT).2
    obtain ⟨kd,hkd⟩:∃ kd,T.cols[n].2=kd:=⟨_,rfl⟩
    rw [hkd] at y1
    have HKD:=hid hkd
    clear hkd hbt
    have hE2:=nil_iff x2
    cases h2:strNil x2
    case true =>
     rw [h2] at hE2
     have h2e:x2.toList=[]:=by simpa using hE2
     have BK:=BZ
     clear BZ
     go_upto_region 16 with (fail)
     clear t0 t1 t2 t3 x1 y1 hE2 h2e
     have HSE:=hid (show setE T (L.take k) ⟨xc,x2,⟨vk,vn,vs⟩⟩=if !rightB ⟨vk,vn,vs⟩ || (decide (vk ≠ 0) && decide (vk ≠ kd)) then 52 else 0 from by have:=FINE.out.one (x:=⟨xc,x2,⟨vk,vn,vs⟩⟩) h2;simp only [HN.out,kind_at hnT,HKD.out] at this;exact this)
     have x2:=jC BK.out.2 2
     have x3:=jC BK.out.2 3
     have x4:=jC BK.out.2 4
     simp only [gT,gZ,gS] at x2 x3 x4
     obtain ⟨rf,hrf⟩:∃ rf,rightB ⟨vk,vn,vs⟩=rf:=⟨_,rfl⟩
     have HRF:=hid hrf
     have HCON:=hid (show ∀ z:World,Calls Tryz.prog 133 #[.agg #[.int .i64 vk,.int .i64 vn,.string vs]] z fun e w'=>e=.returned (.bool rf)/\Below z.heap.size z w' from fun z=>by rw [<- hrf];exact right_any ⟨vk,vn,vs⟩ z)
     clear hrf
     go_wp2_with fail
     refine (HCON.out _).mono ?_
     rintro e w9 ⟨rfl,b9⟩
     have BR:=hid (BK.out.1.trans (b9.mono BK.out.1.size))
     have hx9:=(b9.block _ (jB BK.out.2)).trans BK.out.2
     have u2:=jC hx9 2
     simp only [gT,gZ,gS] at u2
     clear HCON b9 x2 x3 x4 hx9
     cases rf
     · have HX:=hid (HST.out.trans (setsFrom_err (e:=52) (by rw [HSE.out,HRF.out];rfl) (by decide)))
       go_wp2_with fail
       go_ret
       exact ⟨by rw [HX.out];rfl,B1.out.trans (BR.out.mono B1.out.size)⟩
     by_cases hv0:vk=0
     · subst hv0
       have HE:=hid (show setsE T L=setsFrom T (L.take (k+1)) (L.drop (k+1)) from by rw [HTK.out];exact HST.out.trans (setsFrom_go (by rw [HSE.out,HRF.out];rfl)))
       go_wp2_with fail
       go_roundw
       case rel=>exact ⟨k+1,by omega,by go_num,HE.out,BR.out⟩
       case measure=>simp [intOf];omega
     have d1:(vk != 0)=true:=by simpa using hv0
     by_cases hvk:vk=kd
     · have HE:=hid (show setsE T L=setsFrom T (L.take (k+1)) (L.drop (k+1)) from by rw [HTK.out];exact HST.out.trans (setsFrom_go (by rw [HSE.out,HRF.out,hvk];simp)))
       subst hvk
       go_wp2_with fail
       go_roundw
       case rel=>exact ⟨k+1,by omega,by go_num,HE.out,BR.out⟩
       case measure=>simp [intOf];omega
     have d2:(vk != kd)=true:=by simpa using hvk
     have HX:=hid (HST.out.trans (setsFrom_err (e:=52) (by rw [HSE.out,HRF.out];simp [hv0,hvk]) (by decide)))
     go_wp2_with fail
     go_ret
     exact ⟨by rw [HX.out];rfl,B1.out.trans (BR.out.mono B1.out.size)⟩
    rw [h2] at hE2
    have h2e:¬ x2.toList=[]:=by simpa using hE2
    obtain ⟨m,hm⟩:∃ m,colOf T x2=m:=⟨_,rfl⟩
    have con:=pcol_any (HT.out.below BZ.out.1) hC x2
    rw [hm] at con
    have HM:=hid hm
    have HMB:=hid (show -1<=m/\m<T.cols.length by rw [<- hm];exact colOf_lt T x2)
    have HTWO:=hid (show setE T (L.take k) ⟨xc,x2,⟨vk,vn,vs⟩⟩=if m<0 then 50 else
     if decide (kd ≠ 1) || decide (kindAt T.cols m ≠ 1) || decide (vk ≠ 1) then 52 else
     if !rightB ⟨vk,vn,vs⟩ || (decide (vk ≠ 0) && decide (vk ≠ kd)) then 52 else 0 from by
     have:=FINE.out.two (x:=⟨xc,x2,⟨vk,vn,vs⟩⟩) h2
     simp only [HN.out,HM.out,kind_at hnT,HKD.out] at this
     exact this)
    clear hm
    go_wp2_with fail
    refine con.mono ?_
    rintro e w4 ⟨rfl,b4⟩
    have BM:=hid (show _/\_ from ⟨BZ.out.1.trans (b4.mono BZ.out.1.size),(b4.block _ (jB BZ.out.2)).trans BZ.out.2⟩)
    clear con b4 t0 t1 t2 t3 x1 y1 BZ hE2 h2e
    by_cases hm0:m<0
    · have HX:=hid (HST.out.trans (setsFrom_err (e:=50) (by rw [HTWO.out,if_pos hm0]) (by decide)))
      go_wp2_with fail
      go_ret
      exact ⟨by rw [HX.out];rfl,B1.out.trans (BM.out.1.mono B1.out.size)⟩
    obtain ⟨m,rfl⟩:∃ j:Nat,m=j:=⟨m.toNat,by omega⟩
    have hmT:m<T.cols.length:=by have:=HMB.out.2;omega
    have hm1:¬ (m:Int)<0:=hm0
    obtain ⟨k2,hk2⟩:∃ k2,kindAt T.cols (m:Int)=k2:=⟨_,rfl⟩
    have HK2:=hid hk2
    have y2:=(BM.out.1.cell (p:=⟨bc,oc+m * 2+1,none⟩) hbc).trans (HCOL.out.row.2.2.2.col m hmT).2
    rw [<- kind_at hmT,hk2] at y2
    have hbt:=(BM.out.1.block _ (jB HBT.out)).trans HBT.out
    have t2:=jC hbt 2
    have x2':=jC BM.out.2 2
    simp only [gT,gZ,gS] at t2 x2'
    clear hk2 hbt HMB
    by_cases hk1:¬ kd=1
    · have HX:=hid (HST.out.trans (setsFrom_err (e:=52) (by rw [HTWO.out,if_neg (by omega),if_pos (by simp [hk1])]) (by decide)))
      have d1:(kd != 1)=true:=by simpa using hk1
      go_wp2_with fail
      go_ret
      exact ⟨by rw [HX.out];rfl,B1.out.trans (BM.out.1.mono B1.out.size)⟩
    have hk1:kd=1:=Decidable.not_not.1 hk1
    by_cases hk21:¬ k2=1
    · have HX:=hid (HST.out.trans (setsFrom_err (e:=52) (by rw [HTWO.out,if_neg (by omega),HK2.out,if_pos (by simp [hk21])]) (by decide)))
      have d2:(k2 != 1)=true:=by simpa using hk21
      go_wp2_with fail
      go_ret
      exact ⟨by rw [HX.out];rfl,B1.out.trans (BM.out.1.mono B1.out.size)⟩
    have hk21:k2=1:=Decidable.not_not.1 hk21
    by_cases hv1:¬ vk=1
    · have HX:=hid (HST.out.trans (setsFrom_err (e:=52) (by rw [HTWO.out,if_neg (by omega),HK2.out,if_pos (by simp [hv1])]) (by decide)))
      have d3:(vk != 1)=true:=by simpa using hv1
      go_wp2_with fail
      go_ret
      exact ⟨by rw [HX.out];rfl,B1.out.trans (BM.out.1.mono B1.out.size)⟩
    have hv1:vk=1:=Decidable.not_not.1 hv1
    subst hk21
    subst hv1
    subst hk1
    go_upto_region 16 with (fail)
    clear t2 x2' y2
    have HSE:=hid (show setE T (L.take k) ⟨xc,x2,⟨1,vn,vs⟩⟩=if !rightB ⟨1,vn,vs⟩ || (decide ((1:Int) ≠ 0) && decide ((1:Int) ≠ 1)) then 52 else 0 from by rw [HTWO.out,if_neg (by omega),if_neg (by rw [HK2.out];simp)])
    have x2:=jC BM.out.2 2
    have x3:=jC BM.out.2 3
    have x4:=jC BM.out.2 4
    simp only [gT,gZ,gS] at x2 x3 x4
    obtain ⟨rf,hrf⟩:∃ rf,rightB ⟨1,vn,vs⟩=rf:=⟨_,rfl⟩
    have HRF:=hid hrf
    have HCON:=hid (show ∀ z:World,Calls Tryz.prog 133 #[.agg #[.int .i64 1,.int .i64 vn,.string vs]] z fun e w'=>e=.returned (.bool rf)/\Below z.heap.size z w' from fun z=>by rw [<- hrf];exact right_any ⟨1,vn,vs⟩ z)
    clear hrf
    go_wp2_with fail
    refine (HCON.out _).mono ?_
    rintro e w9 ⟨rfl,b9⟩
    have BR:=hid (BM.out.1.trans (b9.mono BM.out.1.size))
    have hx9:=(b9.block _ (jB BM.out.2)).trans BM.out.2
    have u2:=jC hx9 2
    simp only [gT,gZ,gS] at u2
    clear HCON b9 x2 x3 x4 hx9
    cases rf
    · have HX:=hid (HST.out.trans (setsFrom_err (e:=52) (by rw [HSE.out,HRF.out];rfl) (by decide)))
      go_wp2_with fail
      go_ret
      exact ⟨by rw [HX.out];rfl,B1.out.trans (BR.out.mono B1.out.size)⟩
    have HE:=hid (show setsE T L=setsFrom T (L.take (k+1)) (L.drop (k+1)) from by rw [HTK.out];exact HST.out.trans (setsFrom_go (by rw [HSE.out,HRF.out];rfl)))
    go_wp2_with fail
    go_roundw
    case rel=>exact ⟨k+1,by omega,by go_num,HE.out,BR.out⟩
    case measure=>simp [intOf];omega
  · have hkn:k=L.length:=by omega
    subst hkn
    have HX:=hid (show setsE T L=0 from HF.out.trans (by rw [List.drop_length];rfl))
    go_wp2_with fail
    go_ret
    exact ⟨by rw [HX.out];rfl,B1.out.trans (HB.out.mono B1.out.size)⟩
end
section
open Go.RowKit
theorem changed_snoc (T:Tab) (r:List Val) (P:List SetV) (x:SetV):changedV T r (P ++ [x])=(changedV T r P).set (colOf T x.col).toNat (newV T r x):=by
 unfold changedV
 rw [List.foldl_append]
 rfl
theorem changed_len (T:Tab) (r:List Val) (P:List SetV):(changedV T r P).length=r.length:=by
 unfold changedV
 have:∀ (P:List SetV) (o:List Val),(P.foldl (fun out x=>out.set (colOf T x.col).toNat (newV T r x)) o).length=o.length:=by
  intro P
  induction P with
  | nil=>intro o;rfl
  | cons x P ih=>intro o;rw [List.foldl_cons,ih,List.length_set]
 exact this P r
theorem put_val {B g n c:Nat} {M:List Val} {v:Val} {w:World} (hn:n<M.length) (h:w.ownsRow B 55 3 (.slice (some ⟨g,0,none⟩) M.length c) M.length (M.flatMap valEnc)) :
 (((w.setCell ⟨g,n * 3,none⟩ (.int .i64 v.kind)).setCell ⟨g,n * 3+1,none⟩ (.int .i64 v.n)).setCell ⟨g,n * 3+2,none⟩ (.string v.s)).ownsRow B 55 3 (.slice (some ⟨g,0,none⟩) M.length c) M.length ((M.set n v).flatMap valEnc):=by
 have h1:=(World.ownsRow.stored h (n * 3) (.int .i64 v.kind)).1
 have h2:=(World.ownsRow.stored h1 (n * 3+1) (.int .i64 v.n)).1
 have h3:=(World.ownsRow.stored h2 (n * 3+2) (.string v.s)).1
 have e1:=flat_set (enc:=valEnc) (sz:=3) (fun _=>rfl) M n ⟨v.kind,M[n].n,M[n].s⟩ 0 (.int .i64 v.kind) hn (by decide) rfl
 have l1:n<(M.set n ⟨v.kind,M[n].n,M[n].s⟩).length:=by simpa using hn
 have e2:=flat_set (enc:=valEnc) (sz:=3) (fun _=>rfl) (M.set n ⟨v.kind,M[n].n,M[n].s⟩) n ⟨v.kind,v.n,M[n].s⟩ 1 (.int .i64 v.n) l1 (by decide) (by rw [List.getElem_set_self];rfl)
 have l2:n<((M.set n ⟨v.kind,M[n].n,M[n].s⟩).set n ⟨v.kind,v.n,M[n].s⟩).length:=by simpa using hn
 have e3:=flat_set (enc:=valEnc) (sz:=3) (fun _=>rfl) ((M.set n ⟨v.kind,M[n].n,M[n].s⟩).set n ⟨v.kind,v.n,M[n].s⟩) n v 2 (.string v.s) l2 (by decide) (by rw [List.getElem_set_self];rfl)
 rw [List.set_set,List.set_set,e2,e1] at e3
 rw [e3]
 exact h3
theorem changed_any {p q s:Nat->Prop} {ac ai ar aw:Option Addr} {cc ci cr cw:Nat} {T:Tab} {r:List Val} {L:List SetV} {w:World} (hT:TabV p w (.agg #[.int .i64 T.id,.string T.name,.slice ac T.cols.length cc,.slice ai T.idx.length ci]) T) (hC:T.cols.length<=1000000)
 (hr:SlV valR q w (.slice ar r.length cr) r) (hrl:r.length=T.cols.length) (hL:SlV setR s w (.slice aw L.length cw) L) (hf:∀ x ∈ L,0<=colOf T x.col/\(strNil x.col2=false->0<=colOf T x.col2)) :
 Calls Tryz.prog 92 #[.agg #[.int .i64 T.id,.string T.name,.slice ac T.cols.length cc,.slice ai T.idx.length ci],.slice ar r.length cr,.slice aw L.length cw] w
  fun e w'=>∃ (ua:Option Addr) (uc:Nat),e=.returned (.slice ua r.length uc)/\Below w.heap.size w w'/\w'.ownsRow w.heap.size 55 3 (.slice ua r.length uc) r.length ((changedV T r L).flatMap valEnc):=by
 obtain ⟨W1,hW1⟩:∃ W1,w.alloc (.cells #[.int .i64 T.id,.string T.name,.slice ac T.cols.length cc,.slice ai T.idx.length ci] 75)=W1:=⟨_,rfl⟩
 have hb1:Below w.heap.size w W1:=by rw [<- hW1];exact (b0R).alloc (jR _) _
 have hq:W1.heap[w.heap.size]? = some (.cells #[.int .i64 T.id,.string T.name,.slice ac T.cols.length cc,.slice ai T.idx.length ci] 75 (0,0)):=by rw [<- hW1];exact heap_alloc_new _ _
 have HT:=hid (hT.below hb1)
 have HL:=hid (hL.below hb1)
 have HR:=hid (hr.below hb1)
 have HBT:=hid hq
 have B1:=hid hb1
 have HF:=hid hf
 have HRL:=hid hrl
 have hlm:L.length<=140737488355328:=hL.row.2.2.1
 obtain ⟨_,_,_,hrow⟩:=HR.out.row
 have con:=clone_row (w:=W1) (c:=cr) (n:=r.length) (row_nil hrow) (row_raw hrow) (flat_len (enc:=valEnc) (sz:=3) (fun _=>rfl) r) (val_cells r) (by have:=HRL.out;omega)
 clear hT hL hr hq hb1 hf hrow hrl
 go_enter Tryz.func92,Tryz.ntmps92
 go_upto_region 1 with (fail)
 clear hW1
 go_wp2_with fail
 refine con.mono ?_
 rintro e w2 ⟨ov,rfl,o2,b2⟩
 obtain ⟨oa,oc,hov,_⟩:=owns_shape' o2
 subst hov
 have O2:=hid (show _/\_ from ⟨o2,b2⟩)
 clear con o2 b2
 go_wp2_with fail
 go_loopw [15] (fun i wr=>∃ k:Nat,k<=L.length/\i=.int .i64 k/\Hid (wr.ownsRow W1.heap.size 55 3 (.slice oa r.length oc) r.length ((changedV T r (L.take k)).flatMap valEnc)/\Below W1.heap.size W1 wr)) (fun i _=>L.length - (intOf i).toNat)
 case atStart=>exact ⟨0,Nat.zero_le _,rfl,O2.out⟩
 case round =>
  obtain ⟨k,hk,rfl,HO⟩:=hrel
  clear O2
  by_cases hlt:k<L.length
  · obtain ⟨bb,oo,rfl,_,hbb⟩:=HL.out.row.2.2.2.addr (by intro e;rw [e] at hlt;cases hlt)
    have HTK:=hid (show L.take (k+1)=L.take k ++ [L[k]] from List.take_succ_eq_append_getElem hlt)
    obtain ⟨e0,e1,e2,e3,e4⟩:=HL.out.row.2.2.2.set k hlt
    have c0:=(HO.out.2.cell (p:=⟨bb,oo+k * 5,none⟩) hbb).trans e0
    have c1:=(HO.out.2.cell (p:=⟨bb,oo+k * 5+1,none⟩) hbb).trans e1
    have c2:=(HO.out.2.cell (p:=⟨bb,oo+k * 5+2,none⟩) hbb).trans e2
    have c3:=(HO.out.2.cell (p:=⟨bb,oo+k * 5+3,none⟩) hbb).trans e3
    have c4:=(HO.out.2.cell (p:=⟨bb,oo+k * 5+4,none⟩) hbb).trans e4
    obtain ⟨hf1,hf2⟩:=HF.out _ (List.getElem_mem hlt)
    obtain ⟨x,hx⟩:∃ x,x=L[k]:=⟨_,rfl⟩
    rw [<- hx] at HTK c0 c1 c2 c3 c4 hf1 hf2
    obtain ⟨xc,x2,⟨vk,vn,vs⟩⟩:=x
    simp only at c0 c1 c2 c3 c4 hf1 hf2
    obtain ⟨n,hn⟩:∃ n:Nat,colOf T xc=n:=⟨(colOf T xc).toNat,by omega⟩
    have HN:=hid hn
    have hnr:n<r.length:=by have:=(colOf_lt T xc).2;have:=HRL.out;omega
    have HF2:=hid hf2
    obtain ⟨go,rfl⟩:∃ go,oa=some ⟨go,0,none⟩:=by
     rcases HO.out.1.2 with ⟨_,e⟩|⟨g,cap,cur,e,_⟩
     · omega
     · simp only [Value.slice.injEq] at e
       exact ⟨g,e.1⟩
    have HGO:=hid (World.ownsRow.lt HO.out.1 go rfl).1
    have HOL:=hid (changed_len T r (L.take k))
    clear hx e0 e1 e2 e3 e4 hf1 hf2 hn
    go_upto_region 6 with (fail)
    generalize hX:World.alloc _ _=V
    have hA':allocs wr [_,_]=V:=hX
    have hqx:V.heap[wr.heap.size]? = some (.cells #[.string xc,.string x2,.int .i64 vk,.int .i64 vn,.string vs] 81 (0,0)):=allocs_get hA' 0 rfl
    have hqv:V.heap[wr.heap.size+1]? = some (.cells #[.int .i64 vk,.int .i64 vn,.string vs] 55 (0,0)):=allocs_get hA' 1 rfl
    have hbV:=allocs_self hA'
    have BW:=hid (HO.out.2.trans (hbV.mono HO.out.2.size))
    have OV:=hid (owns_below HO.out.1 hbV)
    have WX:=hid hqx
    have WV:=hid hqv
    have WT:=cy BW.out HBT
    have x1:=jC hqx 1
    simp only [gT,gZ,gS] at x1
    clear hA' hX hqx hqv hbV c0 c1 c2 c3 c4
    have hE2:=nil_iff x2
    cases h2:strNil x2
    case true =>
     rw [h2] at hE2
     have h2e:x2.toList=[]:=by simpa using hE2
     clear hE2
     go_upto_region 10 with (fail)
     apply wp_region_growt 6 [41,42,43,44,45,46]
      [fun _ u _=>u=.slice (some ⟨go,0,none⟩) r.length oc,
       fun _ u _=>u=.agg #[.int .i64 T.id,.string T.name,.slice ac T.cols.length cc,.slice ai T.idx.length ci],
       fun _ u _=>u=.pointer (some ⟨wr.heap.size,0,none⟩),
       fun _ u _=>u=.string xc,
       fun _ u _=>u=.int .i64 (n:Int),
       fun _ u _=>u=.agg #[.int .i64 vk,.int .i64 vn,.string vs]]
      (Below V.heap.size V)
     case hF =>
      intro v
      simp only [setAll,List.foldl_cons,List.foldl_nil,Act.put,List.setIfInBounds_toArray,List.set_cons_succ,List.set_cons_zero]
      exact rfl
     case hm=>kernel_rfl
     case hB=>kernel_rfl
     case hsz=>kernel_rfl
     case hC=>exact fun w1 w2 h b=>h.trans (b.mono h.size)
     case hw=>exact Below.drew b0R
     case hS =>
      intro D hD v u
      simp only [List.mem_cons,List.not_mem_nil,or_false] at hD
      rcases hD with rfl|rfl|rfl|rfl|rfl|rfl
      · exact fun w1 w2 h _=>h
      · exact fun w1 w2 h _=>h
      · exact fun w1 w2 h _=>h
      · exact fun w1 w2 h _=>h
      · exact fun w1 w2 h _=>h
      · exact fun w1 w2 h _=>h
     case hob =>
      simp only [List.take_succ_cons,List.take_zero]
      apply growt_cons
      · intro v w1 h1 hd
        clear hd
        clear h1
        go_wp2_with fail
        first|exact Below.refl _ _|exact ⟨Below.refl _ _,rfl⟩|exact ⟨rfl,Below.refl _ _⟩
      apply growt_cons
      · intro v w1 h1 hd
        clear hd
        have t0:=jC ((h1.block _ (jB WT.out)).trans WT.out) 0
        have t1:=jC ((h1.block _ (jB WT.out)).trans WT.out) 1
        have t2:=jC ((h1.block _ (jB WT.out)).trans WT.out) 2
        have t3:=jC ((h1.block _ (jB WT.out)).trans WT.out) 3
        simp only [gT,gZ,gS] at t0 t1 t2 t3
        clear h1
        go_wp2_with fail
        first|exact Below.refl _ _|exact ⟨Below.refl _ _,rfl⟩|exact ⟨rfl,Below.refl _ _⟩
      apply growt_cons
      · intro v w1 h1 hd
        clear hd
        clear h1
        go_wp2_with fail
        first|exact Below.refl _ _|exact ⟨Below.refl _ _,rfl⟩|exact ⟨rfl,Below.refl _ _⟩
      apply growt_cons
      · intro v w1 h1 hd
        have g43:v 43=.pointer (some ⟨wr.heap.size,0,none⟩):=hd 2 _ _ _ rfl rfl rfl rfl
        clear hd
        rw [g43]
        have x0:=jC ((h1.block _ (jB WX.out)).trans WX.out) 0
        simp only [gT,gZ,gS] at x0
        clear g43 h1
        go_wp2_with fail
        first|exact Below.refl _ _|exact ⟨Below.refl _ _,rfl⟩|exact ⟨rfl,Below.refl _ _⟩
      apply growt_cons
      · intro v w1 h1 hd
        have g42:v 42=.agg #[.int .i64 T.id,.string T.name,.slice ac T.cols.length cc,.slice ai T.idx.length ci]:=hd 1 _ _ _ rfl rfl rfl rfl
        have g44:v 44=.string xc:=hd 3 _ _ _ rfl rfl rfl rfl
        clear hd
        rw [g42,g44]
        have con:=pcol_any (HT.out.below (BW.out.trans (h1.mono BW.out.size))) hC xc
        rw [HN.out] at con
        clear g42 g44 h1
        go_wp2_with fail
        refine con.mono ?_
        rintro e w2 ⟨rfl,b2⟩
        have B2:=hid b2
        clear con b2
        go_wp2_with fail
        first|exact B2.out|exact ⟨B2.out,rfl⟩|exact ⟨rfl,B2.out⟩
      apply growt_cons
      · intro v w1 h1 hd
        clear hd
        have v0:=jC ((h1.block _ (jB WV.out)).trans WV.out) 0
        have v1:=jC ((h1.block _ (jB WV.out)).trans WV.out) 1
        have v2:=jC ((h1.block _ (jB WV.out)).trans WV.out) 2
        simp only [gT,gZ,gS] at v0 v1 v2
        clear h1
        go_wp2_with fail
        first|exact Below.refl _ _|exact ⟨Below.refl _ _,rfl⟩|exact ⟨rfl,Below.refl _ _⟩
      exact growt_nil
     case hend =>
      intro v w7 h1 hd
      have g41:v 41=.slice (some ⟨go,0,none⟩) r.length oc:=hd 0 _ _ _ rfl rfl rfl
      have g45:v 45=.int .i64 (n:Int):=hd 4 _ _ _ rfl rfl rfl
      have g46:v 46=.agg #[.int .i64 vk,.int .i64 vn,.string vs]:=hd 5 _ _ _ rfl rfl rfl
      clear hd
      rw [g41,g45,g46]
      have W7:=hid (BW.out.trans (h1.mono BW.out.size))
      have O7:=hid (owns_below OV.out h1)
      clear h1 g41 g45 g46
      generalize v 42=y1,v 43=y2,v 44=y3
      have k0:=World.ownsRow.cellAt O7.out (n * 3) (by omega)
      have k1:=World.ownsRow.cellAt O7.out (n * 3+1) (by omega)
      have k2:=World.ownsRow.cellAt O7.out (n * 3+2) (by omega)
      have f0:=World.ownsRow.frozenAt O7.out (n * 3)
      have f1:=World.ownsRow.frozenAt O7.out (n * 3+1)
      have f2:=World.ownsRow.frozenAt O7.out (n * 3+2)
      rw [List.getElem?_eq_getElem (by rw [flat_len (sz:=3) (enc:=valEnc) (fun _=>rfl),HOL.out];omega)] at k0 k1 k2
      simp only [List.drop_succ_cons,List.drop_zero]
      go_wp2_with fail
      have S7:=hid (put_val (v:=⟨vk,vn,vs⟩) (n:=n) (M:=changedV T r (L.take k)) (by rw [HOL.out];exact hnr) (by rw [HOL.out];exact O7.out))
      have BF:=hid (((W7.out.setCell (p:=⟨go,n * 3,none⟩) HGO.out (.int .i64 vk)).setCell (p:=⟨go,n * 3+1,none⟩) HGO.out (.int .i64 vn)).setCell (p:=⟨go,n * 3+2,none⟩) HGO.out (.string vs))
      go_roundw
      case rel =>
       refine ⟨k+1,by omega,by go_num,?_⟩
       rw [HTK.out,changed_snoc,show newV T r ⟨xc,x2,⟨vk,vn,vs⟩⟩=⟨vk,vn,vs⟩ from by unfold newV;rw [show strNil x2=true from h2,if_pos rfl],HN.out,Int.toNat_natCast]
       exact ⟨by have:=S7.out;rwa [HOL.out] at this,BF.out⟩
      case measure=>simp [intOf];omega
    rw [h2] at hE2
    have h2e:¬ x2.toList=[]:=by simpa using hE2
    obtain ⟨m,hm⟩:∃ m:Nat,colOf T x2=m:=⟨(colOf T x2).toNat,by have:=HF2.out h2;omega⟩
    have HM:=hid hm
    have hmr:m<r.length:=by have:=(colOf_lt T x2).2;have:=HRL.out;omega
    have con:=pcol_any (HT.out.below BW.out) hC x2
    rw [hm] at con
    obtain ⟨bR,oR,rfl,_,hbR⟩:=HR.out.row.2.2.2.addr (by intro e;rw [e] at hmr;cases hmr)
    obtain ⟨r0,r1,r2⟩:=HR.out.row.2.2.2.val m hmr
    obtain ⟨rv,hrv⟩:∃ rv,rv=r[m]:=⟨_,rfl⟩
    rw [<- hrv] at r0 r1 r2
    obtain ⟨rk,rn,rs⟩:=rv
    simp only at r0 r1 r2
    have HRV:=hid (show valAt r (colOf T x2)=⟨rk,rn,rs⟩ from by
     unfold valAt
     rw [hm,Int.toNat_natCast,List.getD_eq_getElem?_getD,List.getElem?_eq_getElem hmr,<- hrv];rfl)
    have HRR:=hid (show _/\_/\_ from ⟨r0,r1,r2⟩)
    have t0:=jC WT.out 0
    have t1:=jC WT.out 1
    have t2:=jC WT.out 2
    have t3:=jC WT.out 3
    simp only [gT,gZ,gS] at t0 t1 t2 t3
    clear hm hrv r0 r1 r2
    go_wp2_with fail
    refine con.mono ?_
    rintro e w4 ⟨rfl,b4⟩
    have BW4:=hid (BW.out.trans (b4.mono BW.out.size))
    have OV4:=hid (owns_below OV.out b4)
    have WX4:=cy b4 WX
    have hv4:=(b4.block _ (jB WV.out)).trans WV.out
    have WV4:=hid hv4
    have r0:=(BW4.out.cell (p:=⟨bR,oR+m * 3,none⟩) hbR).trans HRR.out.1
    have r1:=(BW4.out.cell (p:=⟨bR,oR+m * 3+1,none⟩) hbR).trans HRR.out.2.1
    have r2:=(BW4.out.cell (p:=⟨bR,oR+m * 3+2,none⟩) hbR).trans HRR.out.2.2
    have u0:=jC hv4 0
    have u1:=jC hv4 1
    have u2:=jC hv4 2
    have fu0:=free_of hv4 0
    have fu1:=free_of hv4 1
    have fu2:=free_of hv4 2
    simp only [gT,gZ,gS] at u0 u1 u2
    have HWS:=hid (show _/\_ from ⟨HO.out.2.size,(jB WX.out:wr.heap.size<V.heap.size)⟩)
    clear hE2 con b4 t0 t1 t2 t3 x1 BW OV WX WV WT hv4
    go_upto_region 8 with (fail)
    generalize hU:World.setCell _ _ _=U
    have WVU:=hid (show U.heap[wr.heap.size+1]? = some (.cells #[.int .i64 rk,.int .i64 rn,.string rs] 55 (0,0)) from by
     rw [<- hU]
     exact (heap_setCell_same _ _ _ _ _ _ ((heap_setCell_same _ _ _ _ _ _ ((heap_setCell_same _ _ _ _ _ _ WV4.out).trans rfl)).trans rfl)).trans rfl)
    have hot:∀ k,k ≠ wr.heap.size+1->U.heap[k]? = w4.heap[k]? := fun k hk=>by
     rw [<- hU]
     exact (heap_setCell_other _ _ _ _ (by exact hk)).trans ((heap_setCell_other _ _ _ _ (by exact hk)).trans (heap_setCell_other _ _ _ _ (by exact hk)))
    have BWU:=hid (show Below W1.heap.size W1 U from by
     rw [<- hU]
     exact (((BW4.out.setCell (p:=⟨wr.heap.size+1,0,none⟩) (by have:=HWS.out.1;simp;omega) _).setCell (p:=⟨wr.heap.size+1,1,none⟩) (by have:=HWS.out.1;simp;omega) _).setCell (p:=⟨wr.heap.size+1,2,none⟩) (by have:=HWS.out.1;simp;omega) _))
    have WXU:=hid ((hot _ (by omega)).trans WX4.out)
    have hgw:go<wr.heap.size:=(World.ownsRow.lt HO.out.1 go rfl).2
    have OVU:=hid (show U.ownsRow W1.heap.size 55 3 (.slice (some ⟨go,0,none⟩) r.length oc) r.length ((changedV T r (L.take k)).flatMap valEnc) from by
     refine owns_other OV4.out (r:=some (wr.heap.size+1)) ⟨?_,?_,?_,?_,fun k _ hk=>hot k (fun e=>hk (by rw [e]))⟩ (fun g e=>by cases e;intro e2;simp at e2;omega)
     all_goals rw [<- hU];first|rfl|simp)
    have WTU:=cy BWU.out HBT
    have u0:=jC WVU.out 0
    simp only [gT,gZ,gS] at u0
    clear hU u1 u2 fu0 fu1 fu2 r0 r1 r2 WX4 WV4 OV4 BW4 hot h2e
    by_cases hrk:rk=1
    · subst hrk
      have u1:=jC WVU.out 1
      have fu1:=free_of WVU.out 1
      have x3:=jC WXU.out 3
      simp only [gT,gZ,gS] at u1 x3
      go_upto_region 10 with (fail)
      generalize hU2:World.setCell _ _ _=U2
      have WVV:=hid (show U2.heap[wr.heap.size+1]? = some (.cells #[.int .i64 1,.int .i64 (wrap64 (rn+vn)),.string rs] 55 (0,0)) from by
       rw [<- hU2]
       exact (heap_setCell_same _ _ _ _ _ _ WVU.out).trans rfl)
      have BWV:=hid (show Below W1.heap.size W1 U2 from by rw [<- hU2];exact BWU.out.setCell (p:=⟨wr.heap.size+1,1,none⟩) (by have:=HWS.out.1;simp;omega) _)
      have WXV:=hid (show U2.heap[wr.heap.size]? = some (.cells #[.string xc,.string x2,.int .i64 vk,.int .i64 vn,.string vs] 81 (0,0)) from by rw [<- hU2];exact (heap_setCell_other _ _ _ _ (by simp)).trans WXU.out)
      have OVV:=hid (show U2.ownsRow W1.heap.size 55 3 (.slice (some ⟨go,0,none⟩) r.length oc) r.length ((changedV T r (L.take k)).flatMap valEnc) from by
       rw [<- hU2]
       exact owns_other OVU.out (grown_cell _ _ _) (fun g e=>by cases e;intro e2;simp at e2;omega))
      have WTV:=cy BWV.out HBT
      clear hU2 u0 u1 fu1 x3 BWU WXU OVU WTU WVU
      apply wp_region_growt 6 [41,42,43,44,45,46]
       [fun _ u _=>u=.slice (some ⟨go,0,none⟩) r.length oc,
        fun _ u _=>u=.agg #[.int .i64 T.id,.string T.name,.slice ac T.cols.length cc,.slice ai T.idx.length ci],
        fun _ u _=>u=.pointer (some ⟨wr.heap.size,0,none⟩),
        fun _ u _=>u=.string xc,
        fun _ u _=>u=.int .i64 (n:Int),
        fun _ u _=>u=.agg #[.int .i64 1,.int .i64 (wrap64 (rn+vn)),.string rs]]
       (Below U2.heap.size U2)
      case hF =>
       intro v
       simp only [setAll,List.foldl_cons,List.foldl_nil,Act.put,List.setIfInBounds_toArray,List.set_cons_succ,List.set_cons_zero]
       exact rfl
      case hm=>kernel_rfl
      case hB=>kernel_rfl
      case hsz=>kernel_rfl
      case hC=>exact fun w1 w2 h b=>h.trans (b.mono h.size)
      case hw=>exact Below.drew b0R
      case hS =>
       intro D hD v u
       simp only [List.mem_cons,List.not_mem_nil,or_false] at hD
       rcases hD with rfl|rfl|rfl|rfl|rfl|rfl
       · exact fun w1 w2 h _=>h
       · exact fun w1 w2 h _=>h
       · exact fun w1 w2 h _=>h
       · exact fun w1 w2 h _=>h
       · exact fun w1 w2 h _=>h
       · exact fun w1 w2 h _=>h
      case hob =>
       simp only [List.take_succ_cons,List.take_zero]
       apply growt_cons
       · intro v w1 h1 hd
         clear hd
         clear h1
         go_wp2_with fail
         first|exact Below.refl _ _|exact ⟨Below.refl _ _,rfl⟩|exact ⟨rfl,Below.refl _ _⟩
       apply growt_cons
       · intro v w1 h1 hd
         clear hd
         have t0:=jC ((h1.block _ (jB WTV.out)).trans WTV.out) 0
         have t1:=jC ((h1.block _ (jB WTV.out)).trans WTV.out) 1
         have t2:=jC ((h1.block _ (jB WTV.out)).trans WTV.out) 2
         have t3:=jC ((h1.block _ (jB WTV.out)).trans WTV.out) 3
         simp only [gT,gZ,gS] at t0 t1 t2 t3
         clear h1
         go_wp2_with fail
         first|exact Below.refl _ _|exact ⟨Below.refl _ _,rfl⟩|exact ⟨rfl,Below.refl _ _⟩
       apply growt_cons
       · intro v w1 h1 hd
         clear hd
         clear h1
         go_wp2_with fail
         first|exact Below.refl _ _|exact ⟨Below.refl _ _,rfl⟩|exact ⟨rfl,Below.refl _ _⟩
       apply growt_cons
       · intro v w1 h1 hd
         have g43:v 43=.pointer (some ⟨wr.heap.size,0,none⟩):=hd 2 _ _ _ rfl rfl rfl rfl
         clear hd
         rw [g43]
         have x0:=jC ((h1.block _ (jB WXV.out)).trans WXV.out) 0
         simp only [gT,gZ,gS] at x0
         clear g43 h1
         go_wp2_with fail
         first|exact Below.refl _ _|exact ⟨Below.refl _ _,rfl⟩|exact ⟨rfl,Below.refl _ _⟩
       apply growt_cons
       · intro v w1 h1 hd
         have g42:v 42=.agg #[.int .i64 T.id,.string T.name,.slice ac T.cols.length cc,.slice ai T.idx.length ci]:=hd 1 _ _ _ rfl rfl rfl rfl
         have g44:v 44=.string xc:=hd 3 _ _ _ rfl rfl rfl rfl
         clear hd
         rw [g42,g44]
         have con:=pcol_any (HT.out.below (BWV.out.trans (h1.mono BWV.out.size))) hC xc
         rw [HN.out] at con
         clear g42 g44 h1
         go_wp2_with fail
         refine con.mono ?_
         rintro e w2 ⟨rfl,b2⟩
         have B2:=hid b2
         clear con b2
         go_wp2_with fail
         first|exact B2.out|exact ⟨B2.out,rfl⟩|exact ⟨rfl,B2.out⟩
       apply growt_cons
       · intro v w1 h1 hd
         clear hd
         have v0:=jC ((h1.block _ (jB WVV.out)).trans WVV.out) 0
         have v1:=jC ((h1.block _ (jB WVV.out)).trans WVV.out) 1
         have v2:=jC ((h1.block _ (jB WVV.out)).trans WVV.out) 2
         simp only [gT,gZ,gS] at v0 v1 v2
         clear h1
         go_wp2_with fail
         first|exact Below.refl _ _|exact ⟨Below.refl _ _,rfl⟩|exact ⟨rfl,Below.refl _ _⟩
       exact growt_nil
      case hend =>
       intro v w7 h1 hd
       have g41:v 41=.slice (some ⟨go,0,none⟩) r.length oc:=hd 0 _ _ _ rfl rfl rfl
       have g45:v 45=.int .i64 (n:Int):=hd 4 _ _ _ rfl rfl rfl
       have g46:v 46=.agg #[.int .i64 1,.int .i64 (wrap64 (rn+vn)),.string rs]:=hd 5 _ _ _ rfl rfl rfl
       clear hd
       rw [g41,g45,g46]
       have W7:=hid (BWV.out.trans (h1.mono BWV.out.size))
       have O7:=hid (owns_below OVV.out h1)
       clear h1 g41 g45 g46
       generalize v 42=y1,v 43=y2,v 44=y3
       have k0:=World.ownsRow.cellAt O7.out (n * 3) (by omega)
       have k1:=World.ownsRow.cellAt O7.out (n * 3+1) (by omega)
       have k2:=World.ownsRow.cellAt O7.out (n * 3+2) (by omega)
       have f0:=World.ownsRow.frozenAt O7.out (n * 3)
       have f1:=World.ownsRow.frozenAt O7.out (n * 3+1)
       have f2:=World.ownsRow.frozenAt O7.out (n * 3+2)
       rw [List.getElem?_eq_getElem (by rw [flat_len (sz:=3) (enc:=valEnc) (fun _=>rfl),HOL.out];omega)] at k0 k1 k2
       simp only [List.drop_succ_cons,List.drop_zero]
       go_wp2_with fail
       have S7:=hid (put_val (v:=⟨1,(wrap64 (rn+vn)),rs⟩) (n:=n) (M:=changedV T r (L.take k)) (by rw [HOL.out];exact hnr) (by rw [HOL.out];exact O7.out))
       have BF:=hid (((W7.out.setCell (p:=⟨go,n * 3,none⟩) HGO.out (.int .i64 1)).setCell (p:=⟨go,n * 3+1,none⟩) HGO.out (.int .i64 (wrap64 (rn+vn)))).setCell (p:=⟨go,n * 3+2,none⟩) HGO.out (.string rs))
       go_roundw
       case rel =>
        refine ⟨k+1,by omega,by go_num,?_⟩
        rw [HTK.out,changed_snoc,show newV T r ⟨xc,x2,⟨vk,vn,vs⟩⟩=⟨1,(wrap64 (rn+vn)),rs⟩ from by unfold newV;rw [show strNil x2=false from h2,if_neg (by simp)];simp only [HRV.out];rw [if_pos trivial],HN.out,Int.toNat_natCast]
        exact ⟨by have:=S7.out;rwa [HOL.out] at this,BF.out⟩
       case measure=>simp [intOf];omega
    · have d1:(rk == 1)=false:=by simpa using hrk
      go_upto_region 10 with (fail)
      apply wp_region_growt 6 [41,42,43,44,45,46]
       [fun _ u _=>u=.slice (some ⟨go,0,none⟩) r.length oc,
        fun _ u _=>u=.agg #[.int .i64 T.id,.string T.name,.slice ac T.cols.length cc,.slice ai T.idx.length ci],
        fun _ u _=>u=.pointer (some ⟨wr.heap.size,0,none⟩),
        fun _ u _=>u=.string xc,
        fun _ u _=>u=.int .i64 (n:Int),
        fun _ u _=>u=.agg #[.int .i64 rk,.int .i64 rn,.string rs]]
       (Below U.heap.size U)
      case hF =>
       intro v
       simp only [setAll,List.foldl_cons,List.foldl_nil,Act.put,List.setIfInBounds_toArray,List.set_cons_succ,List.set_cons_zero]
       exact rfl
      case hm=>kernel_rfl
      case hB=>kernel_rfl
      case hsz=>kernel_rfl
      case hC=>exact fun w1 w2 h b=>h.trans (b.mono h.size)
      case hw=>exact Below.drew b0R
      case hS =>
       intro D hD v u
       simp only [List.mem_cons,List.not_mem_nil,or_false] at hD
       rcases hD with rfl|rfl|rfl|rfl|rfl|rfl
       · exact fun w1 w2 h _=>h
       · exact fun w1 w2 h _=>h
       · exact fun w1 w2 h _=>h
       · exact fun w1 w2 h _=>h
       · exact fun w1 w2 h _=>h
       · exact fun w1 w2 h _=>h
      case hob =>
       simp only [List.take_succ_cons,List.take_zero]
       apply growt_cons
       · intro v w1 h1 hd
         clear hd
         clear h1
         go_wp2_with fail
         first|exact Below.refl _ _|exact ⟨Below.refl _ _,rfl⟩|exact ⟨rfl,Below.refl _ _⟩
       apply growt_cons
       · intro v w1 h1 hd
         clear hd
         have t0:=jC ((h1.block _ (jB WTU.out)).trans WTU.out) 0
         have t1:=jC ((h1.block _ (jB WTU.out)).trans WTU.out) 1
         have t2:=jC ((h1.block _ (jB WTU.out)).trans WTU.out) 2
         have t3:=jC ((h1.block _ (jB WTU.out)).trans WTU.out) 3
         simp only [gT,gZ,gS] at t0 t1 t2 t3
         clear h1
         go_wp2_with fail
         first|exact Below.refl _ _|exact ⟨Below.refl _ _,rfl⟩|exact ⟨rfl,Below.refl _ _⟩
       apply growt_cons
       · intro v w1 h1 hd
         clear hd
         clear h1
         go_wp2_with fail
         first|exact Below.refl _ _|exact ⟨Below.refl _ _,rfl⟩|exact ⟨rfl,Below.refl _ _⟩
       apply growt_cons
       · intro v w1 h1 hd
         have g43:v 43=.pointer (some ⟨wr.heap.size,0,none⟩):=hd 2 _ _ _ rfl rfl rfl rfl
         clear hd
         rw [g43]
         have x0:=jC ((h1.block _ (jB WXU.out)).trans WXU.out) 0
         simp only [gT,gZ,gS] at x0
         clear g43 h1
         go_wp2_with fail
         first|exact Below.refl _ _|exact ⟨Below.refl _ _,rfl⟩|exact ⟨rfl,Below.refl _ _⟩
       apply growt_cons
       · intro v w1 h1 hd
         have g42:v 42=.agg #[.int .i64 T.id,.string T.name,.slice ac T.cols.length cc,.slice ai T.idx.length ci]:=hd 1 _ _ _ rfl rfl rfl rfl
         have g44:v 44=.string xc:=hd 3 _ _ _ rfl rfl rfl rfl
         clear hd
         rw [g42,g44]
         have con:=pcol_any (HT.out.below (BWU.out.trans (h1.mono BWU.out.size))) hC xc
         rw [HN.out] at con
         clear g42 g44 h1
         go_wp2_with fail
         refine con.mono ?_
         rintro e w2 ⟨rfl,b2⟩
         have B2:=hid b2
         clear con b2
         go_wp2_with fail
         first|exact B2.out|exact ⟨B2.out,rfl⟩|exact ⟨rfl,B2.out⟩
       apply growt_cons
       · intro v w1 h1 hd
         clear hd
         have v0:=jC ((h1.block _ (jB WVU.out)).trans WVU.out) 0
         have v1:=jC ((h1.block _ (jB WVU.out)).trans WVU.out) 1
         have v2:=jC ((h1.block _ (jB WVU.out)).trans WVU.out) 2
         simp only [gT,gZ,gS] at v0 v1 v2
         clear h1
         go_wp2_with fail
         first|exact Below.refl _ _|exact ⟨Below.refl _ _,rfl⟩|exact ⟨rfl,Below.refl _ _⟩
       exact growt_nil
      case hend =>
       intro v w7 h1 hd
       have g41:v 41=.slice (some ⟨go,0,none⟩) r.length oc:=hd 0 _ _ _ rfl rfl rfl
       have g45:v 45=.int .i64 (n:Int):=hd 4 _ _ _ rfl rfl rfl
       have g46:v 46=.agg #[.int .i64 rk,.int .i64 rn,.string rs]:=hd 5 _ _ _ rfl rfl rfl
       clear hd
       rw [g41,g45,g46]
       have W7:=hid (BWU.out.trans (h1.mono BWU.out.size))
       have O7:=hid (owns_below OVU.out h1)
       clear h1 g41 g45 g46
       generalize v 42=y1,v 43=y2,v 44=y3
       have k0:=World.ownsRow.cellAt O7.out (n * 3) (by omega)
       have k1:=World.ownsRow.cellAt O7.out (n * 3+1) (by omega)
       have k2:=World.ownsRow.cellAt O7.out (n * 3+2) (by omega)
       have f0:=World.ownsRow.frozenAt O7.out (n * 3)
       have f1:=World.ownsRow.frozenAt O7.out (n * 3+1)
       have f2:=World.ownsRow.frozenAt O7.out (n * 3+2)
       rw [List.getElem?_eq_getElem (by rw [flat_len (sz:=3) (enc:=valEnc) (fun _=>rfl),HOL.out];omega)] at k0 k1 k2
       simp only [List.drop_succ_cons,List.drop_zero]
       go_wp2_with fail
       have S7:=hid (put_val (v:=⟨rk,rn,rs⟩) (n:=n) (M:=changedV T r (L.take k)) (by rw [HOL.out];exact hnr) (by rw [HOL.out];exact O7.out))
       have BF:=hid (((W7.out.setCell (p:=⟨go,n * 3,none⟩) HGO.out (.int .i64 rk)).setCell (p:=⟨go,n * 3+1,none⟩) HGO.out (.int .i64 rn)).setCell (p:=⟨go,n * 3+2,none⟩) HGO.out (.string rs))
       go_roundw
       case rel =>
        refine ⟨k+1,by omega,by go_num,?_⟩
        rw [HTK.out,changed_snoc,show newV T r ⟨xc,x2,⟨vk,vn,vs⟩⟩=⟨rk,rn,rs⟩ from by unfold newV;rw [show strNil x2=false from h2,if_neg (by simp)];simp only [HRV.out];rw [if_neg hrk],HN.out,Int.toNat_natCast]
        exact ⟨by have:=S7.out;rwa [HOL.out] at this,BF.out⟩
       case measure=>simp [intOf];omega
  · have hkn:k=L.length:=by omega
    subst hkn
    have HX:=hid (show wr.ownsRow W1.heap.size 55 3 (.slice oa r.length oc) r.length ((changedV T r L).flatMap valEnc) from by have:=HO.out.1;rwa [List.take_length] at this)
    go_wp2_with fail
    go_ret
    exact ⟨oa,oc,rfl,B1.out.trans (HO.out.2.mono B1.out.size),owns_base HX.out B1.out.size⟩
end
section
open Go.RowKit Go.Maps
theorem zero_sfn (w:World):(zeroValue 45).run Tryz.prog w=.ok .nilFunc w:=by kernel_rfl
def fnD:Value:=.func (.func 40) #[] #[]
def fnI:Value:=.func (.func 41) #[] #[]
def fnC:Value:=.func (.func 42) #[] #[]
def fnQ:Value:=.func (.func 43) #[] #[]
def doF:List Value:=[.nilFunc,fnD,fnI,fnC,fnQ]
def D7:DataW Unit:=(((((((DataW.map []).put (.int .i64 1) (.lit (.int .i64 1))).put (.int .i64 2) (.lit (.int .i64 1))).put (.int .i64 3) (.lit (.int .i64 1))).put (.int .i64 4) (.lit (.int .i64 2))).put (.int .i64 5) (.lit (.int .i64 3))).put (.int .i64 6) (.lit (.int .i64 3))).put (.int .i64 7) (.lit (.int .i64 4))
theorem doF_at:fnElem doF .nilFunc=some (.lit (.int .i64 0),[])/\fnElem doF fnD=some (.lit (.int .i64 1),[])/\fnElem doF fnI=some (.lit (.int .i64 2),[])/\fnElem doF fnC=some (.lit (.int .i64 3),[])/\fnElem doF fnQ=some (.lit (.int .i64 4),[]):=by
 refine ⟨fnElem_get (i:=0) (by simp [doF]) rfl (fun j hj=>by omega),fnElem_get (i:=1) (by simp [doF]) rfl (fun j hj=>?_),fnElem_get (i:=2) (by simp [doF]) rfl (fun j hj=>?_),fnElem_get (i:=3) (by simp [doF]) rfl (fun j hj=>?_),fnElem_get (i:=4) (by simp [doF]) rfl (fun j hj=>?_)⟩
 all_goals
  rcases (show j=0 \/ j=1 \/ j=2 \/ j=3 by omega) with rfl|rfl|rfl|rfl <;> simp [doF,fnD,fnI,fnC,fnQ] at * <;> try omega
def handN (k:Int):Int:=if k=7 then 4 else if k=6 then 3 else if k=5 then 3 else if k=4 then 2 else if k=3 then 1 else if k=2 then 1 else if k=1 then 1 else 0
theorem d7_at (k:Int):D7.atKey (.int .i64 k) (.lit (.int .i64 0))=.lit (.int .i64 (handN k)):=by
 have h0:IsMap (DataW.map []:DataW Unit):=isMap_empty
 have h1:=h0.put (.int .i64 1) (.lit (.int .i64 1))
 have h2:=h1.put (.int .i64 2) (.lit (.int .i64 1))
 have h3:=h2.put (.int .i64 3) (.lit (.int .i64 1))
 have h4:=h3.put (.int .i64 4) (.lit (.int .i64 2))
 have h5:=h4.put (.int .i64 5) (.lit (.int .i64 3))
 have h6:=h5.put (.int .i64 6) (.lit (.int .i64 3))
 unfold D7 handN
 by_cases e7:k=7
 · subst e7;rw [if_pos rfl,atKey_put_same h6 (show WideAt.IsKeyLit (.int .i64 7) from trivial)]
 rw [atKey_put_other (int_lit_ne e7),if_neg e7]
 by_cases e6:k=6
 · subst e6;rw [if_pos rfl,atKey_put_same h5 (show WideAt.IsKeyLit (.int .i64 6) from trivial)]
 rw [atKey_put_other (int_lit_ne e6),if_neg e6]
 by_cases e5:k=5
 · subst e5;rw [if_pos rfl,atKey_put_same h4 (show WideAt.IsKeyLit (.int .i64 5) from trivial)]
 rw [atKey_put_other (int_lit_ne e5),if_neg e5]
 by_cases e4:k=4
 · subst e4;rw [if_pos rfl,atKey_put_same h3 (show WideAt.IsKeyLit (.int .i64 4) from trivial)]
 rw [atKey_put_other (int_lit_ne e4),if_neg e4]
 by_cases e3:k=3
 · subst e3;rw [if_pos rfl,atKey_put_same h2 (show WideAt.IsKeyLit (.int .i64 3) from trivial)]
 rw [atKey_put_other (int_lit_ne e3),if_neg e3]
 by_cases e2:k=2
 · subst e2;rw [if_pos rfl,atKey_put_same h1 (show WideAt.IsKeyLit (.int .i64 2) from trivial)]
 rw [atKey_put_other (int_lit_ne e2),if_neg e2]
 by_cases e1:k=1
 · subst e1;rw [if_pos rfl,atKey_put_same h0 (show WideAt.IsKeyLit (.int .i64 1) from trivial)]
 rw [atKey_put_other (int_lit_ne e1),if_neg e1]
 rfl
def hand (k:Int):Value:=if k=1 \/ k=2 \/ k=3 then fnD else if k=4 then fnI else if k=5 \/ k=6 then fnC else if k=7 then fnQ else .nilFunc
theorem hand_run (k:Int) (hw:(Lit.int .i64 k).wf=true) (w:World) (g:Nat) (h:w.ownsMap Tryz.prog 3 (fnElem doF) g 7 D7) :
 (Instr.lookup 91 (.map (some g)) (.int .i64 k) false).run Tryz.prog w=.ok (hand k) w:=by
 obtain ⟨v,ps,h1,h2⟩:=h.lookup law_int Tryz.underlying91 (zero_sfn w) doF_at.1 (keyOf_int_mk Tryz.underlying3 hw)
 obtain ⟨i,hi,h3,h4⟩:=fnElem_inv h2
 rw [d7_at] at h4
 simp only [Prod.mk.injEq,DataW.lit.injEq,Lit.int.injEq,true_and] at h4
 have h5:=h4.1
 have h6:i<5:=by simpa [doF] using hi
 have hv:v=hand k:=by
  clear h1 h2 h4
  unfold handN at h5
  unfold hand
  by_cases c1:k=1 \/ k=2 \/ k=3
  · rw [if_pos c1]
    obtain rfl:i=1:=by
     rcases c1 with rfl|rfl|rfl <;> simp at h5 <;> omega
    exact h3
  rw [if_neg c1]
  by_cases c4:k=4
  · subst c4
    obtain rfl:i=2:=by simp at h5;omega
    exact h3
  rw [if_neg c4]
  by_cases c5:k=5 \/ k=6
  · rw [if_pos c5]
    obtain rfl:i=3:=by
     rcases c5 with rfl|rfl <;> simp at h5 <;> omega
    exact h3
  rw [if_neg c5]
  by_cases c7:k=7
  · subst c7
    obtain rfl:i=4:=by simp at h5;omega
    exact h3
  rw [if_neg c7]
  rw [if_neg c7,if_neg (by omega),if_neg (by omega),if_neg c4,if_neg (by omega),if_neg (by omega),if_neg (by omega)] at h5
  obtain rfl:i=0:=by omega
  exact h3
 rw [<- hv]
 exact h1
def DoOut (p:Nat->Prop) (w:World) (old:Prop) (s:StV) (a:AnsV) (e:Ending) (w':World):Prop :=
 ∃ sv av,e=.returned (.tuple #[sv,av])/\Below w.heap.size w w'/\StOut (fun k=>p k \/ w.heap.size<=k) (fun k=>(old/\p k) \/ w.heap.size<=k) w' sv s/\AnsAt (fun k=>w.heap.size<=k) w' av a
theorem doOut_err {p:Nat->Prop} {w w':World} {old:Prop} {s:StV} {sv:Value} (e:Int) (hs:StAt p w sv s) (ho:old) (hb:Below w.heap.size w w'):DoOut p w old s (ansE e) (.returned (.tuple #[sv,.agg #[.int .i64 e,.slice none 0 0,.int .i64 0]])) w':=by
 obtain ⟨z1,z2,z3,z4,e,h3,h4⟩:=hs.below hb
 exact ⟨_,_,rfl,hb,⟨z1,z2,z3,z4,e,h3.weaken (fun _ h=>Or.inl h),h4.weaken (fun _ h=>Or.inl ⟨ho,h⟩)⟩,ansAt_none _ _ _⟩
theorem do_core {p p':Nat->Prop} {old old':Prop} {kd:Int} {s s':StV} {a':AnsV} {st:Stmt} {sv stv fv:Value} {r:Int × StV × AnsV} {w:World} (hs:StAt p w sv s) (hst:StmtV p' w stv st) (hk:st.kind=kd)
 (hrun:∀ w1 g,w1.ownsMap Tryz.prog 3 (fnElem doF) g 7 D7->(Instr.lookup 91 (.map (some g)) (.int .i64 kd) false).run Tryz.prog w1=.ok fv w1)
 (hf:(fv=.nilFunc/\s'=s/\a'=ansE 0/\old') \/ ∃ f,fv=.func (.func f) #[] #[]/\(∀ args w,(callFunc f args).run Tryz.prog w=.ok (.enter f args) w)/\(∀ w1,Below w.heap.size w w1->Calls Tryz.prog f #[sv,stv] w1 fun e w2=>DoesPost (fun k=>p k/\k<w.heap.size) w1 old r e w2) /\
  (r.1 ≠ 0->s'=s/\a'=ansE r.1/\old')/\(r.1=0->s'=r.2.1/\a'=r.2.2/\(old->old'))) :
 Calls Tryz.prog 15 #[sv,stv] w fun e w'=>DoOut p w old' s' a' e w':=by
 have hmm:=@run_makeMap Tryz.prog
 obtain ⟨_,f1,f2,f3,f4⟩:=doF_at
 have HSA:=hid hs
 have HST:=hid hst
 obtain ⟨a1,c1,a2,c2,rfl,htabs,hrows⟩:=hs
 obtain ⟨C,R⟩:=s
 simp only at *
 obtain ⟨a3,c3,a4,c4,a5,c5,a6,c6,a7,c7,a12,c12,rfl,_,_,_,_,_,_⟩:=hst
 have HRUN:=hid hrun
 have HFN:=hid hf
 have HK:=hid hk
 obtain ⟨Pst,hPst⟩:∃ Pst,Pst=DoOut p w old' s' a':=⟨_,rfl⟩
 have HPST:=hid hPst
 rw [<- hPst]
 clear htabs hrows hrun hf hk hPst
 go_enter Tryz.func15,Tryz.ntmps15
 go_upto_region 1 with (fail)
 generalize hW:World.alloc _ _=W0
 have hA':allocs w [_,_,_,_]=W0:=hW
 have hq0:W0.heap[w.heap.size]? = some (.cells #[.slice a1 C.length c1,.slice a2 R.length c2] 27 (0,0)):=allocs_get hA' 0 rfl
 have hq1:W0.heap[w.heap.size+1]? = some (.cells #[.int .i64 st.kind,.string st.table,.string st.name,.slice a3 st.cols.length c3,.slice a4 st.names.length c4,.slice a5 st.row.length c5,.slice a6 st.sets.length c6,.slice a7 st.wher.length c7,.string st.join,.string st.left,.string st.right,.int .i64 st.agg,.slice a12 st.order.length c12,.int .i64 st.mode,.int .i64 st.n] 39 (0,0)):=allocs_get hA' 1 rfl
 have hq2:W0.heap[w.heap.size+1+1]? = some (.cells #[.slice none 0 0,.slice none 0 0] 27 (0,0)):=allocs_get hA' 2 rfl
 have hq3:W0.heap[w.heap.size+1+1+1]? = some (.cells #[.int .i64 0,.slice none 0 0,.int .i64 0] 43 (0,0)):=allocs_get hA' 3 rfl
 have B0:=hid (allocs_self hA')
 have HS0:=hid (show W0.heap.size=w.heap.size+4 by rw [<- hA',allocs_size];rfl)
 have Q0:=hid hq0
 have Q1:=hid hq1
 have Q2:=hid hq2
 have Q3:=hid hq3
 clear hA' hW hq0 hq1 hq2 hq3
 have hb0:Below W0.heap.size W0 (W0.alloc (.map #[] 0)):=(b0R).alloc (jR _) _
 have HB0:=hid hb0
 have QK:=hid (show W0.cell? ⟨w.heap.size+1,0,none⟩=some (.int .i64 kd) from by
  have h:=jC Q1.out 0
  simp only [List.getElem?_toArray,List.getElem?_cons_zero] at h
  rw [h,HK.out])
 clear hb0
 go_upto_region 2 with (first
  | (refine wpList_insert_own _ rfl _ _ _ 91 rfl 3 45 law_int Tryz.underlying91 (fnElem doF) W0.heap.size 0 (.map []) rfl (World.ownsMap_made _ _ _ _) (by decide) (.int .i64 1) _ (.int .i64 1) rfl rfl (keyOf_int_mk Tryz.underlying3 (by decide)) _ [] f1 ?_
     intro v1 o1 g1)
  | (refine wpList_insert_own _ rfl _ _ _ 91 rfl 3 45 law_int Tryz.underlying91 (fnElem doF) W0.heap.size 1 _ rfl o1 (by decide) (.int .i64 2) _ (.int .i64 2) rfl rfl (keyOf_int_mk Tryz.underlying3 (by decide)) _ [] f1 ?_
     intro v2 o2 g2)
  | (refine wpList_insert_own _ rfl _ _ _ 91 rfl 3 45 law_int Tryz.underlying91 (fnElem doF) W0.heap.size 2 _ rfl o2 (by decide) (.int .i64 3) _ (.int .i64 3) rfl rfl (keyOf_int_mk Tryz.underlying3 (by decide)) _ [] f1 ?_
     intro v3 o3 g3)
  | (refine wpList_insert_own _ rfl _ _ _ 91 rfl 3 45 law_int Tryz.underlying91 (fnElem doF) W0.heap.size 3 _ rfl o3 (by decide) (.int .i64 4) _ (.int .i64 4) rfl rfl (keyOf_int_mk Tryz.underlying3 (by decide)) _ [] f2 ?_
     intro v4 o4 g4)
  | (refine wpList_insert_own _ rfl _ _ _ 91 rfl 3 45 law_int Tryz.underlying91 (fnElem doF) W0.heap.size 4 _ rfl o4 (by decide) (.int .i64 5) _ (.int .i64 5) rfl rfl (keyOf_int_mk Tryz.underlying3 (by decide)) _ [] f3 ?_
     intro v5 o5 g5)
  | (refine wpList_insert_own _ rfl _ _ _ 91 rfl 3 45 law_int Tryz.underlying91 (fnElem doF) W0.heap.size 5 _ rfl o5 (by decide) (.int .i64 6) _ (.int .i64 6) rfl rfl (keyOf_int_mk Tryz.underlying3 (by decide)) _ [] f3 ?_
     intro v6 o6 g6)
  | (refine wpList_insert_own _ rfl _ _ _ 91 rfl 3 45 law_int Tryz.underlying91 (fnElem doF) W0.heap.size 6 _ rfl o6 (by decide) (.int .i64 7) _ (.int .i64 7) rfl rfl (keyOf_int_mk Tryz.underlying3 (by decide)) _ [] f4 ?_
     intro v7 o7 g7
     have hbm:=(((((((HB0.out.grown g1 (by have h0:=HB0.out.size;omega) (fun j hj=>by cases hj;exact jR _)).grown g2 (by have h0:=HB0.out.size;have h1:=g1.size;omega) (fun j hj=>by cases hj;exact jR _)).grown g3 (by have h0:=HB0.out.size;have h1:=g1.size;have h2:=g2.size;omega) (fun j hj=>by cases hj;exact jR _)).grown g4 (by have h0:=HB0.out.size;have h1:=g1.size;have h2:=g2.size;have h3:=g3.size;omega) (fun j hj=>by cases hj;exact jR _)).grown g5 (by have h0:=HB0.out.size;have h1:=g1.size;have h2:=g2.size;have h3:=g3.size;have h4:=g4.size;omega) (fun j hj=>by cases hj;exact jR _)).grown g6 (by have h0:=HB0.out.size;have h1:=g1.size;have h2:=g2.size;have h3:=g3.size;have h4:=g4.size;have h5:=g5.size;omega) (fun j hj=>by cases hj;exact jR _)).grown g7 (by have h0:=HB0.out.size;have h1:=g1.size;have h2:=g2.size;have h3:=g3.size;have h4:=g4.size;have h5:=g5.size;have h6:=g6.size;omega) (fun j hj=>by cases hj;exact jR _))
     have s0:=(hbm.cell (p:=⟨w.heap.size+1,0,none⟩) (World.block_lt_of_cell? W0 _ QK.out)).trans QK.out
     have hlk:=HRUN.out v7 _ o7
     have BM:=hid hbm
     clear hbm g1 g2 g3 g4 g5 g6 g7))
 clear o1 o2 o3 o4 o5 o6 o7 s0 hlk hmm f1 f2 f3 f4
 have B7:=hid (B0.out.trans (BM.out.mono B0.out.size))
 have P0:=cy BM.out Q0
 have P1:=cy BM.out Q1
 have P2:=cy BM.out Q2
 have P3:=cy BM.out Q3
 have HS7:=hid (show w.heap.size+4<=v7.heap.size from Nat.le_trans (Nat.le_of_eq HS0.out.symm) BM.out.size)
 rcases HFN.out with ⟨rfl,rfl,rfl,hq⟩|⟨f,rfl,eg,hc,he,hok⟩
 · have hnil:∀ w:World,(binOp BinOp.eql 45 .nilFunc .nilFunc).run Tryz.prog w=.ok (.bool true) w:=fun _=>by kernel_rfl
   have HQ:=hid hq
   clear hq
   have z0:=jC P0.out 0
   have z1:=jC P0.out 1
   have xg0:=jC P2.out 0
   have xg1:=jC P2.out 1
   have xf0:=free_of P2.out 0
   have xf1:=free_of P2.out 1
   have xm0:=jC P3.out 0
   have xm1:=jC P3.out 1
   have xm2:=jC P3.out 2
   have xn0:=free_of P3.out 0
   have xn1:=free_of P3.out 1
   have xn2:=free_of P3.out 2
   simp only [gT,gZ,gS] at z0 z1 xg0 xg1 xm0 xm1 xm2
   have HW3:=hid (stored_at (x0:=.slice a1 C.length c1) (x1:=.slice a2 R.length c2) (y0:=.int .i64 0) (y1:=.slice none 0 0) (y2:=.int .i64 0) P2.out P3.out)
   have HBF:=hid (stored_below (x0:=.slice a1 C.length c1) (x1:=.slice a2 R.length c2) (y0:=.int .i64 0) (y1:=.slice none 0 0) (y2:=.int .i64 0) B7.out (show w.heap.size<=w.heap.size+1+1 by omega) (show w.heap.size<=w.heap.size+1+1+1 by omega))
   go_wp2_with fail
   refine bodyPost_ret (results_cells2 rfl _ _ (w.heap.size+1+1) (w.heap.size+1+1+1) 27 43 _ _ (0,0) (0,0) _ _ rfl rfl HW3.out.1 HW3.out.2 Tryz.underlying27 rfl (by kernel_rfl) Tryz.underlying43 rfl (by kernel_rfl)) rfl ?_
   rw [HPST.out]
   exact doOut_err 0 HSA.out HQ.out HBF.out
 have hnil:∀ w:World,(binOp BinOp.eql 45 (.func (.func f) #[] #[]) .nilFunc).run Tryz.prog w=.ok (.bool false) w:=fun _=>rfl
 have HC:=hid hc
 have HE:=hid he
 have HO:=hid hok
 clear hc he hok
 have z0:=jC P0.out 0
 have z1:=jC P0.out 1
 have y0:=jC P1.out 0
 have y1:=jC P1.out 1
 have y2:=jC P1.out 2
 have y3:=jC P1.out 3
 have y4:=jC P1.out 4
 have y5:=jC P1.out 5
 have y6:=jC P1.out 6
 have y7:=jC P1.out 7
 have y8:=jC P1.out 8
 have y9:=jC P1.out 9
 have y10:=jC P1.out 10
 have y11:=jC P1.out 11
 have y12:=jC P1.out 12
 have y13:=jC P1.out 13
 have y14:=jC P1.out 14
 simp only [gT,gZ,gS] at z0 z1 y0 y1 y2 y3 y4 y5 y6 y7 y8 y9 y10 y11 y12 y13 y14
 have con:=HC.out v7 B7.out
 go_wp2_with fail
 refine con.mono ?_
 rintro e w8 ⟨ta,tl,tc,ra,rl,rc,na,nl,nc,nn,rfl,b8,hp8⟩
 have HP8:=hid hp8
 have BB8:=hid b8
 have B8:=hid (B7.out.trans (b8.mono B7.out.size))
 have T0:=cy b8 P0
 have T2:=cy b8 P2
 have T3:=cy b8 P3
 have HS8:=hid (show w.heap.size+4<=w8.heap.size from Nat.le_trans HS7.out b8.size)
 clear con b8 hp8 z0 z1 y0 y1 y2 y3 y4 y5 y6 y7 y8 y9 y10 y11 y12 y13 y14
 obtain ⟨re,hre⟩:∃ re,r.1=re:=⟨_,rfl⟩
 rw [hre]
 have HRE:=hid hre
 clear hre
 go_upto_region 5 with (fail)
 generalize hA:World.alloc _ _=Z
 have hZ:allocs w8 [_,_]=Z:=hA
 have hu0:Z.heap[w8.heap.size]? = some (.cells #[.slice ta tl tc,.slice ra rl rc] 27 (0,0)):=allocs_get hZ 0 rfl
 have hu1:Z.heap[w8.heap.size+1]? = some (.cells #[.int .i64 re,.slice na nl nc,.int .i64 nn] 43 (0,0)):=allocs_get hZ 1 rfl
 have hbz:=allocs_self hZ
 have U0:=hid hu0
 have U1:=hid hu1
 have BZ:=hid hbz
 have B9:=hid (B8.out.trans (hbz.mono B8.out.size))
 have X0:=cy hbz T0
 have X2:=cy hbz T2
 have X3:=cy hbz T3
 have e0:=jC U1.out 0
 simp only [List.getElem?_toArray,List.getElem?_cons_zero] at e0
 clear hA hZ hu0 hu1 hbz
 by_cases hr0:re=0
 · have d27:(re != 0)=false:=by simpa using hr0
   have HR0:=hid hr0
   clear hr0
   go_upto_region 7 with (fail)
   clear e0
   refine wp_region_loose2 [([0,1],2),([],3)] (fun w'=>Z.grownBy w' (some (w.heap.size+1+1))) (Below Z.heap.size Z) (by kernel_rfl) (by kernel_rfl) (by kernel_rfl) (fun w1 w2 h b=>h.trans (b.mono h.size)) (Below.drew b0R) ?_
   apply wpSegs_cons (fun w'=>Z.grownBy w' (some (w.heap.size+1+1))) (fun _ w'=>Ret1 Z (w.heap.size+1+1) (.cells #[.slice ta tl tc,.slice ra rl rc] 27 (0,0)) w') (fun _ h=>h) (fun _ h=>grownBy_of_below _ h)
   case hq =>
    rintro w0 hw0
    have ne:Nonempty (Wld (Below w0.heap.size w0)):=⟨⟨w0,Below.refl _ _⟩⟩
    have q0:=(hw0.block _ (jB U0.out) (by intro e;have e1:=jI e;have e2:=HS8.out;omega)).trans U0.out
    have q1:=(hw0.block _ (jB U1.out) (by intro e;have e1:=jI e;have e2:=HS8.out;omega)).trans U1.out
    have y0:=fun x:Wld (Below w0.heap.size w0)=>jC ((x.good.block _ (jB q0)).trans q0) 0
    have y1:=fun x:Wld (Below w0.heap.size w0)=>jC ((x.good.block _ (jB q0)).trans q0) 1
    have z0:=fun x:Wld (Below w0.heap.size w0)=>jC ((x.good.block _ (jB q1)).trans q1) 0
    have z1:=fun x:Wld (Below w0.heap.size w0)=>jC ((x.good.block _ (jB q1)).trans q1) 1
    have z2:=fun x:Wld (Below w0.heap.size w0)=>jC ((x.good.block _ (jB q1)).trans q1) 2
    simp only [gT,gZ,gS] at y0 y1 z0 z1 z2
    clear q0 q1
    clear hw0
    simp only [pickOps,List.getElem?_cons_zero,List.getElem?_cons_succ]
    apply quiet_hide
    intro KE hKE
    repeat (go_big_quiet_step (fail))
    refine wpQuiet_nil ?_
    exact hKE _ rfl
   case ho=>rfl
   case hop=>rfl
   case hw=>kernel_rfl
   case hDJ=>exact fun _ _ _ h=>h.1
   case hD=>exact fun u w1 w2 h hb=>h.below hb
   case hlo =>
    intro wa ba
    have hqa:=(ba.block _ (jB X2.out)).trans X2.out
    have g0:=jC hqa 0
    have g1:=jC hqa 1
    have e0:=free_of hqa 0
    have e1:=free_of hqa 1
    simp only [gT,gZ,gS] at g0 g1
    have HBA:=hid ba
    clear hqa ba
    go_wp2_with fail
    exact ret_first HBA.out X2.out
   case hrest =>
    rintro u3 w3 -
    simp only [Act.put,List.setIfInBounds_toArray,List.set_cons_succ,List.set_cons_zero]
    refine wpSegs_cons0 (fun _ w'=>Ret2 Z (w.heap.size+1+1) (w.heap.size+1+1+1) (.cells #[.slice ta tl tc,.slice ra rl rc] 27 (0,0)) (.cells #[.int .i64 re,.slice na nl nc,.int .i64 nn] 43 (0,0)) w') ?sub3 rfl rfl ?want3 ?stable3 ?di3 ?lo3 ?on3
    case sub3=>exact fun w' h=>h.1
    case want3=>kernel_rfl
    case stable3=>exact fun u w1 w2 h hb=>h.below hb
    case di3=>exact fun h=>absurd rfl h
    case lo3 =>
     intro wa ba
     have hqa:=(ba.1.block _ (jB X3.out) (by simp)).trans X3.out
     have g0:=jC hqa 0
     have g1:=jC hqa 1
     have g2:=jC hqa 2
     have e0:=free_of hqa 0
     have e1:=free_of hqa 1
     have e2:=free_of hqa 2
     simp only [gT,gZ,gS] at g0 g1 g2
     have HBA:=hid ba
     clear hqa ba
     go_wp2_with fail
     exact ret_second HBA.out (by simp) X3.out
    case on3 =>
     rintro u4 w4 -
     refine wpSegs_nil fun w7 h7=>?_
     have H7:=hid h7
     clear h7
     go_wp2_with fail
     refine bodyPost_ret (results_cells2 rfl _ _ (w.heap.size+1+1) (w.heap.size+1+1+1) 27 43 _ _ (0,0) (0,0) _ _ rfl rfl (H7.out.at1 (by simp)) H7.out.at2 Tryz.underlying27 rfl (by kernel_rfl) Tryz.underlying43 rfl (by kernel_rfl)) rfl ?_
     rw [HPST.out]
     have hbf:=H7.out.from B9.out (jR _) (show w.heap.size<=w.heap.size+1+1 by omega) (show w.heap.size<=w.heap.size+1+1+1 by omega)
     have hr1:r.1=0:=by rw [HRE.out];exact HR0.out
     obtain ⟨e1,e2,ho⟩:=HO.out hr1
     obtain ⟨hst,hans⟩:=HP8.out hr1
     rw [e1,e2]
     rw [HRE.out] at hans
     have kp:∀ k,k<w8.heap.size->k ≠ w.heap.size+1+1->k ≠ w.heap.size+1+1+1->w7.heap[k]? = w8.heap[k]? := fun k hk n1 n2=>(H7.out.other k (jL hk BZ.out.size) n1 n2).trans (BZ.out.block k hk)
     have hs7:=HS7.out
     have hv:w.heap.size<=v7.heap.size:=by omega
     refine ⟨_,_,rfl,hbf,?_,?_⟩
     · exact (hst.keep (fun k hk hl=>kp k hl (by rcases hk with h|h;· have:=h.2;omega
                                                 · omega) (by rcases hk with h|h;· have:=h.2;omega
                                                              · omega))
        (fun k hk hl=>kp k hl (by rcases hk with h|h;· have:=h.2.2;omega
                                  · omega) (by rcases hk with h|h;· have:=h.2.2;omega
                                               · omega))).weaken (fun k hk=>hk.imp (fun h=>h.1) (fun h=>Nat.le_trans hv h)) (fun k hk=>hk.imp (fun h=>⟨ho h.1,h.2.1⟩) (fun h=>Nat.le_trans hv h))
     · exact (hans.keep fun k hk hl=>kp k hl (by omega) (by omega)).weaken fun k h=>Nat.le_trans hv h
 · have d27:(re != 0)=true:=by simpa using hr0
   have HR0:=hid hr0
   clear hr0
   go_upto_region 6 with (fail)
   clear e0
   refine wp_region_loose2 [([0,1,2,3],4),([],5)] (fun w'=>Z.grownBy w' (some (w.heap.size+1+1))) (Below Z.heap.size Z) (by kernel_rfl) (by kernel_rfl) (by kernel_rfl) (fun w1 w2 h b=>h.trans (b.mono h.size)) (Below.drew b0R) ?_
   apply wpSegs_cons (fun w'=>Z.grownBy w' (some (w.heap.size+1+1))) (fun _ w'=>Ret1 Z (w.heap.size+1+1) (.cells #[.slice a1 C.length c1,.slice a2 R.length c2] 27 (0,0)) w') (fun _ h=>h) (fun _ h=>grownBy_of_below _ h)
   case hq =>
    rintro w0 hw0
    have ne:Nonempty (Wld (Below w0.heap.size w0)):=⟨⟨w0,Below.refl _ _⟩⟩
    have q0:=(hw0.block _ (jB X0.out) (by simp;omega)).trans X0.out
    have q1:=(hw0.block _ (jB U1.out) (by intro e;have e1:=jI e;have e2:=HS8.out;omega)).trans U1.out
    have y0:=fun x:Wld (Below w0.heap.size w0)=>jC ((x.good.block _ (jB q0)).trans q0) 0
    have y1:=fun x:Wld (Below w0.heap.size w0)=>jC ((x.good.block _ (jB q0)).trans q0) 1
    have z0:=fun x:Wld (Below w0.heap.size w0)=>jC ((x.good.block _ (jB q1)).trans q1) 0
    simp only [gT,gZ,gS] at y0 y1 z0
    clear q0 q1
    clear hw0
    simp only [pickOps,List.getElem?_cons_zero,List.getElem?_cons_succ]
    apply quiet_hide
    intro KE hKE
    repeat (go_big_quiet_step (fail))
    refine wpQuiet_nil ?_
    exact hKE _ rfl
   case ho=>rfl
   case hop=>rfl
   case hw=>kernel_rfl
   case hDJ=>exact fun _ _ _ h=>h.1
   case hD=>exact fun u w1 w2 h hb=>h.below hb
   case hlo =>
    intro wa ba
    have hqa:=(ba.block _ (jB X2.out)).trans X2.out
    have g0:=jC hqa 0
    have g1:=jC hqa 1
    have e0:=free_of hqa 0
    have e1:=free_of hqa 1
    simp only [gT,gZ,gS] at g0 g1
    have HBA:=hid ba
    clear hqa ba
    go_wp2_with fail
    exact ret_first HBA.out X2.out
   case hrest =>
    rintro u3 w3 -
    simp only [Act.put,List.setIfInBounds_toArray,List.set_cons_succ,List.set_cons_zero]
    refine wpSegs_cons0 (fun _ w'=>Ret2 Z (w.heap.size+1+1) (w.heap.size+1+1+1) (.cells #[.slice a1 C.length c1,.slice a2 R.length c2] 27 (0,0)) (.cells #[.int .i64 re,.slice none 0 0,.int .i64 0] 43 (0,0)) w') ?sub3 rfl rfl ?want3 ?stable3 ?di3 ?lo3 ?on3
    case sub3=>exact fun w' h=>h.1
    case want3=>kernel_rfl
    case stable3=>exact fun u w1 w2 h hb=>h.below hb
    case di3=>exact fun h=>absurd rfl h
    case lo3 =>
     intro wa ba
     have hqa:=(ba.1.block _ (jB X3.out) (by simp)).trans X3.out
     have g0:=jC hqa 0
     have g1:=jC hqa 1
     have g2:=jC hqa 2
     have e0:=free_of hqa 0
     have e1:=free_of hqa 1
     have e2:=free_of hqa 2
     simp only [gT,gZ,gS] at g0 g1 g2
     have HBA:=hid ba
     clear hqa ba
     go_wp2_with fail
     exact ret_second HBA.out (by simp) X3.out
    case on3 =>
     rintro u4 w4 -
     refine wpSegs_nil fun w7 h7=>?_
     have H7:=hid h7
     clear h7
     go_wp2_with fail
     refine bodyPost_ret (results_cells2 rfl _ _ (w.heap.size+1+1) (w.heap.size+1+1+1) 27 43 _ _ (0,0) (0,0) _ _ rfl rfl (H7.out.at1 (by simp)) H7.out.at2 Tryz.underlying27 rfl (by kernel_rfl) Tryz.underlying43 rfl (by kernel_rfl)) rfl ?_
     rw [HPST.out]
     have hbf:=H7.out.from B9.out (jR _) (show w.heap.size<=w.heap.size+1+1 by omega) (show w.heap.size<=w.heap.size+1+1+1 by omega)
     obtain ⟨e1,e2,ho⟩:=HE.out (by rw [HRE.out];exact HR0.out)
     rw [e1,e2,HRE.out]
     exact doOut_err re HSA.out ho hbf
end
end Go.Proofs.YtgemihkcihigpaaGreatDoor
