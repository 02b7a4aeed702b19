/- plain.change. -/
import Derived.Test.YtgemihkcihigpaaGreatDoorZD27
set_option linter.unusedVariables false
set_option linter.unusedSimpArgs false
set_option maxRecDepth 100000
set_option maxHeartbeats 64000000
namespace Go.Proofs.YtgemihkcihigpaaGreatDoor
open Go.Lib (hid)
section
open Go.RowKit
theorem setsFrom_ok {T:Tab}:∀ (L P:List SetV),setsFrom T P L=0->∀ x ∈ L,∃ P',setE T P' x=0
 | [],_,_=>fun x hx=>by cases hx
 | y :: L,P,h=>fun x hx=>by
  rw [setsFrom] at h
  by_cases h0:setE T P y=0
  · rw [h0] at h
    rcases List.mem_cons.1 hx with rfl|hx
    · exact ⟨P,h0⟩
    · exact setsFrom_ok L _ (by simpa using h) x hx
  · rw [if_pos h0] at h
    exact absurd h h0
theorem setE_cols {T:Tab} {P:List SetV} {x:SetV} (h:setE T P x=0):0<=colOf T x.col/\(strNil x.col2=false->0<=colOf T x.col2):=by
 unfold setE at h
 split at h
 · cases h
 · rename_i h1
   refine ⟨by omega,fun h2=>?_⟩
   split at h
   · cases h
   · split at h
     · cases h
     · rename_i h3
       rw [h2] at h3
       simp at h3
       omega
theorem sets_cols {T:Tab} {L:List SetV} (h:setsE T L=0):∀ x ∈ L,0<=colOf T x.col/\(strNil x.col2=false->0<=colOf T x.col2):=fun x hx=>by
 obtain ⟨P,hp⟩:=setsFrom_ok L [] h x hx
 exact setE_cols hp
structure ChAt (w0 Z:World) (B ab:Nat) (N:Nat) (v:Value) (acc:List (List Val)) (xs:List Value) (w:World):Prop where
 bl:Below w0.heap.size w0 w
 fr:∀ k,k<Z.heap.size->k ≠ ab->w.heap[k]? = Z.heap[k]?
 sz:Z.heap.size<=w.heap.size
 a:w.heap[ab]? = some (.cells #[.int .i64 0,.slice none 0 0,.int .i64 (N:Int)] 43 (0,0))
 o:w.ownsRow Z.heap.size 35 1 v acc.length xs
 c:Copies B acc acc.length xs w
theorem ChAt.below {w0 Z:World} {B ab N:Nat} {v:Value} {acc:List (List Val)} {xs:List Value} {w w':World} (h:ChAt w0 Z B ab N v acc xs w) (hb:Below w.heap.size w w'):ChAt w0 Z B ab N v acc xs w' :=
 ⟨h.bl.trans (hb.mono h.bl.size),fun k hk hne=>(hb.block k (jL hk h.sz)).trans (h.fr k hk hne),Nat.le_trans h.sz hb.size,(hb.block _ (jB h.a)).trans h.a,owns_below h.o hb,h.c.below hb⟩
theorem ChAt.push {w0 Z:World} {B ab N:Nat} {v v' u:Value} {acc:List (List Val)} {r:List Val} {xs:List Value} {w w':World} (h:ChAt w0 Z B ab N v acc xs w) (hB:B<=Z.heap.size) (hZ:w0.heap.size<=Z.heap.size) (hu:w.ownsRow B 55 3 u r.length (r.flatMap valEnc))
 (o1:w'.ownsRow Z.heap.size 35 1 v' (acc.length+1) (xs ++ [u])) (g1:w.grownBy w' v.ownBlock):ChAt w0 Z B ab N v' (acc ++ [r]) (xs ++ [u]) w':=by
 have ht:=own_tag h.o
 have hl:(acc ++ [r]).length=acc.length+1:=by simp
 refine ⟨h.bl.grown g1 h.bl.size (fun k hk=>Nat.le_trans hZ (h.o.lt k hk).1),fun k hk hne=>(g1.block k (jL hk h.sz) (fun e=>?_)).trans (h.fr k hk hne),Nat.le_trans h.sz g1.size,(g1.block _ (jB h.a) (row_not h.a h.o (by decide))).trans h.a,by rw [hl];exact o1,?_⟩
 · have:=(h.o.lt k e.symm).1
   omega
 · rw [hl]
   exact (keeps_copies (B':=Z.heap.size) (T:=35) (by decide) w w' _ h.c ht g1).snoc rfl (keeps_owns (B':=Z.heap.size) (T:=35) (by decide) w w' _ hu ht g1)
theorem ChAt.count {w0 Z:World} {B ab N:Nat} {v:Value} {acc:List (List Val)} {xs:List Value} {w:World} (h:ChAt w0 Z B ab N v acc xs w) (hab:w0.heap.size<=ab):ChAt w0 Z B ab (N+1) v acc xs (w.setCell ⟨ab,2,none⟩ (.int .i64 ((N:Int)+1))):=by
 have g2:=grown_cell w ⟨ab,2,none⟩ (.int .i64 ((N:Int)+1))
 have t2:∀ b,some ab=some b->0<=b/\∀ cs T' fz,w.heap[b]? = some (.cells cs T' fz)->T'=43:=tag_cell h.a (Nat.zero_le _)
 refine ⟨h.bl.setCell (p:=⟨ab,2,none⟩) hab _,fun k hk hne=>(heap_setCell_other _ _ _ _ (by exact hne)).trans (h.fr k hk hne),by simpa using h.sz,(heap_setCell_same _ _ _ _ _ _ h.a).trans (by simp),keeps_owns (B':=0) (T:=43) (by decide) w _ (some ab) h.o t2 g2,keeps_copies (B':=0) (T:=43) (by decide) w _ (some ab) h.c t2 g2⟩
theorem changeRow_take {T:Tab} {st:Stmt} {L:List (List Val)} {k:Nat} (hk:k<L.length):(L.take (k+1)).filterMap (changeR T st)=(L.take k).filterMap (changeR T st) ++ (match changeR T st L[k] with|some x=>[x]|none=>[]):=by
 rw [List.take_succ_eq_append_getElem hk,List.filterMap_append]
 congr 1
 simp only [List.filterMap_cons,List.filterMap_nil]
 cases changeR T st L[k] <;> rfl
theorem changeN_take {T:Tab} {W:List Cond} {L:List (List Val)} {k:Nat} (hk:k<L.length):(L.take (k+1)).countP (fitsW T W)=(L.take k).countP (fitsW T W)+(if fitsW T W L[k] then 1 else 0):=by
 rw [List.take_succ_eq_append_getElem hk,List.countP_append]
 congr 1
 simp [List.countP_cons]
theorem ChAt.back {w0 Z V:World} {B N:Nat} {v:Value} {acc:List (List Val)} {xs:List Value} {w:World} (h:ChAt w0 Z B V.heap.size N v acc xs w) (hV:Below w0.heap.size w0 V) (hz:Below V.heap.size V Z):Below V.heap.size V w :=
 ⟨h.bl.os.trans hV.os.symm,h.bl.tape.trans hV.tape.symm,h.bl.output.trans hV.output.symm,Nat.le_trans hz.size h.sz,fun k hk=>(h.fr k (jL hk hz.size) (Nat.ne_of_lt hk)).trans (hz.block k hk)⟩
theorem changeR_len {T:Tab} {st:Stmt} {z y:List Val} (h:changeR T st z=some y):y.length=z.length:=by
 unfold changeR at h
 split at h
 · cases h;rfl
 · split at h
   · cases h;exact changed_len T z st.sets
   · cases h
theorem ch_no {T:Tab} {st:Stmt} {L:List (List Val)} {k:Nat} (hk:k<L.length) (hf:fitsW T st.wher L[k]=false):(L.take (k+1)).filterMap (changeR T st)=(L.take k).filterMap (changeR T st) ++ [L[k]]/\(L.take (k+1)).countP (fitsW T st.wher)=(L.take k).countP (fitsW T st.wher):=by
 rw [changeRow_take hk,changeN_take hk,hf]
 have e:changeR T st L[k]=some L[k]:=by unfold changeR;rw [hf];rfl
 rw [e]
 exact ⟨rfl,rfl⟩
theorem ch_up {T:Tab} {st:Stmt} {L:List (List Val)} {k:Nat} (hk:k<L.length) (hf:fitsW T st.wher L[k]=true) (h5:st.kind=5):(L.take (k+1)).filterMap (changeR T st)=(L.take k).filterMap (changeR T st) ++ [changedV T L[k] st.sets]/\(L.take (k+1)).countP (fitsW T st.wher)=(L.take k).countP (fitsW T st.wher)+1:=by
 rw [changeRow_take hk,changeN_take hk,hf]
 have e:changeR T st L[k]=some (changedV T L[k] st.sets):=by unfold changeR;rw [hf,if_neg (by decide),if_pos h5]
 rw [e]
 exact ⟨rfl,rfl⟩
theorem ch_del {T:Tab} {st:Stmt} {L:List (List Val)} {k:Nat} (hk:k<L.length) (hf:fitsW T st.wher L[k]=true) (h5:¬ st.kind=5):(L.take (k+1)).filterMap (changeR T st)=(L.take k).filterMap (changeR T st)/\(L.take (k+1)).countP (fitsW T st.wher)=(L.take k).countP (fitsW T st.wher)+1:=by
 rw [changeRow_take hk,changeN_take hk,hf]
 have e:changeR T st L[k]=none:=by unfold changeR;rw [hf,if_neg (by decide),if_neg h5]
 rw [e]
 exact ⟨by simp,rfl⟩
theorem change_any {p p':Nat->Prop} {s:StV} {st:Stmt} {sv stv:Value} {w:World} (hs:StAt p w sv s) (hst:StmtV p' w stv st) (hC:TabsSmall s.tabs) (hR:RowsSmall s.rows) (hl:s.rows.length=s.tabs.length) (hk:st.kind=5 \/ st.kind=6)
 (hw:∀ n (h1:n<s.rows.length) (h2:n<s.tabs.length),∀ r ∈ s.rows[n],r.length=s.tabs[n].cols.length) (hK:KindsAt w) :
 Calls Tryz.prog 42 #[sv,stv] w fun e w'=>DoesPost p w False (changeE s st,changeS s st,⟨0,[],changeN s st⟩) e w':=by
 obtain ⟨i0,hi,hz0,hz1,hz2⟩:=info_parts info_arr
 obtain ⟨a1,c1,a2,c2,rfl,htabs,hrows⟩:=hs
 obtain ⟨C,R⟩:=s
 simp only at *
 have HST:=hid hst
 have HTABS:=hid htabs
 have HROWS:=hid hrows
 have HC:=hid hC
 have HR:=hid hR
 have HRC1:=hid hl
 have HK:=hid hk
 have HW:=hid hw
 have HKI:=hid hK
 obtain ⟨a3,c3,a4,c4,a5,c5,a6,c6,a7,c7,a12,c12,rfl,_,_,_,hsets,hwher,_⟩:=hst
 have HSETS0:=hid hsets.bound
 have HWHER0:=hid hwher.bound
 obtain ⟨Pst,hPst⟩:∃ Pst,Pst=DoesPost p w False (changeE ⟨C,R⟩ st,changeS ⟨C,R⟩ st,(⟨0,[],changeN ⟨C,R⟩ st⟩:AnsV)):=⟨_,rfl⟩
 have HPST:=hid hPst
 rw [<- hPst]
 clear htabs hrows hC hR hPst hl hk hw hsets hwher hK
 go_enter Tryz.func42,Tryz.ntmps42
 go_upto_region 1 with (fail)
 generalize hW:World.alloc _ _=W0
 have hA':allocs w [_,_,_,_]=W0:=hW
 have hq0:W0.heap[w.heap.size]? = some (.cells #[.slice a1 C.length c1,.slice a2 R.length c2] 27 (0,0)):=allocs_get hA' 0 rfl
 have hq1:W0.heap[w.heap.size+1]? = some (.cells #[.int .i64 st.kind,.string st.table,.string st.name,.slice a3 st.cols.length c3,.slice a4 st.names.length c4,.slice a5 st.row.length c5,.slice a6 st.sets.length c6,.slice a7 st.wher.length c7,.string st.join,.string st.left,.string st.right,.int .i64 st.agg,.slice a12 st.order.length c12,.int .i64 st.mode,.int .i64 st.n] 39 (0,0)):=allocs_get hA' 1 rfl
 have hq2:W0.heap[w.heap.size+1+1]? = some (.cells #[.slice none 0 0,.slice none 0 0] 27 (0,0)):=allocs_get hA' 2 rfl
 have hq3:W0.heap[w.heap.size+1+1+1]? = some (.cells #[.int .i64 0,.slice none 0 0,.int .i64 0] 43 (0,0)):=allocs_get hA' 3 rfl
 have B0:=hid (allocs_self hA')
 have HS0:=hid (show W0.heap.size=w.heap.size+4 by rw [<- hA',allocs_size];rfl)
 have Q0:=hid hq0
 have Q1:=hid hq1
 have Q2:=hid hq2
 have Q3:=hid hq3
 clear hA' hW hq0 hq1 hq2 hq3
 have t0:=jC Q0.out 0
 have t1:=jC Q0.out 1
 have s1:=jC Q1.out 1
 simp only [gT,gZ,gS] at t0 t1 s1
 have con:=find_any (R:=R) (a2:=a2) (c2:=c2) (n2:=R.length) (HTABS.out.below B0.out) st.table
 obtain ⟨n,hn⟩:∃ n,findV ⟨C,R⟩ st.table=n:=⟨_,rfl⟩
 rw [hn] at con
 have HN:=hid hn
 have HBD:=hid (show -1<=n/\n<C.length from by rw [<- hn];exact findT_lt C st.table)
 clear hn
 go_wp2_with fail
 refine con.mono ?_
 rintro e w1 ⟨rfl,b1⟩
 have B1:=hid (B0.out.trans (b1.mono B0.out.size))
 have HQ2:=cy b1 Q2
 have HQ3:=cy b1 Q3
 have HQ0:=cy b1 Q0
 have HQ1:=cy b1 Q1
 have HS1:=hid (show w.heap.size+4<=w1.heap.size from Nat.le_trans (Nat.le_of_eq HS0.out.symm) b1.size)
 clear con b1 t0 t1 s1 Q0 Q1 Q2 Q3
 by_cases hn0:n<0
 · have d0:decide (n<0)=true:=decide_eq_true hn0
   have hse:(50:Int) ≠ 0:=by decide
   go_wp2_with fail
   refine (wrong_any 50 _).mono ?_
   rintro e wx ⟨rfl,bx⟩
   have BX:=hid (B1.out.trans (bx.mono B1.out.size))
   have hx2:=(bx.block _ (jB HQ2.out)).trans HQ2.out
   have hx3:=(bx.block _ (jB HQ3.out)).trans HQ3.out
   have xg0:=jC hx2 0
   have xg1:=jC hx2 1
   have xf0:=free_of hx2 0
   have xf1:=free_of hx2 1
   have xm0:=jC hx3 0
   have xm1:=jC hx3 1
   have xm2:=jC hx3 2
   have xn0:=free_of hx3 0
   have xn1:=free_of hx3 1
   have xn2:=free_of hx3 2
   simp only [gT,gZ,gS] at xg0 xg1 xm0 xm1 xm2
   unfold emptyS
   have HW3:=hid (stored_at (x0:=.slice none 0 0) (x1:=.slice none 0 0) (y0:=.int .i64 (50)) (y1:=.slice none 0 0) (y2:=.int .i64 0) hx2 hx3)
   have HBF:=hid (stored_below (x0:=.slice none 0 0) (x1:=.slice none 0 0) (y0:=.int .i64 (50)) (y1:=.slice none 0 0) (y2:=.int .i64 0) BX.out (show w.heap.size<=w.heap.size+1+1 by omega) (show w.heap.size<=w.heap.size+1+1+1 by omega))
   clear bx hx2 hx3
   go_wp2_with fail
   refine bodyPost_ret (results_cells2 rfl _ _ (w.heap.size+1+1) (w.heap.size+1+1+1) 27 43 _ _ (0,0) (0,0) _ _ rfl rfl HW3.out.1 HW3.out.2 Tryz.underlying27 rfl (by kernel_rfl) Tryz.underlying43 rfl (by kernel_rfl)) rfl ?_
   rw [HPST.out]
   exact does_err (by show changeE _ _=_;unfold changeE;rw [if_pos (by rw [HN.out];exact hn0)]) (by first|decide|exact hse) HBF.out
 obtain ⟨n,rfl⟩:∃ k:Nat,n=k:=⟨n.toNat,by omega⟩
 have hnC:n<C.length:=by have:=HBD.out.2;omega
 have hnR:n<R.length:=by have:=HRC1.out;omega
 have hn1:¬ (n:Int)<0:=hn0
 obtain ⟨bb,oo,rfl,_,hbb⟩:=HTABS.out.row.2.2.2.addr (by intro e;rw [e] at hnC;cases hnC)
 obtain ⟨ac,cc,ai,ci,g0,g1,g2,g3,htv⟩:=HTABS.out.row.2.2.2.tab n hnC
 have k0:=(B1.out.cell (p:=⟨bb,oo+n * 4,none⟩) hbb).trans g0
 have k1:=(B1.out.cell (p:=⟨bb,oo+n * 4+1,none⟩) hbb).trans g1
 have k2:=(B1.out.cell (p:=⟨bb,oo+n * 4+2,none⟩) hbb).trans g2
 have k3:=(B1.out.cell (p:=⟨bb,oo+n * 4+3,none⟩) hbb).trans g3
 obtain ⟨T,hT⟩:∃ T,T=C[n]:=⟨_,rfl⟩
 have HTT:=hid hT
 rw [<- hT] at htv k0 k1 k2 k3
 have HTV:=hid htv
 have HTA:=hid (show tabAt C (n:Int)=T from by rw [tab_at' hnC];exact hT.symm)
 have hTC:T.cols.length<=1000000:=by rw [hT];exact (HC.out.2 _ (List.getElem_mem hnC)).1
 have HGO0:=hid (show changeE ⟨C,R⟩ st=if st.kind=5/\setsE T st.sets ≠ 0 then setsE T st.sets else if lacksB T st.wher then 50 else 0 from by
  unfold changeE
  rw [HN.out,if_neg (by omega),HTA.out])
 have z0:=jC HQ0.out 0
 have z10:=jC HQ1.out 0
 simp only [gT,gZ,gS] at z0 z10
 clear g0 g1 g2 g3 htv HBD hT
 go_upto_region 5 with (fail)
 generalize hA:World.alloc _ _=W2
 have hbA:Below w1.heap.size w1 W2:=by rw [<- hA];exact (b0R).alloc (jR _) _
 have BW2:=hid (B1.out.trans (hbA.mono B1.out.size))
 have QT:=hid (show W2.heap[w1.heap.size]? = some (.cells #[.int .i64 T.id,.string T.name,.slice ac T.cols.length cc,.slice ai T.idx.length ci] 75 (0,0)) by rw [<- hA];exact heap_alloc_new _ _)
 have QW0:=cy hbA HQ0
 have QW1:=cy hbA HQ1
 have QW2:=cy hbA HQ2
 have QW3:=cy hbA HQ3
 have HS2:=hid (show w.heap.size+4<=W2.heap.size from Nat.le_trans HS1.out hbA.size)
 clear hA hbA k0 k1 k2 k3 z0 z10 HQ0 HQ1 HQ2 HQ3 B1
 have z10:=jC QW1.out 0
 simp only [gT,gZ,gS] at z10
 go_upto_if 30 with (fail)
 generalize hkb:(st.kind == 5)=kb
 have HKB:=hid hkb
 clear hkb
 go_cut [] from 31 to 40 (fun wx=>Hid (st.kind=5->setsE T st.sets=0)/\Hid (Below W2.heap.size W2 wx))
 case first =>
  cases kb
  case true =>
   have hk5:st.kind=5:=by simpa using HKB.out
   have t0:=jC QT.out 0
   have t1:=jC QT.out 1
   have t2:=jC QT.out 2
   have t3:=jC QT.out 3
   have z6:=jC QW1.out 6
   simp only [gT,gZ,gS] at t0 t1 t2 t3 z6
   obtain ⟨se,hse0⟩:∃ se,setsE T st.sets=se:=⟨_,rfl⟩
   have con:=sets_any (HTV.out.below BW2.out) hTC (HSETS0.out.below BW2.out)
   rw [hse0] at con
   have HSE:=hid hse0
   have HK5:=hid hk5
   clear hse0 hk5
   go_wp2_with fail
   refine con.mono ?_
   rintro e w3 ⟨rfl,b3⟩
   have B3:=hid (BW2.out.trans (b3.mono BW2.out.size))
   have W3:=hid b3
   have HX2:=cy b3 QW2
   have HX3:=cy b3 QW3
   clear con b3 t0 t1 t2 t3 z6 z10
   by_cases hse:se ≠ 0
   · have d6:(se != 0)=true:=by simpa using hse
     have HE1:=hid (show changeE ⟨C,R⟩ st=se from by rw [HGO0.out,if_pos ⟨HK5.out,by rw [HSE.out];exact hse⟩,HSE.out])
     go_wp2_with fail
     refine (wrong_any se _).mono ?_
     rintro e wx ⟨rfl,bx⟩
     have BX:=hid (B3.out.trans (bx.mono B3.out.size))
     have hx2:=(bx.block _ (jB HX2.out)).trans HX2.out
     have hx3:=(bx.block _ (jB HX3.out)).trans HX3.out
     have xg0:=jC hx2 0
     have xg1:=jC hx2 1
     have xf0:=free_of hx2 0
     have xf1:=free_of hx2 1
     have xm0:=jC hx3 0
     have xm1:=jC hx3 1
     have xm2:=jC hx3 2
     have xn0:=free_of hx3 0
     have xn1:=free_of hx3 1
     have xn2:=free_of hx3 2
     simp only [gT,gZ,gS] at xg0 xg1 xm0 xm1 xm2
     unfold emptyS
     have HW3:=hid (stored_at (x0:=.slice none 0 0) (x1:=.slice none 0 0) (y0:=.int .i64 (se)) (y1:=.slice none 0 0) (y2:=.int .i64 0) hx2 hx3)
     have HBF:=hid (stored_below (x0:=.slice none 0 0) (x1:=.slice none 0 0) (y0:=.int .i64 (se)) (y1:=.slice none 0 0) (y2:=.int .i64 0) BX.out (show w.heap.size<=w.heap.size+1+1 by omega) (show w.heap.size<=w.heap.size+1+1+1 by omega))
     clear bx hx2 hx3
     go_wp2_with fail
     refine bodyPost_ret (results_cells2 rfl _ _ (w.heap.size+1+1) (w.heap.size+1+1+1) 27 43 _ _ (0,0) (0,0) _ _ rfl rfl HW3.out.1 HW3.out.2 Tryz.underlying27 rfl (by kernel_rfl) Tryz.underlying43 rfl (by kernel_rfl)) rfl ?_
     rw [HPST.out]
     exact does_err (by show changeE _ _=_;rw [HE1.out]) (by first|decide|exact hse) HBF.out
   obtain rfl:se=0:=by simpa using hse
   have d6:((0:Int) != 0)=false:=rfl
   go_wp2_with fail
   go_meet
   exact ⟨fun _=>HSE.out,W3.out⟩
  case false =>
   have HK5:=hid (show ¬ st.kind=5 by simpa using HKB.out)
   go_wp2_with fail
   go_meet
   exact ⟨fun h=>absurd h HK5.out,Below.refl _ _⟩
 case rest =>
  obtain ⟨HS5,W3⟩:=hcut
  have B3:=hid (BW2.out.trans (W3.out.mono BW2.out.size))
  have hT3:=(W3.out.block _ (jB QT.out)).trans QT.out
  have t0:=jC hT3 0
  have t1:=jC hT3 1
  have t2:=jC hT3 2
  have t3:=jC hT3 3
  have z7:=jC ((W3.out.block _ (jB QW1.out)).trans QW1.out) 7
  simp only [gT,gZ,gS] at t0 t1 t2 t3 z7
  have con:=lacks_any (HTV.out.below B3.out) hTC (HWHER0.out.below B3.out)
  obtain ⟨lk,hlk⟩:∃ lk,lacksV T st.wher=lk:=⟨_,rfl⟩
  rw [hlk] at con
  have HLK:=hid (show lacksB T st.wher=lk from hlk)
  have HGO:=hid (show changeE ⟨C,R⟩ st=if lacksB T st.wher then 50 else 0 from by
   rw [HGO0.out]
   by_cases h5:st.kind=5
   · rw [if_neg (by rw [HS5.out h5];simp)]
   · rw [if_neg (by simp [h5])])
  clear hlk hT3 z10
  go_wp2_with fail
  refine con.mono ?_
  rintro e w4 ⟨rfl,b4⟩
  have B4:=hid (B3.out.trans (b4.mono B3.out.size))
  have W4:=hid (W3.out.trans (b4.mono W3.out.size))
  have HY2:=cy W4.out QW2
  have HY3:=cy W4.out QW3
  clear con b4 t0 t1 t2 t3 z7
  cases lk
  case true =>
   have hse:(50:Int) ≠ 0:=by decide
   go_wp2_with fail
   refine (wrong_any 50 _).mono ?_
   rintro e wx ⟨rfl,bx⟩
   have BX:=hid (B4.out.trans (bx.mono B4.out.size))
   have hx2:=(bx.block _ (jB HY2.out)).trans HY2.out
   have hx3:=(bx.block _ (jB HY3.out)).trans HY3.out
   have xg0:=jC hx2 0
   have xg1:=jC hx2 1
   have xf0:=free_of hx2 0
   have xf1:=free_of hx2 1
   have xm0:=jC hx3 0
   have xm1:=jC hx3 1
   have xm2:=jC hx3 2
   have xn0:=free_of hx3 0
   have xn1:=free_of hx3 1
   have xn2:=free_of hx3 2
   simp only [gT,gZ,gS] at xg0 xg1 xm0 xm1 xm2
   unfold emptyS
   have HW3:=hid (stored_at (x0:=.slice none 0 0) (x1:=.slice none 0 0) (y0:=.int .i64 (50)) (y1:=.slice none 0 0) (y2:=.int .i64 0) hx2 hx3)
   have HBF:=hid (stored_below (x0:=.slice none 0 0) (x1:=.slice none 0 0) (y0:=.int .i64 (50)) (y1:=.slice none 0 0) (y2:=.int .i64 0) BX.out (show w.heap.size<=w.heap.size+1+1 by omega) (show w.heap.size<=w.heap.size+1+1+1 by omega))
   clear bx hx2 hx3
   go_wp2_with fail
   refine bodyPost_ret (results_cells2 rfl _ _ (w.heap.size+1+1) (w.heap.size+1+1+1) 27 43 _ _ (0,0) (0,0) _ _ rfl rfl HW3.out.1 HW3.out.2 Tryz.underlying27 rfl (by kernel_rfl) Tryz.underlying43 rfl (by kernel_rfl)) rfl ?_
   rw [HPST.out]
   exact does_err (by show changeE _ _=_;rw [HGO.out,HLK.out];rfl) (by first|decide|exact hse) HBF.out
  have HER:=hid (show changeE ⟨C,R⟩ st=0 from by rw [HGO.out,HLK.out];rfl)
  have con:=own_state (HTABS.out.bound.below B4.out) (HROWS.out.below B4.out) HC.out.1 HR.out
  have y0:=(W4.out.block _ (jB QW0.out)).trans QW0.out
  have HY0:=hid y0
  have HY1:=cy W4.out QW1
  have HYT:=cy W4.out QT
  have u0:=jC y0 0
  have u1:=jC y0 1
  simp only [gT,gZ,gS] at u0 u1
  have HS4:=hid (Nat.le_trans HS2.out W4.out.size)
  have HT4:=hid (show w1.heap.size<w4.heap.size from jL (jB QT.out) W4.out.size)
  clear y0
  go_wp2_with fail
  refine con.mono ?_
  rintro e w5 ⟨ta,tc,ra,rc,outs,txs,rfl,b5,st5,to5,o5,cp5,ap5⟩
  obtain ⟨gr,rfl⟩:∃ gr,ra=some ⟨gr,0,none⟩:=by
   rcases o5.2 with ⟨_,e⟩|⟨g,cap,cur,e,_⟩
   · omega
   · simp only [Value.slice.injEq] at e
     exact ⟨g,e.1⟩
  have B5:=hid (B4.out.trans (b5.mono B4.out.size))
  have hx0:=(b5.block _ (jB HY0.out)).trans HY0.out
  have k0:=jC hx0 0
  have k1:=jC hx0 1
  have f0:=free_of hx0 0
  have f1:=free_of hx0 1
  simp only [gT,gZ,gS] at k0 k1
  have hy1:=(b5.block _ (jB HY1.out)).trans HY1.out
  have hy2:=(b5.block _ (jB HY2.out)).trans HY2.out
  have hy3:=(b5.block _ (jB HY3.out)).trans HY3.out
  have hyt:=(b5.block _ (jB HYT.out)).trans HYT.out
  have hs4:=HS4.out
  have ht4:=HT4.out
  have hw1:=HS1.out
  have HS5b:=hid b5.size
  clear con b5 u0 u1
  go_upto_region 12 with (fail)
  generalize hV:World.setCell _ _ _=V
  have HV0:=hid (show V.heap[w.heap.size]? = some (.cells #[.slice ta C.length tc,.slice (some ⟨gr,0,none⟩) R.length rc] 27 (0,0)) by
   rw [<- hV]
   exact (heap_setCell_same _ _ _ _ _ _ ((heap_setCell_same _ _ _ _ _ _ hx0).trans rfl)).trans rfl)
  have ho2:∀ k,k ≠ w.heap.size->V.heap[k]? = w5.heap[k]? := fun k hk=>by rw [<- hV];exact (heap_setCell_other _ _ _ _ (by exact hk)).trans (heap_setCell_other _ _ _ _ (by exact hk))
  have HV1:=hid ((ho2 _ (by omega)).trans hy1)
  have HV2:=hid ((ho2 _ (by omega)).trans hy2)
  have HV3:=hid ((ho2 _ (by omega)).trans hy3)
  have HVT:=hid ((ho2 _ (by omega)).trans hyt)
  have hszV:V.heap.size=w5.heap.size:=by rw [<- hV];simp
  have BV:=hid (show Below w.heap.size w V from by rw [<- hV];exact (B5.out.setCell (p:=⟨w.heap.size,0,none⟩) (jR _) _).setCell (p:=⟨w.heap.size,1,none⟩) (jR _) _)
  have OV:=hid (show V.ownsRow w4.heap.size 41 1 (.slice (some ⟨gr,0,none⟩) R.length rc) R.length outs/\Copies2 w4.heap.size R R.length outs V from by
   rw [<- hV]
   exact ⟨owns_set (owns_set o5 (p:=⟨w.heap.size,0,none⟩) (by simp;omega)) (p:=⟨w.heap.size,1,none⟩) (by simp;omega),(cp5.set (p:=⟨w.heap.size,0,none⟩) (by simp;omega)).set (p:=⟨w.heap.size,1,none⟩) (by simp;omega)⟩)
  have AP:=hid ap5
  have TVV:=hid (show TabsCp p w.heap.size (.slice ta C.length tc) C V from by
   have h3:TabsCp p w.heap.size (.slice ta C.length tc) C w5:=⟨st5.weaken fun k hk=>hk,_,owns_base to5 B4.out.size⟩
   rw [<- hV]
   exact (h3.setc (jR _) hx0 (by decide)).setc (jR _) (heap_setCell_same _ _ _ _ _ _ hx0) (by decide))
  have SZV:=hid (show w4.heap.size<=V.heap.size from Nat.le_trans HS5b.out (Nat.le_of_eq hszV.symm))
  have hno:n<outs.length:=by rw [OV.out.2.1];exact hnR
  obtain ⟨xs0,hou,hcp⟩:=OV.out.2.2 n hno hnR
  obtain ⟨oa,oc,hon,_⟩:=owns_shape' hou
  rw [hon] at hou
  have HON:=hid hon
  have HOU:=hid hou
  have HCP:=hid hcp
  have HRC:=hid (show V.cell? ⟨gr,n,none⟩=some (.slice oa R[n].length oc) from by rw [World.ownsRow.cellAt OV.out.1 n (by omega),List.getElem?_eq_getElem hno,hon])
  have HGL:=hid (show gr<V.heap.size from (World.ownsRow.lt OV.out.1 gr rfl).2)
  clear hV ho2 hx0 hy1 hy2 hy3 hyt hszV o5 cp5 ap5 st5 to5 k0 k1 f0 f1 hon hou hcp HY0 HY1 HY2 HY3 HYT
  go_upto_region 13 with (fail)
  generalize hZ:World.alloc _ _=Z
  have hbZ:Below V.heap.size V Z:=by rw [<- hZ];exact (b0R).alloc (jR _) _
  have hsZ:Z.heap.size=V.heap.size+1:=by rw [<- hZ];exact Array.size_push _
  have hqa:Z.heap[V.heap.size]? = some (.cells #[.int .i64 0,.slice none 0 0,.int .i64 0] 43 (0,0)):=by rw [<- hZ];exact heap_alloc_new _ _
  have hsv:=SZV.out
  have CA0:=hid (show ChAt w Z w4.heap.size V.heap.size 0 (.slice none 0 0) [] [] Z from ⟨BV.out.trans (hbZ.mono BV.out.size),fun _ _ _=>rfl,jR _,hqa,World.ownsRow_nil _ _ _ _,rfl,fun t h1 h2=>by cases h2⟩)
  have HZV:=hid hbZ
  have HZS1:=hid (show V.heap.size+1<=Z.heap.size from Nat.le_of_eq hsZ.symm)
  have HZS2:=hid (show Z.heap.size<=V.heap.size+1 from Nat.le_of_eq hsZ)
  have k0:=jC ((hbZ.block _ (jB HV0.out)).trans HV0.out) 1
  have rc0:=(hbZ.cell (p:=⟨gr,n,none⟩) HGL.out).trans HRC.out
  simp only [gT,gZ,gS] at k0
  obtain ⟨RL,hRL⟩:∃ RL,RL=R[n]:=⟨_,rfl⟩
  have HRL:=hid hRL
  rw [<- hRL] at rc0
  have HCP':=hid (show Copies w4.heap.size RL RL.length xs0 V from by rw [hRL];exact HCP.out)
  have HOU':=hid (show V.ownsRow w4.heap.size 35 1 (.slice oa RL.length oc) RL.length xs0 from by rw [hRL];exact HOU.out)
  have hRLs:RL.length<=1000000:=by rw [hRL];exact HR.out.2.1 _ (List.getElem_mem hnR)
  have HRW:=hid (show ∀ r ∈ RL,r.length=T.cols.length from by rw [hRL,HTT.out];exact HW.out n hnR hnC)
  have HBS:=hid BV.out.size
  clear hZ hbZ hsZ hqa hRL
  go_wp2_with fail
  go_loopw [10,57] (fun x10 ii wr=>∃ (k N:Nat) (v:Value) (xs:List Value),k<=RL.length/\N<=k/\ii=.int .i64 k/\v=x10/\Hid (N=(RL.take k).countP (fitsW T st.wher))/\((RL.take k).filterMap (changeR T st)).length<=k/\Hid (ChAt w Z w4.heap.size V.heap.size N v ((RL.take k).filterMap (changeR T st)) xs wr)) (fun _ ii _=>RL.length - (intOf ii).toNat)
  case atStart=>exact ⟨0,0,_,[],Nat.zero_le _,jR _,rfl,rfl,hid rfl,jR _,CA0.out⟩
  case round =>
   obtain ⟨k,N,v,xs,hk,hNk,rfl,rfl,hN,hal,HCA⟩:=hrel
   clear CA0 k0 rc0
   by_cases hlt:k<RL.length
   · have bw:=HCA.out.back BV.out HZV.out
     have HBW:=hid bw
     have hx0:k<xs0.length:=by rw [HCP'.out.1];exact hlt
     have hrow:=HCP'.out.2 k hx0 hlt
     obtain ⟨r0,rcc,hrv,_⟩:=owns_shape' hrow
     rw [hrv] at hrow
     obtain ⟨go,rfl⟩:∃ go,oa=some ⟨go,0,none⟩:=by
      rcases HOU'.out.2 with ⟨_,e⟩|⟨g,cap,cur,e,_⟩
      · omega
      · simp only [Value.slice.injEq] at e
        exact ⟨g,e.1⟩
     have hgo:go<V.heap.size:=(World.ownsRow.lt HOU'.out go rfl).2
     have rl0:=(bw.cell (p:=⟨go,k,none⟩) hgo).trans (World.ownsRow.cellAt HOU'.out k (by omega))
     rw [List.getElem?_eq_getElem hx0,hrv] at rl0
     have HRO:=hid (owns_below hrow bw)
     have HTR:=hid (show TabV _ wr _ T from HTV.out.below HCA.out.bl)
     have HWR:=hid (HWHER0.out.below HCA.out.bl)
     have hkr:=HKI.out.below HCA.out.bl
     have hqt:=(bw.block _ (jB HVT.out)).trans HVT.out
     have hqs:=(bw.block _ (jB HV1.out)).trans HV1.out
     have HRL1:=hid (show RL[k].length=T.cols.length from HRW.out _ (List.getElem_mem hlt))
     have con:=fits_any HTR.out hTC (sl_owned (enc:=valEnc) (sz:=3) (hl:=fun _=>rfl) HRO.out (by have:=HRL1.out;omega)) HWR.out hkr
     obtain ⟨fb,hfb⟩:∃ fb,fitsW T st.wher RL[k]=fb:=⟨_,rfl⟩
     rw [hfb] at con
     have HFB:=hid hfb
     have t0:=jC hqt 0
     have t1:=jC hqt 1
     have t2:=jC hqt 2
     have t3:=jC hqt 3
     have s7:=jC hqs 7
     simp only [gT,gZ,gS] at t0 t1 t2 t3 s7
     have HBZ:=hid (Nat.le_trans HBS.out HZV.out.size)
     clear bw hrow hrv hkr hqt hqs hfb
     go_wp2_with fail
     refine con.mono ?_
     rintro e w6 ⟨rfl,b6⟩
     have HA6:=hid (HCA.out.below b6)
     have HB6:=hid (HA6.out.back BV.out HZV.out)
     have HR6:=hid (owns_below HRO.out b6)
     clear con b6 t0 t1 t2 t3 s7 rl0 HRO HTR HWR
     cases fb
     case false =>
      have HU6:=HR6
      obtain ⟨hc1,hc2⟩:=ch_no hlt HFB.out
      have HC1:=hid hc1
      have HC2:=hid hc2
      clear hc1 hc2
      go_wp2_with (at_builtin;go_loud (refine wpList_append_own_at _ rfl _ _ 41 rfl Z.heap.size 35 i0 _ 1 24 Tryz.underlying41 hi hz0 hz1 hz2 rfl (by decide) v ((RL.take k).filterMap (changeR T st)).length xs rfl (HA6.out.o.alloc _) ⟨w6.heap.size,0,none⟩ 1 1 [.slice r0 RL[k].length rcc] rfl rfl (fun j u hj=>by rw [addr_add,jC (heap_alloc_new _ _)];simpa using hj) (fun u hu=>by rw [List.mem_singleton.1 hu];rfl) (by unfold maxLen;omega) (by omega) (by have:=HA6.out.sz;simp;omega) ?_;intro v' w7 o1 g1 hx1 at1;clear hx1 at1;have N7:=hid ((HA6.out.below ((b0R).alloc (jR _) _)).push (Nat.le_trans hsv HZV.out.size) HBZ.out (r:=RL[k]) (owns_below HU6.out ((b0R).alloc (jR _) _)) o1 g1);clear o1 g1))
      go_roundw
      case rel=>exact ⟨k+1,N,_,_,by omega,by omega,by go_num,rfl,hid (by rw [HC2.out];exact hN.out),by rw [HC1.out,List.length_append];simp;omega,by rw [HC1.out];exact N7.out⟩
      case measure=>simp [intOf];omega
     case true =>
      have hqs:=(HB6.out.block _ (jB HV1.out)).trans HV1.out
      have s0:=jC hqs 0
      simp only [gT,gZ,gS] at s0
      have hN1:(N:Int)+1<=1000001:=by omega
      cases kb
      case false =>
       have d9:(st.kind == 5)=false:=HKB.out
       obtain ⟨hc1,hc2⟩:=ch_del hlt HFB.out (by simpa using d9)
       have HC1:=hid hc1
       have HC2:=hid hc2
       have a2:=jC HA6.out.a 2
       have af:=free_of HA6.out.a 2
       simp only [gT,gZ,gS] at a2
       clear hc1 hc2 hqs
       go_wp2_with fail
       go_roundw
       case rel=>exact ⟨k+1,N+1,_,_,by omega,by omega,by go_num,rfl,hid (by rw [HC2.out,<- hN.out]),by rw [HC1.out];omega,by rw [HC1.out];exact HA6.out.count HBS.out⟩
       case measure=>simp [intOf];omega
      case true =>
       have d9:(st.kind == 5)=true:=HKB.out
       have h5:st.kind=5:=by simpa using d9
       have hqt:=(HB6.out.block _ (jB HVT.out)).trans HVT.out
       have t0:=jC hqt 0
       have t1:=jC hqt 1
       have t2:=jC hqt 2
       have t3:=jC hqt 3
       have s6:=jC hqs 6
       simp only [gT,gZ,gS] at t0 t1 t2 t3 s6
       obtain ⟨hc1,hc2⟩:=ch_up hlt HFB.out h5
       have HC1:=hid hc1
       have HC2:=hid hc2
       have con:=changed_any (HTV.out.below HA6.out.bl) hTC (sl_owned (enc:=valEnc) (sz:=3) (hl:=fun _=>rfl) HR6.out (by have:=HRL1.out;omega)) HRL1.out (HSETS0.out.below HA6.out.bl) (sets_cols (HS5.out h5))
       have HCL:=hid (changed_len T RL[k] st.sets)
       clear hc1 hc2 hqs hqt h5
       go_wp2_with fail
       refine con.mono ?_
       rintro e w8 ⟨ua,uc,rfl,b8,u8⟩
       have hA8:=HA6.out.below b8
       have HU8:=hid (show w8.ownsRow w4.heap.size 55 3 (.slice ua RL[k].length uc) (changedV T RL[k] st.sets).length _ from by rw [HCL.out];exact owns_base u8 (Nat.le_trans hsv (Nat.le_trans HZV.out.size HA6.out.sz)))
       have HA8:=hid hA8
       clear con b8 u8 t0 t1 t2 t3 s6 s0 hA8
       go_wp2_with (at_builtin;go_loud (refine wpList_append_own_at _ rfl _ _ 41 rfl Z.heap.size 35 i0 _ 1 24 Tryz.underlying41 hi hz0 hz1 hz2 rfl (by decide) v ((RL.take k).filterMap (changeR T st)).length xs rfl (HA8.out.o.alloc _) ⟨w8.heap.size,0,none⟩ 1 1 [.slice ua RL[k].length uc] rfl rfl (fun j u hj=>by rw [addr_add,jC (heap_alloc_new _ _)];simpa using hj) (fun u hu=>by rw [List.mem_singleton.1 hu];rfl) (by unfold maxLen;omega) (by omega) (by have:=HA8.out.sz;simp;omega) ?_;intro v' w7 o1 g1 hx1 at1;clear hx1 at1;have N7:=hid ((HA8.out.below ((b0R).alloc (jR _) _)).push (Nat.le_trans hsv HZV.out.size) HBZ.out (r:=changedV T RL[k] st.sets) (owns_below HU8.out ((b0R).alloc (jR _) _)) o1 g1);have a2:=jC N7.out.a 2;have af:=free_of N7.out.a 2;simp only [gT,gZ,gS] at a2;clear o1 g1))
       go_roundw
       case rel=>exact ⟨k+1,N+1,_,_,by omega,by omega,by go_num,rfl,hid (by rw [HC2.out,<- hN.out]),by rw [HC1.out,List.length_append];simp;omega,by rw [HC1.out];exact N7.out.count HBS.out⟩
       case measure=>simp [intOf];omega
   · have hkn:k=RL.length:=by omega
     subst hkn
     have bw:=HCA.out.back BV.out HZV.out
     have hN':=hN.out
     obtain ⟨NR,hNR⟩:∃ NR,NR=RL.filterMap (changeR T st):=⟨_,rfl⟩
     rw [List.take_length] at hN'
     rw [List.take_length,<- hNR] at HCA hal
     have HNN:=hid hN'
     have HNR:=hid hNR
     obtain ⟨va,vc,hv,_⟩:=owns_shape' HCA.out.o
     subst hv
     have OW:=hid (owns_below OV.out.1 bw)
     have k8:=World.ownsRow.cellAt OW.out n (by omega)
     rw [List.getElem?_eq_getElem hno] at k8
     have f8:=World.ownsRow.frozenAt OW.out n
     have q0:=(bw.block _ (jB HV0.out)).trans HV0.out
     have u1:=jC q0 1
     simp only [gT,gZ,gS] at u1
     have HY0:=hid q0
     have HY2:=cy bw HV2
     have HY3:=cy bw HV3
     have HBW:=hid bw
     have OC:=hid (copies2_other OV.out.2 AP.out hno hnR (grownBy_of_below _ bw))
     have TW:=hid (TVV.out.below bw)
     obtain ⟨cu,hcu⟩:∃ cu:Array Value,wr.heap[gr]? = some (.cells cu 41 (0,0)):=by
      rcases OW.out.2 with ⟨e,_⟩|⟨g',cap',cur,e,_,hg,_⟩
      · cases e
      · simp only [Value.slice.injEq,Option.some.injEq,Addr.mk.injEq] at e
        obtain ⟨⟨rfl,_⟩,_⟩:=e
        exact ⟨cur,hg⟩
     have HCU:=hid hcu
     clear bw hN' hNR q0 hcu hN
     go_upto_region 26 with (fail)
     generalize hZ9:World.setCell _ _ _=Z9
     have HZ9:=hid hZ9
     have hgn:∀ {k:Nat} {cs:Array Value} {T:TypeId},wr.heap[k]? = some (.cells cs T (0,0))->T ≠ 41->Z9.heap[k]? = some (.cells cs T (0,0)):=fun {k cs T} hk hT=>by
      rw [<- hZ9]
      exact (heap_setCell_other _ _ _ _ (fun e=>row_not hk OW.out hT (by rw [e];rfl))).trans hk
     have Y0:=hid (hgn HY0.out (by decide))
     have YA:=hid (hgn HCA.out.a (by decide))
     have Y2:=hid (hgn HY2.out (by decide))
     have Y3:=hid (hgn HY3.out (by decide))
     clear hgn hZ9 k8 f8 u1
     refine wp_region_loose2 [([0,1],2),([],3)] (fun w'=>Z9.grownBy w' (some (w.heap.size+1+1))) (Below Z9.heap.size Z9) (by kernel_rfl) (by kernel_rfl) (by kernel_rfl) (fun w1 w2 h b=>h.trans (b.mono h.size)) (Below.drew b0R) ?_
     apply wpSegs_cons (fun w'=>Z9.grownBy w' (some (w.heap.size+1+1))) (fun _ w'=>Ret1 Z9 (w.heap.size+1+1) (.cells #[.slice ta C.length tc,.slice (some ⟨gr,0,none⟩) R.length rc] 27 (0,0)) w') (fun _ h=>h) (fun _ h=>grownBy_of_below _ h)
     case hq =>
      rintro w0 hw0
      have ne:Nonempty (Wld (Below w0.heap.size w0)):=⟨⟨w0,Below.refl _ _⟩⟩
      have q0:=(hw0.block _ (jB Y0.out) (by simp;omega)).trans Y0.out
      have qa:=(hw0.block _ (jB YA.out) (by have:=HBS.out;simp;omega)).trans YA.out
      have y0:=fun x:Wld (Below w0.heap.size w0)=>jC ((x.good.block _ (jB q0)).trans q0) 0
      have y1:=fun x:Wld (Below w0.heap.size w0)=>jC ((x.good.block _ (jB q0)).trans q0) 1
      have z0:=fun x:Wld (Below w0.heap.size w0)=>jC ((x.good.block _ (jB qa)).trans qa) 0
      have z1:=fun x:Wld (Below w0.heap.size w0)=>jC ((x.good.block _ (jB qa)).trans qa) 1
      have z2:=fun x:Wld (Below w0.heap.size w0)=>jC ((x.good.block _ (jB qa)).trans qa) 2
      simp only [gT,gZ,gS] at y0 y1 z0 z1 z2
      clear q0 qa
      clear hw0
      simp only [pickOps,List.getElem?_cons_zero,List.getElem?_cons_succ]
      apply quiet_hide
      intro KE hKE
      repeat (go_big_quiet_step (fail))
      refine wpQuiet_nil ?_
      exact hKE _ rfl
     case ho=>rfl
     case hop=>rfl
     case hw=>kernel_rfl
     case hDJ=>exact fun _ _ _ h=>h.1
     case hD=>exact fun u w1 w2 h hb=>h.below hb
     case hlo =>
      intro wa ba
      have hqa:=(ba.block _ (jB Y2.out)).trans Y2.out
      have g0:=jC hqa 0
      have g1:=jC hqa 1
      have e0:=free_of hqa 0
      have e1:=free_of hqa 1
      simp only [gT,gZ,gS] at g0 g1
      have HBA:=hid ba
      clear hqa ba
      go_wp2_with fail
      exact ret_first HBA.out Y2.out
     case hrest =>
      rintro u3 w3 -
      simp only [Act.put,List.setIfInBounds_toArray,List.set_cons_succ,List.set_cons_zero]
      refine wpSegs_cons0 (fun _ w'=>Ret2 Z9 (w.heap.size+1+1) (w.heap.size+1+1+1) (.cells #[.slice ta C.length tc,.slice (some ⟨gr,0,none⟩) R.length rc] 27 (0,0)) (.cells #[.int .i64 0,.slice none 0 0,.int .i64 (N:Int)] 43 (0,0)) w') ?sub3 rfl rfl ?want3 ?stable3 ?di3 ?lo3 ?on3
      case sub3=>exact fun w' h=>h.1
      case want3=>kernel_rfl
      case stable3=>exact fun u w1 w2 h hb=>h.below hb
      case di3=>exact fun h=>absurd rfl h
      case lo3 =>
       intro wa ba
       have hqa:=(ba.1.block _ (jB Y3.out) (by simp)).trans Y3.out
       have g0:=jC hqa 0
       have g1:=jC hqa 1
       have g2:=jC hqa 2
       have e0:=free_of hqa 0
       have e1:=free_of hqa 1
       have e2:=free_of hqa 2
       simp only [gT,gZ,gS] at g0 g1 g2
       have HBA:=hid ba
       clear hqa ba
       go_wp2_with fail
       exact ret_second HBA.out (by simp) Y3.out
      case on3 =>
       rintro u4 w4 -
       refine wpSegs_nil fun w7 h7=>?_
       have H7:=hid h7
       clear h7
       go_wp2_with fail
       refine bodyPost_ret (results_cells2 rfl _ _ (w.heap.size+1+1) (w.heap.size+1+1+1) 27 43 _ _ (0,0) (0,0) _ _ rfl rfl (H7.out.at1 (by simp)) H7.out.at2 Tryz.underlying27 rfl (by kernel_rfl) Tryz.underlying43 rfl (by kernel_rfl)) rfl ?_
       rw [HPST.out]
       obtain ⟨q1,q2⟩:=copies2_put (g:=gr) (n:=n) (R:=R) (c:=rc) (outs:=outs) (L:=NR) (u:=.slice va NR.length vc) hnR OW.out OV.out.2.1 OC.out (owns_base HCA.out.o (Nat.le_trans SZV.out HZV.out.size)) HCA.out.c
       rw [HZ9.out] at q1 q2
       have hRS:RowsSmall (R.set n NR):=by
        refine ⟨by rw [List.length_set];exact HR.out.1,fun x hx=>?_,fun x hx y hy=>?_⟩
        · rcases mem_set_cases hx with rfl|hx
          · omega
          · exact HR.out.2.1 x hx
        · rcases mem_set_cases hx with rfl|hx
          · rw [HNR.out,HRL.out,List.mem_filterMap] at hy
            obtain ⟨z,hz,hzy⟩:=hy
            rw [changeR_len hzy]
            exact HR.out.2.2 _ (List.getElem_mem hnR) z hz
          · exact HR.out.2.2 x hx y hy
       have hsl:=copies2_sl (v:=.slice (some ⟨gr,0,none⟩) R.length rc) q1 q2 hRS
       have eS:changeS ⟨C,R⟩ st=⟨C,R.set n NR⟩:=by
        unfold changeS changeRows
        rw [HN.out,Int.toNat_natCast]
        show StV.mk C (R.set n ((rowsAt R (n:Int)).filterMap (changeR (tabAt C (n:Int)) st)))=_
        rw [rows_at' hnR,HTA.out,HNR.out,HRL.out]
       have eN:changeN ⟨C,R⟩ st=N:=by
        unfold changeN
        rw [HN.out]
        show (rowsAt R (n:Int)).countP (fitsW (tabAt C (n:Int)) st.wher)=N
        rw [rows_at' hnR,HTA.out,HNN.out,HRL.out]
       rw [eS,HER.out,eN]
       have hgw:=(World.ownsRow.lt OW.out gr rfl).1
       have h9:Below w.heap.size w Z9:=by
        rw [<- HZ9.out]
        exact HCA.out.bl.setCell (p:=⟨gr,n,none⟩) (by simp;omega) _
       refine does_ok rfl rfl (H7.out.from h9 (jR _) (by omega) (by omega)) ⟨ta,tc,some ⟨gr,0,none⟩,rc,by rw [List.length_set],?_,?_⟩ (ansAt_none _ _ _)
       · have h3:TabsCp p w.heap.size (.slice ta C.length tc) C Z9:=by
          rw [<- HZ9.out]
          exact TW.out.setc (by omega) HCU.out (by decide)
         exact (H7.out.tabs Y2.out Y3.out (by simp) (by decide) (by decide) (by omega) (by omega) h3).lies
       · show SlV rowsR _ _ (.slice (some ⟨gr,0,none⟩) (R.set n NR).length rc) _
         rw [List.length_set]
         exact (hsl.keep fun k hk hl=>H7.out.other k hl (by omega) (by omega)).weaken fun k hk=>Or.inr (by omega)
end
section
open Go.RowKit
theorem def1_any {p:Nat->Prop} {tb:Nat} {a:Option Addr} {c n:Nat} {C:List (ByteArray × Int)} {w:World} (h:SlV colR p w (.slice a C.length c) C) (ht:w.cell? ⟨tb,2,none⟩=some (.slice a C.length c)) (hn:n<C.length) :
 Calls Tryz.prog 85 #[.int .i64 n,.pointer (some ⟨tb,0,none⟩)] w fun e w'=>e=.returned (.string C[n].1)/\w=w':=by
 obtain ⟨_,_,hl,hr⟩:=h.row
 obtain ⟨b,off,rfl,_,hb⟩:=hr.addr (by intro e;rw [e] at hn;cases hn)
 have c0:=(hr.col n hn).1
 obtain ⟨s,hs⟩:∃ s,s=C[n].1:=⟨_,rfl⟩
 rw [<- hs] at c0 ⊢
 clear hs h hr
 go_enter Tryz.func85,Tryz.ntmps85
 go_wp2_with fail
 go_ret
 exact ⟨rfl,rfl⟩
theorem ixS_name (T:Tab) (x:Ix) (t:Nat) (ht:t<x.cols.length):(ixS T x).names[t]'(by simpa [ixS] using ht)=(T.cols.getD x.cols[t].toNat (noStr,0)).1:=by simp [ixS]
theorem ixnames_any {p:Nat->Prop} {tb ci:Nat} {a ai:Option Addr} {c:Nat} {T:Tab} {x:Ix} {w:World} (hx:IxOk T.cols.length x) (h:SlV colR p w (.slice a T.cols.length c) T.cols) (ht:w.cell? ⟨tb,2,none⟩=some (.slice a T.cols.length c)) (hi:SlV intR p w (.slice ai x.cols.length ci) x.cols) :
 Calls Tryz.prog 84 #[.slice ai x.cols.length ci,.func (.func 85) #[] #[.pointer (some ⟨tb,0,none⟩)]] w fun e w'=>∃ (va:Option Addr) (vc:Nat),e=.returned (.slice va (ixS T x).names.length vc)/\Below w.heap.size w w'/\SlV strF (fun k=>w.heap.size<=k) w' (.slice va (ixS T x).names.length vc) (ixS T x).names:=by
 obtain ⟨_,_,hl,hr⟩:=hi.row
 have htl:=World.block_lt_of_cell? w _ ht
 have hnl:(ixS T x).names.length=x.cols.length:=by simp [ixS]
 have hx6:=hx.len
 refine Calls.mono (apply_is (g:=85) (cb:=#[.pointer (some ⟨tb,0,none⟩)]) (ins:=x.cols.map (.int .i64)) (enters_of Tryz.func85 (by kernel_rfl) rfl) (row_nil hr) (fun h0 ad e=>?_) (int_raw hr) (by simp) (by omega) (fun k outs _=>outs=((ixS T x).names.take k).flatMap strEnc) (by simp) (fun k outs w1 w2 r h _ _=>h) (fun k hk outs w1 b1 hI=>?_)) ?_
 · obtain ⟨b,off,ha,_⟩:=hr.addr (by intro e;rw [e] at h0;cases h0)
   rw [ha] at e;cases e;rfl
 · have hk':k<x.cols.length:=by simpa using hk
   obtain ⟨h0,h1⟩:=hx.rng _ (List.getElem_mem hk')
   have hn:x.cols[k].toNat<T.cols.length:=by omega
   have hc:x.cols[k]=(x.cols[k].toNat:Int):=by omega
   have con:=def1_any (tb:=tb) (n:=x.cols[k].toNat) (h.below b1) ((b1.cell (p:=⟨tb,2,none⟩) htl).trans ht) hn
   rw [<- hc] at con
   have e1:(x.cols.map (Value.int .i64))[k]=.int .i64 x.cols[k]:=by simp
   rw [e1]
   refine Calls.mono con ?_
   rintro e w2 ⟨rfl,rfl⟩
   refine ⟨_,rfl,Below.refl _ _,?_⟩
   rw [hI,List.take_succ_eq_append_getElem (by omega),List.flatMap_append,ixS_name T x k hk',List.getD_eq_getElem?_getD,List.getElem?_eq_getElem hn]
   rfl
 · rintro e w' ⟨v,outs,rfl,o,b,hI⟩
   have hnt:(ixS T x).names.take x.cols.length=(ixS T x).names:=by rw [<- hnl,List.take_length]
   rw [hnt] at hI
   rw [hI,<- hnl] at o
   have s:=sl_owned (enc:=strEnc) (sz:=1) (hl:=fun _=>rfl) o (by omega)
   obtain ⟨va,vc,rfl⟩:=s.shape
   exact ⟨va,vc,rfl,b,s⟩
theorem nil_sl {α:Type} {R:Rep α} {p:Nat->Prop} {w:World}:SlV R p w (.slice none 0 0) ([]:List α):=⟨none,0,rfl,jR _,Nat.zero_le _,RowAt.nil⟩
theorem tabS_at {p:Nat->Prop} {w:World} {T:Tab} {ac:Option Addr} {cc:Nat} (h:SlV colR p w (.slice ac T.cols.length cc) T.cols) :
 StmtV p w (.agg #[.int .i64 1,.string T.name,.string ⟨#[]⟩,.slice ac T.cols.length cc,.slice none 0 0,.slice none 0 0,.slice none 0 0,.slice none 0 0,.string ⟨#[]⟩,.string ⟨#[]⟩,.string ⟨#[]⟩,.int .i64 0,.slice none 0 0,.int .i64 0,.int .i64 0]) (tabS T) :=
 ⟨ac,cc,none,0,none,0,none,0,none,0,none,0,rfl,h,nil_sl,nil_sl,nil_sl,nil_sl,nil_sl⟩
theorem ixS_at {p:Nat->Prop} {w:World} {T:Tab} {x:Ix} {an:Option Addr} {cn:Nat} (h:SlV strF p w (.slice an (ixS T x).names.length cn) (ixS T x).names) :
 StmtV p w (.agg #[.int .i64 2,.string T.name,.string x.name,.slice none 0 0,.slice an (ixS T x).names.length cn,.slice none 0 0,.slice none 0 0,.slice none 0 0,.string ⟨#[]⟩,.string ⟨#[]⟩,.string ⟨#[]⟩,.int .i64 0,.slice none 0 0,.int .i64 0,.int .i64 0]) (ixS T x) :=
 ⟨none,0,an,cn,none,0,none,0,none,0,none,0,rfl,nil_sl,h,nil_sl,nil_sl,nil_sl,nil_sl⟩
theorem take_small {C:List Tab} (h:TabsSmall C) (k:Nat):TabsSmall (C.take k):=⟨by rw [List.length_take];have:=h.1;omega,fun t ht=>h.2 t (List.mem_of_mem_take ht)⟩
theorem part_small {C:List Tab} (h:TabsSmall C) {k:Nat} (hk:k<C.length) (j:Nat):TabsSmall (partC C k j C[k]):=by
 have h1:=h.2 _ (List.getElem_mem hk)
 refine ⟨?_,fun t ht=>?_⟩
 · unfold partC
   rw [List.length_append,List.length_take]
   have:=h.1
   simp;omega
 · rcases List.mem_append.1 ht with ht|ht
   · exact h.2 t (List.mem_of_mem_take ht)
   · rw [List.mem_singleton.1 ht]
     refine ⟨h1.1,?_,fun x hx=>h1.2.2 x (List.mem_of_mem_take hx)⟩
     simp only [List.length_take]
     have:=h1.2.1
     omega
theorem part_names {C:List Tab} (h:∀ t ∈ C,∀ c ∈ t.cols,c.1.size<=maxLen) {k:Nat} (hk:k<C.length) (j:Nat):∀ t ∈ partC C k j C[k],∀ c ∈ t.cols,c.1.size<=maxLen:=by
 intro t ht
 rcases List.mem_append.1 ht with ht|ht
 · exact h t (List.mem_of_mem_take ht)
 · rw [List.mem_singleton.1 ht]
   exact fun c hc=>h C[k] (List.getElem_mem hk) c hc
theorem part_full {C:List Tab} {k:Nat} (hk:k<C.length):partC C k C[k].idx.length C[k]=C.take (k+1):=by
 unfold partC
 rw [List.take_length,List.take_succ_eq_append_getElem hk]
theorem cat_tab {C:List Tab} (h:CatOk C) {k:Nat} (hk:k<C.length):catV (C.take k) (tabS C[k])=(0,partC C k 0 C[k]):=by
 obtain ⟨h1,h2⟩:=create_again h hk
 unfold catV
 rw [if_pos (show (tabS C[k]).kind=1 from rfl),if_pos h1,h1,h2]
theorem cat_ix {C:List Tab} (h:CatOk C) {k:Nat} (hk:k<C.length) {j:Nat} (hj:j<C[k].idx.length):catV (partC C k j C[k]) (ixS C[k] C[k].idx[j])=(0,partC C k (j+1) C[k]):=by
 obtain ⟨h1,h2⟩:=index_again h hk hj
 unfold catV
 rw [if_neg (show ¬ (ixS C[k] C[k].idx[j]).kind=1 from (by decide:¬ (2:Int)=1)),if_pos (show (ixS C[k] C[k].idx[j]).kind=2 from rfl),if_pos h1,h1,h2]
def NoX:Nat->Prop:=fun _=>False
def OneX (b:Nat):Nat->Prop:=fun k=>k=b
theorem catAt_new {B b:Nat} {w:World} (hB:B<=b) (h:w.heap[b]? = some (.cells #[.slice none 0 0] 166 (0,0))):CatAt B NoX b [] w:=by
 refine ⟨hB,.slice none 0 0,[],rfl,h,World.ownsRow_nil _ _ _ _,?_,?_,fun h=>h,?_,?_,?_⟩
 · intro t h;cases h
 · intro s t h;cases h
 · intro k _ h;exact h
 · intro t h;cases h
 · intro t h;cases h
structure DefAt (W0:World) (b:Nat) (C:List Tab) (w:World):Prop where
 bl:Below W0.heap.size W0 w
 c:CatAt W0.heap.size NoX b C w
structure DefIn (W0:World) (b tb:Nat) (cs:Array Value) (C:List Tab) (w:World):Prop where
 bl:Below W0.heap.size W0 w
 c:CatAt W0.heap.size (OneX tb) b C w
 t:w.heap[tb]? = some (.cells cs 75 (0,0))
theorem copies2_keep {B:Nat} {L:List (List (List Val))} {k:Nat} {outs:List Value} {T:TypeId} (hT:55 ≠ T) (hR:35 ≠ T) {w w1:World} {r:Option Nat} (h:Copies2 B L k outs w) (hr:∀ b,r=some b->0<=b/\∀ cs T' fz,w.heap[b]? = some (.cells cs T' fz)->T'=T) (hg:w.grownBy w1 r):Copies2 B L k outs w1:=copies2_keeps B 0 L k outs T hT hR w w1 r h hr hg
structure GrowR (Z:World) (B q0 V4 W4:Nat) (va:Option Addr) (vc:Nat) (C':List Tab) (R:List (List (List Val))) (v:Value) (m:Nat) (outs:List Value) (w:World):Prop where
 b:Below Z.heap.size Z w
 q:w.heap[q0]? = some (.cells #[.slice va C'.length vc,v] 27 (0,0))
 o:w.ownsRow B 41 1 v m outs
 c:Copies2 B (R ++ List.replicate (m - R.length) []) m outs w
 t:SlV tabR (fun k=>V4<=k/\k<W4) w (.slice va C'.length vc) C'
 sp:∀ g,v.ownBlock=some g->g<V4 \/ W4<=g
 s:W4<=w.heap.size
 x2:w.heap[q0+1+1]? = some (.cells #[.slice none 0 0,.slice none 0 0] 27 (0,0))
 x3:w.heap[q0+1+1+1]? = some (.cells #[.int .i64 0,.slice none 0 0,.int .i64 0] 43 (0,0))
def lenAt (w:World) (q:Nat):Nat:=match w.cell? ⟨q,1,none⟩ with|some (.slice _ n _)=>n|_=>0
theorem GrowR.q8 {Z:World} {B q0 V4 W4:Nat} {va:Option Addr} {vc m:Nat} {C':List Tab} {R:List (List (List Val))} {v:Value} {outs:List Value} {w w8:World} (h:GrowR Z B q0 V4 W4 va vc C' R v m outs w) (g1:(w.alloc (.cells #[.slice none 0 0] 41)).grownBy w8 v.ownBlock) :
 w8.heap[q0]? = some (.cells #[.slice va C'.length vc,v] 27 (0,0)):=by
 have hb:Below w.heap.size w (w.alloc (.cells #[.slice none 0 0] 41)):=(b0R).alloc (jR _) _
 have h1:=(hb.block _ (jB h.q)).trans h.q
 exact (g1.block _ (jB h1) (row_not h1 (h.o.alloc _) (by decide))).trans h1
theorem GrowR.step {Z:World} {B q0 V4 W4:Nat} {va:Option Addr} {vc m:Nat} {C':List Tab} {R:List (List (List Val))} {v v':Value} {outs:List Value} {w w8:World} (h:GrowR Z B q0 V4 W4 va vc C' R v m outs w) (hq:q0<V4) (hZ:Z.heap.size<=q0) (hB:V4<=w.heap.size) (hBZ:Z.heap.size<=B) (hm:R.length<=m)
 (o1:w8.ownsRow B 41 1 v' (m+1) (outs ++ [.slice none 0 0])) (g1:(w.alloc (.cells #[.slice none 0 0] 41)).grownBy w8 v.ownBlock) (at1:v'.ownBlock=v.ownBlock \/ v'.ownBlock=some (w.alloc (.cells #[.slice none 0 0] 41)).heap.size):GrowR Z B q0 V4 W4 va vc C' R v' (m+1) (outs ++ [.slice none 0 0]) (w8.setCell ⟨q0,1,none⟩ v'):=by
 have hb:Below w.heap.size w (w.alloc (.cells #[.slice none 0 0] 41)):=(b0R).alloc (jR _) _
 have ha:=h.o.alloc (.cells #[.slice none 0 0] 41)
 have hsz:(w.alloc (.cells #[.slice none 0 0] 41)).heap.size=w.heap.size+1:=Array.size_push _
 have hx:∀ {k:Nat} {cs:Array Value} {T:TypeId},w.heap[k]? = some (.cells cs T (0,0))->T ≠ 41->w8.heap[k]? = some (.cells cs T (0,0)):=fun {k cs T} hk hT=>by
  have h1:=(hb.block _ (jB hk)).trans hk
  exact (g1.block _ (jB h1) (row_not h1 ha hT)).trans h1
 have hq8:=hx h.q (by decide)
 have g2:=grown_cell w8 ⟨q0,1,none⟩ v'
 have t2:∀ b,some q0=some b->0<=b/\∀ cs T' fz,w8.heap[b]? = some (.cells cs T' fz)->T'=27:=tag_cell hq8 (Nat.zero_le _)
 refine ⟨?_,(heap_setCell_same _ _ _ _ _ _ hq8).trans rfl,keeps_owns (B':=0) (T:=27) (by decide) w8 _ (some q0) o1 t2 g2,?_,?_,fun g hg=>?_,?_,(heap_setCell_other _ _ _ _ (by simp;omega)).trans (hx h.x2 (by decide)),(heap_setCell_other _ _ _ _ (by simp;omega)).trans (hx h.x3 (by decide))⟩
 · exact ((h.b.trans (hb.mono h.b.size)).grown g1 (Nat.le_trans h.b.size (by omega)) (fun k hk=>Nat.le_trans hBZ (ha.lt k hk).1)).setCell (p:=⟨q0,1,none⟩) hZ _
 · refine copies2_keep (T:=27) (by decide) (by decide) ?_ t2 g2
   refine copies2_nil hm ?_
   exact copies2_keep (T:=41) (by decide) (by decide) (h.c.below hb) (fun b hb'=>⟨Nat.zero_le _,(own_tag ha b hb').2⟩) g1
 · refine h.t.keep fun k hk hl=>?_
   rw [heap_setCell_other _ _ _ _ (by simp;omega),g1.block k (by omega) (fun e=>?_),hb.block k hl]
   have:=h.sp k e.symm
   omega
 · rcases at1 with e|e
   · exact h.sp g (e ▸ hg)
   · rw [e,hsz] at hg
     simp only [Option.some.injEq] at hg
     have:=h.s
     omega
 · rw [show (w8.setCell ⟨q0,1,none⟩ v').heap.size=w8.heap.size by simp]
   have:=g1.size
   have:=h.s
   omega
theorem define_any {p p':Nat->Prop} {s:StV} {st:Stmt} {sv stv:Value} {w:World} (hs:StAt p w sv s) (hst:StmtV p' w stv st) (hC:CatOk s.tabs) (hR:RowsSmall s.rows) (hk:st.kind=1 \/ st.kind=2 \/ st.kind=3) (hcl:st.cols.length<=1000000) (hnl:st.names.length<=1000000) :
 Calls Tryz.prog 40 #[sv,stv] w fun e w'=>DoesPost p w False ((catV s.tabs st).1,defineS s st,ans0) e w':=by
 obtain ⟨i0,hi,hz0,hz1,hz2⟩:=info_parts info_all
 obtain ⟨a1,c1,a2,c2,rfl,htabs,hrows⟩:=hs
 obtain ⟨C,R⟩:=s
 simp only at *
 have HST:=hid hst
 have HTABS:=hid htabs
 have HROWS:=hid hrows
 have HC:=hid hC
 have HR:=hid hR
 have HSM:=hid hC.small
 have HNM:=hid hC.names
 have HK:=hid hk
 have hl8:=hC.len
 obtain ⟨a3,c3,a4,c4,a5,c5,a6,c6,a7,c7,a12,c12,rfl,_⟩:=hst
 obtain ⟨Pst,hPst⟩:∃ Pst,Pst=DoesPost p w False ((catV C st).1,defineS ⟨C,R⟩ st,ans0):=⟨_,rfl⟩
 have HPST:=hid hPst
 rw [<- hPst]
 clear htabs hrows hC hR hk hPst
 go_enter Tryz.func40,Tryz.ntmps40
 go_upto_region 1 with (fail)
 generalize hW:World.alloc _ _=W0
 have hA':allocs w [_,_,_,_]=W0:=hW
 have hq0:W0.heap[w.heap.size]? = some (.cells #[.slice a1 C.length c1,.slice a2 R.length c2] 27 (0,0)):=allocs_get hA' 0 rfl
 have hq1:W0.heap[w.heap.size+1]? = some (.cells #[.int .i64 st.kind,.string st.table,.string st.name,.slice a3 st.cols.length c3,.slice a4 st.names.length c4,.slice a5 st.row.length c5,.slice a6 st.sets.length c6,.slice a7 st.wher.length c7,.string st.join,.string st.left,.string st.right,.int .i64 st.agg,.slice a12 st.order.length c12,.int .i64 st.mode,.int .i64 st.n] 39 (0,0)):=allocs_get hA' 1 rfl
 have hq2:W0.heap[w.heap.size+1+1]? = some (.cells #[.slice none 0 0,.slice none 0 0] 27 (0,0)):=allocs_get hA' 2 rfl
 have hq3:W0.heap[w.heap.size+1+1+1]? = some (.cells #[.int .i64 0,.slice none 0 0,.int .i64 0] 43 (0,0)):=allocs_get hA' 3 rfl
 have B0:=hid (allocs_self hA')
 have HS0:=hid (show W0.heap.size=w.heap.size+4 by rw [<- hA',allocs_size];rfl)
 have Q0:=hid hq0
 have Q1:=hid hq1
 have Q2:=hid hq2
 have Q3:=hid hq3
 clear hA' hW hq0 hq1 hq2 hq3
 go_wp2_with fail
 refine (cnew_any _).mono ?_
 rintro e w1 ⟨rfl,rfl⟩
 generalize hW1:World.alloc _ _=W1
 have hb1:Below W0.heap.size W0 W1:=by rw [<- hW1];exact (b0R).alloc (jR _) _
 have D1:=hid (show DefAt W0 W0.heap.size ([]:List Tab) W1 from ⟨hb1,catAt_new (jR _) (by rw [<- hW1];exact heap_alloc_new _ _)⟩)
 have t0:=jC ((hb1.block _ (jB Q0.out)).trans Q0.out) 0
 simp only [gT,gZ,gS] at t0
 clear hW1 hb1
 have TW:=hid (HTABS.out.below B0.out)
 go_wp2_with fail
 go_loopw [17] (fun ii wr=>∃ (k:Nat),k<=C.length/\ii=.int .i64 k/\Hid (DefAt W0 W0.heap.size (C.take k) wr)) (fun ii _=>C.length - (intOf ii).toNat)
 case atStart=>exact ⟨0,Nat.zero_le _,rfl,D1.out⟩
 case round =>
  obtain ⟨k,hkl,rfl,DK⟩:=hrel
  clear t0 D1
  obtain ⟨wo,hwo⟩:∃ wo,wo=wr:=⟨_,rfl⟩
  rw [<- hwo] at DK ⊢
  clear hwo
  by_cases hlt:k<C.length
  · obtain ⟨bb,oo,rfl,_,hbb⟩:=TW.out.row.2.2.2.addr (by intro e;rw [e] at hlt;cases hlt)
    obtain ⟨ac,cc,ai,ci,g0,g1,g2,g3,htv⟩:=TW.out.row.2.2.2.tab k hlt
    have k0:=(DK.out.bl.cell (p:=⟨bb,oo+k * 4,none⟩) hbb).trans g0
    have k1:=(DK.out.bl.cell (p:=⟨bb,oo+k * 4+1,none⟩) hbb).trans g1
    have k2:=(DK.out.bl.cell (p:=⟨bb,oo+k * 4+2,none⟩) hbb).trans g2
    have k3:=(DK.out.bl.cell (p:=⟨bb,oo+k * 4+3,none⟩) hbb).trans g3
    have HTV:=hid htv
    obtain ⟨T,hT⟩:∃ T,T=C[k]:=⟨_,rfl⟩
    have HT:=hid hT
    rw [<- hT] at HTV k0 k1 k2 k3
    have HTOK:=hid (show TabOk T by rw [hT];exact HC.out.tab _ (List.getElem_mem hlt))
    clear hT g0 g1 g2 g3 htv
    go_upto_region 5 with (fail)
    generalize hX:World.alloc _ _=X1
    have hbX:Below wo.heap.size wo X1:=by rw [<- hX];exact (b0R).alloc (jR _) _
    have hqX:X1.heap[wo.heap.size]? = some (.cells #[.int .i64 T.id,.string T.name,.slice ac T.cols.length cc,.slice ai T.idx.length ci] 75 (0,0)):=by rw [<- hX];exact heap_alloc_new _ _
    have hsX:wo.heap.size<X1.heap.size:=jB hqX
    have HSX:=hid hsX
    have x1:=jC hqX 1
    have x2:=jC hqX 2
    simp only [gT,gZ,gS] at x1 x2
    have BX:=hid (DK.out.bl.trans (hbX.mono DK.out.bl.size))
    have QX:=hid hqX
    have hsl:SlV colR p X1 (.slice ac T.cols.length cc) T.cols:=by
     obtain ⟨_,_,_,_,e,h2,_⟩:=HTV.out.below BX.out
     cases e
     exact h2
    have con:=catdo_any (X:=OneX wo.heap.size) (B:=W0.heap.size) (b:=W0.heap.size) (C:=C.take k) ((DK.out.c.fresh (fun k h=>Or.inr (by have:k=wo.heap.size:=h;omega))).below hbX) (fun k h=>by have:k=wo.heap.size:=h;omega) (take_small HSM.out k) (tabS_at hsl) (show (Lit.int .i64 1).wf=true by decide) (show T.cols.length<=1000000 by have:=HTOK.out.len;omega) (Nat.zero_le _) (fun t ht=>HNM.out t (List.mem_of_mem_take ht)) (BX.out.size)
    rw [HT.out,cat_tab HC.out hlt,<- HT.out] at con
    clear hX hbX hqX hsX k0 k1 k2 k3 hsl
    go_wp2_with fail
    refine con.mono ?_
    rintro e w2 ⟨rfl,b2,f2,ca2⟩
    have hq2:=(f2 _ rfl).trans QX.out
    have I2:=hid (show DefIn W0 W0.heap.size wo.heap.size #[.int .i64 T.id,.string T.name,.slice ac T.cols.length cc,.slice ai T.idx.length ci] (partC C k 0 T) w2 from ⟨BX.out.trans b2,ca2,hq2⟩)
    have y3:=jC hq2 3
    simp only [gT,gZ,gS] at y3
    clear con b2 f2 ca2 hq2 x1 x2
    go_wp2_with fail
    go_loopw [31] (fun jj wr=>∃ (j:Nat),j<=T.idx.length/\jj=.int .i64 j/\Hid (DefIn W0 W0.heap.size wo.heap.size #[.int .i64 T.id,.string T.name,.slice ac T.cols.length cc,.slice ai T.idx.length ci] (partC C k j T) wr)) (fun jj _=>T.idx.length - (intOf jj).toNat)
    case atStart=>exact ⟨0,Nat.zero_le _,rfl,I2.out⟩
    case round =>
     obtain ⟨j,hj,rfl,IJ⟩:=hrel
     clear I2 y3
     have hix4:=HTOK.out.ixs
     have IXS:=hid (show SlV ixR p W0 (.slice ai T.idx.length ci) T.idx from by
      obtain ⟨_,_,_,_,e,_,h3⟩:=HTV.out
      cases e
      exact h3)
     by_cases hjl:j<T.idx.length
     · obtain ⟨bi,oi,rfl,_,hbi⟩:=IXS.out.row.2.2.2.addr (by intro e;rw [e] at hjl;cases hjl)
       obtain ⟨xa,xc,e0,e1,e2,hsx⟩:=IXS.out.row.2.2.2.ix j hjl
       have j0:=(IJ.out.bl.cell (p:=⟨bi,oi+j * 3,none⟩) hbi).trans e0
       have j1:=(IJ.out.bl.cell (p:=⟨bi,oi+j * 3+1,none⟩) hbi).trans e1
       have j2:=(IJ.out.bl.cell (p:=⟨bi,oi+j * 3+2,none⟩) hbi).trans e2
       have HSX:=hid hsx
       have HIX:=hid (HTOK.out.ix _ (List.getElem_mem hjl))
       have HCI:=hid (show catV (partC C k j T) (ixS T T.idx[j])=(0,partC C k (j+1) T) from by
        have:=HT.out
        subst this
        exact cat_ix HC.out hlt hjl)
       obtain ⟨x,hx⟩:∃ x,x=T.idx[j]:=⟨_,rfl⟩
       rw [<- hx] at HSX HIX HCI j0 j1 j2
       clear hx e0 e1 e2 hsx
       go_upto_region 9 with (fail)
       generalize hY:World.alloc _ _=Y1
       have hbY:Below wr.heap.size wr Y1:=by rw [<- hY];exact (b0R).alloc (jR _) _
       have hqY:Y1.heap[wr.heap.size]? = some (.cells #[.string x.name,.slice xa x.cols.length xc,.int .i64 x.root] 114 (0,0)):=by rw [<- hY];exact heap_alloc_new _ _
       have IY:=hid (show DefIn W0 W0.heap.size wo.heap.size #[.int .i64 T.id,.string T.name,.slice ac T.cols.length cc,.slice (some ⟨bi,oi,none⟩) T.idx.length ci] (partC C k j T) Y1 from ⟨IJ.out.bl.trans (hbY.mono IJ.out.bl.size),IJ.out.c.below hbY,(hbY.block _ (jB IJ.out.t)).trans IJ.out.t⟩)
       have QY:=hid hqY
       have z1:=jC hqY 1
       simp only [gT,gZ,gS] at z1
       have hsl:SlV colR p Y1 (.slice ac T.cols.length cc) T.cols:=by
        obtain ⟨_,_,_,_,e,h2,_⟩:=HTV.out.below IY.out.bl
        cases e
        exact h2
       have con:=ixnames_any (tb:=wo.heap.size) HIX.out hsl (by have:=jC IY.out.t 2;simpa using this) (HSX.out.below IY.out.bl)
       clear hY hbY hqY j0 j1 j2 hsl IJ
       go_wp2_with fail
       refine con.mono ?_
       rintro e w5 ⟨na,nc,rfl,b5,s5⟩
       have I5:=hid (show DefIn W0 W0.heap.size wo.heap.size #[.int .i64 T.id,.string T.name,.slice ac T.cols.length cc,.slice (some ⟨bi,oi,none⟩) T.idx.length ci] (partC C k j T) w5 from ⟨IY.out.bl.trans (b5.mono IY.out.bl.size),IY.out.c.below b5,(b5.block _ (jB IY.out.t)).trans IY.out.t⟩)
       have hq5:=(b5.block _ (jB QY.out)).trans QY.out
       have u0:=jC hq5 0
       have u1:=jC I5.out.t 1
       simp only [gT,gZ,gS] at u0 u1
       have hnl6:(ixS T x).names.length<=1000000:=by
        have:(ixS T x).names.length=x.cols.length:=by simp [ixS]
        have:=HIX.out.len
        omega
       have con:=catdo_any (X:=OneX wo.heap.size) I5.out.c (fun k h=>by have e:k=wo.heap.size:=h;rw [e];exact jB I5.out.t) (by have:=HT.out;subst this;exact part_small HSM.out hlt j) (ixS_at s5) (show (Lit.int .i64 2).wf=true by decide) (Nat.zero_le _) hnl6 (by have:=HT.out;subst this;exact part_names HNM.out hlt j) I5.out.bl.size
       rw [HCI.out] at con
       clear b5 s5 hq5 z1 QY IY hnl6
       go_wp2_with fail
       refine con.mono ?_
       rintro e w6 ⟨rfl,b6,f6,ca6⟩
       have I6:=hid (show DefIn W0 W0.heap.size wo.heap.size #[.int .i64 T.id,.string T.name,.slice ac T.cols.length cc,.slice (some ⟨bi,oi,none⟩) T.idx.length ci] (partC C k (j+1) T) w6 from ⟨I5.out.bl.trans b6,ca6,(f6 _ rfl).trans I5.out.t⟩)
       clear con b6 f6 ca6 u0 u1 I5
       go_wp2_with fail
       go_roundw
       case rel=>exact ⟨j+1,by omega,by go_num,I6.out⟩
       case measure=>simp [intOf];omega
     · have hjn:j=T.idx.length:=by omega
       subst hjn
       have DN:=hid (show DefAt W0 W0.heap.size (C.take (k+1)) wr from ⟨IJ.out.bl,by
        have e:=HT.out
        have h:=IJ.out.c
        rw [e,part_full hlt] at h
        exact h.weaken (fun _ h=>h.elim)⟩)
       clear IJ
       go_wp2_with fail
       go_roundw
       case rel=>exact ⟨k+1,by omega,by go_num,DN.out⟩
       case measure=>simp [intOf];omega
  · have hkn:k=C.length:=by omega
    subst hkn
    have DE:=hid (show DefAt W0 W0.heap.size C wo from by have:=DK.out;rwa [List.take_length] at this)
    clear DK
    have BE:=hid (B0.out.trans (DE.out.bl.mono B0.out.size))
    have hqe1:=(DE.out.bl.block _ (jB Q1.out)).trans Q1.out
    have k0:=jC hqe1 0
    have k1:=jC hqe1 1
    have k2:=jC hqe1 2
    have k3:=jC hqe1 3
    have k4:=jC hqe1 4
    have k5:=jC hqe1 5
    have k6:=jC hqe1 6
    have k7:=jC hqe1 7
    have k8:=jC hqe1 8
    have k9:=jC hqe1 9
    have k10:=jC hqe1 10
    have k11:=jC hqe1 11
    have k12:=jC hqe1 12
    have k13:=jC hqe1 13
    have k14:=jC hqe1 14
    simp only [gT,gZ,gS] at k0 k1 k2 k3 k4 k5 k6 k7 k8 k9 k10 k11 k12 k13 k14
    have con:=catdo_any (X:=NoX) DE.out.c (fun k h=>h.elim) HSM.out (HST.out.below BE.out) (by rcases HK.out with e|e|e <;> rw [e] <;> decide) hcl hnl HNM.out DE.out.bl.size
    obtain ⟨cv,hcv⟩:∃ cv,cv=catV C st:=⟨_,rfl⟩
    have HCV:=hid hcv
    rw [<- hcv] at con
    obtain ⟨er,C'⟩:=cv
    clear hqe1 hcv
    go_wp2_with fail
    refine con.mono ?_
    rintro e w2 ⟨rfl,b2,_,ca2⟩
    have D2:=hid (show DefAt W0 W0.heap.size C' w2 from ⟨DE.out.bl.trans b2,ca2⟩)
    clear con b2 ca2 k0 k1 k2 k3 k4 k5 k6 k7 k8 k9 k10 k11 k12 k13 k14 BE DE
    have hq2:=(D2.out.bl.block _ (jB Q2.out)).trans Q2.out
    have hq3:=(D2.out.bl.block _ (jB Q3.out)).trans Q3.out
    have HQ2:=hid hq2
    have HQ3:=hid hq3
    have B2:=hid (B0.out.trans (D2.out.bl.mono B0.out.size))
    have HEQ:=hid (show ((catV C st).1,defineS ⟨C,R⟩ st,ans0)=(er,(⟨C',R ++ List.replicate (C'.length - R.length) []⟩:StV),ans0) by
     unfold defineS
     rw [<- HCV.out])
    clear hq2 hq3
    by_cases her:er=0
    · subst her
      obtain ⟨_,_,_,hrow⟩:=(HTABS.out.below B2.out).row
      obtain ⟨xs,hraw,hlen,hone⟩:=tabs_raw hrow
      have con:=own_any (w:=w2) (c1:=c1) (row_nil hrow) hraw hlen hone (by omega) (HROWS.out.below B2.out) HR.out.1 HR.out.2.1 HR.out.2.2
      have hq0:=(D2.out.bl.block _ (jB Q0.out)).trans Q0.out
      have g0:=jC hq0 0
      have g1:=jC hq0 1
      simp only [gT,gZ,gS] at g0 g1
      have HSC':=hid (show TabsSmall C' from by have:=catV_ok (s:=st) HC.out;rw [<- HCV.out] at this;exact this.small)
      clear hrow hraw hlen hone hq0
      go_wp2_with fail
      refine con.mono ?_
      rintro e w3 ⟨v1,v2,outs,rfl,o1,o2,cp2,b3,_⟩
      obtain ⟨ta,tc,hv1,_⟩:=owns_shape' o1
      obtain ⟨ra,rc,hv2,_⟩:=owns_shape' o2
      subst hv1
      subst hv2
      have B3:=hid (B2.out.trans (b3.mono B2.out.size))
      have D3:=hid (show DefAt W0 W0.heap.size C' w3 from ⟨D2.out.bl.trans (b3.mono D2.out.bl.size),D2.out.c.below b3⟩)
      have O3:=hid (show _/\_ from ⟨o2,cp2⟩)
      have S23:=hid b3.size
      have hq0:=(D3.out.bl.block _ (jB Q0.out)).trans Q0.out
      have g0:=jC hq0 0
      have g1:=jC hq0 1
      have f0:=free_of hq0 0
      have f1:=free_of hq0 1
      simp only [gT,gZ,gS] at g0 g1
      clear con o1 o2 cp2 b3
      have hs02:=D2.out.bl.size
      have hs0:w.heap.size+4<=W0.heap.size:=Nat.le_of_eq HS0.out.symm
      have hs00:W0.heap.size<=w.heap.size+4:=Nat.le_of_eq HS0.out
      go_upto_region 17 with (fail)
      generalize hV:World.setCell _ _ _=V
      have hqV:V.heap[w.heap.size]? = some (.cells #[.slice ta C.length tc,.slice ra R.length rc] 27 (0,0)):=by
       rw [<- hV]
       exact (heap_setCell_same _ _ _ _ _ _ ((heap_setCell_same _ _ _ _ _ _ hq0).trans rfl)).trans rfl
      have hszV:V.heap.size=w3.heap.size:=by rw [<- hV];simp
      have BV:=hid (show Below w.heap.size w V from by rw [<- hV];exact (B3.out.setCell (p:=⟨w.heap.size,0,none⟩) (jR _) _).setCell (p:=⟨w.heap.size,1,none⟩) (jR _) _)
      have CV:=hid (show CatAt W0.heap.size NoX W0.heap.size C' V from by rw [<- hV];exact (D3.out.c.set (p:=⟨w.heap.size,0,none⟩) (by simp;omega)).set (p:=⟨w.heap.size,1,none⟩) (by simp;omega))
      have OV:=hid (show V.ownsRow w2.heap.size 41 1 (.slice ra R.length rc) R.length outs/\Copies2 w2.heap.size R R.length outs V from by
       rw [<- hV]
       exact ⟨owns_set (owns_set O3.out.1 (p:=⟨w.heap.size,0,none⟩) (by simp;omega)) (p:=⟨w.heap.size,1,none⟩) (by simp;omega),(O3.out.2.set (p:=⟨w.heap.size,0,none⟩) (by simp;omega)).set (p:=⟨w.heap.size,1,none⟩) (by simp;omega)⟩)
      have QV:=hid hqV
      have SZV:=hid hszV
      have ho2:∀ k,k ≠ w.heap.size->V.heap[k]? = w3.heap[k]? := fun k hk=>by rw [<- hV];exact (heap_setCell_other _ _ _ _ (by exact hk)).trans (heap_setCell_other _ _ _ _ (by exact hk))
      have HQ2V:=hid ((ho2 _ (by omega)).trans ((D3.out.bl.block _ (jB Q2.out)).trans Q2.out))
      have HQ3V:=hid ((ho2 _ (by omega)).trans ((D3.out.bl.block _ (jB Q3.out)).trans Q3.out))
      obtain ⟨ca,cc,hcb,hcsl⟩:=CV.out.sl HSC'.out
      have con:=all_any hcb hcsl HSC'.out
      clear hV hqV hq0 g0 g1 f0 f1 ho2 hcb hcsl O3 D3 hszV
      go_wp2_with fail
      refine con.mono ?_
      rintro e w4 ⟨va,vc,rfl,b4,s4⟩
      have hq4:=(b4.block _ (jB QV.out)).trans QV.out
      have h0:=jC hq4 0
      have f0:=free_of hq4 0
      simp only [gT,gZ,gS] at h0
      have N4:=hid (show _/\_/\_/\_/\_/\_/\_ from ⟨BV.out.trans (b4.mono BV.out.size),hq4,owns_below OV.out.1 b4,OV.out.2.below b4,s4.bound,(b4.block _ (jB HQ2V.out)).trans HQ2V.out,(b4.block _ (jB HQ3V.out)).trans HQ3V.out⟩)
      have HS4:=hid b4.size
      clear con b4 s4 hq4
      have hqV:w.heap.size<V.heap.size:=jL (jB QV.out) (jR _)
      have hVB:w2.heap.size<=V.heap.size:=Nat.le_trans S23.out (Nat.le_of_eq SZV.out.symm)
      have hwB:w.heap.size<=w2.heap.size:=by omega
      have hr2:V.ownsRow w2.heap.size 41 1 (.slice ra R.length rc) R.length outs:=OV.out.1
      have hrV:∀ g,(Value.slice ra R.length rc).ownBlock=some g->g<V.heap.size:=fun g hg=>(hr2.lt g hg).2
      have HRV:=hid hrV
      clear hr2 hrV
      go_wp2_with fail
      go_loopw [69] (fun _ wr=>∃ (m:Nat) (v:Value) (os:List Value),(m=R.length \/ R.length<=m/\m<=C'.length)/\Hid (GrowR w w2.heap.size w.heap.size V.heap.size w4.heap.size va vc C' R v m os wr)) (fun _ wr=>C'.length - lenAt wr w.heap.size)
      case atStart =>
       refine ⟨R.length,.slice ra R.length rc,outs,Or.inl rfl,?_⟩
       obtain ⟨n1,n2,n3,n4,n5,n6,n7⟩:=N4.out
       refine ⟨n1.setCell (p:=⟨w.heap.size,0,none⟩) (jR _) _,(heap_setCell_same _ _ _ _ _ _ n2).trans rfl,owns_set n3 (by exact jL (by omega:w.heap.size<W0.heap.size) hs02),?_,n5.keep (fun k hk hl=>heap_setCell_other _ _ _ _ (by simp;omega)),fun g hg=>Or.inl (HRV.out g hg),by simp,(heap_setCell_other _ _ _ _ (by simp;omega)).trans n6,(heap_setCell_other _ _ _ _ (by simp;omega)).trans n7⟩
       rw [Nat.sub_self]
       simp only [List.replicate_zero,List.append_nil]
       exact n4.set (p:=⟨w.heap.size,0,none⟩) (by exact jL (by omega:w.heap.size<W0.heap.size) hs02)
      case round =>
       obtain ⟨m,v,os,hor,HG⟩:=hrel
       have hmR:R.length<=m:=by omega
       obtain ⟨mr,mc,rfl,_⟩:=owns_shape' HG.out.o
       have y0:=jC HG.out.q 0
       have y1:=jC HG.out.q 1
       simp only [gT,gZ,gS] at y0 y1
       have hla:lenAt wr w.heap.size=m:=by unfold lenAt;rw [y1]
       have HLA:=hid hla
       clear hla h0 f0
       by_cases hm:m<C'.length
       · have hC8:C'.length<=1000000:=HSC'.out.1
         have dm:decide (m<C'.length)=true:=decide_eq_true hm
         have hgs:=HG.out.s
         have hVW:=HS4.out
         go_wp2_with (at_builtin;go_loud (refine wpList_append_own_at _ rfl _ _ 25 rfl w2.heap.size 41 i0 _ 1 24 Tryz.underlying25 hi hz0 hz1 hz2 rfl (by decide) (.slice mr m mc) m _ rfl (HG.out.o.alloc _) ⟨wr.heap.size,0,none⟩ 1 1 [.slice none 0 0] rfl rfl (fun j u hj=>by rw [addr_add,jC (heap_alloc_new _ _)];simpa using hj) (fun u hu=>by rw [List.mem_singleton.1 hu];rfl) (by unfold maxLen;omega) (by omega) (by simp;omega) ?_;intro v' w8 o1 g1 hx1 at1;clear hx1;obtain ⟨nr,nc,hv',_⟩:=owns_shape' o1;subst hv';have ST:=hid (show _/\_/\_ from ⟨o1,g1,at1⟩);have hq8:=GrowR.q8 HG.out g1;have z1:=jC hq8 1;have zf:=free_of hq8 1;simp only [gT,gZ,gS] at z1;clear o1 g1 at1 hq8))
         have SU:=hid (GrowR.step HG.out hqV (jR _) (by omega) hwB hmR ST.out.1 ST.out.2.1 ST.out.2.2)
         go_roundw
         case rel=>exact ⟨m+1,_,_,Or.inr ⟨by omega,by omega⟩,SU⟩
         case measure =>
          have e1:=jC SU.out.q 1
          simp only [gT,gZ,gS] at e1
          have e2:=HLA.out
          have e3:lenAt (w8.setCell ⟨w.heap.size,1,none⟩ (.slice nr (m+1) nc)) w.heap.size=m+1:=by unfold lenAt;rw [e1]
          rw [e3,e2]
          omega
       · have dm:decide (m<C'.length)=false:=decide_eq_false hm
         have hx2:=HG.out.x2
         have hx3:=HG.out.x3
         have HX2:=hid hx2
         have HX3:=hid hx3
         have b0:=jC hx2 0
         have b1:=jC hx2 1
         have e0:=free_of hx2 0
         have e1:=free_of hx2 1
         have m0:=jC hx3 0
         have m1:=jC hx3 1
         have m2:=jC hx3 2
         have n0:=free_of hx3 0
         have n1:=free_of hx3 1
         have n2:=free_of hx3 2
         simp only [gT,gZ,gS] at b0 b1 m0 m1 m2
         clear hx2 hx3
         go_wp2_with fail
         have HW3:=stored_at (x0:=.slice va C'.length vc) (x1:=.slice mr m mc) (y0:=.int .i64 0) (y1:=.slice none 0 0) (y2:=.int .i64 0) HX2.out HX3.out
         refine bodyPost_ret (results_cells2 rfl _ _ (w.heap.size+1+1) (w.heap.size+1+1+1) 27 43 _ _ (0,0) (0,0) _ _ rfl rfl HW3.1 HW3.2 Tryz.underlying27 rfl (by kernel_rfl) Tryz.underlying43 rfl (by kernel_rfl)) rfl ?_
         rw [HPST.out,HEQ.out]
         have hlen:(R ++ List.replicate (m - R.length) ([]:List (List Val))).length=m:=by simp;omega
         have hmm:m - R.length=C'.length - R.length:=by omega
         have hws:=HG.out.b.size
         have hcp:=HG.out.c
         have hro:=HG.out.o
         have hRS:RowsSmall (R ++ List.replicate (m - R.length) []):=by
          have hC8:C'.length<=1000000:=HSC'.out.1
          have hR0:=HR.out.1
          refine ⟨by rw [hlen];omega,fun x hx=>?_,fun x hx y hy=>?_⟩
          · rcases List.mem_append.1 hx with hx|hx
            · exact HR.out.2.1 x hx
            · rw [List.eq_of_mem_replicate hx];exact Nat.zero_le _
          · rcases List.mem_append.1 hx with hx|hx
            · exact HR.out.2.2 x hx y hy
            · rw [List.eq_of_mem_replicate hx] at hy;cases hy
         have hsl:=copies2_sl (v:=.slice mr m mc) (by rw [hlen];exact hro) (by rw [hlen];exact hcp) hRS
         rw [hmm] at hsl
         refine does_ok rfl rfl (stored_below HG.out.b (by omega) (by omega)) ?_ (ansAt_none _ _ _)
         rw [hmm] at hlen
         refine ⟨va,vc,mr,mc,by rw [hlen],(HG.out.t.keep fun k hk hl=>stored_other k ?_ ?_).weaken (fun k hk=>Or.inr (by have h1:=HX2.out;have:=hk.1;omega)),?_⟩
         · have h1:=HX2.out;have:=hk.1;omega
         · have:=hk.1;omega
         · show SlV rowsR _ _ (.slice mr (R ++ List.replicate (C'.length - R.length) ([]:List (List Val))).length mc) _
           rw [hlen]
           exact (hsl.keep fun k hk hl=>stored_other k (by omega) (by omega)).weaken fun k hk=>Or.inr (by omega)
    · have d1:(er != 0)=true:=by simpa using her
      go_wp2_with fail
      refine (wrong_any er _).mono ?_
      rintro e w3 ⟨rfl,b3⟩
      have B3:=hid (B2.out.trans (b3.mono B2.out.size))
      have hq2:=(b3.block _ (jB HQ2.out)).trans HQ2.out
      have hq3:=(b3.block _ (jB HQ3.out)).trans HQ3.out
      have g0:=jC hq2 0
      have g1:=jC hq2 1
      have f0:=free_of hq2 0
      have f1:=free_of hq2 1
      have m0:=jC hq3 0
      have m1:=jC hq3 1
      have m2:=jC hq3 2
      have n0:=free_of hq3 0
      have n1:=free_of hq3 1
      have n2:=free_of hq3 2
      simp only [gT,gZ,gS] at g0 g1 m0 m1 m2
      unfold emptyS
      have HW3:=hid (stored_at (x0:=.slice none 0 0) (x1:=.slice none 0 0) (y0:=.int .i64 er) (y1:=.slice none 0 0) (y2:=.int .i64 0) hq2 hq3)
      have HBF:=hid (stored_below (x0:=.slice none 0 0) (x1:=.slice none 0 0) (y0:=.int .i64 er) (y1:=.slice none 0 0) (y2:=.int .i64 0) B3.out (show w.heap.size<=w.heap.size+1+1 by omega) (show w.heap.size<=w.heap.size+1+1+1 by omega))
      clear b3 hq2 hq3
      go_wp2_with fail
      refine bodyPost_ret (results_cells2 rfl _ _ (w.heap.size+1+1) (w.heap.size+1+1+1) 27 43 _ _ (0,0) (0,0) _ _ rfl rfl HW3.out.1 HW3.out.2 Tryz.underlying27 rfl (by kernel_rfl) Tryz.underlying43 rfl (by kernel_rfl)) rfl ?_
      rw [HPST.out,HEQ.out]
      exact does_err rfl her HBF.out
end
section
open Go Go.RowKit
structure Inv (s:StV) (n:Nat):Prop where
 cat:CatOk s.tabs
 len:s.rows.length=s.tabs.length
 wid:∀ i (h1:i<s.rows.length) (h2:i<s.tabs.length),∀ r ∈ s.rows[i],r.length=s.tabs[i].cols.length
 many:∀ x ∈ s.rows,x.length<=n
theorem Inv.small {s:StV} {n:Nat} (h:Inv s n) (hn:n<=1000000):RowsSmall s.rows:=by
 refine ⟨by have:=h.cat.len;have:=h.len;omega,fun x hx=>by have:=h.many x hx;omega,fun x hx y hy=>?_⟩
 obtain ⟨i,hi,rfl⟩:=List.getElem_of_mem hx
 have h2:i<s.tabs.length:=by have:=h.len;omega
 have:=(h.cat.tab _ (List.getElem_mem h2)).len
 have:=h.wid i hi h2 y hy
 omega
theorem Inv.more {s:StV} {n m:Nat} (h:Inv s n) (hm:n<=m):Inv s m:=⟨h.cat,h.len,h.wid,fun x hx=>Nat.le_trans (h.many x hx) hm⟩
theorem inv_nil:Inv ⟨[],[]⟩ 0:=⟨cat_nil,rfl,fun i h=>absurd h (Nat.not_lt_zero _),fun x h=>absurd h List.not_mem_nil⟩
theorem catV_keeps {C:List Tab} {st:Stmt}:C.length<=(catV C st).2.length/\∀ i (h1:i<C.length) (h2:i<(catV C st).2.length),(catV C st).2[i].cols.length=C[i].cols.length:=by
 have md:∀ (k:Nat) (f:Tab->Tab),(∀ t,(f t).cols.length=t.cols.length)->C.length<=(C.modify k f).length/\∀ i (h1:i<C.length) (h2:i<(C.modify k f).length),(C.modify k f)[i].cols.length=C[i].cols.length:=fun k f hf=>by
  refine ⟨by rw [List.length_modify];exact jR _,fun i h1 h2=>?_⟩
  rw [List.getElem_modify]
  split
  · exact hf _
  · rfl
 have same:C.length<=C.length/\∀ i (h1:i<C.length) (h2:i<C.length),C[i].cols.length=C[i].cols.length:=⟨jR _,fun _ _ _=>rfl⟩
 unfold catV
 split
 · simp only
   split
   · unfold createT
     exact ⟨by simp,fun i h1 h2=>by rw [List.getElem_append_left h1]⟩
   · exact same
 · split
   · simp only
     split
     · exact md _ _ (fun t=>rfl)
     · exact same
   · split
     · simp only
       split
       · exact md _ _ (fun t=>List.length_modify ..)
       · exact same
     · exact same
theorem inv_define {s:StV} {st:Stmt} {n:Nat} (h:Inv s n):Inv (defineS s st) n:=by
 obtain ⟨k1,k2⟩:=catV_keeps (C:=s.tabs) (st:=st)
 have hl:=h.len
 refine ⟨catV_ok h.cat,?_,fun i h1 h2 r hr=>?_,fun x hx=>?_⟩
 · show (s.rows ++ List.replicate ((catV s.tabs st).2.length - s.rows.length) []).length=(catV s.tabs st).2.length
   rw [List.length_append,List.length_replicate]
   omega
 · have h1':i<(s.rows ++ List.replicate ((catV s.tabs st).2.length - s.rows.length) ([]:List (List Val))).length:=h1
   have hr':r ∈ (s.rows ++ List.replicate ((catV s.tabs st).2.length - s.rows.length) ([]:List (List Val)))[i]:=hr
   by_cases hi:i<s.rows.length
   · rw [List.getElem_append_left hi] at hr'
     have:=h.wid i hi (by omega) r hr'
     rw [this]
     exact (k2 i (by omega) h2).symm
   · rw [List.getElem_append_right (by omega)] at hr'
     simp at hr'
 · have hx':x ∈ s.rows ++ List.replicate ((catV s.tabs st).2.length - s.rows.length) []:=hx
   rcases List.mem_append.1 hx' with hx|hx
   · exact h.many x hx
   · rw [(List.mem_replicate.1 hx).2]
     exact Nat.zero_le _
theorem inv_set {s:StV} {n k:Nat} {L:List (List Val)} (h:Inv s n) (hL:L.length<=n) (hw:∀ h2:k<s.tabs.length,∀ r ∈ L,r.length=s.tabs[k].cols.length):Inv ⟨s.tabs,s.rows.set k L⟩ n:=by
 refine ⟨h.cat,by simp [h.len],fun i h1 h2 r hr=>?_,fun x hx=>?_⟩
 · have h1':i<s.rows.length:=by simpa using h1
   simp only [List.getElem_set] at hr
   split at hr
   · rename_i e
     subst e
     exact hw h2 r hr
   · exact h.wid i h1' h2 r hr
 · rcases mem_set_cases hx with rfl|hx
   · exact hL
   · exact h.many x hx
theorem checkV_len {T:Tab} {r:List Val} (h:checkV T r=0):r.length=T.cols.length:=by
 unfold checkV at h
 split at h
 · omega
 · rename_i h2;simpa using h2
theorem inv_step {s:StV} {st:Stmt} {n:Nat} (h:Inv s n):Inv (stepS s st) (n+1):=by
 by_cases he:stepE s st ≠ 0
 · rw [stepS_err he];exact h.more (Nat.le_succ n)
 have he:stepE s st=0:=by simpa using he
 by_cases h1:st.kind=1 \/ st.kind=2 \/ st.kind=3
 · rw [stepS_cat h1 he];exact (inv_define h).more (Nat.le_succ n)
 by_cases h4:st.kind=4
 · rw [stepS_ins h4 he]
   rw [stepE_ins h4] at he
   unfold insertE at he
   by_cases hf:findV s st.table<0
   · rw [if_pos hf] at he;omega
   rw [if_neg hf] at he
   obtain ⟨k,hk⟩:∃ k:Nat,findV s st.table=k:=⟨(findV s st.table).toNat,by omega⟩
   have hlt:=(findT_lt s.tabs st.table).2
   rw [<- findV_T,hk] at hlt
   have hkt:k<s.tabs.length:=by omega
   have hkr:k<s.rows.length:=by rw [h.len];exact hkt
   rw [hk,tab_at' hkt] at he
   have hc:=checkV_len he
   unfold insertS
   rw [hk,Int.toNat_natCast,modify_set _ hkr]
   refine inv_set (h.more (Nat.le_succ n)) ?_ (fun h2 r hr=>?_)
   · rw [List.length_append]
     have:=h.many _ (List.getElem_mem hkr)
     simp
     omega
   · rcases List.mem_append.1 hr with hr|hr
     · exact h.wid k hkr h2 r hr
     · rw [List.mem_singleton.1 hr];exact hc
 by_cases h5:st.kind=5 \/ st.kind=6
 · rw [stepS_chg h5 he]
   rw [stepE_chg h5] at he
   unfold changeE at he
   by_cases hf:findV s st.table<0
   · rw [if_pos hf] at he;omega
   obtain ⟨k,hk⟩:∃ k:Nat,findV s st.table=k:=⟨(findV s st.table).toNat,by omega⟩
   have hlt:=(findT_lt s.tabs st.table).2
   rw [<- findV_T,hk] at hlt
   have hkt:k<s.tabs.length:=by omega
   have hkr:k<s.rows.length:=by rw [h.len];exact hkt
   unfold changeS changeRows
   rw [hk,Int.toNat_natCast,rows_at' hkr,tab_at' hkt]
   refine inv_set (h.more (Nat.le_succ n)) ?_ (fun h2 r hr=>?_)
   · have:=h.many _ (List.getElem_mem hkr)
     have:=List.length_filterMap_le (changeR s.tabs[k] st) s.rows[k]
     omega
   · obtain ⟨z,hz,hzr⟩:=List.mem_filterMap.1 hr
     rw [changeR_len hzr]
     exact h.wid k hkr h2 z hz
 have e:stepS s st=s:=by
  unfold stepS
  rw [if_neg (by rw [he];exact fun h=>h rfl),if_neg h1,if_neg h4,if_neg h5]
 rw [e]
 exact h.more (Nat.le_succ n)
end
end Go.Proofs.YtgemihkcihigpaaGreatDoor
