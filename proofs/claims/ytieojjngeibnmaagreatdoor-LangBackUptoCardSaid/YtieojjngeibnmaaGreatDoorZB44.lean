/- few: a statement with shorter lists. -/
import Derived.Test.YtieojjngeibnmaaGreatDoorZB43
set_option linter.unusedVariables false
set_option linter.unusedSimpArgs false
set_option maxRecDepth 100000
set_option maxHeartbeats 64000000
namespace Go.Proofs.YtieojjngeibnmaaGreatDoor
open Go.Lib (hid)
section
open Go.RowKit
def fewS (s:Stmt):Stmt:={ s with cols:=s.cols.take 14,names:=s.names.take 14,row:=s.row.take 14,sets:=s.sets.take 14,wher:=s.wher.take 14,order:=s.order.take 14 }
theorem flat_cells {α:Type} {enc:α->List Value} (h:∀ x,∀ u ∈ enc x,u.oneCell'=true) (L:List α):∀ u ∈ L.flatMap enc,u.oneCell'=true:=by
 intro u hu
 obtain ⟨x,_,hx⟩:=List.mem_flatMap.1 hu
 exact h x u hx
theorem colL_cells (L:List (ByteArray × Int)):∀ u ∈ L.flatMap colEnc,u.oneCell'=true:=flat_cells (fun c u hu=>by
 simp only [colEnc,List.mem_cons,List.not_mem_nil,or_false] at hu
 rcases hu with rfl|rfl <;> rfl) L
theorem valL_cells (L:List Val):∀ u ∈ L.flatMap valEnc,u.oneCell'=true:=flat_cells (fun c u hu=>by
 simp only [valEnc,List.mem_cons,List.not_mem_nil,or_false] at hu
 rcases hu with rfl|rfl|rfl <;> rfl) L
theorem setL_cells (L:List SetV):∀ u ∈ L.flatMap setEnc,u.oneCell'=true:=flat_cells (fun c u hu=>by
 simp only [setEnc,List.mem_cons,List.not_mem_nil,or_false] at hu
 rcases hu with rfl|rfl|rfl|rfl|rfl <;> rfl) L
theorem condL_cells (L:List Cond):∀ u ∈ L.flatMap condEnc,u.oneCell'=true:=flat_cells cond_cells L
theorem min_len {α:Type} (l:List α):min ((l.length:Nat):Int) 14=((l.take 14).length:Nat):=by
 rw [List.length_take];omega
theorem few_any {p:Nat->Prop} {L:Lists} {s:Stmt} {w:World} (hs:SlsAt p w L s) :
 Calls Tryz.prog 13 #[.agg (stC L s)] w fun e w'=>(∃ L',e=.returned (.agg (stC L' (fewS s)))/\SlsAt (fun k=>p k \/ w.heap.size<=k) w' L' (fewS s))/\Below w.heap.size w w':=by
 obtain ⟨Pst,hPst⟩:∃ Pst,Pst=fun (e:Ending) (w':World)=>(∃ L',e=.returned (.agg (stC L' (fewS s)))/\SlsAt (fun k=>p k \/ w.heap.size<=k) w' L' (fewS s))/\Below w.heap.size w w':=⟨_,rfl⟩
 have HPST:=hid hPst
 rw [<- hPst]
 obtain ⟨⟨a0,a00,e1⟩,⟨a1,a11,e2⟩,⟨a2,a22,e3⟩,⟨a3,a33,e4⟩,⟨a4,a44,e5⟩,⟨a5,a55,e6⟩⟩:=hs.shapes
 obtain ⟨Lc,Ln,Lr,Ls,Lw,Lo⟩:=L
 simp only at e1 e2 e3 e4 e5 e6
 subst e1 e2 e3 e4 e5 e6
 obtain ⟨sk,stb,snm,scols,snames,srow,ssets,swher,sj,sl,sr,sa,sorder,sm,sn⟩:=s
 simp only [stC]
 obtain ⟨W0,hW0⟩:∃ W,(w.alloc (.cells #[.int .i64 sk,.string stb,.string snm,.slice a0 scols.length a00,.slice a1 snames.length a11,.slice a2 srow.length a22,.slice a3 ssets.length a33,.slice a4 swher.length a44,.string sj,.string sl,.string sr,.int .i64 sa,.slice a5 sorder.length a55,.int .i64 sm,.int .i64 sn] 29)).alloc (.cells #[.int .i64 0,.string ⟨#[]⟩,.string ⟨#[]⟩,.slice none 0 0,.slice none 0 0,.slice none 0 0,.slice none 0 0,.slice none 0 0,.string ⟨#[]⟩,.string ⟨#[]⟩,.string ⟨#[]⟩,.int .i64 0,.slice none 0 0,.int .i64 0,.int .i64 0] 29)=W:=⟨_,rfl⟩
 have hA:W0.heap[w.heap.size]? = some (.cells #[.int .i64 sk,.string stb,.string snm,.slice a0 scols.length a00,.slice a1 snames.length a11,.slice a2 srow.length a22,.slice a3 ssets.length a33,.slice a4 swher.length a44,.string sj,.string sl,.string sr,.int .i64 sa,.slice a5 sorder.length a55,.int .i64 sm,.int .i64 sn] 29 (0,0)):=by rw [<- hW0];exact (heap_alloc_old _ _ (by simp)).trans (heap_alloc_new _ _)
 have hR:W0.heap[w.heap.size+1]? = some (.cells (stC nilL stmt0) 29 (0,0)):=by
  rw [<- hW0]
  rw [show w.heap.size+1=(w.alloc (.cells #[.int .i64 sk,.string stb,.string snm,.slice a0 scols.length a00,.slice a1 snames.length a11,.slice a2 srow.length a22,.slice a3 ssets.length a33,.slice a4 swher.length a44,.string sj,.string sl,.string sr,.int .i64 sa,.slice a5 sorder.length a55,.int .i64 sm,.int .i64 sn] 29)).heap.size by simp]
  exact heap_alloc_new _ _
 have s0:W0.heap.size=w.heap.size+2:=by rw [<- hW0];simp
 have b0:Below w.heap.size w W0:=by rw [<- hW0];exact ((b0R).alloc (jR _) _).alloc (by simp) _
 have z0:=jC hA 0
 have z1:=jC hA 1
 have z2:=jC hA 2
 have z3:=jC hA 3
 have z4:=jC hA 4
 have z5:=jC hA 5
 have z6:=jC hA 6
 have z7:=jC hA 7
 have z8:=jC hA 8
 have z9:=jC hA 9
 have z10:=jC hA 10
 have z11:=jC hA 11
 have z12:=jC hA 12
 have z13:=jC hA 13
 have z14:=jC hA 14
 simp only [gT,gZ,gS] at z0 z1 z2 z3 z4 z5 z6 z7 z8 z9 z10 z11 z12 z13 z14
 have HAR:=hid (And.intro hA hR)
 have B0:=hid b0
 have HS:=hid hs
 clear hPst hA hR b0 hs
 go_enter Tryz.func13,Tryz.ntmps13
 go_upto_region 2 with (fail)
 obtain ⟨V0,hV0⟩:∃ W,W0.alloc (.cells #[.int .i64 sk,.string stb,.string snm,.slice a0 scols.length a00,.slice a1 snames.length a11,.slice a2 srow.length a22,.slice a3 ssets.length a33,.slice a4 swher.length a44,.string sj,.string sl,.string sr,.int .i64 sa,.slice a5 sorder.length a55,.int .i64 sm,.int .i64 sn] 29)=W:=⟨_,rfl⟩
 rw [hV0]
 obtain ⟨b,hb⟩:∃ b,b=w.heap.size+2:=⟨_,rfl⟩
 rw [<- hb]
 have bV:Below W0.heap.size W0 V0:=by rw [<- hV0];exact (b0R).alloc (jR _) _
 have sV:V0.heap.size=w.heap.size+3:=by rw [<- hV0];simp [s0]
 have hB:V0.heap[b]? = some (.cells (stC ⟨.slice a0 scols.length a00,.slice a1 snames.length a11,.slice a2 srow.length a22,.slice a3 ssets.length a33,.slice a4 swher.length a44,.slice a5 sorder.length a55⟩ ⟨sk,stb,snm,scols,snames,srow,ssets,swher,sj,sl,sr,sa,sorder,sm,sn⟩) 29 (0,0)):=by rw [<- hV0,hb,<- s0];exact heap_alloc_new _ _
 have HAV:=hid (show V0.heap[w.heap.size]? = some (.cells #[.int .i64 sk,.string stb,.string snm,.slice a0 scols.length a00,.slice a1 snames.length a11,.slice a2 srow.length a22,.slice a3 ssets.length a33,.slice a4 swher.length a44,.string sj,.string sl,.string sr,.int .i64 sa,.slice a5 sorder.length a55,.int .i64 sm,.int .i64 sn] 29 (0,0))/\V0.heap[w.heap.size+1]? = some (.cells (stC nilL stmt0) 29 (0,0)) from ⟨(bV.block _ (by omega)).trans HAR.out.1,(bV.block _ (by omega)).trans HAR.out.2⟩)
 have HBV:=hid (B0.out.trans (bV.mono B0.out.size))
 have HP:=hid (show ¬ ((p b \/ w.heap.size<=b)/\b ≠ b/\b ≠ w.heap.size+1) from fun h=>h.2.1 rfl)
 have hb1:w.heap.size+1<b:=by omega
 have hb2:b<V0.heap.size:=by omega
 have HS0:=hid (HS.out.bound)
 have Q0:=hid (show QX (fun k=>(p k \/ w.heap.size<=k)/\k ≠ b/\k ≠ w.heap.size+1) V0 b ⟨.slice a0 scols.length a00,.slice a1 snames.length a11,.slice a2 srow.length a22,.slice a3 ssets.length a33,.slice a4 swher.length a44,.slice a5 sorder.length a55⟩ ⟨sk,stb,snm,scols,snames,srow,ssets,swher,sj,sl,sr,sa,sorder,sm,sn⟩ V0 from ⟨hB,(HS0.out.below HBV.out).weaken (fun k hk=>⟨Or.inl hk.1,by have:=hk.2;omega,by have:=hk.2;omega⟩),grownBy_refl _ _⟩)
 clear hb hV0 hB bV sV HAR B0 HS s0 hW0 z0 z1 z2 z3 z4 z5 z6 z7 z8 z9 z10 z11 z12 z13 z14
 obtain ⟨i0,hi0,hz00,hz01,hz02⟩:=info_parts (show (Tryz.prog.info? 100).map (fun i=>(i.zero,i.size,i.bytes))=some (some (.agg #[.string ByteArray.empty,.int .i64 0]),2,24) by kernel_rfl)
 have hg0:=Q0.out.g.size
 have za:=jC ((Q0.out.g.block _ (by omega) (fun e=>by simp at e;omega)).trans HAV.out.1) 3
 simp only [gT,gZ,gS] at za
 have zb:=(World.block_lt_of_cell? _ _ za)
 obtain ⟨U0,hU0⟩:∃ W,V0.alloc (.cells #[] 100)=W:=⟨_,rfl⟩
 have bu:Below V0.heap.size V0 U0:=by rw [<- hU0];exact (b0R).alloc (jR _) _
 have ou:=hid (show U0.ownsRow V0.heap.size 100 2 (.slice (some ⟨V0.heap.size,0,none⟩) 0 0) 0 [] from owns_mt7 2 (jR _) (by rw [<- hU0];exact heap_alloc_new _ _))
 have QU:=hid (Q0.out.below bu)
 have zu:=(bu.cell (p:=⟨w.heap.size,3,none⟩) zb).trans za
 have hv:SlV colR (fun k=>k<w.heap.size) U0 (.slice a0 scols.length a00) scols:=((HS0.out.cols.weaken fun k hk=>hk.2).below HBV.out).keep fun k hk hlt=>QU.out.g.block k hlt (fun e=>by simp at e;omega)
 have hrow:=hid (row_take hv.row.2.2.2 14)
 have hcap:=hv.row.2.1
 have hmin:=min_len scols
 have htl:(scols.take 14).length<=14:=by rw [List.length_take];exact Nat.min_le_left _ _
 have htc:(scols.take 14).length<=a00:=by rw [List.length_take];omega
 obtain ⟨Z0,hZ0⟩:∃ Z,Z=scols.take 14:=⟨_,rfl⟩
 rw [<- hZ0] at hrow hmin htl htc
 have HZ0:=hid hZ0
 clear hZ0
 have hsu:=bu.size
 have BU:=hid bu
 clear za bu hv
 go_upto_region 3 with (at_builtin;go_loud (refine wpList_append_flat_at rfl _ _ 22 rfl V0.heap.size 100 i0 _ 2 24 Tryz.underlying22 hi0 hz00 hz01 hz02 rfl (by decide) (.slice (some ⟨V0.heap.size,0,none⟩) 0 0) 0 [] rfl ou.out (hl:=fun _=>rfl) Z0 _ _ rfl hrow.out (colL_cells _) (by unfold maxLen;omega) (by omega) hsu ?_;intro v' w5 o5 g5 at5;clear at5;rw [Nat.zero_add,List.nil_append] at o5;obtain ⟨va0,vc0,rfl⟩:=owned_shape o5;have R5:=hid (Q0.out.below (BU.out.trans ((Below.refl V0.heap.size U0).grown g5 hsu (fun q e=>(ou.out.lt q e).1))));have O5:=hid o5;have f5:=free_of R5.out.box 3;have z5:=jC R5.out.box 3;simp only [stC,List.getElem?_toArray,List.getElem?_cons_zero,List.getElem?_cons_succ] at z5;clear o5 g5))
 obtain ⟨V1,hV1⟩:∃ W,w5.setCell ⟨b,3,none⟩ (.slice va0 Z0.length vc0)=W:=⟨_,rfl⟩
 rw [hV1]
 have SL:=hid (show SlV colR (fun k=>(p k \/ w.heap.size<=k)/\k ≠ b/\k ≠ w.heap.size+1) w5 (.slice va0 Z0.length vc0) Z0 from (sl_owned O5.out (by omega)).weaken fun k hk=>⟨Or.inr (by omega),by omega,by omega⟩)
 have Q1:=hid (show QX (fun k=>(p k \/ w.heap.size<=k)/\k ≠ b/\k ≠ w.heap.size+1) V0 b ⟨.slice va0 Z0.length vc0,.slice a1 snames.length a11,.slice a2 srow.length a22,.slice a3 ssets.length a33,.slice a4 swher.length a44,.slice a5 sorder.length a55⟩ ⟨sk,stb,snm,Z0,snames,srow,ssets,swher,sj,sl,sr,sa,sorder,sm,sn⟩ V1 by
  rw [<- hV1]
  have hl:=R5.out.ls
  exact R5.out.put HP.out 3 _ rfl ⟨SL.out,hl.names,hl.row,hl.sets,hl.wher,hl.order⟩)
 clear SL R5 O5 BU f5 z5 zu zb ou QU hrow hmin htl htc hsu hcap hV1 hU0
 obtain ⟨i1,hi1,hz10,hz11,hz12⟩:=info_parts (show (Tryz.prog.info? 9).map (fun i=>(i.zero,i.size,i.bytes))=some (some (.string ByteArray.empty),1,16) by kernel_rfl)
 have hg1:=Q1.out.g.size
 have za:=jC ((Q1.out.g.block _ (by omega) (fun e=>by simp at e;omega)).trans HAV.out.1) 4
 simp only [gT,gZ,gS] at za
 have zb:=(World.block_lt_of_cell? _ _ za)
 obtain ⟨U1,hU1⟩:∃ W,V1.alloc (.cells #[] 9)=W:=⟨_,rfl⟩
 have bu:Below V1.heap.size V1 U1:=by rw [<- hU1];exact (b0R).alloc (jR _) _
 have ou:=hid (show U1.ownsRow V1.heap.size 9 1 (.slice (some ⟨V1.heap.size,0,none⟩) 0 0) 0 [] from owns_mt7 1 (jR _) (by rw [<- hU1];exact heap_alloc_new _ _))
 have QU:=hid (Q1.out.below bu)
 have zu:=(bu.cell (p:=⟨w.heap.size,4,none⟩) zb).trans za
 have hv:SlV strF (fun k=>k<w.heap.size) U1 (.slice a1 snames.length a11) snames:=((HS0.out.names.weaken fun k hk=>hk.2).below HBV.out).keep fun k hk hlt=>QU.out.g.block k hlt (fun e=>by simp at e;omega)
 have hrow:=hid (row_take hv.row.2.2.2 14)
 have hcap:=hv.row.2.1
 have hmin:=min_len snames
 have htl:(snames.take 14).length<=14:=by rw [List.length_take];exact Nat.min_le_left _ _
 have htc:(snames.take 14).length<=a11:=by rw [List.length_take];omega
 obtain ⟨Z1,hZ1⟩:∃ Z,Z=snames.take 14:=⟨_,rfl⟩
 rw [<- hZ1] at hrow hmin htl htc
 have HZ1:=hid hZ1
 clear hZ1
 have hsu:=bu.size
 have BU:=hid bu
 clear za bu hv
 go_upto_region 4 with (at_builtin;go_loud (refine wpList_append_flat_at rfl _ _ 23 rfl V1.heap.size 9 i1 _ 1 16 Tryz.underlying23 hi1 hz10 hz11 hz12 rfl (by decide) (.slice (some ⟨V1.heap.size,0,none⟩) 0 0) 0 [] rfl ou.out (hl:=fun _=>rfl) Z1 _ _ rfl hrow.out (str_cells _) (by unfold maxLen;omega) (by omega) hsu ?_;intro v' w5 o5 g5 at5;clear at5;rw [Nat.zero_add,List.nil_append] at o5;obtain ⟨va1,vc1,rfl⟩:=owned_shape o5;have R5:=hid (Q1.out.below (BU.out.trans ((Below.refl V1.heap.size U1).grown g5 hsu (fun q e=>(ou.out.lt q e).1))));have O5:=hid o5;have f5:=free_of R5.out.box 4;have z5:=jC R5.out.box 4;simp only [stC,List.getElem?_toArray,List.getElem?_cons_zero,List.getElem?_cons_succ] at z5;clear o5 g5))
 obtain ⟨V2,hV2⟩:∃ W,w5.setCell ⟨b,4,none⟩ (.slice va1 Z1.length vc1)=W:=⟨_,rfl⟩
 rw [hV2]
 have SL:=hid (show SlV strF (fun k=>(p k \/ w.heap.size<=k)/\k ≠ b/\k ≠ w.heap.size+1) w5 (.slice va1 Z1.length vc1) Z1 from (sl_owned O5.out (by omega)).weaken fun k hk=>⟨Or.inr (by omega),by omega,by omega⟩)
 have Q2:=hid (show QX (fun k=>(p k \/ w.heap.size<=k)/\k ≠ b/\k ≠ w.heap.size+1) V0 b ⟨.slice va0 Z0.length vc0,.slice va1 Z1.length vc1,.slice a2 srow.length a22,.slice a3 ssets.length a33,.slice a4 swher.length a44,.slice a5 sorder.length a55⟩ ⟨sk,stb,snm,Z0,Z1,srow,ssets,swher,sj,sl,sr,sa,sorder,sm,sn⟩ V2 by
  rw [<- hV2]
  have hl:=R5.out.ls
  exact R5.out.put HP.out 4 _ rfl ⟨hl.cols,SL.out,hl.row,hl.sets,hl.wher,hl.order⟩)
 clear SL R5 O5 BU f5 z5 zu zb ou QU hrow hmin htl htc hsu hcap hV2 hU1
 obtain ⟨i2,hi2,hz20,hz21,hz22⟩:=info_parts (show (Tryz.prog.info? 60).map (fun i=>(i.zero,i.size,i.bytes))=some (some (.agg #[.int .i64 0,.int .i64 0,.string ByteArray.empty]),3,32) by kernel_rfl)
 have hg2:=Q2.out.g.size
 have za:=jC ((Q2.out.g.block _ (by omega) (fun e=>by simp at e;omega)).trans HAV.out.1) 5
 simp only [gT,gZ,gS] at za
 have zb:=(World.block_lt_of_cell? _ _ za)
 obtain ⟨U2,hU2⟩:∃ W,V2.alloc (.cells #[] 60)=W:=⟨_,rfl⟩
 have bu:Below V2.heap.size V2 U2:=by rw [<- hU2];exact (b0R).alloc (jR _) _
 have ou:=hid (show U2.ownsRow V2.heap.size 60 3 (.slice (some ⟨V2.heap.size,0,none⟩) 0 0) 0 [] from owns_mt7 3 (jR _) (by rw [<- hU2];exact heap_alloc_new _ _))
 have QU:=hid (Q2.out.below bu)
 have zu:=(bu.cell (p:=⟨w.heap.size,5,none⟩) zb).trans za
 have hv:SlV valR (fun k=>k<w.heap.size) U2 (.slice a2 srow.length a22) srow:=((HS0.out.row.weaken fun k hk=>hk.2).below HBV.out).keep fun k hk hlt=>QU.out.g.block k hlt (fun e=>by simp at e;omega)
 have hrow:=hid (row_take hv.row.2.2.2 14)
 have hcap:=hv.row.2.1
 have hmin:=min_len srow
 have htl:(srow.take 14).length<=14:=by rw [List.length_take];exact Nat.min_le_left _ _
 have htc:(srow.take 14).length<=a22:=by rw [List.length_take];omega
 obtain ⟨Z2,hZ2⟩:∃ Z,Z=srow.take 14:=⟨_,rfl⟩
 rw [<- hZ2] at hrow hmin htl htc
 have HZ2:=hid hZ2
 clear hZ2
 have hsu:=bu.size
 have BU:=hid bu
 clear za bu hv
 go_upto_region 5 with (at_builtin;go_loud (refine wpList_append_flat_at rfl _ _ 25 rfl V2.heap.size 60 i2 _ 3 32 Tryz.underlying25 hi2 hz20 hz21 hz22 rfl (by decide) (.slice (some ⟨V2.heap.size,0,none⟩) 0 0) 0 [] rfl ou.out (hl:=fun _=>rfl) Z2 _ _ rfl hrow.out (valL_cells _) (by unfold maxLen;omega) (by omega) hsu ?_;intro v' w5 o5 g5 at5;clear at5;rw [Nat.zero_add,List.nil_append] at o5;obtain ⟨va2,vc2,rfl⟩:=owned_shape o5;have R5:=hid (Q2.out.below (BU.out.trans ((Below.refl V2.heap.size U2).grown g5 hsu (fun q e=>(ou.out.lt q e).1))));have O5:=hid o5;have f5:=free_of R5.out.box 5;have z5:=jC R5.out.box 5;simp only [stC,List.getElem?_toArray,List.getElem?_cons_zero,List.getElem?_cons_succ] at z5;clear o5 g5))
 obtain ⟨V3,hV3⟩:∃ W,w5.setCell ⟨b,5,none⟩ (.slice va2 Z2.length vc2)=W:=⟨_,rfl⟩
 rw [hV3]
 have SL:=hid (show SlV valR (fun k=>(p k \/ w.heap.size<=k)/\k ≠ b/\k ≠ w.heap.size+1) w5 (.slice va2 Z2.length vc2) Z2 from (sl_owned O5.out (by omega)).weaken fun k hk=>⟨Or.inr (by omega),by omega,by omega⟩)
 have Q3:=hid (show QX (fun k=>(p k \/ w.heap.size<=k)/\k ≠ b/\k ≠ w.heap.size+1) V0 b ⟨.slice va0 Z0.length vc0,.slice va1 Z1.length vc1,.slice va2 Z2.length vc2,.slice a3 ssets.length a33,.slice a4 swher.length a44,.slice a5 sorder.length a55⟩ ⟨sk,stb,snm,Z0,Z1,Z2,ssets,swher,sj,sl,sr,sa,sorder,sm,sn⟩ V3 by
  rw [<- hV3]
  have hl:=R5.out.ls
  exact R5.out.put HP.out 5 _ rfl ⟨hl.cols,hl.names,SL.out,hl.sets,hl.wher,hl.order⟩)
 clear SL R5 O5 BU f5 z5 zu zb ou QU hrow hmin htl htc hsu hcap hV3 hU2
 obtain ⟨i3,hi3,hz30,hz31,hz32⟩:=info_parts (show (Tryz.prog.info? 96).map (fun i=>(i.zero,i.size,i.bytes))=some (some (.agg #[.string ByteArray.empty,.string ByteArray.empty,.int .i64 0,.int .i64 0,.string ByteArray.empty]),5,64) by kernel_rfl)
 have hg3:=Q3.out.g.size
 have za:=jC ((Q3.out.g.block _ (by omega) (fun e=>by simp at e;omega)).trans HAV.out.1) 6
 simp only [gT,gZ,gS] at za
 have zb:=(World.block_lt_of_cell? _ _ za)
 obtain ⟨U3,hU3⟩:∃ W,V3.alloc (.cells #[] 96)=W:=⟨_,rfl⟩
 have bu:Below V3.heap.size V3 U3:=by rw [<- hU3];exact (b0R).alloc (jR _) _
 have ou:=hid (show U3.ownsRow V3.heap.size 96 5 (.slice (some ⟨V3.heap.size,0,none⟩) 0 0) 0 [] from owns_mt7 5 (jR _) (by rw [<- hU3];exact heap_alloc_new _ _))
 have QU:=hid (Q3.out.below bu)
 have zu:=(bu.cell (p:=⟨w.heap.size,6,none⟩) zb).trans za
 have hv:SlV setR (fun k=>k<w.heap.size) U3 (.slice a3 ssets.length a33) ssets:=((HS0.out.sets.weaken fun k hk=>hk.2).below HBV.out).keep fun k hk hlt=>QU.out.g.block k hlt (fun e=>by simp at e;omega)
 have hrow:=hid (row_take hv.row.2.2.2 14)
 have hcap:=hv.row.2.1
 have hmin:=min_len ssets
 have htl:(ssets.take 14).length<=14:=by rw [List.length_take];exact Nat.min_le_left _ _
 have htc:(ssets.take 14).length<=a33:=by rw [List.length_take];omega
 obtain ⟨Z3,hZ3⟩:∃ Z,Z=ssets.take 14:=⟨_,rfl⟩
 rw [<- hZ3] at hrow hmin htl htc
 have HZ3:=hid hZ3
 clear hZ3
 have hsu:=bu.size
 have BU:=hid bu
 clear za bu hv
 go_upto_region 6 with (at_builtin;go_loud (refine wpList_append_flat_at rfl _ _ 26 rfl V3.heap.size 96 i3 _ 5 64 Tryz.underlying26 hi3 hz30 hz31 hz32 rfl (by decide) (.slice (some ⟨V3.heap.size,0,none⟩) 0 0) 0 [] rfl ou.out (hl:=fun _=>rfl) Z3 _ _ rfl hrow.out (setL_cells _) (by unfold maxLen;omega) (by omega) hsu ?_;intro v' w5 o5 g5 at5;clear at5;rw [Nat.zero_add,List.nil_append] at o5;obtain ⟨va3,vc3,rfl⟩:=owned_shape o5;have R5:=hid (Q3.out.below (BU.out.trans ((Below.refl V3.heap.size U3).grown g5 hsu (fun q e=>(ou.out.lt q e).1))));have O5:=hid o5;have f5:=free_of R5.out.box 6;have z5:=jC R5.out.box 6;simp only [stC,List.getElem?_toArray,List.getElem?_cons_zero,List.getElem?_cons_succ] at z5;clear o5 g5))
 obtain ⟨V4,hV4⟩:∃ W,w5.setCell ⟨b,6,none⟩ (.slice va3 Z3.length vc3)=W:=⟨_,rfl⟩
 rw [hV4]
 have SL:=hid (show SlV setR (fun k=>(p k \/ w.heap.size<=k)/\k ≠ b/\k ≠ w.heap.size+1) w5 (.slice va3 Z3.length vc3) Z3 from (sl_owned O5.out (by omega)).weaken fun k hk=>⟨Or.inr (by omega),by omega,by omega⟩)
 have Q4:=hid (show QX (fun k=>(p k \/ w.heap.size<=k)/\k ≠ b/\k ≠ w.heap.size+1) V0 b ⟨.slice va0 Z0.length vc0,.slice va1 Z1.length vc1,.slice va2 Z2.length vc2,.slice va3 Z3.length vc3,.slice a4 swher.length a44,.slice a5 sorder.length a55⟩ ⟨sk,stb,snm,Z0,Z1,Z2,Z3,swher,sj,sl,sr,sa,sorder,sm,sn⟩ V4 by
  rw [<- hV4]
  have hl:=R5.out.ls
  exact R5.out.put HP.out 6 _ rfl ⟨hl.cols,hl.names,hl.row,SL.out,hl.wher,hl.order⟩)
 clear SL R5 O5 BU f5 z5 zu zb ou QU hrow hmin htl htc hsu hcap hV4 hU3
 obtain ⟨i4,hi4,hz40,hz41,hz42⟩:=info_parts (show (Tryz.prog.info? 94).map (fun i=>(i.zero,i.size,i.bytes))=some (some (.agg #[.string ByteArray.empty,.int .i64 0,.int .i64 0,.int .i64 0,.string ByteArray.empty]),5,56) by kernel_rfl)
 have hg4:=Q4.out.g.size
 have za:=jC ((Q4.out.g.block _ (by omega) (fun e=>by simp at e;omega)).trans HAV.out.1) 7
 simp only [gT,gZ,gS] at za
 have zb:=(World.block_lt_of_cell? _ _ za)
 obtain ⟨U4,hU4⟩:∃ W,V4.alloc (.cells #[] 94)=W:=⟨_,rfl⟩
 have bu:Below V4.heap.size V4 U4:=by rw [<- hU4];exact (b0R).alloc (jR _) _
 have ou:=hid (show U4.ownsRow V4.heap.size 94 5 (.slice (some ⟨V4.heap.size,0,none⟩) 0 0) 0 [] from owns_mt7 5 (jR _) (by rw [<- hU4];exact heap_alloc_new _ _))
 have QU:=hid (Q4.out.below bu)
 have zu:=(bu.cell (p:=⟨w.heap.size,7,none⟩) zb).trans za
 have hv:SlV condR (fun k=>k<w.heap.size) U4 (.slice a4 swher.length a44) swher:=((HS0.out.wher.weaken fun k hk=>hk.2).below HBV.out).keep fun k hk hlt=>QU.out.g.block k hlt (fun e=>by simp at e;omega)
 have hrow:=hid (row_take hv.row.2.2.2 14)
 have hcap:=hv.row.2.1
 have hmin:=min_len swher
 have htl:(swher.take 14).length<=14:=by rw [List.length_take];exact Nat.min_le_left _ _
 have htc:(swher.take 14).length<=a44:=by rw [List.length_take];omega
 obtain ⟨Z4,hZ4⟩:∃ Z,Z=swher.take 14:=⟨_,rfl⟩
 rw [<- hZ4] at hrow hmin htl htc
 have HZ4:=hid hZ4
 clear hZ4
 have hsu:=bu.size
 have BU:=hid bu
 clear za bu hv
 go_upto_region 7 with (at_builtin;go_loud (refine wpList_append_flat_at rfl _ _ 27 rfl V4.heap.size 94 i4 _ 5 56 Tryz.underlying27 hi4 hz40 hz41 hz42 rfl (by decide) (.slice (some ⟨V4.heap.size,0,none⟩) 0 0) 0 [] rfl ou.out (hl:=fun _=>rfl) Z4 _ _ rfl hrow.out (condL_cells _) (by unfold maxLen;omega) (by omega) hsu ?_;intro v' w5 o5 g5 at5;clear at5;rw [Nat.zero_add,List.nil_append] at o5;obtain ⟨va4,vc4,rfl⟩:=owned_shape o5;have R5:=hid (Q4.out.below (BU.out.trans ((Below.refl V4.heap.size U4).grown g5 hsu (fun q e=>(ou.out.lt q e).1))));have O5:=hid o5;have f5:=free_of R5.out.box 7;have z5:=jC R5.out.box 7;simp only [stC,List.getElem?_toArray,List.getElem?_cons_zero,List.getElem?_cons_succ] at z5;clear o5 g5))
 obtain ⟨V5,hV5⟩:∃ W,w5.setCell ⟨b,7,none⟩ (.slice va4 Z4.length vc4)=W:=⟨_,rfl⟩
 rw [hV5]
 have SL:=hid (show SlV condR (fun k=>(p k \/ w.heap.size<=k)/\k ≠ b/\k ≠ w.heap.size+1) w5 (.slice va4 Z4.length vc4) Z4 from (sl_owned O5.out (by omega)).weaken fun k hk=>⟨Or.inr (by omega),by omega,by omega⟩)
 have Q5:=hid (show QX (fun k=>(p k \/ w.heap.size<=k)/\k ≠ b/\k ≠ w.heap.size+1) V0 b ⟨.slice va0 Z0.length vc0,.slice va1 Z1.length vc1,.slice va2 Z2.length vc2,.slice va3 Z3.length vc3,.slice va4 Z4.length vc4,.slice a5 sorder.length a55⟩ ⟨sk,stb,snm,Z0,Z1,Z2,Z3,Z4,sj,sl,sr,sa,sorder,sm,sn⟩ V5 by
  rw [<- hV5]
  have hl:=R5.out.ls
  exact R5.out.put HP.out 7 _ rfl ⟨hl.cols,hl.names,hl.row,hl.sets,SL.out,hl.order⟩)
 clear SL R5 O5 BU f5 z5 zu zb ou QU hrow hmin htl htc hsu hcap hV5 hU4
 obtain ⟨i5,hi5,hz50,hz51,hz52⟩:=info_parts (show (Tryz.prog.info? 9).map (fun i=>(i.zero,i.size,i.bytes))=some (some (.string ByteArray.empty),1,16) by kernel_rfl)
 have hg5:=Q5.out.g.size
 have za:=jC ((Q5.out.g.block _ (by omega) (fun e=>by simp at e;omega)).trans HAV.out.1) 12
 simp only [gT,gZ,gS] at za
 have zb:=(World.block_lt_of_cell? _ _ za)
 obtain ⟨U5,hU5⟩:∃ W,V5.alloc (.cells #[] 9)=W:=⟨_,rfl⟩
 have bu:Below V5.heap.size V5 U5:=by rw [<- hU5];exact (b0R).alloc (jR _) _
 have ou:=hid (show U5.ownsRow V5.heap.size 9 1 (.slice (some ⟨V5.heap.size,0,none⟩) 0 0) 0 [] from owns_mt7 1 (jR _) (by rw [<- hU5];exact heap_alloc_new _ _))
 have QU:=hid (Q5.out.below bu)
 have zu:=(bu.cell (p:=⟨w.heap.size,12,none⟩) zb).trans za
 have hv:SlV strF (fun k=>k<w.heap.size) U5 (.slice a5 sorder.length a55) sorder:=((HS0.out.order.weaken fun k hk=>hk.2).below HBV.out).keep fun k hk hlt=>QU.out.g.block k hlt (fun e=>by simp at e;omega)
 have hrow:=hid (row_take hv.row.2.2.2 14)
 have hcap:=hv.row.2.1
 have hmin:=min_len sorder
 have htl:(sorder.take 14).length<=14:=by rw [List.length_take];exact Nat.min_le_left _ _
 have htc:(sorder.take 14).length<=a55:=by rw [List.length_take];omega
 obtain ⟨Z5,hZ5⟩:∃ Z,Z=sorder.take 14:=⟨_,rfl⟩
 rw [<- hZ5] at hrow hmin htl htc
 have HZ5:=hid hZ5
 clear hZ5
 have hsu:=bu.size
 have BU:=hid bu
 clear za bu hv
 go_upto_region 8 with (at_builtin;go_loud (refine wpList_append_flat_at rfl _ _ 23 rfl V5.heap.size 9 i5 _ 1 16 Tryz.underlying23 hi5 hz50 hz51 hz52 rfl (by decide) (.slice (some ⟨V5.heap.size,0,none⟩) 0 0) 0 [] rfl ou.out (hl:=fun _=>rfl) Z5 _ _ rfl hrow.out (str_cells _) (by unfold maxLen;omega) (by omega) hsu ?_;intro v' w5 o5 g5 at5;clear at5;rw [Nat.zero_add,List.nil_append] at o5;obtain ⟨va5,vc5,rfl⟩:=owned_shape o5;have R5:=hid (Q5.out.below (BU.out.trans ((Below.refl V5.heap.size U5).grown g5 hsu (fun q e=>(ou.out.lt q e).1))));have O5:=hid o5;have f5:=free_of R5.out.box 12;have z5:=jC R5.out.box 12;simp only [stC,List.getElem?_toArray,List.getElem?_cons_zero,List.getElem?_cons_succ] at z5;clear o5 g5))
 obtain ⟨V6,hV6⟩:∃ W,w5.setCell ⟨b,12,none⟩ (.slice va5 Z5.length vc5)=W:=⟨_,rfl⟩
 rw [hV6]
 have SL:=hid (show SlV strF (fun k=>(p k \/ w.heap.size<=k)/\k ≠ b/\k ≠ w.heap.size+1) w5 (.slice va5 Z5.length vc5) Z5 from (sl_owned O5.out (by omega)).weaken fun k hk=>⟨Or.inr (by omega),by omega,by omega⟩)
 have Q6:=hid (show QX (fun k=>(p k \/ w.heap.size<=k)/\k ≠ b/\k ≠ w.heap.size+1) V0 b ⟨.slice va0 Z0.length vc0,.slice va1 Z1.length vc1,.slice va2 Z2.length vc2,.slice va3 Z3.length vc3,.slice va4 Z4.length vc4,.slice va5 Z5.length vc5⟩ ⟨sk,stb,snm,Z0,Z1,Z2,Z3,Z4,sj,sl,sr,sa,Z5,sm,sn⟩ V6 by
  rw [<- hV6]
  have hl:=R5.out.ls
  exact R5.out.put HP.out 12 _ rfl ⟨hl.cols,hl.names,hl.row,hl.sets,hl.wher,SL.out⟩)
 clear SL R5 O5 BU f5 z5 zu zb ou QU hrow hmin htl htc hsu hcap hV6 hU5
 have HRc:=hid ((Q6.out.g.block _ (by omega) (fun e=>by simp at e;omega)).trans HAV.out.2)
 have HB9:=hid Q6.out.box
 have hs9:=Q6.out.g.size
 have y0:=jC HB9.out 0
 have k0:=jC HRc.out 0
 have f0:=free_of HRc.out 0
 have y1:=jC HB9.out 1
 have k1:=jC HRc.out 1
 have f1:=free_of HRc.out 1
 have y2:=jC HB9.out 2
 have k2:=jC HRc.out 2
 have f2:=free_of HRc.out 2
 have y3:=jC HB9.out 3
 have k3:=jC HRc.out 3
 have f3:=free_of HRc.out 3
 have y4:=jC HB9.out 4
 have k4:=jC HRc.out 4
 have f4:=free_of HRc.out 4
 have y5:=jC HB9.out 5
 have k5:=jC HRc.out 5
 have f5:=free_of HRc.out 5
 have y6:=jC HB9.out 6
 have k6:=jC HRc.out 6
 have f6:=free_of HRc.out 6
 have y7:=jC HB9.out 7
 have k7:=jC HRc.out 7
 have f7:=free_of HRc.out 7
 have y8:=jC HB9.out 8
 have k8:=jC HRc.out 8
 have f8:=free_of HRc.out 8
 have y9:=jC HB9.out 9
 have k9:=jC HRc.out 9
 have f9:=free_of HRc.out 9
 have y10:=jC HB9.out 10
 have k10:=jC HRc.out 10
 have f10:=free_of HRc.out 10
 have y11:=jC HB9.out 11
 have k11:=jC HRc.out 11
 have f11:=free_of HRc.out 11
 have y12:=jC HB9.out 12
 have k12:=jC HRc.out 12
 have f12:=free_of HRc.out 12
 have y13:=jC HB9.out 13
 have k13:=jC HRc.out 13
 have f13:=free_of HRc.out 13
 have y14:=jC HB9.out 14
 have k14:=jC HRc.out 14
 have f14:=free_of HRc.out 14
 simp only [stC,nilL,stmt0,List.getElem?_toArray,List.getElem?_cons_zero,List.getElem?_cons_succ] at y0 k0 y1 k1 y2 k2 y3 k3 y4 k4 y5 k5 y6 k6 y7 k7 y8 k8 y9 k9 y10 k10 y11 k11 y12 k12 y13 k13 y14 k14
 go_wp2_with fail
 have ts9:=st_set HRc.out (.int .i64 sk) (.string stb) (.string snm) (.slice va0 Z0.length vc0) (.slice va1 Z1.length vc1) (.slice va2 Z2.length vc2) (.slice va3 Z3.length vc3) (.slice va4 Z4.length vc4) (.string sj) (.string sl) (.string sr) (.int .i64 sa) (.slice va5 Z5.length vc5) (.int .i64 sm) (.int .i64 sn)
 refine bodyPost_ret (results_cell_row rfl _ _ (w.heap.size+1) 29 _ (0,0) _ rfl ts9.1 Tryz.underlying29 rfl (by kernel_rfl)) rfl ?_
 rw [HPST.out]
 have hZZ:fewS ⟨sk,stb,snm,scols,snames,srow,ssets,swher,sj,sl,sr,sa,sorder,sm,sn⟩=⟨sk,stb,snm,Z0,Z1,Z2,Z3,Z4,sj,sl,sr,sa,Z5,sm,sn⟩:=by
  unfold fewS
  rw [HZ0.out,HZ1.out,HZ2.out,HZ3.out,HZ4.out,HZ5.out]
 rw [hZZ]
 refine ⟨⟨⟨.slice va0 Z0.length vc0,.slice va1 Z1.length vc1,.slice va2 Z2.length vc2,.slice va3 Z3.length vc3,.slice va4 Z4.length vc4,.slice va5 Z5.length vc5⟩,rfl,(Q6.out.ls.keep fun k hk hlt=>ts9.2.block k hk.2.2 hlt).weaken fun k hk=>hk.1⟩,?_⟩
 exact (HBV.out.grown Q6.out.g (by omega) fun q e=>by cases e;omega).trans (ts9.2.below (fun k hk=>by omega) (by omega))
end
end Go.Proofs.YtieojjngeibnmaaGreatDoor
