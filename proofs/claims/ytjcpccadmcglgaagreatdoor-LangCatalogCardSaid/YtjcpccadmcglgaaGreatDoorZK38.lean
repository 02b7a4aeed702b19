/- tokens: a statement, printed. -/
import Derived.Test.YtjcpccadmcglgaaGreatDoorZK36
import Derived.Test.YtjcpccadmcglgaaGreatDoorZK37
set_option linter.unusedVariables false
set_option linter.unusedSimpArgs false
set_option maxRecDepth 100000
set_option maxHeartbeats 64000000
namespace Go.Proofs.YtjcpccadmcglgaaGreatDoor
open Go.Lib (hid)
section
open Go.RowKit
theorem ptokens_any {X:Nat->Prop} {b:Nat} {acc:List ByteArray} {L:Lists} {s:Stmt} {w:World} (h:QAt X b acc w) (hs:SlsAt (fun k=>k<b) w L s) (ok:StOk s) (hacc:acc.length<=1000) :
 Calls Tryz.prog 35 #[.pointer (some ⟨b,0,none⟩),.agg (stC L s)] w (QStep X b (acc ++ tokensP s) w):=by
 obtain ⟨⟨ca,cc,e1⟩,⟨na,nc,e2⟩,⟨ra,rc,e3⟩,⟨ea,ec,e4⟩,⟨wa,wc,e5⟩,⟨oa,oc,e6⟩⟩:=hs.shapes
 obtain ⟨Lc,Ln,Lr,Ls,Lw,Lo⟩:=L
 simp only at e1 e2 e3 e4 e5 e6
 subst e1 e2 e3 e4 e5 e6
 obtain ⟨sk,stb,snm,scols,snames,srow,ssets,swher,sj,sl,sr,sa,sorder,sm,sn⟩:=s
 simp only [stC] at *
 by_cases k1:sk=1
 · subst k1
   obtain ⟨Pst,hPst⟩:∃ Pst,Pst=QStep X b (acc ++ tokensP ⟨1,stb,snm,scols,snames,srow,ssets,swher,sj,sl,sr,sa,sorder,sm,sn⟩) w:=⟨_,rfl⟩
   have HPST:=hid hPst
   rw [<- hPst]
   clear hPst
   obtain ⟨W1,hW1⟩:∃ W,w.alloc (.cells #[.pointer (some ⟨b,0,none⟩)] 102)=W:=⟨_,rfl⟩
   have h1s:W1.heap.size=w.heap.size+1:=by rw [<- hW1];simp
   obtain ⟨W2,hW2⟩:∃ W,W1.alloc (.cells #[.int .i64 1,.string stb,.string snm,.slice ca scols.length cc,.slice na snames.length nc,.slice ra srow.length rc,.slice ea ssets.length ec,.slice wa swher.length wc,.string sj,.string sl,.string sr,.int .i64 sa,.slice oa sorder.length oc,.int .i64 sm,.int .i64 sn] 33)=W:=⟨_,rfl⟩
   have h2s:W2.heap.size=w.heap.size+2:=by rw [<- hW2];simp [h1s]
   have b2:Below w.heap.size w W2:=by rw [<- hW2,<- hW1];exact ((b0R).alloc (jR _) _).alloc (by simp) _
   have hb0:W2.heap[w.heap.size]? = some (.cells #[.pointer (some ⟨b,0,none⟩)] 102 (0,0)):=by rw [<- hW2,heap_alloc_old _ _ (by omega),<- hW1];exact heap_alloc_new _ _
   have hb1:W2.heap[w.heap.size+1]? = some (.cells #[.int .i64 1,.string stb,.string snm,.slice ca scols.length cc,.slice na snames.length nc,.slice ra srow.length rc,.slice ea ssets.length ec,.slice wa swher.length wc,.string sj,.string sl,.string sr,.int .i64 sa,.slice oa sorder.length oc,.int .i64 sm,.int .i64 sn] 33 (0,0)):=by rw [<- hW2,<- h1s];exact heap_alloc_new _ _
   obtain ⟨Y,hY⟩:∃ Y:Nat->Prop,Y=fun k=>X k \/ (w.heap.size<=k/\k<W2.heap.size):=⟨_,rfl⟩
   have Q2:=hid (show QAt Y b acc W2 by rw [hY];exact h.more b2 (fun _ hk=>Or.inl hk) (fun _ hk=>hk))
   have ZQ:=hid (show ∀ l e w',QStep Y b l W2 e w'->QStep X b l w e w' from fun l e w' s=>QStep.with h b2 (by rw [<- hY];exact s))
   have HK2:=hid (Kept.refl Y W2)
   have YO:=hid (show ∀ k,k<b->Y k from fun k hk=>by rw [hY];exact Or.inl (h.old k hk))
   have PB:=hid (show ∀ w',Kept Y W2 w'->w'.heap[w.heap.size]? = some (.cells #[.pointer (some ⟨b,0,none⟩)] 102 (0,0)) from fun w' k=>(k.block _ (by rw [hY];exact Or.inr ⟨by omega,by omega⟩) (jB hb0)).trans hb0)
   have SB:=hid (show ∀ w',Kept Y W2 w'->w'.heap[w.heap.size+1]? = some (.cells #[.int .i64 1,.string stb,.string snm,.slice ca scols.length cc,.slice na snames.length nc,.slice ra srow.length rc,.slice ea ssets.length ec,.slice wa swher.length wc,.string sj,.string sl,.string sr,.int .i64 sa,.slice oa sorder.length oc,.int .i64 sm,.int .i64 sn] 33 (0,0)) from fun w' k=>(k.block _ (by rw [hY];exact Or.inr ⟨by omega,by omega⟩) (jB hb1)).trans hb1)
   have LK:=hid (show ∀ w',Kept Y W2 w'->SlsAt (fun k=>k<b) w' ⟨.slice ca scols.length cc,.slice na snames.length nc,.slice ra srow.length rc,.slice ea ssets.length ec,.slice wa swher.length wc,.slice oa sorder.length oc⟩ ⟨1,stb,snm,scols,snames,srow,ssets,swher,sj,sl,sr,sa,sorder,sm,sn⟩ from fun w' k=>(hs.below b2).keep fun j hj hlt=>k.block j (YO.out j hj) hlt)
   have OK:=hid ok
   have YP:=hid (show Y w.heap.size by rw [hY];exact Or.inr ⟨jR _,by omega⟩)
   clear h hs ok b2 hY hb0 hb1
   have zk:=jC (SB.out _ HK2.out) 0
   simp only [gT,gZ,gS] at zk
   go_enter Tryz.func35,Tryz.ntmps35
   have zp:=jC (PB.out _ HK2.out) 0
   have z1:=jC (SB.out _ HK2.out) 1
   simp only [gT,gZ,gS] at zp z1
   have con:=add_words (w1:=W2.alloc (.cells (([w_create,w_table,stb,w_lp]:List ByteArray).map Value.string).toArray 9)) [w_create,w_table,stb,w_lp] (by simp) Q2.out rfl (by show acc.length+4<=1000000;omega)
   rw [h2s] at con
   go_wp2_with fail
   refine con.mono ?_
   rintro e w3 ⟨rfl,k3,q3⟩
   obtain ⟨A3,hA3⟩:∃ A,A=acc ++ ([w_create,w_table,stb,w_lp]:List ByteArray):=⟨_,rfl⟩
   have hL3:A3.length<=1004:=by
    rw [hA3,List.length_append]
    show acc.length+4<=1004;omega
   rw [<- hA3] at q3
   have EA3:=hid hA3
   have HK3:=hid (HK2.out.trans k3)
   have Q3:=hid q3
   clear con k3 q3 hA3
   clear zp z1
   clear zk
   have zp:=jC (PB.out _ HK3.out) 0
   have z3:=jC (SB.out _ HK3.out) 3
   simp only [gT,gZ,gS] at zp z3
   have con:=all_any (m:=2) (bt:=w_comma) (f:=colP) (L:=scols) (c0:=.pointer (some ⟨w.heap.size+1,0,none⟩)) (c1:=.pointer (some ⟨w.heap.size,0,none⟩)) Q3.out (enters_of Tryz.func70 (by kernel_rfl) rfl) (fun i hi a w1 qa k hb=>ptok1_any qa (PB.out _ (HK3.out.trans k)) (SB.out _ (HK3.out.trans k)) (LK.out _ (HK3.out.trans k)).cols i hi hb) (fun _ _=>jR 2) (by decide) (by omega) OK.out.short.cols
   go_wp2_with fail
   refine con.mono ?_
   rintro e w4 ⟨rfl,k4,q4⟩
   obtain ⟨A4,hA4⟩:∃ A,A=A3 ++ sepP w_comma colP scols:=⟨_,rfl⟩
   have hL4:A4.length<=20000:=by
    rw [hA4,List.length_append]
    have:=sep_len w_comma colP 2 scols (fun _ _=>jR 2);have h99:=OK.out.short.cols
    try simp only at h99
    omega
   rw [<- hA4] at q4
   have EA4:=hid hA4
   have HK4:=hid (HK3.out.trans k4)
   have Q4:=hid q4
   clear con k4 q4 hA4
   clear zp z3
   have zp:=jC (PB.out _ HK4.out) 0
   simp only [gT,gZ,gS] at zp
   have con:=add_words (w1:=w4.alloc (.cells (([w_rp]:List ByteArray).map Value.string).toArray 9)) [w_rp] (by simp) Q4.out rfl (by show A4.length+1<=1000000;omega)
   go_wp2_with fail
   refine con.mono ?_
   rintro e w5 ⟨rfl,k5,q5⟩
   obtain ⟨A5,hA5⟩:∃ A,A=A4 ++ ([w_rp]:List ByteArray):=⟨_,rfl⟩
   have hL5:A5.length<=20001:=by
    rw [hA5,List.length_append]
    show A4.length+1<=20001;omega
   rw [<- hA5] at q5
   have EA5:=hid hA5
   have HK5:=hid (HK4.out.trans k5)
   have Q5:=hid q5
   clear con k5 q5 hA5
   clear zp
   go_wp2_with fail
   go_end0
   rw [HPST.out]
   refine ZQ.out _ _ _ ⟨rfl,HK5.out,?_⟩
   have e:A5=acc ++ tokensP ⟨1,stb,snm,scols,snames,srow,ssets,swher,sj,sl,sr,sa,sorder,sm,sn⟩:=by rw [EA5.out,EA4.out,EA3.out];first|rfl|(simp only [List.append_assoc];rfl)
   rw [<- e]
   exact Q5.out
 · skip
   by_cases k2:sk=2
   · subst k2
     obtain ⟨Pst,hPst⟩:∃ Pst,Pst=QStep X b (acc ++ tokensP ⟨2,stb,snm,scols,snames,srow,ssets,swher,sj,sl,sr,sa,sorder,sm,sn⟩) w:=⟨_,rfl⟩
     have HPST:=hid hPst
     rw [<- hPst]
     clear hPst
     obtain ⟨W1,hW1⟩:∃ W,w.alloc (.cells #[.pointer (some ⟨b,0,none⟩)] 102)=W:=⟨_,rfl⟩
     have h1s:W1.heap.size=w.heap.size+1:=by rw [<- hW1];simp
     obtain ⟨W2,hW2⟩:∃ W,W1.alloc (.cells #[.int .i64 2,.string stb,.string snm,.slice ca scols.length cc,.slice na snames.length nc,.slice ra srow.length rc,.slice ea ssets.length ec,.slice wa swher.length wc,.string sj,.string sl,.string sr,.int .i64 sa,.slice oa sorder.length oc,.int .i64 sm,.int .i64 sn] 33)=W:=⟨_,rfl⟩
     have h2s:W2.heap.size=w.heap.size+2:=by rw [<- hW2];simp [h1s]
     have b2:Below w.heap.size w W2:=by rw [<- hW2,<- hW1];exact ((b0R).alloc (jR _) _).alloc (by simp) _
     have hb0:W2.heap[w.heap.size]? = some (.cells #[.pointer (some ⟨b,0,none⟩)] 102 (0,0)):=by rw [<- hW2,heap_alloc_old _ _ (by omega),<- hW1];exact heap_alloc_new _ _
     have hb1:W2.heap[w.heap.size+1]? = some (.cells #[.int .i64 2,.string stb,.string snm,.slice ca scols.length cc,.slice na snames.length nc,.slice ra srow.length rc,.slice ea ssets.length ec,.slice wa swher.length wc,.string sj,.string sl,.string sr,.int .i64 sa,.slice oa sorder.length oc,.int .i64 sm,.int .i64 sn] 33 (0,0)):=by rw [<- hW2,<- h1s];exact heap_alloc_new _ _
     obtain ⟨Y,hY⟩:∃ Y:Nat->Prop,Y=fun k=>X k \/ (w.heap.size<=k/\k<W2.heap.size):=⟨_,rfl⟩
     have Q2:=hid (show QAt Y b acc W2 by rw [hY];exact h.more b2 (fun _ hk=>Or.inl hk) (fun _ hk=>hk))
     have ZQ:=hid (show ∀ l e w',QStep Y b l W2 e w'->QStep X b l w e w' from fun l e w' s=>QStep.with h b2 (by rw [<- hY];exact s))
     have HK2:=hid (Kept.refl Y W2)
     have YO:=hid (show ∀ k,k<b->Y k from fun k hk=>by rw [hY];exact Or.inl (h.old k hk))
     have PB:=hid (show ∀ w',Kept Y W2 w'->w'.heap[w.heap.size]? = some (.cells #[.pointer (some ⟨b,0,none⟩)] 102 (0,0)) from fun w' k=>(k.block _ (by rw [hY];exact Or.inr ⟨by omega,by omega⟩) (jB hb0)).trans hb0)
     have SB:=hid (show ∀ w',Kept Y W2 w'->w'.heap[w.heap.size+1]? = some (.cells #[.int .i64 2,.string stb,.string snm,.slice ca scols.length cc,.slice na snames.length nc,.slice ra srow.length rc,.slice ea ssets.length ec,.slice wa swher.length wc,.string sj,.string sl,.string sr,.int .i64 sa,.slice oa sorder.length oc,.int .i64 sm,.int .i64 sn] 33 (0,0)) from fun w' k=>(k.block _ (by rw [hY];exact Or.inr ⟨by omega,by omega⟩) (jB hb1)).trans hb1)
     have LK:=hid (show ∀ w',Kept Y W2 w'->SlsAt (fun k=>k<b) w' ⟨.slice ca scols.length cc,.slice na snames.length nc,.slice ra srow.length rc,.slice ea ssets.length ec,.slice wa swher.length wc,.slice oa sorder.length oc⟩ ⟨2,stb,snm,scols,snames,srow,ssets,swher,sj,sl,sr,sa,sorder,sm,sn⟩ from fun w' k=>(hs.below b2).keep fun j hj hlt=>k.block j (YO.out j hj) hlt)
     have OK:=hid ok
     have YP:=hid (show Y w.heap.size by rw [hY];exact Or.inr ⟨jR _,by omega⟩)
     clear h hs ok b2 hY hb0 hb1
     have zk:=jC (SB.out _ HK2.out) 0
     simp only [gT,gZ,gS] at zk
     go_enter Tryz.func35,Tryz.ntmps35
     have zp:=jC (PB.out _ HK2.out) 0
     have z2:=jC (SB.out _ HK2.out) 2
     have z1:=jC (SB.out _ HK2.out) 1
     simp only [gT,gZ,gS] at zp z2 z1
     have con:=add_words (w1:=W2.alloc (.cells (([w_create,w_index,snm,w_on,stb,w_lp]:List ByteArray).map Value.string).toArray 9)) [w_create,w_index,snm,w_on,stb,w_lp] (by simp) Q2.out rfl (by show acc.length+6<=1000000;omega)
     rw [h2s] at con
     go_wp2_with fail
     refine con.mono ?_
     rintro e w3 ⟨rfl,k3,q3⟩
     obtain ⟨A3,hA3⟩:∃ A,A=acc ++ ([w_create,w_index,snm,w_on,stb,w_lp]:List ByteArray):=⟨_,rfl⟩
     have hL3:A3.length<=1006:=by
      rw [hA3,List.length_append]
      show acc.length+6<=1006;omega
     rw [<- hA3] at q3
     have EA3:=hid hA3
     have HK3:=hid (HK2.out.trans k3)
     have Q3:=hid q3
     clear con k3 q3 hA3
     clear zp z2 z1
     clear zk
     have zp:=jC (PB.out _ HK3.out) 0
     have z4:=jC (SB.out _ HK3.out) 4
     simp only [gT,gZ,gS] at zp z4
     have con:=pnames_any Q3.out (LK.out _ HK3.out).names (by omega) OK.out.short.names
     go_wp2_with fail
     refine con.mono ?_
     rintro e w4 ⟨rfl,k4,q4⟩
     obtain ⟨A4,hA4⟩:∃ A,A=A3 ++ namesP snames:=⟨_,rfl⟩
     have hL4:A4.length<=20000:=by
      rw [hA4,List.length_append]
      have:=names_len (l:=snames) OK.out.short.names;omega
     rw [<- hA4] at q4
     have EA4:=hid hA4
     have HK4:=hid (HK3.out.trans k4)
     have Q4:=hid q4
     clear con k4 q4 hA4
     clear zp z4
     have zp:=jC (PB.out _ HK4.out) 0
     simp only [gT,gZ,gS] at zp
     have con:=add_words (w1:=w4.alloc (.cells (([w_rp]:List ByteArray).map Value.string).toArray 9)) [w_rp] (by simp) Q4.out rfl (by show A4.length+1<=1000000;omega)
     go_wp2_with fail
     refine con.mono ?_
     rintro e w5 ⟨rfl,k5,q5⟩
     obtain ⟨A5,hA5⟩:∃ A,A=A4 ++ ([w_rp]:List ByteArray):=⟨_,rfl⟩
     have hL5:A5.length<=20001:=by
      rw [hA5,List.length_append]
      show A4.length+1<=20001;omega
     rw [<- hA5] at q5
     have EA5:=hid hA5
     have HK5:=hid (HK4.out.trans k5)
     have Q5:=hid q5
     clear con k5 q5 hA5
     clear zp
     go_wp2_with fail
     go_end0
     rw [HPST.out]
     refine ZQ.out _ _ _ ⟨rfl,HK5.out,?_⟩
     have e:A5=acc ++ tokensP ⟨2,stb,snm,scols,snames,srow,ssets,swher,sj,sl,sr,sa,sorder,sm,sn⟩:=by rw [EA5.out,EA4.out,EA3.out];first|rfl|(simp only [List.append_assoc];rfl)
     rw [<- e]
     exact Q5.out
   · skip
     by_cases k3:sk=3
     · subst k3
       obtain ⟨Pst,hPst⟩:∃ Pst,Pst=QStep X b (acc ++ tokensP ⟨3,stb,snm,scols,snames,srow,ssets,swher,sj,sl,sr,sa,sorder,sm,sn⟩) w:=⟨_,rfl⟩
       have HPST:=hid hPst
       rw [<- hPst]
       clear hPst
       obtain ⟨W1,hW1⟩:∃ W,w.alloc (.cells #[.pointer (some ⟨b,0,none⟩)] 102)=W:=⟨_,rfl⟩
       have h1s:W1.heap.size=w.heap.size+1:=by rw [<- hW1];simp
       obtain ⟨W2,hW2⟩:∃ W,W1.alloc (.cells #[.int .i64 3,.string stb,.string snm,.slice ca scols.length cc,.slice na snames.length nc,.slice ra srow.length rc,.slice ea ssets.length ec,.slice wa swher.length wc,.string sj,.string sl,.string sr,.int .i64 sa,.slice oa sorder.length oc,.int .i64 sm,.int .i64 sn] 33)=W:=⟨_,rfl⟩
       have h2s:W2.heap.size=w.heap.size+2:=by rw [<- hW2];simp [h1s]
       have b2:Below w.heap.size w W2:=by rw [<- hW2,<- hW1];exact ((b0R).alloc (jR _) _).alloc (by simp) _
       have hb0:W2.heap[w.heap.size]? = some (.cells #[.pointer (some ⟨b,0,none⟩)] 102 (0,0)):=by rw [<- hW2,heap_alloc_old _ _ (by omega),<- hW1];exact heap_alloc_new _ _
       have hb1:W2.heap[w.heap.size+1]? = some (.cells #[.int .i64 3,.string stb,.string snm,.slice ca scols.length cc,.slice na snames.length nc,.slice ra srow.length rc,.slice ea ssets.length ec,.slice wa swher.length wc,.string sj,.string sl,.string sr,.int .i64 sa,.slice oa sorder.length oc,.int .i64 sm,.int .i64 sn] 33 (0,0)):=by rw [<- hW2,<- h1s];exact heap_alloc_new _ _
       obtain ⟨Y,hY⟩:∃ Y:Nat->Prop,Y=fun k=>X k \/ (w.heap.size<=k/\k<W2.heap.size):=⟨_,rfl⟩
       have Q2:=hid (show QAt Y b acc W2 by rw [hY];exact h.more b2 (fun _ hk=>Or.inl hk) (fun _ hk=>hk))
       have ZQ:=hid (show ∀ l e w',QStep Y b l W2 e w'->QStep X b l w e w' from fun l e w' s=>QStep.with h b2 (by rw [<- hY];exact s))
       have HK2:=hid (Kept.refl Y W2)
       have YO:=hid (show ∀ k,k<b->Y k from fun k hk=>by rw [hY];exact Or.inl (h.old k hk))
       have PB:=hid (show ∀ w',Kept Y W2 w'->w'.heap[w.heap.size]? = some (.cells #[.pointer (some ⟨b,0,none⟩)] 102 (0,0)) from fun w' k=>(k.block _ (by rw [hY];exact Or.inr ⟨by omega,by omega⟩) (jB hb0)).trans hb0)
       have SB:=hid (show ∀ w',Kept Y W2 w'->w'.heap[w.heap.size+1]? = some (.cells #[.int .i64 3,.string stb,.string snm,.slice ca scols.length cc,.slice na snames.length nc,.slice ra srow.length rc,.slice ea ssets.length ec,.slice wa swher.length wc,.string sj,.string sl,.string sr,.int .i64 sa,.slice oa sorder.length oc,.int .i64 sm,.int .i64 sn] 33 (0,0)) from fun w' k=>(k.block _ (by rw [hY];exact Or.inr ⟨by omega,by omega⟩) (jB hb1)).trans hb1)
       have LK:=hid (show ∀ w',Kept Y W2 w'->SlsAt (fun k=>k<b) w' ⟨.slice ca scols.length cc,.slice na snames.length nc,.slice ra srow.length rc,.slice ea ssets.length ec,.slice wa swher.length wc,.slice oa sorder.length oc⟩ ⟨3,stb,snm,scols,snames,srow,ssets,swher,sj,sl,sr,sa,sorder,sm,sn⟩ from fun w' k=>(hs.below b2).keep fun j hj hlt=>k.block j (YO.out j hj) hlt)
       have OK:=hid ok
       have YP:=hid (show Y w.heap.size by rw [hY];exact Or.inr ⟨jR _,by omega⟩)
       clear h hs ok b2 hY hb0 hb1
       have zk:=jC (SB.out _ HK2.out) 0
       simp only [gT,gZ,gS] at zk
       go_enter Tryz.func35,Tryz.ntmps35
       have zp:=jC (PB.out _ HK2.out) 0
       have z1:=jC (SB.out _ HK2.out) 1
       have z2:=jC (SB.out _ HK2.out) 2
       have z8:=jC (SB.out _ HK2.out) 8
       simp only [gT,gZ,gS] at zp z1 z2 z8
       have con:=add_words (w1:=W2.alloc (.cells (([w_rename,stb,snm,w_to,sj]:List ByteArray).map Value.string).toArray 9)) [w_rename,stb,snm,w_to,sj] (by simp) Q2.out rfl (by show acc.length+5<=1000000;omega)
       rw [h2s] at con
       go_wp2_with fail
       refine con.mono ?_
       rintro e w3 ⟨rfl,k3,q3⟩
       obtain ⟨A3,hA3⟩:∃ A,A=acc ++ ([w_rename,stb,snm,w_to,sj]:List ByteArray):=⟨_,rfl⟩
       have hL3:A3.length<=1005:=by
        rw [hA3,List.length_append]
        show acc.length+5<=1005;omega
       rw [<- hA3] at q3
       have EA3:=hid hA3
       have HK3:=hid (HK2.out.trans k3)
       have Q3:=hid q3
       clear con k3 q3 hA3
       clear zp z1 z2 z8
       clear zk
       go_wp2_with fail
       go_end0
       rw [HPST.out]
       refine ZQ.out _ _ _ ⟨rfl,HK3.out,?_⟩
       have e:A3=acc ++ tokensP ⟨3,stb,snm,scols,snames,srow,ssets,swher,sj,sl,sr,sa,sorder,sm,sn⟩:=by rw [EA3.out];first|rfl|(simp only [List.append_assoc];rfl)
       rw [<- e]
       exact Q3.out
     · skip
       by_cases k4:sk=4
       · subst k4
         obtain ⟨Pst,hPst⟩:∃ Pst,Pst=QStep X b (acc ++ tokensP ⟨4,stb,snm,scols,snames,srow,ssets,swher,sj,sl,sr,sa,sorder,sm,sn⟩) w:=⟨_,rfl⟩
         have HPST:=hid hPst
         rw [<- hPst]
         clear hPst
         obtain ⟨W1,hW1⟩:∃ W,w.alloc (.cells #[.pointer (some ⟨b,0,none⟩)] 102)=W:=⟨_,rfl⟩
         have h1s:W1.heap.size=w.heap.size+1:=by rw [<- hW1];simp
         obtain ⟨W2,hW2⟩:∃ W,W1.alloc (.cells #[.int .i64 4,.string stb,.string snm,.slice ca scols.length cc,.slice na snames.length nc,.slice ra srow.length rc,.slice ea ssets.length ec,.slice wa swher.length wc,.string sj,.string sl,.string sr,.int .i64 sa,.slice oa sorder.length oc,.int .i64 sm,.int .i64 sn] 33)=W:=⟨_,rfl⟩
         have h2s:W2.heap.size=w.heap.size+2:=by rw [<- hW2];simp [h1s]
         have b2:Below w.heap.size w W2:=by rw [<- hW2,<- hW1];exact ((b0R).alloc (jR _) _).alloc (by simp) _
         have hb0:W2.heap[w.heap.size]? = some (.cells #[.pointer (some ⟨b,0,none⟩)] 102 (0,0)):=by rw [<- hW2,heap_alloc_old _ _ (by omega),<- hW1];exact heap_alloc_new _ _
         have hb1:W2.heap[w.heap.size+1]? = some (.cells #[.int .i64 4,.string stb,.string snm,.slice ca scols.length cc,.slice na snames.length nc,.slice ra srow.length rc,.slice ea ssets.length ec,.slice wa swher.length wc,.string sj,.string sl,.string sr,.int .i64 sa,.slice oa sorder.length oc,.int .i64 sm,.int .i64 sn] 33 (0,0)):=by rw [<- hW2,<- h1s];exact heap_alloc_new _ _
         obtain ⟨Y,hY⟩:∃ Y:Nat->Prop,Y=fun k=>X k \/ (w.heap.size<=k/\k<W2.heap.size):=⟨_,rfl⟩
         have Q2:=hid (show QAt Y b acc W2 by rw [hY];exact h.more b2 (fun _ hk=>Or.inl hk) (fun _ hk=>hk))
         have ZQ:=hid (show ∀ l e w',QStep Y b l W2 e w'->QStep X b l w e w' from fun l e w' s=>QStep.with h b2 (by rw [<- hY];exact s))
         have HK2:=hid (Kept.refl Y W2)
         have YO:=hid (show ∀ k,k<b->Y k from fun k hk=>by rw [hY];exact Or.inl (h.old k hk))
         have PB:=hid (show ∀ w',Kept Y W2 w'->w'.heap[w.heap.size]? = some (.cells #[.pointer (some ⟨b,0,none⟩)] 102 (0,0)) from fun w' k=>(k.block _ (by rw [hY];exact Or.inr ⟨by omega,by omega⟩) (jB hb0)).trans hb0)
         have SB:=hid (show ∀ w',Kept Y W2 w'->w'.heap[w.heap.size+1]? = some (.cells #[.int .i64 4,.string stb,.string snm,.slice ca scols.length cc,.slice na snames.length nc,.slice ra srow.length rc,.slice ea ssets.length ec,.slice wa swher.length wc,.string sj,.string sl,.string sr,.int .i64 sa,.slice oa sorder.length oc,.int .i64 sm,.int .i64 sn] 33 (0,0)) from fun w' k=>(k.block _ (by rw [hY];exact Or.inr ⟨by omega,by omega⟩) (jB hb1)).trans hb1)
         have LK:=hid (show ∀ w',Kept Y W2 w'->SlsAt (fun k=>k<b) w' ⟨.slice ca scols.length cc,.slice na snames.length nc,.slice ra srow.length rc,.slice ea ssets.length ec,.slice wa swher.length wc,.slice oa sorder.length oc⟩ ⟨4,stb,snm,scols,snames,srow,ssets,swher,sj,sl,sr,sa,sorder,sm,sn⟩ from fun w' k=>(hs.below b2).keep fun j hj hlt=>k.block j (YO.out j hj) hlt)
         have OK:=hid ok
         have YP:=hid (show Y w.heap.size by rw [hY];exact Or.inr ⟨jR _,by omega⟩)
         clear h hs ok b2 hY hb0 hb1
         have zk:=jC (SB.out _ HK2.out) 0
         simp only [gT,gZ,gS] at zk
         go_enter Tryz.func35,Tryz.ntmps35
         have zp:=jC (PB.out _ HK2.out) 0
         have z1:=jC (SB.out _ HK2.out) 1
         simp only [gT,gZ,gS] at zp z1
         have con:=add_words (w1:=W2.alloc (.cells (([w_insert,w_into,stb,w_values,w_lp]:List ByteArray).map Value.string).toArray 9)) [w_insert,w_into,stb,w_values,w_lp] (by simp) Q2.out rfl (by show acc.length+5<=1000000;omega)
         rw [h2s] at con
         go_wp2_with fail
         refine con.mono ?_
         rintro e w3 ⟨rfl,k3,q3⟩
         obtain ⟨A3,hA3⟩:∃ A,A=acc ++ ([w_insert,w_into,stb,w_values,w_lp]:List ByteArray):=⟨_,rfl⟩
         have hL3:A3.length<=1005:=by
          rw [hA3,List.length_append]
          show acc.length+5<=1005;omega
         rw [<- hA3] at q3
         have EA3:=hid hA3
         have HK3:=hid (HK2.out.trans k3)
         have Q3:=hid q3
         clear con k3 q3 hA3
         clear zp z1
         clear zk
         have zp:=jC (PB.out _ HK3.out) 0
         have z5:=jC (SB.out _ HK3.out) 5
         simp only [gT,gZ,gS] at zp z5
         have con:=all_any (m:=1) (bt:=w_comma) (f:=valP) (L:=srow) (c0:=.pointer (some ⟨w.heap.size,0,none⟩)) (c1:=.pointer (some ⟨w.heap.size+1,0,none⟩)) Q3.out (enters_of Tryz.func72 (by kernel_rfl) rfl) (fun i hi a w1 qa k hb=>ptok2_any qa (PB.out _ (HK3.out.trans k)) (SB.out _ (HK3.out.trans k)) (LK.out _ (HK3.out.trans k)).row OK.out.row i hi hb) (fun _ _=>jR 1) (by decide) (by omega) OK.out.short.row
         go_wp2_with fail
         refine con.mono ?_
         rintro e w4 ⟨rfl,k4,q4⟩
         obtain ⟨A4,hA4⟩:∃ A,A=A3 ++ sepP w_comma valP srow:=⟨_,rfl⟩
         have hL4:A4.length<=20000:=by
          rw [hA4,List.length_append]
          have:=sep_len w_comma valP 1 srow (fun _ _=>jR 1);have h99:=OK.out.short.row
          try simp only at h99
          omega
         rw [<- hA4] at q4
         have EA4:=hid hA4
         have HK4:=hid (HK3.out.trans k4)
         have Q4:=hid q4
         clear con k4 q4 hA4
         clear zp z5
         have zp:=jC (PB.out _ HK4.out) 0
         simp only [gT,gZ,gS] at zp
         have con:=add_words (w1:=w4.alloc (.cells (([w_rp]:List ByteArray).map Value.string).toArray 9)) [w_rp] (by simp) Q4.out rfl (by show A4.length+1<=1000000;omega)
         go_wp2_with fail
         refine con.mono ?_
         rintro e w5 ⟨rfl,k5,q5⟩
         obtain ⟨A5,hA5⟩:∃ A,A=A4 ++ ([w_rp]:List ByteArray):=⟨_,rfl⟩
         have hL5:A5.length<=20001:=by
          rw [hA5,List.length_append]
          show A4.length+1<=20001;omega
         rw [<- hA5] at q5
         have EA5:=hid hA5
         have HK5:=hid (HK4.out.trans k5)
         have Q5:=hid q5
         clear con k5 q5 hA5
         clear zp
         go_wp2_with fail
         go_end0
         rw [HPST.out]
         refine ZQ.out _ _ _ ⟨rfl,HK5.out,?_⟩
         have e:A5=acc ++ tokensP ⟨4,stb,snm,scols,snames,srow,ssets,swher,sj,sl,sr,sa,sorder,sm,sn⟩:=by rw [EA5.out,EA4.out,EA3.out];first|rfl|(simp only [List.append_assoc];rfl)
         rw [<- e]
         exact Q5.out
       · skip
         by_cases k5:sk=5
         · subst k5
           obtain ⟨Pst,hPst⟩:∃ Pst,Pst=QStep X b (acc ++ tokensP ⟨5,stb,snm,scols,snames,srow,ssets,swher,sj,sl,sr,sa,sorder,sm,sn⟩) w:=⟨_,rfl⟩
           have HPST:=hid hPst
           rw [<- hPst]
           clear hPst
           obtain ⟨W1,hW1⟩:∃ W,w.alloc (.cells #[.pointer (some ⟨b,0,none⟩)] 102)=W:=⟨_,rfl⟩
           have h1s:W1.heap.size=w.heap.size+1:=by rw [<- hW1];simp
           obtain ⟨W2,hW2⟩:∃ W,W1.alloc (.cells #[.int .i64 5,.string stb,.string snm,.slice ca scols.length cc,.slice na snames.length nc,.slice ra srow.length rc,.slice ea ssets.length ec,.slice wa swher.length wc,.string sj,.string sl,.string sr,.int .i64 sa,.slice oa sorder.length oc,.int .i64 sm,.int .i64 sn] 33)=W:=⟨_,rfl⟩
           have h2s:W2.heap.size=w.heap.size+2:=by rw [<- hW2];simp [h1s]
           have b2:Below w.heap.size w W2:=by rw [<- hW2,<- hW1];exact ((b0R).alloc (jR _) _).alloc (by simp) _
           have hb0:W2.heap[w.heap.size]? = some (.cells #[.pointer (some ⟨b,0,none⟩)] 102 (0,0)):=by rw [<- hW2,heap_alloc_old _ _ (by omega),<- hW1];exact heap_alloc_new _ _
           have hb1:W2.heap[w.heap.size+1]? = some (.cells #[.int .i64 5,.string stb,.string snm,.slice ca scols.length cc,.slice na snames.length nc,.slice ra srow.length rc,.slice ea ssets.length ec,.slice wa swher.length wc,.string sj,.string sl,.string sr,.int .i64 sa,.slice oa sorder.length oc,.int .i64 sm,.int .i64 sn] 33 (0,0)):=by rw [<- hW2,<- h1s];exact heap_alloc_new _ _
           obtain ⟨Y,hY⟩:∃ Y:Nat->Prop,Y=fun k=>X k \/ (w.heap.size<=k/\k<W2.heap.size):=⟨_,rfl⟩
           have Q2:=hid (show QAt Y b acc W2 by rw [hY];exact h.more b2 (fun _ hk=>Or.inl hk) (fun _ hk=>hk))
           have ZQ:=hid (show ∀ l e w',QStep Y b l W2 e w'->QStep X b l w e w' from fun l e w' s=>QStep.with h b2 (by rw [<- hY];exact s))
           have HK2:=hid (Kept.refl Y W2)
           have YO:=hid (show ∀ k,k<b->Y k from fun k hk=>by rw [hY];exact Or.inl (h.old k hk))
           have PB:=hid (show ∀ w',Kept Y W2 w'->w'.heap[w.heap.size]? = some (.cells #[.pointer (some ⟨b,0,none⟩)] 102 (0,0)) from fun w' k=>(k.block _ (by rw [hY];exact Or.inr ⟨by omega,by omega⟩) (jB hb0)).trans hb0)
           have SB:=hid (show ∀ w',Kept Y W2 w'->w'.heap[w.heap.size+1]? = some (.cells #[.int .i64 5,.string stb,.string snm,.slice ca scols.length cc,.slice na snames.length nc,.slice ra srow.length rc,.slice ea ssets.length ec,.slice wa swher.length wc,.string sj,.string sl,.string sr,.int .i64 sa,.slice oa sorder.length oc,.int .i64 sm,.int .i64 sn] 33 (0,0)) from fun w' k=>(k.block _ (by rw [hY];exact Or.inr ⟨by omega,by omega⟩) (jB hb1)).trans hb1)
           have LK:=hid (show ∀ w',Kept Y W2 w'->SlsAt (fun k=>k<b) w' ⟨.slice ca scols.length cc,.slice na snames.length nc,.slice ra srow.length rc,.slice ea ssets.length ec,.slice wa swher.length wc,.slice oa sorder.length oc⟩ ⟨5,stb,snm,scols,snames,srow,ssets,swher,sj,sl,sr,sa,sorder,sm,sn⟩ from fun w' k=>(hs.below b2).keep fun j hj hlt=>k.block j (YO.out j hj) hlt)
           have OK:=hid ok
           have YP:=hid (show Y w.heap.size by rw [hY];exact Or.inr ⟨jR _,by omega⟩)
           clear h hs ok b2 hY hb0 hb1
           have zk:=jC (SB.out _ HK2.out) 0
           simp only [gT,gZ,gS] at zk
           go_enter Tryz.func35,Tryz.ntmps35
           have zp:=jC (PB.out _ HK2.out) 0
           have z1:=jC (SB.out _ HK2.out) 1
           simp only [gT,gZ,gS] at zp z1
           have con:=add_words (w1:=W2.alloc (.cells (([w_update,stb,w_set]:List ByteArray).map Value.string).toArray 9)) [w_update,stb,w_set] (by simp) Q2.out rfl (by show acc.length+3<=1000000;omega)
           rw [h2s] at con
           go_wp2_with fail
           refine con.mono ?_
           rintro e w3 ⟨rfl,k3,q3⟩
           obtain ⟨A3,hA3⟩:∃ A,A=acc ++ ([w_update,stb,w_set]:List ByteArray):=⟨_,rfl⟩
           have hL3:A3.length<=1003:=by
            rw [hA3,List.length_append]
            show acc.length+3<=1003;omega
           rw [<- hA3] at q3
           have EA3:=hid hA3
           have HK3:=hid (HK2.out.trans k3)
           have Q3:=hid q3
           clear con k3 q3 hA3
           clear zp z1
           clear zk
           have zp:=jC (PB.out _ HK3.out) 0
           have z6:=jC (SB.out _ HK3.out) 6
           simp only [gT,gZ,gS] at zp z6
           have con:=all_any (m:=5) (bt:=w_comma) (f:=setP) (L:=ssets) (c0:=.pointer (some ⟨w.heap.size+1,0,none⟩)) (c1:=.pointer (some ⟨w.heap.size,0,none⟩)) Q3.out (enters_of Tryz.func74 (by kernel_rfl) rfl) (fun i hi a w1 qa k hb=>ptok3_any qa (PB.out _ (HK3.out.trans k)) (SB.out _ (HK3.out.trans k)) (LK.out _ (HK3.out.trans k)).sets YP.out OK.out.sets i hi hb) (setP_len) (by decide) (by omega) OK.out.short.sets
           go_wp2_with fail
           refine con.mono ?_
           rintro e w4 ⟨rfl,k4,q4⟩
           obtain ⟨A4,hA4⟩:∃ A,A=A3 ++ sepP w_comma setP ssets:=⟨_,rfl⟩
           have hL4:A4.length<=20000:=by
            rw [hA4,List.length_append]
            have:=sep_len w_comma setP 5 ssets (setP_len);have h99:=OK.out.short.sets
            try simp only at h99
            omega
           rw [<- hA4] at q4
           have EA4:=hid hA4
           have HK4:=hid (HK3.out.trans k4)
           have Q4:=hid q4
           clear con k4 q4 hA4
           clear zp z6
           have zp:=jC (PB.out _ HK4.out) 0
           have z7:=jC (SB.out _ HK4.out) 7
           simp only [gT,gZ,gS] at zp z7
           have con:=pwhere_any Q4.out (LK.out _ HK4.out).wher OK.out.wher (by omega) OK.out.short.wher
           go_wp2_with fail
           refine con.mono ?_
           rintro e w5 ⟨rfl,k5,q5⟩
           obtain ⟨A5,hA5⟩:∃ A,A=A4 ++ whereP swher:=⟨_,rfl⟩
           have hL5:A5.length<=30000:=by
            rw [hA5,List.length_append]
            have:=where_len (l:=swher) OK.out.short.wher;omega
           rw [<- hA5] at q5
           have EA5:=hid hA5
           have HK5:=hid (HK4.out.trans k5)
           have Q5:=hid q5
           clear con k5 q5 hA5
           clear zp z7
           go_wp2_with fail
           go_end0
           rw [HPST.out]
           refine ZQ.out _ _ _ ⟨rfl,HK5.out,?_⟩
           have e:A5=acc ++ tokensP ⟨5,stb,snm,scols,snames,srow,ssets,swher,sj,sl,sr,sa,sorder,sm,sn⟩:=by rw [EA5.out,EA4.out,EA3.out];first|rfl|(simp only [List.append_assoc];rfl)
           rw [<- e]
           exact Q5.out
         · skip
           by_cases k6:sk=6
           · subst k6
             obtain ⟨Pst,hPst⟩:∃ Pst,Pst=QStep X b (acc ++ tokensP ⟨6,stb,snm,scols,snames,srow,ssets,swher,sj,sl,sr,sa,sorder,sm,sn⟩) w:=⟨_,rfl⟩
             have HPST:=hid hPst
             rw [<- hPst]
             clear hPst
             obtain ⟨W1,hW1⟩:∃ W,w.alloc (.cells #[.pointer (some ⟨b,0,none⟩)] 102)=W:=⟨_,rfl⟩
             have h1s:W1.heap.size=w.heap.size+1:=by rw [<- hW1];simp
             obtain ⟨W2,hW2⟩:∃ W,W1.alloc (.cells #[.int .i64 6,.string stb,.string snm,.slice ca scols.length cc,.slice na snames.length nc,.slice ra srow.length rc,.slice ea ssets.length ec,.slice wa swher.length wc,.string sj,.string sl,.string sr,.int .i64 sa,.slice oa sorder.length oc,.int .i64 sm,.int .i64 sn] 33)=W:=⟨_,rfl⟩
             have h2s:W2.heap.size=w.heap.size+2:=by rw [<- hW2];simp [h1s]
             have b2:Below w.heap.size w W2:=by rw [<- hW2,<- hW1];exact ((b0R).alloc (jR _) _).alloc (by simp) _
             have hb0:W2.heap[w.heap.size]? = some (.cells #[.pointer (some ⟨b,0,none⟩)] 102 (0,0)):=by rw [<- hW2,heap_alloc_old _ _ (by omega),<- hW1];exact heap_alloc_new _ _
             have hb1:W2.heap[w.heap.size+1]? = some (.cells #[.int .i64 6,.string stb,.string snm,.slice ca scols.length cc,.slice na snames.length nc,.slice ra srow.length rc,.slice ea ssets.length ec,.slice wa swher.length wc,.string sj,.string sl,.string sr,.int .i64 sa,.slice oa sorder.length oc,.int .i64 sm,.int .i64 sn] 33 (0,0)):=by rw [<- hW2,<- h1s];exact heap_alloc_new _ _
             obtain ⟨Y,hY⟩:∃ Y:Nat->Prop,Y=fun k=>X k \/ (w.heap.size<=k/\k<W2.heap.size):=⟨_,rfl⟩
             have Q2:=hid (show QAt Y b acc W2 by rw [hY];exact h.more b2 (fun _ hk=>Or.inl hk) (fun _ hk=>hk))
             have ZQ:=hid (show ∀ l e w',QStep Y b l W2 e w'->QStep X b l w e w' from fun l e w' s=>QStep.with h b2 (by rw [<- hY];exact s))
             have HK2:=hid (Kept.refl Y W2)
             have YO:=hid (show ∀ k,k<b->Y k from fun k hk=>by rw [hY];exact Or.inl (h.old k hk))
             have PB:=hid (show ∀ w',Kept Y W2 w'->w'.heap[w.heap.size]? = some (.cells #[.pointer (some ⟨b,0,none⟩)] 102 (0,0)) from fun w' k=>(k.block _ (by rw [hY];exact Or.inr ⟨by omega,by omega⟩) (jB hb0)).trans hb0)
             have SB:=hid (show ∀ w',Kept Y W2 w'->w'.heap[w.heap.size+1]? = some (.cells #[.int .i64 6,.string stb,.string snm,.slice ca scols.length cc,.slice na snames.length nc,.slice ra srow.length rc,.slice ea ssets.length ec,.slice wa swher.length wc,.string sj,.string sl,.string sr,.int .i64 sa,.slice oa sorder.length oc,.int .i64 sm,.int .i64 sn] 33 (0,0)) from fun w' k=>(k.block _ (by rw [hY];exact Or.inr ⟨by omega,by omega⟩) (jB hb1)).trans hb1)
             have LK:=hid (show ∀ w',Kept Y W2 w'->SlsAt (fun k=>k<b) w' ⟨.slice ca scols.length cc,.slice na snames.length nc,.slice ra srow.length rc,.slice ea ssets.length ec,.slice wa swher.length wc,.slice oa sorder.length oc⟩ ⟨6,stb,snm,scols,snames,srow,ssets,swher,sj,sl,sr,sa,sorder,sm,sn⟩ from fun w' k=>(hs.below b2).keep fun j hj hlt=>k.block j (YO.out j hj) hlt)
             have OK:=hid ok
             have YP:=hid (show Y w.heap.size by rw [hY];exact Or.inr ⟨jR _,by omega⟩)
             clear h hs ok b2 hY hb0 hb1
             have zk:=jC (SB.out _ HK2.out) 0
             simp only [gT,gZ,gS] at zk
             go_enter Tryz.func35,Tryz.ntmps35
             have zp:=jC (PB.out _ HK2.out) 0
             have z1:=jC (SB.out _ HK2.out) 1
             simp only [gT,gZ,gS] at zp z1
             have con:=add_words (w1:=W2.alloc (.cells (([w_delete,w_from,stb]:List ByteArray).map Value.string).toArray 9)) [w_delete,w_from,stb] (by simp) Q2.out rfl (by show acc.length+3<=1000000;omega)
             rw [h2s] at con
             go_wp2_with fail
             refine con.mono ?_
             rintro e w3 ⟨rfl,k3,q3⟩
             obtain ⟨A3,hA3⟩:∃ A,A=acc ++ ([w_delete,w_from,stb]:List ByteArray):=⟨_,rfl⟩
             have hL3:A3.length<=1003:=by
              rw [hA3,List.length_append]
              show acc.length+3<=1003;omega
             rw [<- hA3] at q3
             have EA3:=hid hA3
             have HK3:=hid (HK2.out.trans k3)
             have Q3:=hid q3
             clear con k3 q3 hA3
             clear zp z1
             clear zk
             have zp:=jC (PB.out _ HK3.out) 0
             have z7:=jC (SB.out _ HK3.out) 7
             simp only [gT,gZ,gS] at zp z7
             have con:=pwhere_any Q3.out (LK.out _ HK3.out).wher OK.out.wher (by omega) OK.out.short.wher
             go_wp2_with fail
             refine con.mono ?_
             rintro e w4 ⟨rfl,k4,q4⟩
             obtain ⟨A4,hA4⟩:∃ A,A=A3 ++ whereP swher:=⟨_,rfl⟩
             have hL4:A4.length<=30000:=by
              rw [hA4,List.length_append]
              have:=where_len (l:=swher) OK.out.short.wher;omega
             rw [<- hA4] at q4
             have EA4:=hid hA4
             have HK4:=hid (HK3.out.trans k4)
             have Q4:=hid q4
             clear con k4 q4 hA4
             clear zp z7
             go_wp2_with fail
             go_end0
             rw [HPST.out]
             refine ZQ.out _ _ _ ⟨rfl,HK4.out,?_⟩
             have e:A4=acc ++ tokensP ⟨6,stb,snm,scols,snames,srow,ssets,swher,sj,sl,sr,sa,sorder,sm,sn⟩:=by rw [EA4.out,EA3.out];first|rfl|(simp only [List.append_assoc];rfl)
             rw [<- e]
             exact Q4.out
           · skip
             by_cases k7:sk=7
             · subst k7
               obtain ⟨Pst,hPst⟩:∃ Pst,Pst=QStep X b (acc ++ tokensP ⟨7,stb,snm,scols,snames,srow,ssets,swher,sj,sl,sr,sa,sorder,sm,sn⟩) w:=⟨_,rfl⟩
               have HPST:=hid hPst
               rw [<- hPst]
               clear hPst
               obtain ⟨W1,hW1⟩:∃ W,w.alloc (.cells #[.pointer (some ⟨b,0,none⟩)] 102)=W:=⟨_,rfl⟩
               have h1s:W1.heap.size=w.heap.size+1:=by rw [<- hW1];simp
               obtain ⟨W2,hW2⟩:∃ W,W1.alloc (.cells #[.int .i64 7,.string stb,.string snm,.slice ca scols.length cc,.slice na snames.length nc,.slice ra srow.length rc,.slice ea ssets.length ec,.slice wa swher.length wc,.string sj,.string sl,.string sr,.int .i64 sa,.slice oa sorder.length oc,.int .i64 sm,.int .i64 sn] 33)=W:=⟨_,rfl⟩
               have h2s:W2.heap.size=w.heap.size+2:=by rw [<- hW2];simp [h1s]
               have b2:Below w.heap.size w W2:=by rw [<- hW2,<- hW1];exact ((b0R).alloc (jR _) _).alloc (by simp) _
               have hb0:W2.heap[w.heap.size]? = some (.cells #[.pointer (some ⟨b,0,none⟩)] 102 (0,0)):=by rw [<- hW2,heap_alloc_old _ _ (by omega),<- hW1];exact heap_alloc_new _ _
               have hb1:W2.heap[w.heap.size+1]? = some (.cells #[.int .i64 7,.string stb,.string snm,.slice ca scols.length cc,.slice na snames.length nc,.slice ra srow.length rc,.slice ea ssets.length ec,.slice wa swher.length wc,.string sj,.string sl,.string sr,.int .i64 sa,.slice oa sorder.length oc,.int .i64 sm,.int .i64 sn] 33 (0,0)):=by rw [<- hW2,<- h1s];exact heap_alloc_new _ _
               obtain ⟨Y,hY⟩:∃ Y:Nat->Prop,Y=fun k=>X k \/ (w.heap.size<=k/\k<W2.heap.size):=⟨_,rfl⟩
               have Q2:=hid (show QAt Y b acc W2 by rw [hY];exact h.more b2 (fun _ hk=>Or.inl hk) (fun _ hk=>hk))
               have ZQ:=hid (show ∀ l e w',QStep Y b l W2 e w'->QStep X b l w e w' from fun l e w' s=>QStep.with h b2 (by rw [<- hY];exact s))
               have HK2:=hid (Kept.refl Y W2)
               have YO:=hid (show ∀ k,k<b->Y k from fun k hk=>by rw [hY];exact Or.inl (h.old k hk))
               have PB:=hid (show ∀ w',Kept Y W2 w'->w'.heap[w.heap.size]? = some (.cells #[.pointer (some ⟨b,0,none⟩)] 102 (0,0)) from fun w' k=>(k.block _ (by rw [hY];exact Or.inr ⟨by omega,by omega⟩) (jB hb0)).trans hb0)
               have SB:=hid (show ∀ w',Kept Y W2 w'->w'.heap[w.heap.size+1]? = some (.cells #[.int .i64 7,.string stb,.string snm,.slice ca scols.length cc,.slice na snames.length nc,.slice ra srow.length rc,.slice ea ssets.length ec,.slice wa swher.length wc,.string sj,.string sl,.string sr,.int .i64 sa,.slice oa sorder.length oc,.int .i64 sm,.int .i64 sn] 33 (0,0)) from fun w' k=>(k.block _ (by rw [hY];exact Or.inr ⟨by omega,by omega⟩) (jB hb1)).trans hb1)
               have LK:=hid (show ∀ w',Kept Y W2 w'->SlsAt (fun k=>k<b) w' ⟨.slice ca scols.length cc,.slice na snames.length nc,.slice ra srow.length rc,.slice ea ssets.length ec,.slice wa swher.length wc,.slice oa sorder.length oc⟩ ⟨7,stb,snm,scols,snames,srow,ssets,swher,sj,sl,sr,sa,sorder,sm,sn⟩ from fun w' k=>(hs.below b2).keep fun j hj hlt=>k.block j (YO.out j hj) hlt)
               have OK:=hid ok
               have YP:=hid (show Y w.heap.size by rw [hY];exact Or.inr ⟨jR _,by omega⟩)
               clear h hs ok b2 hY hb0 hb1
               have zk:=jC (SB.out _ HK2.out) 0
               simp only [gT,gZ,gS] at zk
               go_enter Tryz.func35,Tryz.ntmps35
               clear zk
               have zp:=jC (PB.out _ HK2.out) 0
               have z0:=jC (SB.out _ HK2.out) 0
               have z1:=jC (SB.out _ HK2.out) 1
               have z2:=jC (SB.out _ HK2.out) 2
               have z3:=jC (SB.out _ HK2.out) 3
               have z4:=jC (SB.out _ HK2.out) 4
               have z5:=jC (SB.out _ HK2.out) 5
               have z6:=jC (SB.out _ HK2.out) 6
               have z7:=jC (SB.out _ HK2.out) 7
               have z8:=jC (SB.out _ HK2.out) 8
               have z9:=jC (SB.out _ HK2.out) 9
               have z10:=jC (SB.out _ HK2.out) 10
               have z11:=jC (SB.out _ HK2.out) 11
               have z12:=jC (SB.out _ HK2.out) 12
               have z13:=jC (SB.out _ HK2.out) 13
               have z14:=jC (SB.out _ HK2.out) 14
               simp only [gT,gZ,gS] at zp z0 z1 z2 z3 z4 z5 z6 z7 z8 z9 z10 z11 z12 z13 z14
               have con:=pquery_any (L:=⟨.slice ca scols.length cc,.slice na snames.length nc,.slice ra srow.length rc,.slice ea ssets.length ec,.slice wa swher.length wc,.slice oa sorder.length oc⟩) (s:=⟨7,stb,snm,scols,snames,srow,ssets,swher,sj,sl,sr,sa,sorder,sm,sn⟩) Q2.out (LK.out _ HK2.out) OK.out hacc
               go_wp2_with fail
               refine con.mono ?_
               rintro e w9 ⟨rfl,k9,q9⟩
               have N9:=hid (show _/\_ from ⟨k9,q9⟩)
               clear con k9 q9 zp z0 z1 z2 z3 z4 z5 z6 z7 z8 z9 z10 z11 z12 z13 z14
               go_wp2_with fail
               go_end0
               rw [HPST.out]
               exact ZQ.out _ _ _ ⟨rfl,N9.out⟩
             · skip
               obtain ⟨Pst,hPst⟩:∃ Pst,Pst=QStep X b (acc ++ tokensP ⟨sk,stb,snm,scols,snames,srow,ssets,swher,sj,sl,sr,sa,sorder,sm,sn⟩) w:=⟨_,rfl⟩
               have HPST:=hid hPst
               rw [<- hPst]
               clear hPst
               obtain ⟨W1,hW1⟩:∃ W,w.alloc (.cells #[.pointer (some ⟨b,0,none⟩)] 102)=W:=⟨_,rfl⟩
               have h1s:W1.heap.size=w.heap.size+1:=by rw [<- hW1];simp
               obtain ⟨W2,hW2⟩:∃ W,W1.alloc (.cells #[.int .i64 sk,.string stb,.string snm,.slice ca scols.length cc,.slice na snames.length nc,.slice ra srow.length rc,.slice ea ssets.length ec,.slice wa swher.length wc,.string sj,.string sl,.string sr,.int .i64 sa,.slice oa sorder.length oc,.int .i64 sm,.int .i64 sn] 33)=W:=⟨_,rfl⟩
               have h2s:W2.heap.size=w.heap.size+2:=by rw [<- hW2];simp [h1s]
               have b2:Below w.heap.size w W2:=by rw [<- hW2,<- hW1];exact ((b0R).alloc (jR _) _).alloc (by simp) _
               have hb0:W2.heap[w.heap.size]? = some (.cells #[.pointer (some ⟨b,0,none⟩)] 102 (0,0)):=by rw [<- hW2,heap_alloc_old _ _ (by omega),<- hW1];exact heap_alloc_new _ _
               have hb1:W2.heap[w.heap.size+1]? = some (.cells #[.int .i64 sk,.string stb,.string snm,.slice ca scols.length cc,.slice na snames.length nc,.slice ra srow.length rc,.slice ea ssets.length ec,.slice wa swher.length wc,.string sj,.string sl,.string sr,.int .i64 sa,.slice oa sorder.length oc,.int .i64 sm,.int .i64 sn] 33 (0,0)):=by rw [<- hW2,<- h1s];exact heap_alloc_new _ _
               obtain ⟨Y,hY⟩:∃ Y:Nat->Prop,Y=fun k=>X k \/ (w.heap.size<=k/\k<W2.heap.size):=⟨_,rfl⟩
               have Q2:=hid (show QAt Y b acc W2 by rw [hY];exact h.more b2 (fun _ hk=>Or.inl hk) (fun _ hk=>hk))
               have ZQ:=hid (show ∀ l e w',QStep Y b l W2 e w'->QStep X b l w e w' from fun l e w' s=>QStep.with h b2 (by rw [<- hY];exact s))
               have HK2:=hid (Kept.refl Y W2)
               have YO:=hid (show ∀ k,k<b->Y k from fun k hk=>by rw [hY];exact Or.inl (h.old k hk))
               have PB:=hid (show ∀ w',Kept Y W2 w'->w'.heap[w.heap.size]? = some (.cells #[.pointer (some ⟨b,0,none⟩)] 102 (0,0)) from fun w' k=>(k.block _ (by rw [hY];exact Or.inr ⟨by omega,by omega⟩) (jB hb0)).trans hb0)
               have SB:=hid (show ∀ w',Kept Y W2 w'->w'.heap[w.heap.size+1]? = some (.cells #[.int .i64 sk,.string stb,.string snm,.slice ca scols.length cc,.slice na snames.length nc,.slice ra srow.length rc,.slice ea ssets.length ec,.slice wa swher.length wc,.string sj,.string sl,.string sr,.int .i64 sa,.slice oa sorder.length oc,.int .i64 sm,.int .i64 sn] 33 (0,0)) from fun w' k=>(k.block _ (by rw [hY];exact Or.inr ⟨by omega,by omega⟩) (jB hb1)).trans hb1)
               have LK:=hid (show ∀ w',Kept Y W2 w'->SlsAt (fun k=>k<b) w' ⟨.slice ca scols.length cc,.slice na snames.length nc,.slice ra srow.length rc,.slice ea ssets.length ec,.slice wa swher.length wc,.slice oa sorder.length oc⟩ ⟨sk,stb,snm,scols,snames,srow,ssets,swher,sj,sl,sr,sa,sorder,sm,sn⟩ from fun w' k=>(hs.below b2).keep fun j hj hlt=>k.block j (YO.out j hj) hlt)
               have OK:=hid ok
               have YP:=hid (show Y w.heap.size by rw [hY];exact Or.inr ⟨jR _,by omega⟩)
               clear h hs ok b2 hY hb0 hb1
               have hk:¬ (1<=sk/\sk<=7):=by omega
               have d1:(sk == 1)=false:=by simpa using k1
               have d2:(sk == 2)=false:=by simpa using k2
               have d3:(sk == 3)=false:=by simpa using k3
               have d4:(sk == 4)=false:=by simpa using k4
               have d5:(sk == 5)=false:=by simpa using k5
               have d6:(sk == 6)=false:=by simpa using k6
               have d7:(sk == 7)=false:=by simpa using k7
               clear k1 k2 k3 k4 k5 k6 k7
               have zk:=jC (SB.out _ HK2.out) 0
               simp only [gT,gZ,gS] at zk
               go_enter Tryz.func35,Tryz.ntmps35
               clear zk
               have zp:=jC (PB.out _ HK2.out) 0
               have z0:=jC (SB.out _ HK2.out) 0
               have z1:=jC (SB.out _ HK2.out) 1
               have z2:=jC (SB.out _ HK2.out) 2
               have z3:=jC (SB.out _ HK2.out) 3
               have z4:=jC (SB.out _ HK2.out) 4
               have z5:=jC (SB.out _ HK2.out) 5
               have z6:=jC (SB.out _ HK2.out) 6
               have z7:=jC (SB.out _ HK2.out) 7
               have z8:=jC (SB.out _ HK2.out) 8
               have z9:=jC (SB.out _ HK2.out) 9
               have z10:=jC (SB.out _ HK2.out) 10
               have z11:=jC (SB.out _ HK2.out) 11
               have z12:=jC (SB.out _ HK2.out) 12
               have z13:=jC (SB.out _ HK2.out) 13
               have z14:=jC (SB.out _ HK2.out) 14
               simp only [gT,gZ,gS] at zp z0 z1 z2 z3 z4 z5 z6 z7 z8 z9 z10 z11 z12 z13 z14
               have con:=pshort_any (L:=⟨.slice ca scols.length cc,.slice na snames.length nc,.slice ra srow.length rc,.slice ea ssets.length ec,.slice wa swher.length wc,.slice oa sorder.length oc⟩) (s:=⟨sk,stb,snm,scols,snames,srow,ssets,swher,sj,sl,sr,sa,sorder,sm,sn⟩) Q2.out (LK.out _ HK2.out) OK.out hk hacc
               go_wp2_with fail
               refine con.mono ?_
               rintro e w9 ⟨rfl,k9,q9⟩
               have N9:=hid (show _/\_ from ⟨k9,q9⟩)
               clear con k9 q9 zp z0 z1 z2 z3 z4 z5 z6 z7 z8 z9 z10 z11 z12 z13 z14
               go_wp2_with fail
               go_end0
               rw [HPST.out]
               exact ZQ.out _ _ _ ⟨rfl,N9.out⟩
end
end Go.Proofs.YtjcpccadmcglgaaGreatDoor
