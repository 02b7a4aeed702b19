/- short: the statements without lists, printed. -/
import Derived.Test.YtjcpccadmcglgaaGreatDoorZK35
set_option linter.unusedVariables false
set_option linter.unusedSimpArgs false
set_option maxRecDepth 100000
set_option maxHeartbeats 64000000
namespace Go.Proofs.YtjcpccadmcglgaaGreatDoor
open Go.Lib (hid)
section
open Go.RowKit
theorem pshort_any {X:Nat->Prop} {b:Nat} {acc:List ByteArray} {L:Lists} {s:Stmt} {w:World} (h:QAt X b acc w) (hs:SlsAt (fun k=>k<b) w L s) (ok:StOk s) (hk:¬ (1<=s.kind/\s.kind<=7)) (hacc:acc.length<=1000) :
 Calls Tryz.prog 77 #[.pointer (some ⟨b,0,none⟩),.agg (stC L s)] w (QStep X b (acc ++ tokensP s) w):=by
 obtain ⟨⟨ca,cc,e1⟩,⟨na,nc,e2⟩,⟨ra,rc,e3⟩,⟨ea,ec,e4⟩,⟨wa,wc,e5⟩,⟨oa,oc,e6⟩⟩:=hs.shapes
 obtain ⟨Lc,Ln,Lr,Ls,Lw,Lo⟩:=L
 simp only at e1 e2 e3 e4 e5 e6
 subst e1 e2 e3 e4 e5 e6
 obtain ⟨sk,stb,snm,scols,snames,srow,ssets,swher,sj,sl,sr,sa,sorder,sm,sn⟩:=s
 simp only [stC] at *
 by_cases k8:sk=8
 · subst k8
   obtain ⟨Pst,hPst⟩:∃ Pst,Pst=QStep X b (acc ++ tokensP ⟨8,stb,snm,scols,snames,srow,ssets,swher,sj,sl,sr,sa,sorder,sm,sn⟩) w:=⟨_,rfl⟩
   have HPST:=hid hPst
   rw [<- hPst]
   clear hPst
   obtain ⟨W1,hW1⟩:∃ W,w.alloc (.cells #[.int .i64 8,.string stb,.string snm,.slice ca scols.length cc,.slice na snames.length nc,.slice ra srow.length rc,.slice ea ssets.length ec,.slice wa swher.length wc,.string sj,.string sl,.string sr,.int .i64 sa,.slice oa sorder.length oc,.int .i64 sm,.int .i64 sn] 33)=W:=⟨_,rfl⟩
   have h1s:W1.heap.size=w.heap.size+1:=by rw [<- hW1];simp
   have b2:Below w.heap.size w W1:=by rw [<- hW1];exact (b0R).alloc (jR _) _
   have hb0:W1.heap[w.heap.size]? = some (.cells #[.int .i64 8,.string stb,.string snm,.slice ca scols.length cc,.slice na snames.length nc,.slice ra srow.length rc,.slice ea ssets.length ec,.slice wa swher.length wc,.string sj,.string sl,.string sr,.int .i64 sa,.slice oa sorder.length oc,.int .i64 sm,.int .i64 sn] 33 (0,0)):=by rw [<- hW1];exact heap_alloc_new _ _
   obtain ⟨Y,hY⟩:∃ Y:Nat->Prop,Y=fun k=>X k \/ (w.heap.size<=k/\k<W1.heap.size):=⟨_,rfl⟩
   have Q2:=hid (show QAt Y b acc W1 by rw [hY];exact h.more b2 (fun _ hk=>Or.inl hk) (fun _ hk=>hk))
   have ZQ:=hid (show ∀ l e w',QStep Y b l W1 e w'->QStep X b l w e w' from fun l e w' s=>QStep.with h b2 (by rw [<- hY];exact s))
   have HK2:=hid (Kept.refl Y W1)
   have YO:=hid (show ∀ k,k<b->Y k from fun k hk=>by rw [hY];exact Or.inl (h.old k hk))
   have SB:=hid (show ∀ w',Kept Y W1 w'->w'.heap[w.heap.size]? = some (.cells #[.int .i64 8,.string stb,.string snm,.slice ca scols.length cc,.slice na snames.length nc,.slice ra srow.length rc,.slice ea ssets.length ec,.slice wa swher.length wc,.string sj,.string sl,.string sr,.int .i64 sa,.slice oa sorder.length oc,.int .i64 sm,.int .i64 sn] 33 (0,0)) from fun w' k=>(k.block _ (by rw [hY];exact Or.inr ⟨by omega,by omega⟩) (jB hb0)).trans hb0)
   have LK:=hid (show ∀ w',Kept Y W1 w'->SlsAt (fun k=>k<b) w' ⟨.slice ca scols.length cc,.slice na snames.length nc,.slice ra srow.length rc,.slice ea ssets.length ec,.slice wa swher.length wc,.slice oa sorder.length oc⟩ ⟨8,stb,snm,scols,snames,srow,ssets,swher,sj,sl,sr,sa,sorder,sm,sn⟩ from fun w' k=>(hs.below b2).keep fun j hj hlt=>k.block j (YO.out j hj) hlt)
   have OK:=hid ok
   clear h hs ok b2 hY hb0
   have zk:=jC (SB.out _ HK2.out) 0
   simp only [gT,gZ,gS] at zk
   go_enter Tryz.func77,Tryz.ntmps77
   have con:=add_words (w1:=W1.alloc (.cells (([w_begin]:List ByteArray).map Value.string).toArray 9)) [w_begin] (by simp) Q2.out rfl (by show acc.length+1<=1000000;omega)
   rw [h1s] at con
   go_wp2_with fail
   refine con.mono ?_
   rintro e w3 ⟨rfl,k3,q3⟩
   obtain ⟨A3,hA3⟩:∃ A,A=acc ++ ([w_begin]:List ByteArray):=⟨_,rfl⟩
   have hL3:A3.length<=1001:=by
    rw [hA3,List.length_append]
    show acc.length+1<=1001;omega
   rw [<- hA3] at q3
   have EA3:=hid hA3
   have HK3:=hid (HK2.out.trans k3)
   have Q3:=hid q3
   clear con k3 q3 hA3
   clear zk
   have hm:=mask2 sm
   obtain ⟨j,hj4,hj⟩:∃ j:Nat,j<4/\sm % 4=(j:Int):=⟨(sm % 4).toNat,by omega,by omega⟩
   have HJ:=hid hj
   rw [hj] at hm
   clear hj
   obtain ⟨V,hV⟩:∃ V,w3.alloc (.cells #[.string ⟨#[]⟩,.string ⟨#[115,110,97,112,115,104,111,116]⟩,.string ⟨#[115,101,114,105,97,108,105,115,97,98,108,101]⟩,.string ⟨#[63]⟩] 9)=V:=⟨_,rfl⟩
   have bV:Below w3.heap.size w3 V:=by rw [<- hV];exact (b0R).alloc (jR _) _
   have hbV:V.heap[w3.heap.size]? = some (.cells #[.string ⟨#[]⟩,.string ⟨#[115,110,97,112,115,104,111,116]⟩,.string ⟨#[115,101,114,105,97,108,105,115,97,98,108,101]⟩,.string ⟨#[63]⟩] 9 (0,0)):=by rw [<- hV];exact heap_alloc_new _ _
   have zm:V.cell? ⟨w3.heap.size,j,none⟩=some (.string (modeW j)):=(jC hbV j).trans (mode_word hj4)
   have z13:=jC (SB.out V (HK3.out.trans (Below.kept bV Y))) 13
   simp only [gT,gZ,gS] at z13
   have HF:=hid (mode_fields hj4)
   have con:=fields_any (s:=modeW j) (L:=modeL j) HF.out.1 HF.out.2.1 HF.out.2.2 (Q3.out.below bV).env
   have HBV:=hid bV
   clear bV hbV
   go_wp2_with fail
   refine con.mono ?_
   rintro e w4 ⟨rfl,rfl⟩
   clear con zm z13 hm hV
   have con:=add_at Q3.out (bsl_new (L:=modeL j) HBV.out) (Nat.le_trans (mode_len j) (by decide)) (by have:=mode_len j;omega)
   go_wp2_with fail
   refine con.mono ?_
   rintro e w4b ⟨rfl,k4,q4⟩
   obtain ⟨A4,hA4⟩:∃ A,A=A3 ++ modeL j:=⟨_,rfl⟩
   have hL4:A4.length<=1002:=by
    rw [hA4,List.length_append]
    have:=mode_len j;omega
   rw [<- hA4] at q4
   have EA4:=hid hA4
   have HK4:=hid (HK3.out.trans k4)
   have Q4:=hid q4
   clear con k4 q4 hA4
   by_cases c4:sm / 4 % 2=0
   · have hm4:=bit2 sm
     rw [if_pos c4] at hm4
     have C4:=hid (if_pos c4:(if sm / 4 % 2=0 then ([]:List ByteArray) else [w_read,w_only])=[])
     have z13:=jC (SB.out _ HK4.out) 13
     simp only [gT,gZ,gS] at z13
     go_upto_region 7 with (fail)
     clear z13 hm4
     by_cases c8:sm / 8 % 2=0
     · have hm8:=bit3 sm
       rw [if_pos c8] at hm8
       have z13:=jC (SB.out _ HK4.out) 13
       simp only [gT,gZ,gS] at z13
       go_wp2_with fail
       go_end0
       rw [HPST.out]
       refine ZQ.out _ _ _ ⟨rfl,HK4.out,?_⟩
       have e:A4=acc ++ tokensP ⟨8,stb,snm,scols,snames,srow,ssets,swher,sj,sl,sr,sa,sorder,sm,sn⟩:=by rw [EA4.out,EA3.out];show _=acc ++ ([w_begin] ++ modeP sm);simpa [List.append_assoc] using mode_eq_p (acc:=acc) HJ.out (c4:=C4.out) (c8:=(if_pos c8:(if sm / 8 % 2=0 then ([]:List ByteArray) else [w_deferrable])=[]))
       rw [<- e]
       exact Q4.out
     · have hm8:=bit3 sm
       rw [if_neg c8] at hm8
       have z13:=jC (SB.out _ HK4.out) 13
       simp only [gT,gZ,gS] at z13
       have con:=add_words (w1:=w4b.alloc (.cells (([w_deferrable]:List ByteArray).map Value.string).toArray 9)) [w_deferrable] (by simp) Q4.out rfl (by show A4.length+1<=1000000;omega)
       go_wp2_with fail
       refine con.mono ?_
       rintro e w5 ⟨rfl,k5,q5⟩
       obtain ⟨A5,hA5⟩:∃ A,A=A4 ++ ([w_deferrable]:List ByteArray):=⟨_,rfl⟩
       have hL5:A5.length<=1010:=by
        rw [hA5,List.length_append]
        show A4.length+1<=1010;omega
       rw [<- hA5] at q5
       have EA5:=hid hA5
       have HK5:=hid (HK4.out.trans k5)
       have Q5:=hid q5
       clear con k5 q5 hA5
       clear z13 hm8
       go_wp2_with fail
       go_end0
       rw [HPST.out]
       refine ZQ.out _ _ _ ⟨rfl,HK5.out,?_⟩
       have e:A5=acc ++ tokensP ⟨8,stb,snm,scols,snames,srow,ssets,swher,sj,sl,sr,sa,sorder,sm,sn⟩:=by rw [EA5.out,EA4.out,EA3.out];show _=acc ++ ([w_begin] ++ modeP sm);simpa [List.append_assoc] using mode_eq_p (acc:=acc) HJ.out (c4:=C4.out) (c8:=(if_neg c8:(if sm / 8 % 2=0 then ([]:List ByteArray) else [w_deferrable])=[w_deferrable]))
       rw [<- e]
       exact Q5.out
   · have hm4:=bit2 sm
     rw [if_neg c4] at hm4
     have C4:=hid (if_neg c4:(if sm / 4 % 2=0 then ([]:List ByteArray) else [w_read,w_only])=[w_read,w_only])
     have z13:=jC (SB.out _ HK4.out) 13
     simp only [gT,gZ,gS] at z13
     have con:=add_words (w1:=w4b.alloc (.cells (([w_read,w_only]:List ByteArray).map Value.string).toArray 9)) [w_read,w_only] (by simp) Q4.out rfl (by show A4.length+2<=1000000;omega)
     go_wp2_with fail
     refine con.mono ?_
     rintro e w5 ⟨rfl,k5,q5⟩
     obtain ⟨A5,hA5⟩:∃ A,A=A4 ++ ([w_read,w_only]:List ByteArray):=⟨_,rfl⟩
     have hL5:A5.length<=1006:=by
      rw [hA5,List.length_append]
      show A4.length+2<=1006;omega
     rw [<- hA5] at q5
     have EA5:=hid hA5
     have HK5:=hid (HK4.out.trans k5)
     have Q5:=hid q5
     clear con k5 q5 hA5
     clear z13 hm4
     go_upto_region 7 with (fail)
     by_cases c8:sm / 8 % 2=0
     · have hm8:=bit3 sm
       rw [if_pos c8] at hm8
       have z13:=jC (SB.out _ HK5.out) 13
       simp only [gT,gZ,gS] at z13
       go_wp2_with fail
       go_end0
       rw [HPST.out]
       refine ZQ.out _ _ _ ⟨rfl,HK5.out,?_⟩
       have e:A5=acc ++ tokensP ⟨8,stb,snm,scols,snames,srow,ssets,swher,sj,sl,sr,sa,sorder,sm,sn⟩:=by rw [EA5.out,EA4.out,EA3.out];show _=acc ++ ([w_begin] ++ modeP sm);simpa [List.append_assoc] using mode_eq_p (acc:=acc) HJ.out (c4:=C4.out) (c8:=(if_pos c8:(if sm / 8 % 2=0 then ([]:List ByteArray) else [w_deferrable])=[]))
       rw [<- e]
       exact Q5.out
     · have hm8:=bit3 sm
       rw [if_neg c8] at hm8
       have z13:=jC (SB.out _ HK5.out) 13
       simp only [gT,gZ,gS] at z13
       have con:=add_words (w1:=w5.alloc (.cells (([w_deferrable]:List ByteArray).map Value.string).toArray 9)) [w_deferrable] (by simp) Q5.out rfl (by show A5.length+1<=1000000;omega)
       go_wp2_with fail
       refine con.mono ?_
       rintro e w6 ⟨rfl,k6,q6⟩
       obtain ⟨A6,hA6⟩:∃ A,A=A5 ++ ([w_deferrable]:List ByteArray):=⟨_,rfl⟩
       have hL6:A6.length<=1010:=by
        rw [hA6,List.length_append]
        show A5.length+1<=1010;omega
       rw [<- hA6] at q6
       have EA6:=hid hA6
       have HK6:=hid (HK5.out.trans k6)
       have Q6:=hid q6
       clear con k6 q6 hA6
       clear z13 hm8
       go_wp2_with fail
       go_end0
       rw [HPST.out]
       refine ZQ.out _ _ _ ⟨rfl,HK6.out,?_⟩
       have e:A6=acc ++ tokensP ⟨8,stb,snm,scols,snames,srow,ssets,swher,sj,sl,sr,sa,sorder,sm,sn⟩:=by rw [EA6.out,EA5.out,EA4.out,EA3.out];show _=acc ++ ([w_begin] ++ modeP sm);simpa [List.append_assoc] using mode_eq_p (acc:=acc) HJ.out (c4:=C4.out) (c8:=(if_neg c8:(if sm / 8 % 2=0 then ([]:List ByteArray) else [w_deferrable])=[w_deferrable]))
       rw [<- e]
       exact Q6.out
 · skip
   by_cases k9:sk=9
   · subst k9
     obtain ⟨Pst,hPst⟩:∃ Pst,Pst=QStep X b (acc ++ tokensP ⟨9,stb,snm,scols,snames,srow,ssets,swher,sj,sl,sr,sa,sorder,sm,sn⟩) w:=⟨_,rfl⟩
     have HPST:=hid hPst
     rw [<- hPst]
     clear hPst
     obtain ⟨W1,hW1⟩:∃ W,w.alloc (.cells #[.int .i64 9,.string stb,.string snm,.slice ca scols.length cc,.slice na snames.length nc,.slice ra srow.length rc,.slice ea ssets.length ec,.slice wa swher.length wc,.string sj,.string sl,.string sr,.int .i64 sa,.slice oa sorder.length oc,.int .i64 sm,.int .i64 sn] 33)=W:=⟨_,rfl⟩
     have h1s:W1.heap.size=w.heap.size+1:=by rw [<- hW1];simp
     have b2:Below w.heap.size w W1:=by rw [<- hW1];exact (b0R).alloc (jR _) _
     have hb0:W1.heap[w.heap.size]? = some (.cells #[.int .i64 9,.string stb,.string snm,.slice ca scols.length cc,.slice na snames.length nc,.slice ra srow.length rc,.slice ea ssets.length ec,.slice wa swher.length wc,.string sj,.string sl,.string sr,.int .i64 sa,.slice oa sorder.length oc,.int .i64 sm,.int .i64 sn] 33 (0,0)):=by rw [<- hW1];exact heap_alloc_new _ _
     obtain ⟨Y,hY⟩:∃ Y:Nat->Prop,Y=fun k=>X k \/ (w.heap.size<=k/\k<W1.heap.size):=⟨_,rfl⟩
     have Q2:=hid (show QAt Y b acc W1 by rw [hY];exact h.more b2 (fun _ hk=>Or.inl hk) (fun _ hk=>hk))
     have ZQ:=hid (show ∀ l e w',QStep Y b l W1 e w'->QStep X b l w e w' from fun l e w' s=>QStep.with h b2 (by rw [<- hY];exact s))
     have HK2:=hid (Kept.refl Y W1)
     have YO:=hid (show ∀ k,k<b->Y k from fun k hk=>by rw [hY];exact Or.inl (h.old k hk))
     have SB:=hid (show ∀ w',Kept Y W1 w'->w'.heap[w.heap.size]? = some (.cells #[.int .i64 9,.string stb,.string snm,.slice ca scols.length cc,.slice na snames.length nc,.slice ra srow.length rc,.slice ea ssets.length ec,.slice wa swher.length wc,.string sj,.string sl,.string sr,.int .i64 sa,.slice oa sorder.length oc,.int .i64 sm,.int .i64 sn] 33 (0,0)) from fun w' k=>(k.block _ (by rw [hY];exact Or.inr ⟨by omega,by omega⟩) (jB hb0)).trans hb0)
     have LK:=hid (show ∀ w',Kept Y W1 w'->SlsAt (fun k=>k<b) w' ⟨.slice ca scols.length cc,.slice na snames.length nc,.slice ra srow.length rc,.slice ea ssets.length ec,.slice wa swher.length wc,.slice oa sorder.length oc⟩ ⟨9,stb,snm,scols,snames,srow,ssets,swher,sj,sl,sr,sa,sorder,sm,sn⟩ from fun w' k=>(hs.below b2).keep fun j hj hlt=>k.block j (YO.out j hj) hlt)
     have OK:=hid ok
     clear h hs ok b2 hY hb0
     have zk:=jC (SB.out _ HK2.out) 0
     simp only [gT,gZ,gS] at zk
     go_enter Tryz.func77,Tryz.ntmps77
     have con:=add_words (w1:=W1.alloc (.cells (([w_commit]:List ByteArray).map Value.string).toArray 9)) [w_commit] (by simp) Q2.out rfl (by show acc.length+1<=1000000;omega)
     rw [h1s] at con
     go_wp2_with fail
     refine con.mono ?_
     rintro e w3 ⟨rfl,k3,q3⟩
     obtain ⟨A3,hA3⟩:∃ A,A=acc ++ ([w_commit]:List ByteArray):=⟨_,rfl⟩
     have hL3:A3.length<=1010:=by
      rw [hA3,List.length_append]
      show acc.length+1<=1010;omega
     rw [<- hA3] at q3
     have EA3:=hid hA3
     have HK3:=hid (HK2.out.trans k3)
     have Q3:=hid q3
     clear con k3 q3 hA3
     clear zk
     go_wp2_with fail
     go_end0
     rw [HPST.out]
     refine ZQ.out _ _ _ ⟨rfl,HK3.out,?_⟩
     have e:A3=acc ++ tokensP ⟨9,stb,snm,scols,snames,srow,ssets,swher,sj,sl,sr,sa,sorder,sm,sn⟩:=by rw [EA3.out];rfl
     rw [<- e]
     exact Q3.out
   · skip
     by_cases k10:sk=10
     · subst k10
       obtain ⟨Pst,hPst⟩:∃ Pst,Pst=QStep X b (acc ++ tokensP ⟨10,stb,snm,scols,snames,srow,ssets,swher,sj,sl,sr,sa,sorder,sm,sn⟩) w:=⟨_,rfl⟩
       have HPST:=hid hPst
       rw [<- hPst]
       clear hPst
       obtain ⟨W1,hW1⟩:∃ W,w.alloc (.cells #[.int .i64 10,.string stb,.string snm,.slice ca scols.length cc,.slice na snames.length nc,.slice ra srow.length rc,.slice ea ssets.length ec,.slice wa swher.length wc,.string sj,.string sl,.string sr,.int .i64 sa,.slice oa sorder.length oc,.int .i64 sm,.int .i64 sn] 33)=W:=⟨_,rfl⟩
       have h1s:W1.heap.size=w.heap.size+1:=by rw [<- hW1];simp
       have b2:Below w.heap.size w W1:=by rw [<- hW1];exact (b0R).alloc (jR _) _
       have hb0:W1.heap[w.heap.size]? = some (.cells #[.int .i64 10,.string stb,.string snm,.slice ca scols.length cc,.slice na snames.length nc,.slice ra srow.length rc,.slice ea ssets.length ec,.slice wa swher.length wc,.string sj,.string sl,.string sr,.int .i64 sa,.slice oa sorder.length oc,.int .i64 sm,.int .i64 sn] 33 (0,0)):=by rw [<- hW1];exact heap_alloc_new _ _
       obtain ⟨Y,hY⟩:∃ Y:Nat->Prop,Y=fun k=>X k \/ (w.heap.size<=k/\k<W1.heap.size):=⟨_,rfl⟩
       have Q2:=hid (show QAt Y b acc W1 by rw [hY];exact h.more b2 (fun _ hk=>Or.inl hk) (fun _ hk=>hk))
       have ZQ:=hid (show ∀ l e w',QStep Y b l W1 e w'->QStep X b l w e w' from fun l e w' s=>QStep.with h b2 (by rw [<- hY];exact s))
       have HK2:=hid (Kept.refl Y W1)
       have YO:=hid (show ∀ k,k<b->Y k from fun k hk=>by rw [hY];exact Or.inl (h.old k hk))
       have SB:=hid (show ∀ w',Kept Y W1 w'->w'.heap[w.heap.size]? = some (.cells #[.int .i64 10,.string stb,.string snm,.slice ca scols.length cc,.slice na snames.length nc,.slice ra srow.length rc,.slice ea ssets.length ec,.slice wa swher.length wc,.string sj,.string sl,.string sr,.int .i64 sa,.slice oa sorder.length oc,.int .i64 sm,.int .i64 sn] 33 (0,0)) from fun w' k=>(k.block _ (by rw [hY];exact Or.inr ⟨by omega,by omega⟩) (jB hb0)).trans hb0)
       have LK:=hid (show ∀ w',Kept Y W1 w'->SlsAt (fun k=>k<b) w' ⟨.slice ca scols.length cc,.slice na snames.length nc,.slice ra srow.length rc,.slice ea ssets.length ec,.slice wa swher.length wc,.slice oa sorder.length oc⟩ ⟨10,stb,snm,scols,snames,srow,ssets,swher,sj,sl,sr,sa,sorder,sm,sn⟩ from fun w' k=>(hs.below b2).keep fun j hj hlt=>k.block j (YO.out j hj) hlt)
       have OK:=hid ok
       clear h hs ok b2 hY hb0
       have zk:=jC (SB.out _ HK2.out) 0
       simp only [gT,gZ,gS] at zk
       go_enter Tryz.func77,Tryz.ntmps77
       have con:=add_words (w1:=W1.alloc (.cells (([w_rollback]:List ByteArray).map Value.string).toArray 9)) [w_rollback] (by simp) Q2.out rfl (by show acc.length+1<=1000000;omega)
       rw [h1s] at con
       go_wp2_with fail
       refine con.mono ?_
       rintro e w3 ⟨rfl,k3,q3⟩
       obtain ⟨A3,hA3⟩:∃ A,A=acc ++ ([w_rollback]:List ByteArray):=⟨_,rfl⟩
       have hL3:A3.length<=1010:=by
        rw [hA3,List.length_append]
        show acc.length+1<=1010;omega
       rw [<- hA3] at q3
       have EA3:=hid hA3
       have HK3:=hid (HK2.out.trans k3)
       have Q3:=hid q3
       clear con k3 q3 hA3
       clear zk
       go_wp2_with fail
       go_end0
       rw [HPST.out]
       refine ZQ.out _ _ _ ⟨rfl,HK3.out,?_⟩
       have e:A3=acc ++ tokensP ⟨10,stb,snm,scols,snames,srow,ssets,swher,sj,sl,sr,sa,sorder,sm,sn⟩:=by rw [EA3.out];rfl
       rw [<- e]
       exact Q3.out
     · skip
       by_cases k17:sk=17
       · subst k17
         obtain ⟨Pst,hPst⟩:∃ Pst,Pst=QStep X b (acc ++ tokensP ⟨17,stb,snm,scols,snames,srow,ssets,swher,sj,sl,sr,sa,sorder,sm,sn⟩) w:=⟨_,rfl⟩
         have HPST:=hid hPst
         rw [<- hPst]
         clear hPst
         obtain ⟨W1,hW1⟩:∃ W,w.alloc (.cells #[.int .i64 17,.string stb,.string snm,.slice ca scols.length cc,.slice na snames.length nc,.slice ra srow.length rc,.slice ea ssets.length ec,.slice wa swher.length wc,.string sj,.string sl,.string sr,.int .i64 sa,.slice oa sorder.length oc,.int .i64 sm,.int .i64 sn] 33)=W:=⟨_,rfl⟩
         have h1s:W1.heap.size=w.heap.size+1:=by rw [<- hW1];simp
         have b2:Below w.heap.size w W1:=by rw [<- hW1];exact (b0R).alloc (jR _) _
         have hb0:W1.heap[w.heap.size]? = some (.cells #[.int .i64 17,.string stb,.string snm,.slice ca scols.length cc,.slice na snames.length nc,.slice ra srow.length rc,.slice ea ssets.length ec,.slice wa swher.length wc,.string sj,.string sl,.string sr,.int .i64 sa,.slice oa sorder.length oc,.int .i64 sm,.int .i64 sn] 33 (0,0)):=by rw [<- hW1];exact heap_alloc_new _ _
         obtain ⟨Y,hY⟩:∃ Y:Nat->Prop,Y=fun k=>X k \/ (w.heap.size<=k/\k<W1.heap.size):=⟨_,rfl⟩
         have Q2:=hid (show QAt Y b acc W1 by rw [hY];exact h.more b2 (fun _ hk=>Or.inl hk) (fun _ hk=>hk))
         have ZQ:=hid (show ∀ l e w',QStep Y b l W1 e w'->QStep X b l w e w' from fun l e w' s=>QStep.with h b2 (by rw [<- hY];exact s))
         have HK2:=hid (Kept.refl Y W1)
         have YO:=hid (show ∀ k,k<b->Y k from fun k hk=>by rw [hY];exact Or.inl (h.old k hk))
         have SB:=hid (show ∀ w',Kept Y W1 w'->w'.heap[w.heap.size]? = some (.cells #[.int .i64 17,.string stb,.string snm,.slice ca scols.length cc,.slice na snames.length nc,.slice ra srow.length rc,.slice ea ssets.length ec,.slice wa swher.length wc,.string sj,.string sl,.string sr,.int .i64 sa,.slice oa sorder.length oc,.int .i64 sm,.int .i64 sn] 33 (0,0)) from fun w' k=>(k.block _ (by rw [hY];exact Or.inr ⟨by omega,by omega⟩) (jB hb0)).trans hb0)
         have LK:=hid (show ∀ w',Kept Y W1 w'->SlsAt (fun k=>k<b) w' ⟨.slice ca scols.length cc,.slice na snames.length nc,.slice ra srow.length rc,.slice ea ssets.length ec,.slice wa swher.length wc,.slice oa sorder.length oc⟩ ⟨17,stb,snm,scols,snames,srow,ssets,swher,sj,sl,sr,sa,sorder,sm,sn⟩ from fun w' k=>(hs.below b2).keep fun j hj hlt=>k.block j (YO.out j hj) hlt)
         have OK:=hid ok
         clear h hs ok b2 hY hb0
         have zk:=jC (SB.out _ HK2.out) 0
         simp only [gT,gZ,gS] at zk
         go_enter Tryz.func77,Tryz.ntmps77
         have con:=add_words (w1:=W1.alloc (.cells (([w_checkpoint]:List ByteArray).map Value.string).toArray 9)) [w_checkpoint] (by simp) Q2.out rfl (by show acc.length+1<=1000000;omega)
         rw [h1s] at con
         go_wp2_with fail
         refine con.mono ?_
         rintro e w3 ⟨rfl,k3,q3⟩
         obtain ⟨A3,hA3⟩:∃ A,A=acc ++ ([w_checkpoint]:List ByteArray):=⟨_,rfl⟩
         have hL3:A3.length<=1010:=by
          rw [hA3,List.length_append]
          show acc.length+1<=1010;omega
         rw [<- hA3] at q3
         have EA3:=hid hA3
         have HK3:=hid (HK2.out.trans k3)
         have Q3:=hid q3
         clear con k3 q3 hA3
         clear zk
         go_wp2_with fail
         go_end0
         rw [HPST.out]
         refine ZQ.out _ _ _ ⟨rfl,HK3.out,?_⟩
         have e:A3=acc ++ tokensP ⟨17,stb,snm,scols,snames,srow,ssets,swher,sj,sl,sr,sa,sorder,sm,sn⟩:=by rw [EA3.out];rfl
         rw [<- e]
         exact Q3.out
       · skip
         by_cases k11:sk=11
         · subst k11
           obtain ⟨Pst,hPst⟩:∃ Pst,Pst=QStep X b (acc ++ tokensP ⟨11,stb,snm,scols,snames,srow,ssets,swher,sj,sl,sr,sa,sorder,sm,sn⟩) w:=⟨_,rfl⟩
           have HPST:=hid hPst
           rw [<- hPst]
           clear hPst
           obtain ⟨W1,hW1⟩:∃ W,w.alloc (.cells #[.int .i64 11,.string stb,.string snm,.slice ca scols.length cc,.slice na snames.length nc,.slice ra srow.length rc,.slice ea ssets.length ec,.slice wa swher.length wc,.string sj,.string sl,.string sr,.int .i64 sa,.slice oa sorder.length oc,.int .i64 sm,.int .i64 sn] 33)=W:=⟨_,rfl⟩
           have h1s:W1.heap.size=w.heap.size+1:=by rw [<- hW1];simp
           have b2:Below w.heap.size w W1:=by rw [<- hW1];exact (b0R).alloc (jR _) _
           have hb0:W1.heap[w.heap.size]? = some (.cells #[.int .i64 11,.string stb,.string snm,.slice ca scols.length cc,.slice na snames.length nc,.slice ra srow.length rc,.slice ea ssets.length ec,.slice wa swher.length wc,.string sj,.string sl,.string sr,.int .i64 sa,.slice oa sorder.length oc,.int .i64 sm,.int .i64 sn] 33 (0,0)):=by rw [<- hW1];exact heap_alloc_new _ _
           obtain ⟨Y,hY⟩:∃ Y:Nat->Prop,Y=fun k=>X k \/ (w.heap.size<=k/\k<W1.heap.size):=⟨_,rfl⟩
           have Q2:=hid (show QAt Y b acc W1 by rw [hY];exact h.more b2 (fun _ hk=>Or.inl hk) (fun _ hk=>hk))
           have ZQ:=hid (show ∀ l e w',QStep Y b l W1 e w'->QStep X b l w e w' from fun l e w' s=>QStep.with h b2 (by rw [<- hY];exact s))
           have HK2:=hid (Kept.refl Y W1)
           have YO:=hid (show ∀ k,k<b->Y k from fun k hk=>by rw [hY];exact Or.inl (h.old k hk))
           have SB:=hid (show ∀ w',Kept Y W1 w'->w'.heap[w.heap.size]? = some (.cells #[.int .i64 11,.string stb,.string snm,.slice ca scols.length cc,.slice na snames.length nc,.slice ra srow.length rc,.slice ea ssets.length ec,.slice wa swher.length wc,.string sj,.string sl,.string sr,.int .i64 sa,.slice oa sorder.length oc,.int .i64 sm,.int .i64 sn] 33 (0,0)) from fun w' k=>(k.block _ (by rw [hY];exact Or.inr ⟨by omega,by omega⟩) (jB hb0)).trans hb0)
           have LK:=hid (show ∀ w',Kept Y W1 w'->SlsAt (fun k=>k<b) w' ⟨.slice ca scols.length cc,.slice na snames.length nc,.slice ra srow.length rc,.slice ea ssets.length ec,.slice wa swher.length wc,.slice oa sorder.length oc⟩ ⟨11,stb,snm,scols,snames,srow,ssets,swher,sj,sl,sr,sa,sorder,sm,sn⟩ from fun w' k=>(hs.below b2).keep fun j hj hlt=>k.block j (YO.out j hj) hlt)
           have OK:=hid ok
           clear h hs ok b2 hY hb0
           have zk:=jC (SB.out _ HK2.out) 0
           simp only [gT,gZ,gS] at zk
           go_enter Tryz.func77,Tryz.ntmps77
           have z2:=jC (SB.out _ HK2.out) 2
           simp only [gT,gZ,gS] at z2
           have con:=add_words (w1:=W1.alloc (.cells (([w_savepoint,snm]:List ByteArray).map Value.string).toArray 9)) [w_savepoint,snm] (by simp) Q2.out rfl (by show acc.length+2<=1000000;omega)
           rw [h1s] at con
           go_wp2_with fail
           refine con.mono ?_
           rintro e w3 ⟨rfl,k3,q3⟩
           obtain ⟨A3,hA3⟩:∃ A,A=acc ++ ([w_savepoint,snm]:List ByteArray):=⟨_,rfl⟩
           have hL3:A3.length<=1010:=by
            rw [hA3,List.length_append]
            show acc.length+2<=1010;omega
           rw [<- hA3] at q3
           have EA3:=hid hA3
           have HK3:=hid (HK2.out.trans k3)
           have Q3:=hid q3
           clear con k3 q3 hA3
           clear z2
           clear zk
           go_wp2_with fail
           go_end0
           rw [HPST.out]
           refine ZQ.out _ _ _ ⟨rfl,HK3.out,?_⟩
           have e:A3=acc ++ tokensP ⟨11,stb,snm,scols,snames,srow,ssets,swher,sj,sl,sr,sa,sorder,sm,sn⟩:=by rw [EA3.out];rfl
           rw [<- e]
           exact Q3.out
         · skip
           by_cases k12:sk=12
           · subst k12
             obtain ⟨Pst,hPst⟩:∃ Pst,Pst=QStep X b (acc ++ tokensP ⟨12,stb,snm,scols,snames,srow,ssets,swher,sj,sl,sr,sa,sorder,sm,sn⟩) w:=⟨_,rfl⟩
             have HPST:=hid hPst
             rw [<- hPst]
             clear hPst
             obtain ⟨W1,hW1⟩:∃ W,w.alloc (.cells #[.int .i64 12,.string stb,.string snm,.slice ca scols.length cc,.slice na snames.length nc,.slice ra srow.length rc,.slice ea ssets.length ec,.slice wa swher.length wc,.string sj,.string sl,.string sr,.int .i64 sa,.slice oa sorder.length oc,.int .i64 sm,.int .i64 sn] 33)=W:=⟨_,rfl⟩
             have h1s:W1.heap.size=w.heap.size+1:=by rw [<- hW1];simp
             have b2:Below w.heap.size w W1:=by rw [<- hW1];exact (b0R).alloc (jR _) _
             have hb0:W1.heap[w.heap.size]? = some (.cells #[.int .i64 12,.string stb,.string snm,.slice ca scols.length cc,.slice na snames.length nc,.slice ra srow.length rc,.slice ea ssets.length ec,.slice wa swher.length wc,.string sj,.string sl,.string sr,.int .i64 sa,.slice oa sorder.length oc,.int .i64 sm,.int .i64 sn] 33 (0,0)):=by rw [<- hW1];exact heap_alloc_new _ _
             obtain ⟨Y,hY⟩:∃ Y:Nat->Prop,Y=fun k=>X k \/ (w.heap.size<=k/\k<W1.heap.size):=⟨_,rfl⟩
             have Q2:=hid (show QAt Y b acc W1 by rw [hY];exact h.more b2 (fun _ hk=>Or.inl hk) (fun _ hk=>hk))
             have ZQ:=hid (show ∀ l e w',QStep Y b l W1 e w'->QStep X b l w e w' from fun l e w' s=>QStep.with h b2 (by rw [<- hY];exact s))
             have HK2:=hid (Kept.refl Y W1)
             have YO:=hid (show ∀ k,k<b->Y k from fun k hk=>by rw [hY];exact Or.inl (h.old k hk))
             have SB:=hid (show ∀ w',Kept Y W1 w'->w'.heap[w.heap.size]? = some (.cells #[.int .i64 12,.string stb,.string snm,.slice ca scols.length cc,.slice na snames.length nc,.slice ra srow.length rc,.slice ea ssets.length ec,.slice wa swher.length wc,.string sj,.string sl,.string sr,.int .i64 sa,.slice oa sorder.length oc,.int .i64 sm,.int .i64 sn] 33 (0,0)) from fun w' k=>(k.block _ (by rw [hY];exact Or.inr ⟨by omega,by omega⟩) (jB hb0)).trans hb0)
             have LK:=hid (show ∀ w',Kept Y W1 w'->SlsAt (fun k=>k<b) w' ⟨.slice ca scols.length cc,.slice na snames.length nc,.slice ra srow.length rc,.slice ea ssets.length ec,.slice wa swher.length wc,.slice oa sorder.length oc⟩ ⟨12,stb,snm,scols,snames,srow,ssets,swher,sj,sl,sr,sa,sorder,sm,sn⟩ from fun w' k=>(hs.below b2).keep fun j hj hlt=>k.block j (YO.out j hj) hlt)
             have OK:=hid ok
             clear h hs ok b2 hY hb0
             have zk:=jC (SB.out _ HK2.out) 0
             simp only [gT,gZ,gS] at zk
             go_enter Tryz.func77,Tryz.ntmps77
             have z2:=jC (SB.out _ HK2.out) 2
             simp only [gT,gZ,gS] at z2
             have con:=add_words (w1:=W1.alloc (.cells (([w_rollback,w_to,snm]:List ByteArray).map Value.string).toArray 9)) [w_rollback,w_to,snm] (by simp) Q2.out rfl (by show acc.length+3<=1000000;omega)
             rw [h1s] at con
             go_wp2_with fail
             refine con.mono ?_
             rintro e w3 ⟨rfl,k3,q3⟩
             obtain ⟨A3,hA3⟩:∃ A,A=acc ++ ([w_rollback,w_to,snm]:List ByteArray):=⟨_,rfl⟩
             have hL3:A3.length<=1010:=by
              rw [hA3,List.length_append]
              show acc.length+3<=1010;omega
             rw [<- hA3] at q3
             have EA3:=hid hA3
             have HK3:=hid (HK2.out.trans k3)
             have Q3:=hid q3
             clear con k3 q3 hA3
             clear z2
             clear zk
             go_wp2_with fail
             go_end0
             rw [HPST.out]
             refine ZQ.out _ _ _ ⟨rfl,HK3.out,?_⟩
             have e:A3=acc ++ tokensP ⟨12,stb,snm,scols,snames,srow,ssets,swher,sj,sl,sr,sa,sorder,sm,sn⟩:=by rw [EA3.out];rfl
             rw [<- e]
             exact Q3.out
           · skip
             by_cases k13:sk=13
             · subst k13
               obtain ⟨Pst,hPst⟩:∃ Pst,Pst=QStep X b (acc ++ tokensP ⟨13,stb,snm,scols,snames,srow,ssets,swher,sj,sl,sr,sa,sorder,sm,sn⟩) w:=⟨_,rfl⟩
               have HPST:=hid hPst
               rw [<- hPst]
               clear hPst
               obtain ⟨W1,hW1⟩:∃ W,w.alloc (.cells #[.int .i64 13,.string stb,.string snm,.slice ca scols.length cc,.slice na snames.length nc,.slice ra srow.length rc,.slice ea ssets.length ec,.slice wa swher.length wc,.string sj,.string sl,.string sr,.int .i64 sa,.slice oa sorder.length oc,.int .i64 sm,.int .i64 sn] 33)=W:=⟨_,rfl⟩
               have h1s:W1.heap.size=w.heap.size+1:=by rw [<- hW1];simp
               have b2:Below w.heap.size w W1:=by rw [<- hW1];exact (b0R).alloc (jR _) _
               have hb0:W1.heap[w.heap.size]? = some (.cells #[.int .i64 13,.string stb,.string snm,.slice ca scols.length cc,.slice na snames.length nc,.slice ra srow.length rc,.slice ea ssets.length ec,.slice wa swher.length wc,.string sj,.string sl,.string sr,.int .i64 sa,.slice oa sorder.length oc,.int .i64 sm,.int .i64 sn] 33 (0,0)):=by rw [<- hW1];exact heap_alloc_new _ _
               obtain ⟨Y,hY⟩:∃ Y:Nat->Prop,Y=fun k=>X k \/ (w.heap.size<=k/\k<W1.heap.size):=⟨_,rfl⟩
               have Q2:=hid (show QAt Y b acc W1 by rw [hY];exact h.more b2 (fun _ hk=>Or.inl hk) (fun _ hk=>hk))
               have ZQ:=hid (show ∀ l e w',QStep Y b l W1 e w'->QStep X b l w e w' from fun l e w' s=>QStep.with h b2 (by rw [<- hY];exact s))
               have HK2:=hid (Kept.refl Y W1)
               have YO:=hid (show ∀ k,k<b->Y k from fun k hk=>by rw [hY];exact Or.inl (h.old k hk))
               have SB:=hid (show ∀ w',Kept Y W1 w'->w'.heap[w.heap.size]? = some (.cells #[.int .i64 13,.string stb,.string snm,.slice ca scols.length cc,.slice na snames.length nc,.slice ra srow.length rc,.slice ea ssets.length ec,.slice wa swher.length wc,.string sj,.string sl,.string sr,.int .i64 sa,.slice oa sorder.length oc,.int .i64 sm,.int .i64 sn] 33 (0,0)) from fun w' k=>(k.block _ (by rw [hY];exact Or.inr ⟨by omega,by omega⟩) (jB hb0)).trans hb0)
               have LK:=hid (show ∀ w',Kept Y W1 w'->SlsAt (fun k=>k<b) w' ⟨.slice ca scols.length cc,.slice na snames.length nc,.slice ra srow.length rc,.slice ea ssets.length ec,.slice wa swher.length wc,.slice oa sorder.length oc⟩ ⟨13,stb,snm,scols,snames,srow,ssets,swher,sj,sl,sr,sa,sorder,sm,sn⟩ from fun w' k=>(hs.below b2).keep fun j hj hlt=>k.block j (YO.out j hj) hlt)
               have OK:=hid ok
               clear h hs ok b2 hY hb0
               have zk:=jC (SB.out _ HK2.out) 0
               simp only [gT,gZ,gS] at zk
               go_enter Tryz.func77,Tryz.ntmps77
               have z2:=jC (SB.out _ HK2.out) 2
               simp only [gT,gZ,gS] at z2
               have con:=add_words (w1:=W1.alloc (.cells (([w_prepare,snm]:List ByteArray).map Value.string).toArray 9)) [w_prepare,snm] (by simp) Q2.out rfl (by show acc.length+2<=1000000;omega)
               rw [h1s] at con
               go_wp2_with fail
               refine con.mono ?_
               rintro e w3 ⟨rfl,k3,q3⟩
               obtain ⟨A3,hA3⟩:∃ A,A=acc ++ ([w_prepare,snm]:List ByteArray):=⟨_,rfl⟩
               have hL3:A3.length<=1010:=by
                rw [hA3,List.length_append]
                show acc.length+2<=1010;omega
               rw [<- hA3] at q3
               have EA3:=hid hA3
               have HK3:=hid (HK2.out.trans k3)
               have Q3:=hid q3
               clear con k3 q3 hA3
               clear z2
               clear zk
               go_wp2_with fail
               go_end0
               rw [HPST.out]
               refine ZQ.out _ _ _ ⟨rfl,HK3.out,?_⟩
               have e:A3=acc ++ tokensP ⟨13,stb,snm,scols,snames,srow,ssets,swher,sj,sl,sr,sa,sorder,sm,sn⟩:=by rw [EA3.out];rfl
               rw [<- e]
               exact Q3.out
             · skip
               by_cases k14:sk=14
               · subst k14
                 obtain ⟨Pst,hPst⟩:∃ Pst,Pst=QStep X b (acc ++ tokensP ⟨14,stb,snm,scols,snames,srow,ssets,swher,sj,sl,sr,sa,sorder,sm,sn⟩) w:=⟨_,rfl⟩
                 have HPST:=hid hPst
                 rw [<- hPst]
                 clear hPst
                 obtain ⟨W1,hW1⟩:∃ W,w.alloc (.cells #[.int .i64 14,.string stb,.string snm,.slice ca scols.length cc,.slice na snames.length nc,.slice ra srow.length rc,.slice ea ssets.length ec,.slice wa swher.length wc,.string sj,.string sl,.string sr,.int .i64 sa,.slice oa sorder.length oc,.int .i64 sm,.int .i64 sn] 33)=W:=⟨_,rfl⟩
                 have h1s:W1.heap.size=w.heap.size+1:=by rw [<- hW1];simp
                 have b2:Below w.heap.size w W1:=by rw [<- hW1];exact (b0R).alloc (jR _) _
                 have hb0:W1.heap[w.heap.size]? = some (.cells #[.int .i64 14,.string stb,.string snm,.slice ca scols.length cc,.slice na snames.length nc,.slice ra srow.length rc,.slice ea ssets.length ec,.slice wa swher.length wc,.string sj,.string sl,.string sr,.int .i64 sa,.slice oa sorder.length oc,.int .i64 sm,.int .i64 sn] 33 (0,0)):=by rw [<- hW1];exact heap_alloc_new _ _
                 obtain ⟨Y,hY⟩:∃ Y:Nat->Prop,Y=fun k=>X k \/ (w.heap.size<=k/\k<W1.heap.size):=⟨_,rfl⟩
                 have Q2:=hid (show QAt Y b acc W1 by rw [hY];exact h.more b2 (fun _ hk=>Or.inl hk) (fun _ hk=>hk))
                 have ZQ:=hid (show ∀ l e w',QStep Y b l W1 e w'->QStep X b l w e w' from fun l e w' s=>QStep.with h b2 (by rw [<- hY];exact s))
                 have HK2:=hid (Kept.refl Y W1)
                 have YO:=hid (show ∀ k,k<b->Y k from fun k hk=>by rw [hY];exact Or.inl (h.old k hk))
                 have SB:=hid (show ∀ w',Kept Y W1 w'->w'.heap[w.heap.size]? = some (.cells #[.int .i64 14,.string stb,.string snm,.slice ca scols.length cc,.slice na snames.length nc,.slice ra srow.length rc,.slice ea ssets.length ec,.slice wa swher.length wc,.string sj,.string sl,.string sr,.int .i64 sa,.slice oa sorder.length oc,.int .i64 sm,.int .i64 sn] 33 (0,0)) from fun w' k=>(k.block _ (by rw [hY];exact Or.inr ⟨by omega,by omega⟩) (jB hb0)).trans hb0)
                 have LK:=hid (show ∀ w',Kept Y W1 w'->SlsAt (fun k=>k<b) w' ⟨.slice ca scols.length cc,.slice na snames.length nc,.slice ra srow.length rc,.slice ea ssets.length ec,.slice wa swher.length wc,.slice oa sorder.length oc⟩ ⟨14,stb,snm,scols,snames,srow,ssets,swher,sj,sl,sr,sa,sorder,sm,sn⟩ from fun w' k=>(hs.below b2).keep fun j hj hlt=>k.block j (YO.out j hj) hlt)
                 have OK:=hid ok
                 clear h hs ok b2 hY hb0
                 have zk:=jC (SB.out _ HK2.out) 0
                 simp only [gT,gZ,gS] at zk
                 go_enter Tryz.func77,Tryz.ntmps77
                 have z2:=jC (SB.out _ HK2.out) 2
                 simp only [gT,gZ,gS] at z2
                 have con:=add_words (w1:=W1.alloc (.cells (([w_commit,w_prepared,snm]:List ByteArray).map Value.string).toArray 9)) [w_commit,w_prepared,snm] (by simp) Q2.out rfl (by show acc.length+3<=1000000;omega)
                 rw [h1s] at con
                 go_wp2_with fail
                 refine con.mono ?_
                 rintro e w3 ⟨rfl,k3,q3⟩
                 obtain ⟨A3,hA3⟩:∃ A,A=acc ++ ([w_commit,w_prepared,snm]:List ByteArray):=⟨_,rfl⟩
                 have hL3:A3.length<=1010:=by
                  rw [hA3,List.length_append]
                  show acc.length+3<=1010;omega
                 rw [<- hA3] at q3
                 have EA3:=hid hA3
                 have HK3:=hid (HK2.out.trans k3)
                 have Q3:=hid q3
                 clear con k3 q3 hA3
                 clear z2
                 clear zk
                 go_wp2_with fail
                 go_end0
                 rw [HPST.out]
                 refine ZQ.out _ _ _ ⟨rfl,HK3.out,?_⟩
                 have e:A3=acc ++ tokensP ⟨14,stb,snm,scols,snames,srow,ssets,swher,sj,sl,sr,sa,sorder,sm,sn⟩:=by rw [EA3.out];rfl
                 rw [<- e]
                 exact Q3.out
               · skip
                 by_cases k15:sk=15
                 · subst k15
                   obtain ⟨Pst,hPst⟩:∃ Pst,Pst=QStep X b (acc ++ tokensP ⟨15,stb,snm,scols,snames,srow,ssets,swher,sj,sl,sr,sa,sorder,sm,sn⟩) w:=⟨_,rfl⟩
                   have HPST:=hid hPst
                   rw [<- hPst]
                   clear hPst
                   obtain ⟨W1,hW1⟩:∃ W,w.alloc (.cells #[.int .i64 15,.string stb,.string snm,.slice ca scols.length cc,.slice na snames.length nc,.slice ra srow.length rc,.slice ea ssets.length ec,.slice wa swher.length wc,.string sj,.string sl,.string sr,.int .i64 sa,.slice oa sorder.length oc,.int .i64 sm,.int .i64 sn] 33)=W:=⟨_,rfl⟩
                   have h1s:W1.heap.size=w.heap.size+1:=by rw [<- hW1];simp
                   have b2:Below w.heap.size w W1:=by rw [<- hW1];exact (b0R).alloc (jR _) _
                   have hb0:W1.heap[w.heap.size]? = some (.cells #[.int .i64 15,.string stb,.string snm,.slice ca scols.length cc,.slice na snames.length nc,.slice ra srow.length rc,.slice ea ssets.length ec,.slice wa swher.length wc,.string sj,.string sl,.string sr,.int .i64 sa,.slice oa sorder.length oc,.int .i64 sm,.int .i64 sn] 33 (0,0)):=by rw [<- hW1];exact heap_alloc_new _ _
                   obtain ⟨Y,hY⟩:∃ Y:Nat->Prop,Y=fun k=>X k \/ (w.heap.size<=k/\k<W1.heap.size):=⟨_,rfl⟩
                   have Q2:=hid (show QAt Y b acc W1 by rw [hY];exact h.more b2 (fun _ hk=>Or.inl hk) (fun _ hk=>hk))
                   have ZQ:=hid (show ∀ l e w',QStep Y b l W1 e w'->QStep X b l w e w' from fun l e w' s=>QStep.with h b2 (by rw [<- hY];exact s))
                   have HK2:=hid (Kept.refl Y W1)
                   have YO:=hid (show ∀ k,k<b->Y k from fun k hk=>by rw [hY];exact Or.inl (h.old k hk))
                   have SB:=hid (show ∀ w',Kept Y W1 w'->w'.heap[w.heap.size]? = some (.cells #[.int .i64 15,.string stb,.string snm,.slice ca scols.length cc,.slice na snames.length nc,.slice ra srow.length rc,.slice ea ssets.length ec,.slice wa swher.length wc,.string sj,.string sl,.string sr,.int .i64 sa,.slice oa sorder.length oc,.int .i64 sm,.int .i64 sn] 33 (0,0)) from fun w' k=>(k.block _ (by rw [hY];exact Or.inr ⟨by omega,by omega⟩) (jB hb0)).trans hb0)
                   have LK:=hid (show ∀ w',Kept Y W1 w'->SlsAt (fun k=>k<b) w' ⟨.slice ca scols.length cc,.slice na snames.length nc,.slice ra srow.length rc,.slice ea ssets.length ec,.slice wa swher.length wc,.slice oa sorder.length oc⟩ ⟨15,stb,snm,scols,snames,srow,ssets,swher,sj,sl,sr,sa,sorder,sm,sn⟩ from fun w' k=>(hs.below b2).keep fun j hj hlt=>k.block j (YO.out j hj) hlt)
                   have OK:=hid ok
                   clear h hs ok b2 hY hb0
                   have zk:=jC (SB.out _ HK2.out) 0
                   simp only [gT,gZ,gS] at zk
                   go_enter Tryz.func77,Tryz.ntmps77
                   have z2:=jC (SB.out _ HK2.out) 2
                   simp only [gT,gZ,gS] at z2
                   have con:=add_words (w1:=W1.alloc (.cells (([w_rollback,w_prepared,snm]:List ByteArray).map Value.string).toArray 9)) [w_rollback,w_prepared,snm] (by simp) Q2.out rfl (by show acc.length+3<=1000000;omega)
                   rw [h1s] at con
                   go_wp2_with fail
                   refine con.mono ?_
                   rintro e w3 ⟨rfl,k3,q3⟩
                   obtain ⟨A3,hA3⟩:∃ A,A=acc ++ ([w_rollback,w_prepared,snm]:List ByteArray):=⟨_,rfl⟩
                   have hL3:A3.length<=1010:=by
                    rw [hA3,List.length_append]
                    show acc.length+3<=1010;omega
                   rw [<- hA3] at q3
                   have EA3:=hid hA3
                   have HK3:=hid (HK2.out.trans k3)
                   have Q3:=hid q3
                   clear con k3 q3 hA3
                   clear z2
                   clear zk
                   go_wp2_with fail
                   go_end0
                   rw [HPST.out]
                   refine ZQ.out _ _ _ ⟨rfl,HK3.out,?_⟩
                   have e:A3=acc ++ tokensP ⟨15,stb,snm,scols,snames,srow,ssets,swher,sj,sl,sr,sa,sorder,sm,sn⟩:=by rw [EA3.out];rfl
                   rw [<- e]
                   exact Q3.out
                 · skip
                   by_cases k16:sk=16
                   · subst k16
                     obtain ⟨Pst,hPst⟩:∃ Pst,Pst=QStep X b (acc ++ tokensP ⟨16,stb,snm,scols,snames,srow,ssets,swher,sj,sl,sr,sa,sorder,sm,sn⟩) w:=⟨_,rfl⟩
                     have HPST:=hid hPst
                     rw [<- hPst]
                     clear hPst
                     obtain ⟨W1,hW1⟩:∃ W,w.alloc (.cells #[.int .i64 16,.string stb,.string snm,.slice ca scols.length cc,.slice na snames.length nc,.slice ra srow.length rc,.slice ea ssets.length ec,.slice wa swher.length wc,.string sj,.string sl,.string sr,.int .i64 sa,.slice oa sorder.length oc,.int .i64 sm,.int .i64 sn] 33)=W:=⟨_,rfl⟩
                     have h1s:W1.heap.size=w.heap.size+1:=by rw [<- hW1];simp
                     have b2:Below w.heap.size w W1:=by rw [<- hW1];exact (b0R).alloc (jR _) _
                     have hb0:W1.heap[w.heap.size]? = some (.cells #[.int .i64 16,.string stb,.string snm,.slice ca scols.length cc,.slice na snames.length nc,.slice ra srow.length rc,.slice ea ssets.length ec,.slice wa swher.length wc,.string sj,.string sl,.string sr,.int .i64 sa,.slice oa sorder.length oc,.int .i64 sm,.int .i64 sn] 33 (0,0)):=by rw [<- hW1];exact heap_alloc_new _ _
                     obtain ⟨Y,hY⟩:∃ Y:Nat->Prop,Y=fun k=>X k \/ (w.heap.size<=k/\k<W1.heap.size):=⟨_,rfl⟩
                     have Q2:=hid (show QAt Y b acc W1 by rw [hY];exact h.more b2 (fun _ hk=>Or.inl hk) (fun _ hk=>hk))
                     have ZQ:=hid (show ∀ l e w',QStep Y b l W1 e w'->QStep X b l w e w' from fun l e w' s=>QStep.with h b2 (by rw [<- hY];exact s))
                     have HK2:=hid (Kept.refl Y W1)
                     have YO:=hid (show ∀ k,k<b->Y k from fun k hk=>by rw [hY];exact Or.inl (h.old k hk))
                     have SB:=hid (show ∀ w',Kept Y W1 w'->w'.heap[w.heap.size]? = some (.cells #[.int .i64 16,.string stb,.string snm,.slice ca scols.length cc,.slice na snames.length nc,.slice ra srow.length rc,.slice ea ssets.length ec,.slice wa swher.length wc,.string sj,.string sl,.string sr,.int .i64 sa,.slice oa sorder.length oc,.int .i64 sm,.int .i64 sn] 33 (0,0)) from fun w' k=>(k.block _ (by rw [hY];exact Or.inr ⟨by omega,by omega⟩) (jB hb0)).trans hb0)
                     have LK:=hid (show ∀ w',Kept Y W1 w'->SlsAt (fun k=>k<b) w' ⟨.slice ca scols.length cc,.slice na snames.length nc,.slice ra srow.length rc,.slice ea ssets.length ec,.slice wa swher.length wc,.slice oa sorder.length oc⟩ ⟨16,stb,snm,scols,snames,srow,ssets,swher,sj,sl,sr,sa,sorder,sm,sn⟩ from fun w' k=>(hs.below b2).keep fun j hj hlt=>k.block j (YO.out j hj) hlt)
                     have OK:=hid ok
                     clear h hs ok b2 hY hb0
                     have zk:=jC (SB.out _ HK2.out) 0
                     simp only [gT,gZ,gS] at zk
                     go_enter Tryz.func77,Tryz.ntmps77
                     have z1:=jC (SB.out _ HK2.out) 1
                     simp only [gT,gZ,gS] at z1
                     have con:=add_words (w1:=W1.alloc (.cells (([w_vacuum,stb]:List ByteArray).map Value.string).toArray 9)) [w_vacuum,stb] (by simp) Q2.out rfl (by show acc.length+2<=1000000;omega)
                     rw [h1s] at con
                     go_wp2_with fail
                     refine con.mono ?_
                     rintro e w3 ⟨rfl,k3,q3⟩
                     obtain ⟨A3,hA3⟩:∃ A,A=acc ++ ([w_vacuum,stb]:List ByteArray):=⟨_,rfl⟩
                     have hL3:A3.length<=1010:=by
                      rw [hA3,List.length_append]
                      show acc.length+2<=1010;omega
                     rw [<- hA3] at q3
                     have EA3:=hid hA3
                     have HK3:=hid (HK2.out.trans k3)
                     have Q3:=hid q3
                     clear con k3 q3 hA3
                     clear z1
                     clear zk
                     go_wp2_with fail
                     go_end0
                     rw [HPST.out]
                     refine ZQ.out _ _ _ ⟨rfl,HK3.out,?_⟩
                     have e:A3=acc ++ tokensP ⟨16,stb,snm,scols,snames,srow,ssets,swher,sj,sl,sr,sa,sorder,sm,sn⟩:=by rw [EA3.out];rfl
                     rw [<- e]
                     exact Q3.out
                   · skip
                     by_cases k18:sk=18
                     · subst k18
                       obtain ⟨Pst,hPst⟩:∃ Pst,Pst=QStep X b (acc ++ tokensP ⟨18,stb,snm,scols,snames,srow,ssets,swher,sj,sl,sr,sa,sorder,sm,sn⟩) w:=⟨_,rfl⟩
                       have HPST:=hid hPst
                       rw [<- hPst]
                       clear hPst
                       obtain ⟨W1,hW1⟩:∃ W,w.alloc (.cells #[.int .i64 18,.string stb,.string snm,.slice ca scols.length cc,.slice na snames.length nc,.slice ra srow.length rc,.slice ea ssets.length ec,.slice wa swher.length wc,.string sj,.string sl,.string sr,.int .i64 sa,.slice oa sorder.length oc,.int .i64 sm,.int .i64 sn] 33)=W:=⟨_,rfl⟩
                       have h1s:W1.heap.size=w.heap.size+1:=by rw [<- hW1];simp
                       have b2:Below w.heap.size w W1:=by rw [<- hW1];exact (b0R).alloc (jR _) _
                       have hb0:W1.heap[w.heap.size]? = some (.cells #[.int .i64 18,.string stb,.string snm,.slice ca scols.length cc,.slice na snames.length nc,.slice ra srow.length rc,.slice ea ssets.length ec,.slice wa swher.length wc,.string sj,.string sl,.string sr,.int .i64 sa,.slice oa sorder.length oc,.int .i64 sm,.int .i64 sn] 33 (0,0)):=by rw [<- hW1];exact heap_alloc_new _ _
                       obtain ⟨Y,hY⟩:∃ Y:Nat->Prop,Y=fun k=>X k \/ (w.heap.size<=k/\k<W1.heap.size):=⟨_,rfl⟩
                       have Q2:=hid (show QAt Y b acc W1 by rw [hY];exact h.more b2 (fun _ hk=>Or.inl hk) (fun _ hk=>hk))
                       have ZQ:=hid (show ∀ l e w',QStep Y b l W1 e w'->QStep X b l w e w' from fun l e w' s=>QStep.with h b2 (by rw [<- hY];exact s))
                       have HK2:=hid (Kept.refl Y W1)
                       have YO:=hid (show ∀ k,k<b->Y k from fun k hk=>by rw [hY];exact Or.inl (h.old k hk))
                       have SB:=hid (show ∀ w',Kept Y W1 w'->w'.heap[w.heap.size]? = some (.cells #[.int .i64 18,.string stb,.string snm,.slice ca scols.length cc,.slice na snames.length nc,.slice ra srow.length rc,.slice ea ssets.length ec,.slice wa swher.length wc,.string sj,.string sl,.string sr,.int .i64 sa,.slice oa sorder.length oc,.int .i64 sm,.int .i64 sn] 33 (0,0)) from fun w' k=>(k.block _ (by rw [hY];exact Or.inr ⟨by omega,by omega⟩) (jB hb0)).trans hb0)
                       have LK:=hid (show ∀ w',Kept Y W1 w'->SlsAt (fun k=>k<b) w' ⟨.slice ca scols.length cc,.slice na snames.length nc,.slice ra srow.length rc,.slice ea ssets.length ec,.slice wa swher.length wc,.slice oa sorder.length oc⟩ ⟨18,stb,snm,scols,snames,srow,ssets,swher,sj,sl,sr,sa,sorder,sm,sn⟩ from fun w' k=>(hs.below b2).keep fun j hj hlt=>k.block j (YO.out j hj) hlt)
                       have OK:=hid ok
                       clear h hs ok b2 hY hb0
                       have zk:=jC (SB.out _ HK2.out) 0
                       simp only [gT,gZ,gS] at zk
                       go_enter Tryz.func77,Tryz.ntmps77
                       have z2:=jC (SB.out _ HK2.out) 2
                       simp only [gT,gZ,gS] at z2
                       have con:=add_words (w1:=W1.alloc (.cells (([w_slot,snm]:List ByteArray).map Value.string).toArray 9)) [w_slot,snm] (by simp) Q2.out rfl (by show acc.length+2<=1000000;omega)
                       rw [h1s] at con
                       go_wp2_with fail
                       refine con.mono ?_
                       rintro e w3 ⟨rfl,k3,q3⟩
                       obtain ⟨A3,hA3⟩:∃ A,A=acc ++ ([w_slot,snm]:List ByteArray):=⟨_,rfl⟩
                       have hL3:A3.length<=1010:=by
                        rw [hA3,List.length_append]
                        show acc.length+2<=1010;omega
                       rw [<- hA3] at q3
                       have EA3:=hid hA3
                       have HK3:=hid (HK2.out.trans k3)
                       have Q3:=hid q3
                       clear con k3 q3 hA3
                       clear z2
                       clear zk
                       go_wp2_with fail
                       go_end0
                       rw [HPST.out]
                       refine ZQ.out _ _ _ ⟨rfl,HK3.out,?_⟩
                       have e:A3=acc ++ tokensP ⟨18,stb,snm,scols,snames,srow,ssets,swher,sj,sl,sr,sa,sorder,sm,sn⟩:=by rw [EA3.out];rfl
                       rw [<- e]
                       exact Q3.out
                     · skip
                       by_cases k19:sk=19
                       · subst k19
                         obtain ⟨Pst,hPst⟩:∃ Pst,Pst=QStep X b (acc ++ tokensP ⟨19,stb,snm,scols,snames,srow,ssets,swher,sj,sl,sr,sa,sorder,sm,sn⟩) w:=⟨_,rfl⟩
                         have HPST:=hid hPst
                         rw [<- hPst]
                         clear hPst
                         obtain ⟨W1,hW1⟩:∃ W,w.alloc (.cells #[.int .i64 19,.string stb,.string snm,.slice ca scols.length cc,.slice na snames.length nc,.slice ra srow.length rc,.slice ea ssets.length ec,.slice wa swher.length wc,.string sj,.string sl,.string sr,.int .i64 sa,.slice oa sorder.length oc,.int .i64 sm,.int .i64 sn] 33)=W:=⟨_,rfl⟩
                         have h1s:W1.heap.size=w.heap.size+1:=by rw [<- hW1];simp
                         have b2:Below w.heap.size w W1:=by rw [<- hW1];exact (b0R).alloc (jR _) _
                         have hb0:W1.heap[w.heap.size]? = some (.cells #[.int .i64 19,.string stb,.string snm,.slice ca scols.length cc,.slice na snames.length nc,.slice ra srow.length rc,.slice ea ssets.length ec,.slice wa swher.length wc,.string sj,.string sl,.string sr,.int .i64 sa,.slice oa sorder.length oc,.int .i64 sm,.int .i64 sn] 33 (0,0)):=by rw [<- hW1];exact heap_alloc_new _ _
                         obtain ⟨Y,hY⟩:∃ Y:Nat->Prop,Y=fun k=>X k \/ (w.heap.size<=k/\k<W1.heap.size):=⟨_,rfl⟩
                         have Q2:=hid (show QAt Y b acc W1 by rw [hY];exact h.more b2 (fun _ hk=>Or.inl hk) (fun _ hk=>hk))
                         have ZQ:=hid (show ∀ l e w',QStep Y b l W1 e w'->QStep X b l w e w' from fun l e w' s=>QStep.with h b2 (by rw [<- hY];exact s))
                         have HK2:=hid (Kept.refl Y W1)
                         have YO:=hid (show ∀ k,k<b->Y k from fun k hk=>by rw [hY];exact Or.inl (h.old k hk))
                         have SB:=hid (show ∀ w',Kept Y W1 w'->w'.heap[w.heap.size]? = some (.cells #[.int .i64 19,.string stb,.string snm,.slice ca scols.length cc,.slice na snames.length nc,.slice ra srow.length rc,.slice ea ssets.length ec,.slice wa swher.length wc,.string sj,.string sl,.string sr,.int .i64 sa,.slice oa sorder.length oc,.int .i64 sm,.int .i64 sn] 33 (0,0)) from fun w' k=>(k.block _ (by rw [hY];exact Or.inr ⟨by omega,by omega⟩) (jB hb0)).trans hb0)
                         have LK:=hid (show ∀ w',Kept Y W1 w'->SlsAt (fun k=>k<b) w' ⟨.slice ca scols.length cc,.slice na snames.length nc,.slice ra srow.length rc,.slice ea ssets.length ec,.slice wa swher.length wc,.slice oa sorder.length oc⟩ ⟨19,stb,snm,scols,snames,srow,ssets,swher,sj,sl,sr,sa,sorder,sm,sn⟩ from fun w' k=>(hs.below b2).keep fun j hj hlt=>k.block j (YO.out j hj) hlt)
                         have OK:=hid ok
                         clear h hs ok b2 hY hb0
                         have HEN:=hid (enters_of Tryz.func68 (by kernel_rfl) rfl)
                         have zk:=jC (SB.out _ HK2.out) 0
                         simp only [gT,gZ,gS] at zk
                         go_enter Tryz.func77,Tryz.ntmps77
                         go_upto_region 30 with (fail)
                         clear zk
                         have HLN:=hid (show acc.length+([w_slot,snm,w_get,⟨⟨Lib.itoa sn⟩⟩]:List ByteArray).length<=1000000 by simp;omega)
                         refine wp_region_loose2 [([0,1,2,3,4,5],6),([],7)] (Below W1.heap.size W1) (Below W1.heap.size W1) (by kernel_rfl) (by kernel_rfl) (by kernel_rfl) (fun z1 z2 h b=>h.trans (b.mono h.size)) (Below.drew b0R) ?_
                         apply wpSegs_cons (Below W1.heap.size W1) (BSl W1 [w_slot,snm,w_get,⟨⟨Lib.itoa sn⟩⟩]) (fun _ h=>h) (fun _ h=>h)
                         case hq =>
                          intro z1 hz1
                          have ne:Nonempty (Wld (Below z1.heap.size z1)):=⟨⟨z1,Below.refl _ _⟩⟩
                          have B1:=fun x:Wld (Below z1.heap.size z1)=>hz1.trans (x.good.mono hz1.size)
                          have x0:=fun x:Wld (Below z1.heap.size z1)=>jC (SB.out _ (Below.kept (B1 x) Y)) 2
                          have x1:=fun x:Wld (Below z1.heap.size z1)=>jC (SB.out _ (Below.kept (B1 x) Y)) 14
                          have HCON:=hid (fun x:Wld (Below z1.heap.size z1)=>itoa_any OK.out.n (Q2.out.below (B1 x)).env)
                          simp only [gT,gZ,gS] at x0 x1
                          simp only [pickOps,List.getElem?_cons_zero,List.getElem?_cons_succ]
                          apply quiet_hide
                          intro KE hKE
                          clear B1
                          repeat (go_big_quiet_step ((go_at_call 123;(with_reducible refine Calls.mono (HCON.out _) ?_);rintro e w3 ⟨rfl,b3⟩;exact ⟨rfl,class_below _ b3 (jR _)⟩)))
                          refine wpQuiet_nil ?_
                          exact hKE _ rfl
                         case ho=>rfl
                         case hop=>rfl
                         case hw=>kernel_rfl
                         case hD=>exact fun u z1 z2 h hb=>h.below hb
                         case hDJ=>exact fun _ u w' h=>h.after
                         case hlo =>
                          intro wa ba
                          go_wp2_with fail
                          exact bsl_new ba
                         case hrest =>
                          rintro u z1 ⟨g,rfl,-⟩
                          simp only [Act.put,List.setIfInBounds_toArray,List.set_cons_succ,List.set_cons_zero]
                          apply wpSegs_call (BSl W1 [w_slot,snm,w_get,⟨⟨Lib.itoa sn⟩⟩] (.slice (some ⟨g,0,none⟩) ([w_slot,snm,w_get,⟨⟨Lib.itoa sn⟩⟩]:List ByteArray).length ([w_slot,snm,w_get,⟨⟨Lib.itoa sn⟩⟩]:List ByteArray).length)) (fun _ w'=>Kept Y W1 w'/\QAt Y b (acc ++ [w_slot,snm,w_get,⟨⟨Lib.itoa sn⟩⟩]) w') (fun _ h=>h.after) (fun _ h=>h)
                          case hq=>exact fun _ _=>rfl
                          case ho=>rfl
                          case hw=>kernel_rfl
                          case hD=>exact fun u z1 z2 h hb=>⟨h.1.trans (Below.kept hb _),h.2.below hb⟩
                          case hDJ=>exact fun h=>absurd rfl h
                          case hlo =>
                           intro z1 hz1
                           refine loose_call (args:=#[.pointer (some ⟨b,0,none⟩),.slice (some ⟨g,0,none⟩) ([w_slot,snm,w_get,⟨⟨Lib.itoa sn⟩⟩]:List ByteArray).length ([w_slot,snm,w_get,⟨⟨Lib.itoa sn⟩⟩]:List ByteArray).length]) (run_call_func rfl (by kernel_rfl) HEN.out) ((add_at Q2.out hz1 (by simp) HLN.out).mono ?_)
                           rintro e z2 ⟨rfl,k2,q2⟩
                           exact ⟨_,rfl,k2,q2⟩
                          case hrest =>
                           rintro _ z1 -
                           simp only [Act.put]
                           refine wpSegs_nil fun w9 h9=>?_
                           go_wp2_with fail
                           go_end0
                           rw [HPST.out]
                           exact ZQ.out _ _ _ ⟨rfl,h9⟩
                       · skip
                         by_cases k20:sk=20
                         · subst k20
                           obtain ⟨Pst,hPst⟩:∃ Pst,Pst=QStep X b (acc ++ tokensP ⟨20,stb,snm,scols,snames,srow,ssets,swher,sj,sl,sr,sa,sorder,sm,sn⟩) w:=⟨_,rfl⟩
                           have HPST:=hid hPst
                           rw [<- hPst]
                           clear hPst
                           obtain ⟨W1,hW1⟩:∃ W,w.alloc (.cells #[.int .i64 20,.string stb,.string snm,.slice ca scols.length cc,.slice na snames.length nc,.slice ra srow.length rc,.slice ea ssets.length ec,.slice wa swher.length wc,.string sj,.string sl,.string sr,.int .i64 sa,.slice oa sorder.length oc,.int .i64 sm,.int .i64 sn] 33)=W:=⟨_,rfl⟩
                           have h1s:W1.heap.size=w.heap.size+1:=by rw [<- hW1];simp
                           have b2:Below w.heap.size w W1:=by rw [<- hW1];exact (b0R).alloc (jR _) _
                           have hb0:W1.heap[w.heap.size]? = some (.cells #[.int .i64 20,.string stb,.string snm,.slice ca scols.length cc,.slice na snames.length nc,.slice ra srow.length rc,.slice ea ssets.length ec,.slice wa swher.length wc,.string sj,.string sl,.string sr,.int .i64 sa,.slice oa sorder.length oc,.int .i64 sm,.int .i64 sn] 33 (0,0)):=by rw [<- hW1];exact heap_alloc_new _ _
                           obtain ⟨Y,hY⟩:∃ Y:Nat->Prop,Y=fun k=>X k \/ (w.heap.size<=k/\k<W1.heap.size):=⟨_,rfl⟩
                           have Q2:=hid (show QAt Y b acc W1 by rw [hY];exact h.more b2 (fun _ hk=>Or.inl hk) (fun _ hk=>hk))
                           have ZQ:=hid (show ∀ l e w',QStep Y b l W1 e w'->QStep X b l w e w' from fun l e w' s=>QStep.with h b2 (by rw [<- hY];exact s))
                           have HK2:=hid (Kept.refl Y W1)
                           have YO:=hid (show ∀ k,k<b->Y k from fun k hk=>by rw [hY];exact Or.inl (h.old k hk))
                           have SB:=hid (show ∀ w',Kept Y W1 w'->w'.heap[w.heap.size]? = some (.cells #[.int .i64 20,.string stb,.string snm,.slice ca scols.length cc,.slice na snames.length nc,.slice ra srow.length rc,.slice ea ssets.length ec,.slice wa swher.length wc,.string sj,.string sl,.string sr,.int .i64 sa,.slice oa sorder.length oc,.int .i64 sm,.int .i64 sn] 33 (0,0)) from fun w' k=>(k.block _ (by rw [hY];exact Or.inr ⟨by omega,by omega⟩) (jB hb0)).trans hb0)
                           have LK:=hid (show ∀ w',Kept Y W1 w'->SlsAt (fun k=>k<b) w' ⟨.slice ca scols.length cc,.slice na snames.length nc,.slice ra srow.length rc,.slice ea ssets.length ec,.slice wa swher.length wc,.slice oa sorder.length oc⟩ ⟨20,stb,snm,scols,snames,srow,ssets,swher,sj,sl,sr,sa,sorder,sm,sn⟩ from fun w' k=>(hs.below b2).keep fun j hj hlt=>k.block j (YO.out j hj) hlt)
                           have OK:=hid ok
                           clear h hs ok b2 hY hb0
                           have HEN:=hid (enters_of Tryz.func68 (by kernel_rfl) rfl)
                           have zk:=jC (SB.out _ HK2.out) 0
                           simp only [gT,gZ,gS] at zk
                           go_enter Tryz.func77,Tryz.ntmps77
                           go_upto_region 32 with (fail)
                           clear zk
                           have HLN:=hid (show acc.length+([w_slot,snm,w_ack,⟨⟨Lib.itoa sn⟩⟩]:List ByteArray).length<=1000000 by simp;omega)
                           refine wp_region_loose2 [([0,1,2,3,4,5],6),([],7)] (Below W1.heap.size W1) (Below W1.heap.size W1) (by kernel_rfl) (by kernel_rfl) (by kernel_rfl) (fun z1 z2 h b=>h.trans (b.mono h.size)) (Below.drew b0R) ?_
                           apply wpSegs_cons (Below W1.heap.size W1) (BSl W1 [w_slot,snm,w_ack,⟨⟨Lib.itoa sn⟩⟩]) (fun _ h=>h) (fun _ h=>h)
                           case hq =>
                            intro z1 hz1
                            have ne:Nonempty (Wld (Below z1.heap.size z1)):=⟨⟨z1,Below.refl _ _⟩⟩
                            have B1:=fun x:Wld (Below z1.heap.size z1)=>hz1.trans (x.good.mono hz1.size)
                            have x0:=fun x:Wld (Below z1.heap.size z1)=>jC (SB.out _ (Below.kept (B1 x) Y)) 2
                            have x1:=fun x:Wld (Below z1.heap.size z1)=>jC (SB.out _ (Below.kept (B1 x) Y)) 14
                            have HCON:=hid (fun x:Wld (Below z1.heap.size z1)=>itoa_any OK.out.n (Q2.out.below (B1 x)).env)
                            simp only [gT,gZ,gS] at x0 x1
                            simp only [pickOps,List.getElem?_cons_zero,List.getElem?_cons_succ]
                            apply quiet_hide
                            intro KE hKE
                            clear B1
                            repeat (go_big_quiet_step ((go_at_call 123;(with_reducible refine Calls.mono (HCON.out _) ?_);rintro e w3 ⟨rfl,b3⟩;exact ⟨rfl,class_below _ b3 (jR _)⟩)))
                            refine wpQuiet_nil ?_
                            exact hKE _ rfl
                           case ho=>rfl
                           case hop=>rfl
                           case hw=>kernel_rfl
                           case hD=>exact fun u z1 z2 h hb=>h.below hb
                           case hDJ=>exact fun _ u w' h=>h.after
                           case hlo =>
                            intro wa ba
                            go_wp2_with fail
                            exact bsl_new ba
                           case hrest =>
                            rintro u z1 ⟨g,rfl,-⟩
                            simp only [Act.put,List.setIfInBounds_toArray,List.set_cons_succ,List.set_cons_zero]
                            apply wpSegs_call (BSl W1 [w_slot,snm,w_ack,⟨⟨Lib.itoa sn⟩⟩] (.slice (some ⟨g,0,none⟩) ([w_slot,snm,w_ack,⟨⟨Lib.itoa sn⟩⟩]:List ByteArray).length ([w_slot,snm,w_ack,⟨⟨Lib.itoa sn⟩⟩]:List ByteArray).length)) (fun _ w'=>Kept Y W1 w'/\QAt Y b (acc ++ [w_slot,snm,w_ack,⟨⟨Lib.itoa sn⟩⟩]) w') (fun _ h=>h.after) (fun _ h=>h)
                            case hq=>exact fun _ _=>rfl
                            case ho=>rfl
                            case hw=>kernel_rfl
                            case hD=>exact fun u z1 z2 h hb=>⟨h.1.trans (Below.kept hb _),h.2.below hb⟩
                            case hDJ=>exact fun h=>absurd rfl h
                            case hlo =>
                             intro z1 hz1
                             refine loose_call (args:=#[.pointer (some ⟨b,0,none⟩),.slice (some ⟨g,0,none⟩) ([w_slot,snm,w_ack,⟨⟨Lib.itoa sn⟩⟩]:List ByteArray).length ([w_slot,snm,w_ack,⟨⟨Lib.itoa sn⟩⟩]:List ByteArray).length]) (run_call_func rfl (by kernel_rfl) HEN.out) ((add_at Q2.out hz1 (by simp) HLN.out).mono ?_)
                             rintro e z2 ⟨rfl,k2,q2⟩
                             exact ⟨_,rfl,k2,q2⟩
                            case hrest =>
                             rintro _ z1 -
                             simp only [Act.put]
                             refine wpSegs_nil fun w9 h9=>?_
                             go_wp2_with fail
                             go_end0
                             rw [HPST.out]
                             exact ZQ.out _ _ _ ⟨rfl,h9⟩
                         · skip
                           obtain ⟨Pst,hPst⟩:∃ Pst,Pst=QStep X b (acc ++ tokensP ⟨sk,stb,snm,scols,snames,srow,ssets,swher,sj,sl,sr,sa,sorder,sm,sn⟩) w:=⟨_,rfl⟩
                           have HPST:=hid hPst
                           rw [<- hPst]
                           clear hPst
                           obtain ⟨W1,hW1⟩:∃ W,w.alloc (.cells #[.int .i64 sk,.string stb,.string snm,.slice ca scols.length cc,.slice na snames.length nc,.slice ra srow.length rc,.slice ea ssets.length ec,.slice wa swher.length wc,.string sj,.string sl,.string sr,.int .i64 sa,.slice oa sorder.length oc,.int .i64 sm,.int .i64 sn] 33)=W:=⟨_,rfl⟩
                           have h1s:W1.heap.size=w.heap.size+1:=by rw [<- hW1];simp
                           have b2:Below w.heap.size w W1:=by rw [<- hW1];exact (b0R).alloc (jR _) _
                           have hb0:W1.heap[w.heap.size]? = some (.cells #[.int .i64 sk,.string stb,.string snm,.slice ca scols.length cc,.slice na snames.length nc,.slice ra srow.length rc,.slice ea ssets.length ec,.slice wa swher.length wc,.string sj,.string sl,.string sr,.int .i64 sa,.slice oa sorder.length oc,.int .i64 sm,.int .i64 sn] 33 (0,0)):=by rw [<- hW1];exact heap_alloc_new _ _
                           obtain ⟨Y,hY⟩:∃ Y:Nat->Prop,Y=fun k=>X k \/ (w.heap.size<=k/\k<W1.heap.size):=⟨_,rfl⟩
                           have Q2:=hid (show QAt Y b acc W1 by rw [hY];exact h.more b2 (fun _ hk=>Or.inl hk) (fun _ hk=>hk))
                           have ZQ:=hid (show ∀ l e w',QStep Y b l W1 e w'->QStep X b l w e w' from fun l e w' s=>QStep.with h b2 (by rw [<- hY];exact s))
                           have HK2:=hid (Kept.refl Y W1)
                           have YO:=hid (show ∀ k,k<b->Y k from fun k hk=>by rw [hY];exact Or.inl (h.old k hk))
                           have SB:=hid (show ∀ w',Kept Y W1 w'->w'.heap[w.heap.size]? = some (.cells #[.int .i64 sk,.string stb,.string snm,.slice ca scols.length cc,.slice na snames.length nc,.slice ra srow.length rc,.slice ea ssets.length ec,.slice wa swher.length wc,.string sj,.string sl,.string sr,.int .i64 sa,.slice oa sorder.length oc,.int .i64 sm,.int .i64 sn] 33 (0,0)) from fun w' k=>(k.block _ (by rw [hY];exact Or.inr ⟨by omega,by omega⟩) (jB hb0)).trans hb0)
                           have LK:=hid (show ∀ w',Kept Y W1 w'->SlsAt (fun k=>k<b) w' ⟨.slice ca scols.length cc,.slice na snames.length nc,.slice ra srow.length rc,.slice ea ssets.length ec,.slice wa swher.length wc,.slice oa sorder.length oc⟩ ⟨sk,stb,snm,scols,snames,srow,ssets,swher,sj,sl,sr,sa,sorder,sm,sn⟩ from fun w' k=>(hs.below b2).keep fun j hj hlt=>k.block j (YO.out j hj) hlt)
                           have OK:=hid ok
                           clear h hs ok b2 hY hb0
                           have zk:=jC (SB.out _ HK2.out) 0
                           simp only [gT,gZ,gS] at zk
                           go_enter Tryz.func77,Tryz.ntmps77
                           go_wp2_with fail
                           go_end0
                           rw [HPST.out]
                           refine ZQ.out _ _ _ ⟨rfl,HK2.out,?_⟩
                           have e:acc ++ tokensP ⟨sk,stb,snm,scols,snames,srow,ssets,swher,sj,sl,sr,sa,sorder,sm,sn⟩=acc:=by
                            have e2:tokensP ⟨sk,stb,snm,scols,snames,srow,ssets,swher,sj,sl,sr,sa,sorder,sm,sn⟩=[]:=by
                             unfold tokensP
                             simp only
                             split <;> first|rfl|(exfalso;omega)
                            rw [e2,List.append_nil]
                           rw [e]
                           exact Q2.out
end
end Go.Proofs.YtjcpccadmcglgaaGreatDoor
